/-
  SeekArms: the instructions of any patterns are what the document says, or the error, and where, is told: the call answers true at every input. Conditions: none.
-/
import Derived.Test.YtbcifjjnnbefkaaFew
import Derived.Test.YtbcifjjnnbefkaaRarm
import Derived.Test.YtbcifjjnnbefkaaSame
namespace Go.Proofs.Ytbcifjjnnbefkaa
open Go.RowKit

structure LaI (n : Nat) (vi : Value) : Prop where
  k : ∃ k : Nat, k ≤ n ∧ vi = .int .i64 k
set_option maxRecDepth 100000 in
set_option maxHeartbeats 16000000 in
theorem lawArms_calls (l : List (List UInt8)) (a : Option Addr) (cap : Nat) (W : World) (hl : Sl (sSl sByte) W (fun k => k < W.heap.size) a cap l) :
    Calls Try.prog 5 #[.slice a l.length cap] W (Ret (TrueP W)) := by
  have q1 := hl.max
  have q2 := hl.le
  unfold maxLen at q1
  by_cases hg : 20 < l.length
  · have hd1 : decide ((20 : Int) < (l.length : Int)) = true := by simp; omega
    clear hl
    go_enter Try.func5, Try.ntmps5
    go_wp2_with fail
    refine ret_mono (knows10_calls _) ?_
    rintro v w1 ⟨rfl, hB⟩
    replace hB := Kp.mk hB
    go_wp2_with fail
    go_ret
    exact ⟨rfl, hB.out⟩
  · have hd1 : decide ((20 : Int) < (l.length : Int)) = false := by simp; omega
    have n1 : l.length ≤ 20 := by omega
    have hlen := arms_len l
    have hall := armsM_all l
    have hc1 := arms_calls l a cap W hl (by omega)
    have hc2 := fun w1 (hB : Below W.heap.size W w1) => rarms_calls l a cap w1 (hl.mono fun j hj _ => ⟨Nat.lt_of_lt_of_le hj hB.size, hB.block j hj⟩) (by omega)
    generalize armsM l = r at hlen hall hc1 hc2
    obtain ⟨arms, pi, e⟩ := r
    dsimp only at hlen hall
    replace hl := Kp.mk hl
    replace hall := Kp.mk hall
    replace hc1 := Kp.mk hc1
    replace hc2 := Kp.mk hc2
    clear hg
    go_enter Try.func5, Try.ntmps5
    go_wp2_with fail
    go_loop [3] (fun i => LaI l.length i) (fun i => l.length - (intOf i).toNat)
    case atStart => exact ⟨0, Nat.zero_le _, rfl⟩
    case round =>
      obtain ⟨k, hk, rfl⟩ := hrel
      by_cases hlt : k < l.length
      · obtain ⟨b2, off, sa, sc, rfl, hb2', hbA, hc, hSp⟩ := arm_at hl.out hlt
        have hd5 : decide (k < l.length) = true := by simpa using hlt
        have hsm := hSp.max
        have hsl := hSp.le
        unfold maxLen at hsm
        by_cases h200 : 200 < l[k].length
        · have hd6 : decide ((200 : Int) < (l[k].length : Int)) = true := by simp; omega
          clear hSp
          go_wp2_with fail
          refine ret_mono (knows10_calls _) ?_
          rintro v w1 ⟨rfl, hB⟩
          replace hB := Kp.mk hB
          go_wp2_with fail
          go_ret
          exact ⟨rfl, hB.out⟩
        · have hd6 : decide ((200 : Int) < (l[k].length : Int)) = false := by simp; omega
          clear hSp
          go_wp2_with fail
          go_round
          case rel => exact ⟨k + 1, hlt, by go_num⟩
          case measure => simp [intOf]; omega
      · obtain rfl : k = l.length := by omega
        go_wp2_with fail
        refine ret_mono hc1.out ?_
        rintro v w1 ⟨⟨pa, pc, rfl, hS1⟩, hB1⟩
        dsimp only at hS1 ⊢
        have hcr := Kp.mk (hc2.out w1 hB1)
        replace hB1 := Kp.mk hB1
        replace hS1 := Kp.mk hS1
        go_wp2_with fail
        refine ret_mono hcr.out ?_
        rintro v w2 ⟨⟨ra, rc, rfl, hS2⟩, hB2⟩
        dsimp only at hS2 ⊢
        have hB2' := hB1.out.trans (hB2.mono hB1.out.size)
        have has := as10_calls arms pa pc w2 (hS1.out.mono fun j _ hl => ⟨Nat.lt_of_lt_of_le hl hB2.size, hB2.block j hl⟩) (by omega) (fun p hp => ⟨by have := (hall.out p hp).1; omega, fun x hx => by have := (hall.out p hp).2 x hx; omega⟩)
        have g1 : ((arms.length : Int) != (arms.length : Int)) = false := by simp
        have g2 : ((pi : Int) != (pi : Int)) = false := by simp
        have g3 : ((e : Int) != (e : Int)) = false := by simp
        replace hB2' := Kp.mk hB2'
        replace hS2 := Kp.mk hS2
        replace has := Kp.mk has
        clear hcr hB2
        go_wp2_with fail
        refine ret_mono has.out ?_
        rintro v w3 ⟨oa, oc, rfl, hS3, hB3⟩
        have hB3' := hB2'.out.trans (hB3.mono hB2'.out.size)
        have hR3 : Sl (sSl sInst) w3 (fun k => k < w3.heap.size) ra rc arms := hS2.out.mono fun j _ hl => ⟨Nat.lt_of_lt_of_le hl hB3.size, hB3.block j hl⟩
        have hA3 : Sl (sSl sInst) w3 (fun k => k < w3.heap.size) oa oc arms := hS3.mono fun j _ hl => ⟨hl, rfl⟩
        replace hB3' := Kp.mk hB3'
        replace hR3 := Kp.mk hR3
        replace hA3 := Kp.mk hA3
        clear hS3 hB3 has
        go_wp2_with fail
        go_loopw [11] (fun i wr => SmI w3 arms.length i wr) (fun i _ => arms.length - (intOf i).toNat)
        case atStart => exact ⟨⟨0, Nat.zero_le _, rfl⟩, 0, rfl⟩
        case round =>
          obtain ⟨⟨k, hk, rfl⟩, m, rfl⟩ := hrel
          by_cases hka : k < arms.length
          · obtain ⟨b1, o1, sa, sc, rfl, hb1, _, c1, hs1⟩ := arm_at hA3.out hka
            obtain ⟨b2, o2, ta, tc, rfl, hb2, _, c2, hs2⟩ := arm_at hR3.out hka
            have hsm : ∀ n, Calls Try.prog 18 #[.slice sa arms[k].length sc, .slice ta arms[k].length tc] (w3.drewN (m + n)) fun e w' => e = .returned (.bool true) ∧ ∃ q, w' = w3.drewN (m + q) := fun n =>
              ret_mono (same_calls arms[k] sa sc ta tc (w3.drewN (m + n)) (Sl.mono (w := w3) (w' := w3.drewN (m + n)) (fun j hj _ => ⟨hj, rfl⟩) hs1) (Sl.mono (w := w3) (w' := w3.drewN (m + n)) (fun j hj _ => ⟨hj, rfl⟩) hs2)) (fun v w' h => ⟨by rw [h.1], by
                obtain ⟨q, hq⟩ := h.2
                exact ⟨n + q, by rw [hq, World.drewN_drewN, Nat.add_assoc]⟩⟩)
            have hlk := (hall.out arms[k] (List.getElem_mem hka)).1
            generalize arms[k] = p at *
            replace hsm := Kp.mk hsm
            clear hs1 hs2
            go_wp2_with fail
            go_quiet ((go_at_call 18; exact hsm.out _))
            go_wp2_with fail
            go_roundw
            case rel => exact ⟨⟨k + 1, hka, by go_num⟩, by first | exact ⟨_, rfl⟩ | exact ⟨_, World.drewN_drewN _ _ _⟩⟩
            case measure => simp [intOf]; omega
          · obtain rfl : k = arms.length := by omega
            go_wp2_with fail
            refine ret_mono (knows10_calls _) ?_
            rintro v w4 ⟨rfl, hB4⟩
            have hB5 : Below W.heap.size W (w3.drewN m) := ⟨hB3'.out.os, hB3'.out.tape, hB3'.out.output, hB3'.out.size, hB3'.out.block⟩
            have hB4' := Kp.mk (hB5.trans (hB4.mono hB5.size))
            clear hB4 hB5
            go_wp2_with fail
            go_ret
            exact ⟨rfl, hB4'.out⟩
end Go.Proofs.Ytbcifjjnnbefkaa
