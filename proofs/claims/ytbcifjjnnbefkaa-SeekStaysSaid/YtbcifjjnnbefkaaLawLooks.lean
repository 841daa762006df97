/-
  SeekLooks: what is found of any instructions in any bytes is what the document says: the call answers true at every input. Conditions: none.
-/
import Derived.Test.YtbcifjjnnbefkaaFound
import Derived.Test.YtbcifjjnnbefkaaRten4
namespace Go.Proofs.Ytbcifjjnnbefkaa
open Go.RowKit

theorem ty_rarms : SlTy Try.prog 46 26 (sSl sInst) 24 := mkTy Try.underlying46 (by kernel_rfl) (by decide) (by decide)
structure As10I (W : World) (l : List (List Inst)) (vo vi : Value) (w : World) : Prop where
  k : ∃ k : Nat, k ≤ l.length ∧ vi = .int .i64 k ∧ Ow 26 (sSl sInst) w (W.heap.size ≤ ·) vo (l.take k)
  fr : Below W.heap.size W w
set_option maxRecDepth 100000 in
set_option maxHeartbeats 4000000 in
theorem as10_calls (l : List (List Inst)) (a : Option Addr) (cap : Nat) (W : World) (hl : Sl (sSl sInst) W (fun b => b < W.heap.size) a cap l) (hn : l.length ≤ 1000) (hs : ∀ p ∈ l, p.length ≤ 1000 ∧ ∀ x ∈ p, x.spans.length ≤ 1000) :
    Calls Try.prog 17 #[.slice a l.length cap] W (Ret (RetSl (sSl sInst) W l)) := by
  replace hl := Kp.mk hl
  replace hs := Kp.mk hs
  go_enter Try.func17, Try.ntmps17
  go_wp2_with fail
  go_loopw [4, 3] (fun i v wr => As10I W l v i wr) (fun i _ _ => l.length - (intOf i).toNat)
  case atStart => exact ⟨⟨0, Nat.zero_le _, rfl, Ow.nil _ _ _ _⟩, Below.refl _ _⟩
  case round =>
    obtain ⟨⟨k, hk, rfl, hO⟩, hB⟩ := hrel
    by_cases hlt : k < l.length
    · obtain ⟨b, off, sa, sc, rfl, hb, hbA, hc, hSp⟩ := arm_at (hl.out.mono (A' := fun b => b < W.heap.size) fun j hj _ => ⟨hj, hB.block j hj⟩) hlt
      have hsk := hs.out l[k] (List.getElem_mem hlt)
      have has := as_calls l[k] sa sc wr (hSp.mono fun j _ hl => ⟨hl, rfl⟩) hsk.1 hsk.2
      replace has := Kp.mk has
      replace hB := Kp.mk hB
      replace hO := Kp.mk hO
      clear hSp hsk
      go_wp2_with fail
      refine ret_mono has.out ?_
      rintro v w1 ⟨oa, oc, rfl, hS1, hB1⟩
      have hB1' := Kp.mk (hB.out.trans (hB1.mono hB.out.size))
      have hO2 := Kp.mk (hO.out.mono (w' := w1) (A' := (W.heap.size ≤ ·)) fun j hj hl => ⟨hj, hB1.block j hl⟩)
      have hS3 : Kp (Sl sInst w1 (fun j => W.heap.size ≤ j ∧ u3.ownBlock ≠ some j) oa oc l[k]) := ⟨hS1.mono fun j hj _ => ⟨⟨Nat.le_trans hB.out.size hj, fun e => by have := hO.out.lt e; omega⟩, rfl⟩⟩
      clear hS1 hB1
      go_wp2_with (at_builtin; refine pause ?_; intro K hK)
      refine hK.out _ _ ?_
      refine wpl_append1 (w := w1) (y := l[k]) ty_rarms rfl rfl rfl hO2.out rfl ⟨oa, oc, rfl, hS3.out⟩ (heap_alloc_new _ _) ((Fr.refl _ _).alloc _) (by simp; omega) (fun j hj => Nat.le_trans hB1'.out.size hj) ?_
      intro v' w3 hO3 hF hd
      go_wp2_with fail
      go_roundw
      case rel => exact ⟨⟨k + 1, hlt, by go_num, by rw [List.take_succ_eq_append_getElem hlt]; exact hO3⟩, hB1'.out.trans (hF.below hB1'.out.size fun b hb e => by have := hO2.out.1 b e; omega)⟩
      case measure => simp [intOf]; omega
    · obtain rfl : k = l.length := by omega
      rw [List.take_length] at hO
      obtain ⟨oa, oc, rfl, hS, _⟩ := hO.val
      go_wp2_with fail
      go_ret
      exact ⟨oa, oc, rfl, hS, hB⟩

structure LkI (W : World) (arms : List (List Inst)) (vi : Value) : Prop where
  k : ∃ k : Nat, k ≤ arms.length ∧ vi = .int .i64 k ∧ ∀ i (h : i < arms.length), i < k → arms[i].length ≤ 60 ∧ ∀ x ∈ arms[i], x.spans.length ≤ 20
structure LkJ (W : World) (p : List Inst) (vj : Value) : Prop where
  k : ∃ k : Nat, k ≤ p.length ∧ vj = .int .i64 k ∧ ∀ i (h : i < p.length), i < k → p[i].spans.length ≤ 20

set_option maxRecDepth 100000 in
set_option maxHeartbeats 16000000 in
theorem lawLooks_calls (arms : List (List Inst)) (a : Option Addr) (cap : Nat) (b : List UInt8) (ba : Option Addr) (bc : Nat) (W : World) (hA : Sl (sSl sInst) W (fun k => k < W.heap.size) a cap arms) (hb : Sl sByte W (fun k => k < W.heap.size) ba bc b) :
    Calls Try.prog 6 #[.slice a arms.length cap, .slice ba b.length bc] W (Ret (TrueP W)) := by
  have hAm := hA.max
  have hAl := hA.le
  have hbm := hb.max
  have hbl := hb.le
  unfold maxLen at hAm hbm
  by_cases hg : 4 < arms.length ∨ (60 < b.length ∧ b.length < 250) ∨ 260 < b.length
  · have hd : (decide ((4 : Int) < (arms.length : Int)) = true ∧ 0 = 0 ∧ 0 = 0 ∧ 0 = 0) ∨ (decide ((4 : Int) < (arms.length : Int)) = false ∧ decide ((60 : Int) < (b.length : Int)) = true ∧ decide ((b.length : Int) < 250) = true ∧ 0 = 0) ∨ (decide ((4 : Int) < (arms.length : Int)) = false ∧ decide ((60 : Int) < (b.length : Int)) = true ∧ decide ((b.length : Int) < 250) = false ∧ decide ((260 : Int) < (b.length : Int)) = true) := by
      by_cases h1 : 4 < arms.length
      · exact .inl ⟨by simp; omega, rfl, rfl, rfl⟩
      · by_cases h2 : 60 < b.length ∧ b.length < 250
        · exact .inr (.inl ⟨by simp; omega, by simp; omega, by simp; omega, rfl⟩)
        · exact .inr (.inr ⟨by simp; omega, by simp; omega, by simp; omega, by simp; omega⟩)
    clear hA hb hg
    rcases hd with ⟨hd1, hd2, hd3, hd4⟩ | ⟨hd1, hd2, hd3, hd4⟩ | ⟨hd1, hd2, hd3, hd4⟩
    all_goals
      go_enter Try.func6, Try.ntmps6
      go_wp2_with fail
      refine ret_mono (knows10_calls _) ?_
      rintro v w1 ⟨rfl, hB⟩
      replace hB := Kp.mk hB
      go_wp2_with fail
      go_ret
      exact ⟨rfl, hB.out⟩
  · have hn4 : arms.length ≤ 4 := by omega
    have hb2 : b.length ≤ 260 := by omega
    have hd : (decide ((4 : Int) < (arms.length : Int)) = false ∧ decide ((60 : Int) < (b.length : Int)) = false ∧ 0 = 0 ∧ decide ((260 : Int) < (b.length : Int)) = false) ∨ (decide ((4 : Int) < (arms.length : Int)) = false ∧ decide ((60 : Int) < (b.length : Int)) = true ∧ decide ((b.length : Int) < 250) = false ∧ decide ((260 : Int) < (b.length : Int)) = false) := by
      by_cases h2 : 60 < b.length
      · exact .inr ⟨by simp; omega, by simp; omega, by simp; omega, by simp; omega⟩
      · exact .inl ⟨by simp; omega, by simp; omega, rfl, by simp; omega⟩
    replace hA := Kp.mk hA
    replace hb := Kp.mk hb
    clear hg
    rcases hd with ⟨hd1, hd2, hd3, hd4⟩ | ⟨hd1, hd2, hd3, hd4⟩
    all_goals
      go_enter Try.func6, Try.ntmps6
      go_wp2_with fail
      go_loop [5] (fun i => LkI W arms i) (fun i => arms.length - (intOf i).toNat)
      case atStart => exact ⟨0, Nat.zero_le _, rfl, fun i _ h => by omega⟩
      case round =>
        obtain ⟨k, hk, rfl, hall⟩ := hrel
        by_cases hlt : k < arms.length
        · obtain ⟨b2, off, sa, sc, rfl, hb2', hbA, hc, hSp⟩ := arm_at hA.out hlt
          have hd5 : decide (k < arms.length) = true := by simpa using hlt
          have hsm := hSp.max
          have hsl := hSp.le
          unfold maxLen at hsm
          by_cases h60 : 60 < arms[k].length
          · have hd6 : decide ((60 : Int) < (arms[k].length : Int)) = true := by simp; omega
            replace hall := Kp.mk hall
            clear hSp
            go_wp2_with fail
            refine ret_mono (knows10_calls _) ?_
            rintro v w1 ⟨rfl, hB⟩
            replace hB := Kp.mk hB
            go_wp2_with fail
            go_ret
            exact ⟨rfl, hB.out⟩
          · have hd6 : decide ((60 : Int) < (arms[k].length : Int)) = false := by simp; omega
            have hall2 : (∀ x ∈ arms[k], x.spans.length ≤ 20) → ∀ i (h : i < arms.length), i < k + 1 → arms[i].length ≤ 60 ∧ ∀ x ∈ arms[i], x.spans.length ≤ 20 := fun hx i h hi => by
              by_cases e : i = k
              · subst e; exact ⟨by omega, hx⟩
              · exact hall i h (by omega)
            replace hall := Kp.mk hall
            replace hall2 := Kp.mk hall2
            replace hSp := Kp.mk hSp
            generalize hpk : arms[k] = p at *
            replace hpk := Kp.mk hpk
            go_wp2_with fail
            go_loop [6] (fun j => LkJ W p j) (fun j => p.length - (intOf j).toNat)
            case atStart => exact ⟨0, Nat.zero_le _, rfl, fun i _ h => by omega⟩
            case round =>
              obtain ⟨j, hj, rfl, hallj⟩ := hrel
              by_cases hjl : j < p.length
              · obtain ⟨b3, off3, sa3, sc3, rfl, hb3, hbn3, i1, i2, i3, hsp, c0, c1, c2, c3, c4⟩ := inst_at hSp.out hjl
                have hd7 : decide (j < p.length) = true := by simpa using hjl
                have hm3 := hsp.max
                have hl3 := hsp.le
                unfold maxLen at hm3
                by_cases h20 : 20 < p[j].spans.length
                · have hd8 : decide ((20 : Int) < (p[j].spans.length : Int)) = true := by simp; omega
                  replace hallj := Kp.mk hallj
                  replace hsp := Kp.mk hsp
                  go_wp2_with fail
                  refine ret_mono (knows10_calls _) ?_
                  rintro v w1 ⟨rfl, hB⟩
                  replace hB := Kp.mk hB
                  go_wp2_with fail
                  go_ret
                  exact ⟨rfl, hB.out⟩
                · have hd8 : decide ((20 : Int) < (p[j].spans.length : Int)) = false := by simp; omega
                  have hallj2 : ∀ i (h : i < p.length), i < j + 1 → p[i].spans.length ≤ 20 := fun i h hi => by
                    by_cases e : i = j
                    · subst e; omega
                    · exact hallj i h (by omega)
                  replace hallj := Kp.mk hallj
                  replace hallj2 := Kp.mk hallj2
                  replace hsp := Kp.mk hsp
                  go_wp2_with fail
                  go_round
                  case rel => exact ⟨j + 1, hjl, by go_num, hallj2.out⟩
                  case measure => simp [intOf]; omega
              · obtain rfl : j = p.length := by omega
                have hx : ∀ x ∈ p, x.spans.length ≤ 20 := fun x hx => by
                  obtain ⟨i, h, rfl⟩ := List.getElem_of_mem hx
                  exact hallj i h h
                have hall3 := hall2.out hx
                replace hall3 := Kp.mk hall3
                replace hallj := Kp.mk hallj
                replace hx := Kp.mk hx
                go_wp2_with fail
                go_round
                case rel => exact ⟨k + 1, hlt, by go_num, hall3.out⟩
                case measure => simp [intOf]; omega
        · obtain rfl : k = arms.length := by omega
          have h60 : ∀ p ∈ arms, p.length ≤ 60 ∧ ∀ x ∈ p, x.spans.length ≤ 20 := fun p hp => by
            obtain ⟨i, h, rfl⟩ := List.getElem_of_mem hp
            exact hall i h h
          have hfit : Fit arms := fun i hi => by
            unfold arm
            rw [getD_of hi]
            have := (h60 _ (List.getElem_mem hi)).1
            omega
          have hlk := look_calls arms a cap b ba bc W hA.out (by omega) (fun p hp => by have := (h60 p hp).1; omega) hb.out (by omega)
          replace hlk := Kp.mk hlk
          replace h60 := Kp.mk h60
          replace hfit := Kp.mk hfit
          clear hall
          go_wp2_with fail
          refine ret_mono hlk.out ?_
          rintro v w1 ⟨rfl, hB1⟩
          have hBA : Below W.heap.size W (w1.alloc (.cells #[.int .i64 (lookM arms b).1.1, .int .i64 (lookM arms b).1.2.1, .int .i64 (lookM arms b).1.2.2] 53)) := hB1.alloc hB1.size _
          have has := as10_calls arms a cap (w1.alloc (.cells #[.int .i64 (lookM arms b).1.1, .int .i64 (lookM arms b).1.2.1, .int .i64 (lookM arms b).1.2.2] 53)) (hA.out.mono fun j hj _ => ⟨Nat.lt_of_lt_of_le hj hBA.size, hBA.block j hj⟩) (by omega) (fun p hp => ⟨by have := (h60.out p hp).1; omega, fun x hx => by have := (h60.out p hp).2 x hx; omega⟩)
          have hfd := heap_alloc_new w1 (.cells #[.int .i64 (lookM arms b).1.1, .int .i64 (lookM arms b).1.2.1, .int .i64 (lookM arms b).1.2.2] 53)
          generalize hq : lookM arms b = q at *
          replace hq := Kp.mk hq
          replace has := Kp.mk has
          replace hfd := Kp.mk hfd
          replace hBA := Kp.mk hBA
          have hw1 : w1.heap.size < w1.heap.size + 1 := by omega
          replace hB1 := Kp.mk hB1
          go_wp2_with fail
          refine ret_mono has.out ?_
          rintro v w2 ⟨ra, rc, rfl, hS2, hB2⟩
          have hBA2 : Below W.heap.size W w2 := hBA.out.trans (hB2.mono hBA.out.size)
          have hrl := rlook_calls arms ra rc b ba bc w2 (hS2.mono fun j _ hl => ⟨hl, rfl⟩) (by omega) (fun p hp => by have := (h60.out p hp).1; omega) (hb.out.mono fun j hj _ => ⟨Nat.lt_of_lt_of_le hj hBA2.size, hBA2.block j hj⟩) (by omega)
          have hfd2 := (hB2.block _ (blkL hfd.out)).trans hfd.out
          have hfl2 := blkL hfd2
          replace hrl := Kp.mk hrl
          replace hfd2 := Kp.mk hfd2
          replace hBA2 := Kp.mk hBA2
          clear hS2 hB2
          go_wp2_with fail
          refine ret_mono hrl.out ?_
          rintro v w3 ⟨⟨am, bg, en, hBest, rfl⟩, hB3⟩
          have hqe := look_best hfit.out hBest
          rw [hq.out] at hqe
          rw [← hqe]
          clear hBest
          have hfd3 := (hB3.block _ hfl2).trans hfd2.out
          have hf3c := blkC hfd3
          have hBA3 := Kp.mk (hBA2.out.trans (hB3.mono hBA2.out.size))
          replace hfd3 := Kp.mk hfd3
          replace hqe := Kp.mk hqe
          clear hB3
          go_wp2_with fail
          refine ret_mono (knows10_calls _) ?_
          rintro v w4 ⟨rfl, hB4⟩
          have hB4' := Kp.mk (hBA3.out.trans (hB4.mono hBA3.out.size))
          clear hB4
          go_wp2_with fail
          go_ret
          exact ⟨rfl, hB4'.out⟩
end Go.Proofs.Ytbcifjjnnbefkaa
