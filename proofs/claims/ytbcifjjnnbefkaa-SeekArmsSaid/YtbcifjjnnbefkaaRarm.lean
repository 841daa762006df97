/-
  The reference of layer 10 (davitref10): Arms answers what seek.Arms answers. Conditions: the patterns can be read; up to 10000 of them.
-/
import Derived.Test.YtbcifjjnnbefkaaRbd3
import Derived.Test.YtbcifjjnnbefkaaAs10
namespace Go.Proofs.Ytbcifjjnnbefkaa
open Go.RowKit

structure RArmsP (W : World) (r : List (List Inst) × Nat × Nat) (v : Value) (w : World) : Prop where
  v : ∃ a cap, v = .tuple #[.slice a r.1.length cap, .int .i64 r.2.1, .int .i64 r.2.2] ∧ Sl (sSl sInst) w (W.heap.size ≤ ·) a cap r.1
  fr : Below W.heap.size W w
structure RArmsI (W : World) (l : List (List UInt8)) (vo vi : Value) (w : World) : Prop where
  k : ∃ (k : Nat) (out : List (List Inst)), k ≤ l.length ∧ out.length = k ∧ vi = .int .i64 k ∧ Ow 26 (sSl sInst) w (W.heap.size ≤ ·) vo out ∧ armsM l = armsL (l.drop k) k out
  fr : Below W.heap.size W w

set_option maxRecDepth 100000 in
set_option maxHeartbeats 8000000 in
theorem rarms_calls (l : List (List UInt8)) (a : Option Addr) (cap : Nat) (W : World) (hl : Sl (sSl sByte) W (fun b => b < W.heap.size) a cap l) (hn : l.length ≤ 10000) :
    Calls Try.prog 16 #[.slice a l.length cap] W (Ret (RArmsP W (armsM l))) := by
  replace hl := Kp.mk hl
  go_enter Try.func16, Try.ntmps16
  go_wp2_with fail
  go_loopw [5, 6] (fun v i wr => RArmsI W l v i wr) (fun _ i _ => l.length - (intOf i).toNat)
  case atStart => exact ⟨⟨0, [], Nat.zero_le _, rfl, rfl, Ow.nil _ _ _ _, rfl⟩, Below.refl _ _⟩
  case round =>
    obtain ⟨⟨k, out, hk, hok, rfl, hO, hT⟩, hB⟩ := hrel
    by_cases hlt : k < l.length
    · obtain ⟨b, off, sa, sc, rfl, hb, hbA, hc, hS⟩ := arm_at (hl.out.mono (A' := fun b => b < W.heap.size) fun j hj _ => ⟨hj, hB.block j hj⟩) hlt
      rw [List.drop_eq_getElem_cons hlt, armsL] at hT
      have hA : armM l[k] = if (parseM l[k]).2.2 ≠ 0 then ([], (parseM l[k]).2.2) else match bRun 0 [] (parseM l[k]).1 with | some t => bEnd t | none => ([], 0) := rfl
      generalize l[k] = s at hc hS hT hA
      have hpar := rparse_calls s sa sc wr (hS.mono fun k _ hl => ⟨hl, rfl⟩)
      rw [parse_sim] at hpar
      have hpl := places s
      have hpf := parse_fit s
      have hpw := parse_few s
      generalize parseM s = r at *
      obtain ⟨po, pi, e⟩ := r
      dsimp only at hpl hpf hpw hA
      replace hpar := Kp.mk hpar
      replace hpw := Kp.mk hpw
      replace hpl := Kp.mk hpl
      replace hpf := Kp.mk hpf
      replace hB := Kp.mk hB
      replace hO := Kp.mk hO
      replace hT := Kp.mk hT
      replace hA := Kp.mk hA
      replace hok := Kp.mk hok
      clear hS
      go_wp2_with fail
      refine ret_mono hpar.out ?_
      rintro v w1 ⟨⟨oa, oc, pl, rfl, hS1⟩, hB1⟩
      dsimp only at hS1 ⊢
      have hB1' := Kp.mk (hB.out.trans (hB1.mono hB.out.size))
      by_cases h0 : e = 0
      · subst h0
        obtain ⟨tot, htot, _⟩ := hpl.out rfl
        obtain ⟨hdr, _, hll, hs80⟩ := hpf.out rfl
        have hA2 := hA.out
        rw [if_neg (by simp), htot] at hA2
        dsimp only at hA2
        have hbu := rbuild_calls wr.heap.size po oa oc w1 hB1.size (hS1.mono fun k hk hl => ⟨⟨hl, hk⟩, rfl⟩) (by omega) hdr tot htot
        rw [← hA2] at hbu
        have hT2 := hT.out
        generalize armM s = q at hbu hT2
        obtain ⟨ins, e2⟩ := q
        dsimp only at hT2
        replace hbu := Kp.mk hbu
        replace htot := Kp.mk htot
        replace hA2 := Kp.mk hA2
        replace hB1 := Kp.mk hB1
        clear hS1
        go_wp2_with fail
        refine ret_mono hbu.out ?_
        rintro v w2 ⟨⟨pa, pc, rfl, hS2⟩, hB2⟩
        dsimp only at hS2 ⊢
        have hB2' := Kp.mk (hB1'.out.trans (hB2.mono hB1'.out.size))
        by_cases h2 : e2 = 0
        · subst h2
          rw [if_neg (by simp)] at hT2
          have hO2 := hO.out.mono (w' := w2) (A' := (W.heap.size ≤ ·)) fun j hj hl => ⟨hj, (hB2.block j (Nat.lt_of_lt_of_le hl hB1.out.size)).trans (hB1.out.block j hl)⟩
          have hlt2 : ∀ j, u5.ownBlock = some j → j < wr.heap.size := fun j e => hO.out.lt e
          have hS3 : Sl sInst w2 (fun j => W.heap.size ≤ j ∧ u5.ownBlock ≠ some j) pa pc ins := hS2.mono fun j hj _ => ⟨⟨Nat.le_trans hB.out.size hj, fun e => by have := hlt2 j e; omega⟩, rfl⟩
          replace hT2 := Kp.mk hT2
          replace hO2 := Kp.mk hO2
          replace hS3 := Kp.mk hS3
          clear hS2 hlt2
          go_wp2_with (at_builtin; refine pause ?_; intro K hK)
          refine hK.out _ _ ?_
          refine wpl_append1 (w := w2) (y := ins) ty_rarms rfl rfl rfl hO2.out rfl ⟨pa, pc, rfl, hS3.out⟩ (heap_alloc_new _ _) ((Fr.refl _ _).alloc _) (by rw [hok.out]; omega) (fun j hj => Nat.le_trans hB2'.out.size hj) ?_
          intro v' w3 hO3 hF hd
          go_wp2_with fail
          go_roundw
          case rel =>
            refine ⟨⟨k + 1, out ++ [ins], hlt, by rw [List.length_append, hok.out]; rfl, by go_num, hO3, hT2.out⟩, hB2'.out.trans (hF.below hB2'.out.size fun b hb e => by have := hO2.out.1 b e; omega)⟩
          case measure => simp [intOf]; omega
        · rw [if_pos h2] at hT2
          have hd2 : ((e2 : Int) == 0) = false := by simpa using h2
          have hd3 : ((e2 : Int) != 0) = true := by simpa using h2
          replace hT2 := Kp.mk hT2
          clear hS2
          go_wp2_with fail
          go_ret3
          rw [hT2.out]
          exact ⟨⟨none, 0, rfl, Sl.nil_ _ _ _⟩, hB2'.out⟩
      · have hd2 : ((e : Int) == 0) = false := by simpa using h0
        have hd3 : ((e : Int) != 0) = true := by simpa using h0
        have hT2 := hT.out
        have hA2 := hA.out
        rw [if_pos h0] at hA2
        rw [hA2, if_pos h0] at hT2
        replace hT2 := Kp.mk hT2
        clear hS1 hA2
        go_wp2_with fail
        go_ret3
        rw [hT2.out]
        exact ⟨⟨none, 0, rfl, Sl.nil_ _ _ _⟩, hB1'.out⟩
    · obtain rfl : k = l.length := by omega
      rw [List.drop_length, armsL] at hT
      obtain ⟨oa, oc, rfl, hS, _⟩ := hO.val
      go_wp2_with fail
      go_ret3
      rw [hT]
      exact ⟨⟨oa, oc, rfl, hS⟩, hB⟩
end Go.Proofs.Ytbcifjjnnbefkaa
