/-
  The reference of layer 10 (davitref10): Ends. Conditions: the instructions and the bytes can be read.
-/
import Derived.Test.YtbcifjjnnbefkaaRten2
namespace Go.Proofs.Ytbcifjjnnbefkaa
open Go.RowKit

/-- Which instructions one has come to, k bytes behind a place. -/
def metAt (p : List Inst) (b : List UInt8) (from_ : Nat) : Nat → List Bool
  | 0 => comeM p (p.length + 1) (List.replicate p.length false) 0
  | k + 1 => match b[from_ + k]? with
    | some c => rtakeM p (metAt p b from_ k) c
    | none => metAt p b from_ k
theorem metAt_len (p : List Inst) (b : List UInt8) (from_ : Nat) : ∀ k, (metAt p b from_ k).length = p.length
  | 0 => by unfold metAt; rw [comeM_len, List.length_replicate]
  | k + 1 => by
    unfold metAt
    split
    · exact rtakeF_len _ _ _ _
    · exact metAt_len p b from_ k
/-- The ends that were told so far. -/
def endsF (p : List Inst) (b : List UInt8) (from_ t : Nat) : List Bool := (List.range (b.length + 1)).map fun j => if from_ ≤ j ∧ j < t then doneB p (metAt p b from_ (j - from_)) else false
def endsM (p : List Inst) (b : List UInt8) (from_ : Nat) : List Bool := endsF p b from_ (b.length + 1)
theorem endsF_len (p : List Inst) (b : List UInt8) (from_ t : Nat) : (endsF p b from_ t).length = b.length + 1 := by simp [endsF]
theorem endsF_zero (p : List Inst) (b : List UInt8) (from_ : Nat) : endsF p b from_ from_ = List.replicate (b.length + 1) false := by
  unfold endsF
  apply List.ext_getElem
  · simp
  · intro i h1 h2
    simp
    intro h3 h4; omega
theorem endsF_step (p : List Inst) (b : List UInt8) (from_ t : Nat) (h : from_ ≤ t) : (endsF p b from_ t).set t (doneB p (metAt p b from_ (t - from_))) = endsF p b from_ (t + 1) := by
  apply List.ext_getElem
  · simp [endsF]
  · intro i h1 h2
    rw [List.getElem_set]
    by_cases e : t = i
    · subst e
      simp [endsF, h]
    · rw [if_neg e]
      simp only [endsF, List.getElem_map, List.getElem_range]
      by_cases h3 : from_ ≤ i ∧ i < t
      · rw [if_pos h3, if_pos (by omega)]
      · rw [if_neg h3, if_neg (by omega)]
theorem rows_bls (w : World) (A : Nat → Prop) : ∀ l : List Bool, Rows sBool w A (bls l) l
  | [] => rfl
  | x :: l => ⟨[.bool x], bls l, rfl, ⟨rfl, trivial⟩, rows_bls w A l⟩

structure EndsI (W : World) (rb : Nat) (pv : Value) (p : List Inst) (b : List UInt8) (from_ : Nat) (vi : Value) (w : World) : Prop where
  t : ∃ t : Nat, from_ ≤ t ∧ t ≤ b.length + 1 ∧ vi = .int .i64 t ∧ w.heap[W.heap.size]? = some (.cells (bls (endsF p b from_ t)).toArray 4) ∧ RunR (W.heap.size + 1) rb pv (metAt p b from_ (t - from_)) w
  fr : Below W.heap.size W w

set_option maxRecDepth 100000 in
set_option maxHeartbeats 8000000 in
theorem ends_calls (p : List Inst) (pa : Option Addr) (pc : Nat) (b : List UInt8) (ba : Option Addr) (bc from_ : Nat) (W : World) (hs : Sl sInst W (fun k => k < W.heap.size) pa pc p) (hb : Sl sByte W (fun k => k < W.heap.size) ba bc b) (hp : p.length ≤ 100000) (hbl : b.length ≤ 100000) (hf : from_ ≤ b.length) :
    Calls Try.prog 31 #[.slice pa p.length pc, .slice ba b.length bc, .int .i64 from_] W (Ret (RetSl sBool W (endsM p b from_))) := by
  have hmk := run_make1 mk_bools p.length (by omega) (by omega)
  have hmk2 := run_make1 mk_bools (b.length + 1) (by omega) (by omega)
  simp only [Int.natCast_add, Int.cast_ofNat_Int] at hmk2
  -- the three blocks
  have hA1 := heap_alloc_new W (.cells (Array.replicate (b.length + 1) (Value.bool false)) 4)
  have hz1 : (W.alloc (.cells (Array.replicate (b.length + 1) (Value.bool false)) 4)).heap.size = W.heap.size + 1 := by simp
  have hA2 := heap_alloc_new (W.alloc (.cells (Array.replicate (b.length + 1) (Value.bool false)) 4)) (.cells (Array.replicate p.length (Value.bool false)) 4)
  have hA3 := heap_alloc2_new (W.alloc (.cells (Array.replicate (b.length + 1) (Value.bool false)) 4)) (.cells (Array.replicate p.length (Value.bool false)) 4) (.cells #[.slice pa p.length pc, .slice (some ⟨W.heap.size + 1, 0, none⟩) p.length p.length] 99)
  rw [hz1] at hA2 hA3
  have hB3 : Below W.heap.size W (((W.alloc (.cells (Array.replicate (b.length + 1) (Value.bool false)) 4)).alloc (.cells (Array.replicate p.length (Value.bool false)) 4)).alloc (.cells #[.slice pa p.length pc, .slice (some ⟨W.heap.size + 1, 0, none⟩) p.length p.length] 99)) :=
    (((Below.refl _ _).alloc (Nat.le_refl _) _).alloc (by simp) _).alloc (by simp; omega) _
  have hO3 : (((W.alloc (.cells (Array.replicate (b.length + 1) (Value.bool false)) 4)).alloc (.cells (Array.replicate p.length (Value.bool false)) 4)).alloc (.cells #[.slice pa p.length pc, .slice (some ⟨W.heap.size + 1, 0, none⟩) p.length p.length] 99)).heap[W.heap.size]? = some (.cells (Array.replicate (b.length + 1) (Value.bool false)) 4) :=
    (Below.heap_alloc _ _ _ (by simp; omega)).trans ((Below.heap_alloc _ _ _ (by simp)).trans hA1)
  have hM3 : (((W.alloc (.cells (Array.replicate (b.length + 1) (Value.bool false)) 4)).alloc (.cells (Array.replicate p.length (Value.bool false)) 4)).alloc (.cells #[.slice pa p.length pc, .slice (some ⟨W.heap.size + 1, 0, none⟩) p.length p.length] 99)).heap[W.heap.size + 1]? = some (.cells (bls (List.replicate p.length false)).toArray 4) := by
    rw [← bls_made]; exact (Below.heap_alloc _ _ _ (by simp)).trans hA2
  have hz3 : (((W.alloc (.cells (Array.replicate (b.length + 1) (Value.bool false)) 4)).alloc (.cells (Array.replicate p.length (Value.bool false)) 4)).alloc (.cells #[.slice pa p.length pc, .slice (some ⟨W.heap.size + 1, 0, none⟩) p.length p.length] 99)).heap.size = W.heap.size + 3 := by simp
  generalize hW3 : (((W.alloc (.cells (Array.replicate (b.length + 1) (Value.bool false)) 4)).alloc (.cells (Array.replicate p.length (Value.bool false)) 4)).alloc (.cells #[.slice pa p.length pc, .slice (some ⟨W.heap.size + 1, 0, none⟩) p.length p.length] 99)) = W3 at hA3 hB3 hO3 hM3 hz3
  clear hA1 hA2 hz1
  have hs3 := hs.mono (w' := W3) (A' := fun k => k < W.heap.size) fun j hj _ => ⟨hj, hB3.block j hj⟩
  have hcome := come_calls p pa pc (W.heap.size + 2) (W.heap.size + 1) p.length p.length (by omega) (p.length + 1) (List.replicate p.length false) 0 W3 hA3 hM3 rfl (hs3.mono fun j hj _ => ⟨by omega, rfl⟩) (by simp) (by have := freeB_le (List.replicate p.length false); rw [List.length_replicate] at this; omega) (by unfold i64ok; omega)
  replace hs := Kp.mk hs
  replace hb := Kp.mk hb
  replace hA3 := Kp.mk hA3
  replace hB3 := Kp.mk hB3
  replace hO3 := Kp.mk hO3
  replace hM3 := Kp.mk hM3
  replace hz3 := Kp.mk hz3
  replace hW3 := Kp.mk hW3
  replace hs3 := Kp.mk hs3
  replace hcome := Kp.mk hcome
  go_enter Try.func31, Try.ntmps31
  go_wp2_with fail
  rw [hW3.out]
  refine ret_mono hcome.out ?_
  rintro v w1 ⟨rfl, hg1, hF1⟩
  have hO1 := hF1.obj hO3.out (by omega)
  obtain ⟨hR1, hB1⟩ := RunR.of (B := W.heap.size + 1) (by omega) (by rw [hz3.out]; omega) hA3.out (by omega) (Nat.le_refl _) (Nat.le_refl _) (by rw [comeM_len, List.length_replicate]) hg1 hF1
  have hB1' := hB3.out.trans (hB1.mono (by omega))
  have hI0 : EndsI W (W.heap.size + 2) (.slice pa p.length pc) p b from_ (.int .i64 from_) w1 := ⟨⟨from_, Nat.le_refl _, by omega, rfl, by rw [endsF_zero, ← bls_made]; exact hO1, by rw [Nat.sub_self]; exact hR1⟩, hB1'⟩
  replace hI0 := Kp.mk hI0
  clear hO1 hR1 hB1 hB1' hg1 hF1
  go_wp2_with fail
  go_loopw [9] (fun i wr => EndsI W (W.heap.size + 2) (.slice pa p.length pc) p b from_ i wr) (fun i _ => b.length + 1 - (intOf i).toNat)
  case atStart => exact hI0.out
  case round =>
    obtain ⟨⟨t, ht1, ht2, rfl, hO, hR⟩, hB⟩ := hrel
    have hOl := blkL hO
    have hOf := blkF hO
    by_cases hlt : t ≤ b.length
    · have hd : decide (t ≤ b.length) = true := by simpa using hlt
      have hOc := bl_cell hO (k := t) (by rw [endsF_len]; omega)
      have hdn := rdone_calls p pa pc (W.heap.size + 1) (W.heap.size + 2) _ wr hR (hs.out.mono fun j hj _ => ⟨by omega, hB.block j hj⟩) (metAt_len _ _ _ _)
      have hst := endsF_step p b from_ t ht1
      generalize doneB p (metAt p b from_ (t - from_)) = x at hdn hst
      have hO2 : (wr.setCell ⟨W.heap.size, t, none⟩ (.bool x)).heap[W.heap.size]? = some (.cells (bls (endsF p b from_ (t + 1))).toArray 4) := by
        rw [blkSet hO, ← hst]
        congr 2
        apply Array.toList_inj.1
        simp [bls, List.map_set]
      have hR2 : RunR (W.heap.size + 1) (W.heap.size + 2) (.slice pa p.length pc) (metAt p b from_ (t - from_)) (wr.setCell ⟨W.heap.size, t, none⟩ (.bool x)) := by
        obtain ⟨q1, q2, mb, mc, q3, q4, q5, q6, q7⟩ := hR
        exact ⟨q1, by simpa using q2, mb, mc, by rw [Below.heap_setCell _ _ _ _ (show W.heap.size + 2 ≠ W.heap.size by omega)]; exact q3, by rw [Below.heap_setCell _ _ _ _ (show mb ≠ W.heap.size by omega)]; exact q4, q5, q6, q7⟩
      have hB2 : Below W.heap.size W (wr.setCell ⟨W.heap.size, t, none⟩ (.bool x)) := hB.setCell (Nat.le_refl _) _
      have hOf1 := hOf t
      clear hOf
      replace hdn := Kp.mk hdn
      replace hst := Kp.mk hst
      replace hO := Kp.mk hO
      replace hO2 := Kp.mk hO2
      replace hR2 := Kp.mk hR2
      replace hR := Kp.mk hR
      replace hB := Kp.mk hB
      go_wp2_with fail
      refine ret_mono hdn.out ?_
      rintro v w2 ⟨rfl, rfl⟩
      by_cases hlt2 : t < b.length
      · have hd2 : decide (t < b.length) = true := by simpa using hlt2
        obtain ⟨b2, off, rfl, hb2, hbA, hc⟩ := byte_at (hb.out.mono (A' := fun k => k < W.heap.size) fun j hj _ => ⟨hj, hB2.block j hj⟩) hlt2
        have hE : metAt p b from_ (t + 1 - from_) = rtakeM p (metAt p b from_ (t - from_)) b[t] := by
          rw [show t + 1 - from_ = (t - from_) + 1 by omega, metAt, show from_ + (t - from_) = t by omega, List.getElem?_eq_getElem hlt2]
        have htk := rtake_calls p pa pc (W.heap.size + 1) (W.heap.size + 2) _ b[t] _ hR2.out (hs.out.mono (A' := fun k => k < W.heap.size + 1) fun j hj _ => ⟨by omega, hB2.block j hj⟩) (metAt_len _ _ _ _) hp
        rw [← hE] at htk
        generalize b[t] = c at hc htk
        replace htk := Kp.mk htk
        replace hE := Kp.mk hE
        replace hB2 := Kp.mk hB2
        have hc' : wr.cell? ⟨b2, off + t, none⟩ = some (.int .u8 c.toNat) := by
          rw [← hc]; symm; exact World.cell?_of_block (a := ⟨b2, off + t, none⟩) (Below.heap_setCell _ _ _ _ (show b2 ≠ W.heap.size by omega))
        have hbne : b2 ≠ W.heap.size := by omega
        clear hc
        go_wp2_with fail
        refine ret_mono htk.out ?_
        rintro v w4 ⟨rfl, hR4, hB4⟩
        have hO4 := (hB4.block W.heap.size (by omega)).trans hO2.out
        have hB4' := hB2.out.trans (hB4.mono (by omega))
        replace hR4 := Kp.mk hR4
        replace hO4 := Kp.mk hO4
        replace hB4' := Kp.mk hB4'
        clear hB4
        go_wp2_with fail
        go_roundw
        case rel => exact ⟨⟨t + 1, by omega, by omega, by go_num, hO4.out, hR4.out⟩, hB4'.out⟩
        case measure => simp [intOf]; omega
      · have hd2 : decide (t < b.length) = false := by simpa using hlt2
        have hE : metAt p b from_ (t + 1 - from_) = metAt p b from_ (t - from_) := by
          rw [show t + 1 - from_ = (t - from_) + 1 by omega, metAt, show from_ + (t - from_) = t by omega, List.getElem?_eq_none (by omega)]
        replace hE := Kp.mk hE
        replace hB2 := Kp.mk hB2
        go_wp2_with fail
        go_roundw
        case rel => exact ⟨⟨t + 1, by omega, by omega, by go_num, hO2.out, by rw [hE.out]; exact hR2.out⟩, hB2.out⟩
        case measure => simp [intOf]; omega
    · obtain rfl : t = b.length + 1 := by omega
      have hd : decide (b.length + 1 ≤ b.length) = false := by simp
      have hd2 : decide ((b.length : Int) + 1 ≤ (b.length : Int)) = false := by simp; omega
      replace hO := Kp.mk hO
      replace hR := Kp.mk hR
      replace hB := Kp.mk hB
      go_wp2_with fail
      go_ret
      refine ⟨some ⟨W.heap.size, 0, none⟩, b.length + 1, by rw [show (endsM p b from_).length = b.length + 1 from endsF_len _ _ _ _]; rfl, ?_, hB.out⟩
      have h := Sl.rowsAt (s := sBool) (A := (W.heap.size ≤ ·)) (l := endsM p b from_) hO.out (Nat.le_refl _) (rows_bls _ _ _) (by rw [show (endsM p b from_).length = b.length + 1 from endsF_len _ _ _ _]; unfold maxLen; omega)
      rw [show (endsM p b from_).length = b.length + 1 from endsF_len _ _ _ _] at h
      exact h
end Go.Proofs.Ytbcifjjnnbefkaa
