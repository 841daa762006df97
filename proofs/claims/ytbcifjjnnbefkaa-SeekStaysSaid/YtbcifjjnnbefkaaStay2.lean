/-
  The reference of layer 10 (davitref10): Matches. Conditions: the instructions and the bytes can be read.
-/
import Derived.Test.YtbcifjjnnbefkaaRten3
namespace Go.Proofs.Ytbcifjjnnbefkaa
open Go.RowKit

structure MatI (W : World) (rb : Nat) (pv : Value) (p : List Inst) (b : List UInt8) (vi : Value) (w : World) : Prop where
  t : ∃ t : Nat, t ≤ b.length ∧ vi = .int .i64 t ∧ RunR W.heap.size rb pv (metAt p b 0 t) w
  fr : Below W.heap.size W w
set_option maxRecDepth 100000 in
set_option maxHeartbeats 8000000 in
theorem matches_calls (p : List Inst) (pa : Option Addr) (pc : Nat) (b : List UInt8) (ba : Option Addr) (bc : Nat) (W : World) (hs : Sl sInst W (fun k => k < W.heap.size) pa pc p) (hb : Sl sByte W (fun k => k < W.heap.size) ba bc b) (hp : p.length ≤ 100000) (hbl : b.length ≤ 100000) :
    Calls Try.prog 21 #[.slice pa p.length pc, .slice ba b.length bc] W (Ret fun v w => v = .bool (doneB p (metAt p b 0 b.length)) ∧ Below W.heap.size W w) := by
  have hmk := run_make1 mk_bools p.length (by omega) (by omega)
  have hA2 := heap_alloc_new W (.cells (Array.replicate p.length (Value.bool false)) 4)
  have hA3 := heap_alloc2_new W (.cells (Array.replicate p.length (Value.bool false)) 4) (.cells #[.slice pa p.length pc, .slice (some ⟨W.heap.size, 0, none⟩) p.length p.length] 99)
  have hB3 : Below W.heap.size W ((W.alloc (.cells (Array.replicate p.length (Value.bool false)) 4)).alloc (.cells #[.slice pa p.length pc, .slice (some ⟨W.heap.size, 0, none⟩) p.length p.length] 99)) :=
    ((Below.refl _ _).alloc (Nat.le_refl _) _).alloc (by simp) _
  have hM3 : ((W.alloc (.cells (Array.replicate p.length (Value.bool false)) 4)).alloc (.cells #[.slice pa p.length pc, .slice (some ⟨W.heap.size, 0, none⟩) p.length p.length] 99)).heap[W.heap.size]? = some (.cells (bls (List.replicate p.length false)).toArray 4) := by
    rw [← bls_made]; exact (Below.heap_alloc _ _ _ (by simp)).trans hA2
  have hz3 : ((W.alloc (.cells (Array.replicate p.length (Value.bool false)) 4)).alloc (.cells #[.slice pa p.length pc, .slice (some ⟨W.heap.size, 0, none⟩) p.length p.length] 99)).heap.size = W.heap.size + 2 := by simp
  generalize hW3 : ((W.alloc (.cells (Array.replicate p.length (Value.bool false)) 4)).alloc (.cells #[.slice pa p.length pc, .slice (some ⟨W.heap.size, 0, none⟩) p.length p.length] 99)) = W3 at hA3 hB3 hM3 hz3
  clear hA2
  have hs3 := hs.mono (w' := W3) (A' := fun k => k < W.heap.size) fun j hj _ => ⟨hj, hB3.block j hj⟩
  have hcome := come_calls p pa pc (W.heap.size + 1) W.heap.size p.length p.length (by omega) (p.length + 1) (List.replicate p.length false) 0 W3 hA3 hM3 rfl (hs3.mono fun j hj _ => ⟨by omega, rfl⟩) (by simp) (by have := freeB_le (List.replicate p.length false); rw [List.length_replicate] at this; omega) (by unfold i64ok; omega)
  replace hs := Kp.mk hs
  replace hb := Kp.mk hb
  replace hA3 := Kp.mk hA3
  replace hB3 := Kp.mk hB3
  replace hM3 := Kp.mk hM3
  replace hz3 := Kp.mk hz3
  replace hW3 := Kp.mk hW3
  replace hs3 := Kp.mk hs3
  replace hcome := Kp.mk hcome
  go_enter Try.func21, Try.ntmps21
  go_wp2_with fail
  rw [hW3.out]
  refine ret_mono hcome.out ?_
  rintro v w1 ⟨rfl, hg1, hF1⟩
  obtain ⟨hR1, hB1⟩ := RunR.of (B := W.heap.size) (by omega) (by rw [hz3.out]; omega) hA3.out (by omega) (Nat.le_refl _) (Nat.le_refl _) (by rw [comeM_len, List.length_replicate]) hg1 hF1
  have hB1' := hB3.out.trans (hB1.mono (by omega))
  have hI0 : MatI W (W.heap.size + 1) (.slice pa p.length pc) p b (.int .i64 0) w1 := ⟨⟨0, Nat.zero_le _, rfl, hR1⟩, hB1'⟩
  replace hI0 := Kp.mk hI0
  clear hR1 hB1 hB1' hg1 hF1
  go_wp2_with fail
  go_loopw [6] (fun i wr => MatI W (W.heap.size + 1) (.slice pa p.length pc) p b i wr) (fun i _ => b.length - (intOf i).toNat)
  case atStart => exact hI0.out
  case round =>
    obtain ⟨⟨t, ht, rfl, hR⟩, hB⟩ := hrel
    by_cases hlt : t < b.length
    · have hd : decide (t < b.length) = true := by simpa using hlt
      obtain ⟨b2, off, rfl, hb2, hbA, hc⟩ := byte_at (hb.out.mono (A' := fun k => k < W.heap.size) fun j hj _ => ⟨hj, hB.block j hj⟩) hlt
      have hE : metAt p b 0 (t + 1) = rtakeM p (metAt p b 0 t) b[t] := by
        rw [metAt, Nat.zero_add, List.getElem?_eq_getElem hlt]
      have htk := rtake_calls p pa pc W.heap.size (W.heap.size + 1) _ b[t] _ hR (hs.out.mono (A' := fun k => k < W.heap.size) fun j hj _ => ⟨hj, hB.block j hj⟩) (metAt_len _ _ _ _) hp
      rw [← hE] at htk
      generalize b[t] = c at hc htk
      replace htk := Kp.mk htk
      replace hE := Kp.mk hE
      replace hB := Kp.mk hB
      replace hR := Kp.mk hR
      go_wp2_with fail
      refine ret_mono htk.out ?_
      rintro v w4 ⟨rfl, hR4, hB4⟩
      have hB4' := hB.out.trans hB4
      replace hR4 := Kp.mk hR4
      replace hB4' := Kp.mk hB4'
      clear hB4
      go_wp2_with fail
      go_roundw
      case rel => exact ⟨⟨t + 1, hlt, by go_num, hR4.out⟩, hB4'.out⟩
      case measure => simp [intOf]; omega
    · obtain rfl : t = b.length := by omega
      have hdn := rdone_calls p pa pc W.heap.size (W.heap.size + 1) _ wr hR (hs.out.mono fun j hj _ => ⟨hj, hB.block j hj⟩) (metAt_len _ _ _ _)
      replace hdn := Kp.mk hdn
      replace hB := Kp.mk hB
      replace hR := Kp.mk hR
      go_wp2_with fail
      refine ret_mono hdn.out ?_
      rintro v w2 ⟨rfl, rfl⟩
      go_wp2_with fail
      go_ret
      exact ⟨rfl, hB.out⟩
end Go.Proofs.Ytbcifjjnnbefkaa
