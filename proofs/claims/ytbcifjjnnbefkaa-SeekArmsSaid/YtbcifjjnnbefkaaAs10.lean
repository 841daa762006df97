/-
  The law's As of layer 10 (davitlaw10.As): the instructions as the reference has them. Conditions: the arms can be read.
-/
import Derived.Test.YtbcifjjnnbefkaaAs
import Derived.Test.YtbcifjjnnbefkaaSeek6
namespace Go.Proofs.Ytbcifjjnnbefkaa
open Go.RowKit

theorem ty_rarms : SlTy Try.prog 46 26 (sSl sInst) 24 := mkTy Try.underlying46 (by kernel_rfl) (by decide) (by decide)
structure As10I (W : World) (l : List (List Inst)) (vo vi : Value) (w : World) : Prop where
  k : ∃ k : Nat, k ≤ l.length ∧ vi = .int .i64 k ∧ Ow 26 (sSl sInst) w (W.heap.size ≤ ·) vo (l.take k)
  fr : Below W.heap.size W w
set_option maxRecDepth 100000 in
set_option maxHeartbeats 4000000 in
theorem as10_calls (l : List (List Inst)) (a : Option Addr) (cap : Nat) (W : World) (hl : Sl (sSl sInst) W (fun b => b < W.heap.size) a cap l) (hn : l.length ≤ 1000) (hs : ∀ p ∈ l, p.length ≤ 1000 ∧ ∀ x ∈ p, x.spans.length ≤ 1000) :
    Calls Try.prog 17 #[.slice a l.length cap] W (Ret (RetSl (sSl sInst) W l)) := by
  replace hl := Kp.mk hl
  replace hs := Kp.mk hs
  go_enter Try.func17, Try.ntmps17
  go_wp2_with fail
  go_loopw [4, 3] (fun i v wr => As10I W l v i wr) (fun i _ _ => l.length - (intOf i).toNat)
  case atStart => exact ⟨⟨0, Nat.zero_le _, rfl, Ow.nil _ _ _ _⟩, Below.refl _ _⟩
  case round =>
    obtain ⟨⟨k, hk, rfl, hO⟩, hB⟩ := hrel
    by_cases hlt : k < l.length
    · obtain ⟨b, off, sa, sc, rfl, hb, hbA, hc, hSp⟩ := arm_at (hl.out.mono (A' := fun b => b < W.heap.size) fun j hj _ => ⟨hj, hB.block j hj⟩) hlt
      have hsk := hs.out l[k] (List.getElem_mem hlt)
      have has := as_calls l[k] sa sc wr (hSp.mono fun j _ hl => ⟨hl, rfl⟩) hsk.1 hsk.2
      replace has := Kp.mk has
      replace hB := Kp.mk hB
      replace hO := Kp.mk hO
      clear hSp hsk
      go_wp2_with fail
      refine ret_mono has.out ?_
      rintro v w1 ⟨oa, oc, rfl, hS1, hB1⟩
      have hB1' := Kp.mk (hB.out.trans (hB1.mono hB.out.size))
      have hO2 := Kp.mk (hO.out.mono (w' := w1) (A' := (W.heap.size ≤ ·)) fun j hj hl => ⟨hj, hB1.block j hl⟩)
      have hS3 : Kp (Sl sInst w1 (fun j => W.heap.size ≤ j ∧ u3.ownBlock ≠ some j) oa oc l[k]) := ⟨hS1.mono fun j hj _ => ⟨⟨Nat.le_trans hB.out.size hj, fun e => by have := hO.out.lt e; omega⟩, rfl⟩⟩
      clear hS1 hB1
      go_wp2_with (at_builtin; refine pause ?_; intro K hK)
      refine hK.out _ _ ?_
      refine wpl_append1 (w := w1) (y := l[k]) ty_rarms rfl rfl rfl hO2.out rfl ⟨oa, oc, rfl, hS3.out⟩ (heap_alloc_new _ _) ((Fr.refl _ _).alloc _) (by simp; omega) (fun j hj => Nat.le_trans hB1'.out.size hj) ?_
      intro v' w3 hO3 hF hd
      go_wp2_with fail
      go_roundw
      case rel => exact ⟨⟨k + 1, hlt, by go_num, by rw [List.take_succ_eq_append_getElem hlt]; exact hO3⟩, hB1'.out.trans (hF.below hB1'.out.size fun b hb e => by have := hO2.out.1 b e; omega)⟩
      case measure => simp [intOf]; omega
    · obtain rfl : k = l.length := by omega
      rw [List.take_length] at hO
      obtain ⟨oa, oc, rfl, hS, _⟩ := hO.val
      go_wp2_with fail
      go_ret
      exact ⟨oa, oc, rfl, hS, hB⟩
end Go.Proofs.Ytbcifjjnnbefkaa
