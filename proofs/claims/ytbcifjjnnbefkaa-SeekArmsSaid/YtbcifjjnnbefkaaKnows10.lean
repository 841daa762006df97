/-
  The document's examples of layer 10 (davitlaw10.knows): the program answers them so. Conditions: none.
-/
import Derived.Test.YtbcifjjnnbefkaaSeek6
namespace Go.Proofs.Ytbcifjjnnbefkaa
open Go.RowKit

def kPats : List (List UInt8) := [[98, 43], [97, 98]]
def kPats2 : List (List UInt8) := [[], [40]]
def kText : List UInt8 := [120, 97, 98, 98]
theorem k_arms : armsM kPats = ([[oneI false [⟨98, 98⟩], twoI (-1) 1, doneI], [oneI false [⟨97, 97⟩], oneI false [⟨98, 98⟩], doneI]], 0, 0) := by decide +kernel
theorem k_arms2 : (armsM kPats2).2 = (1, 2) := by decide +kernel
theorem k_look : lookM [[oneI false [⟨98, 98⟩], twoI (-1) 1, doneI], [oneI false [⟨97, 97⟩], oneI false [⟨98, 98⟩], doneI]] kText = ((0, 2, 3), 0) := by decide +kernel
theorem k_look2 : lookM [[oneI false [⟨98, 98⟩], twoI (-1) 1, doneI], [oneI false [⟨97, 97⟩], oneI false [⟨98, 98⟩], doneI]] [] = ((0, 0, 0), 1) := by decide +kernel

/-- A slice that lies in a block of its own. -/
theorem Sl.rowsAt {α : Type} {s : Shape α} {w : World} {A : Nat → Prop} {g : Nat} {C : Array Value} {t : TypeId} {fr : Nat × Nat} {l : List α} (hg : w.heap[g]? = some (.cells C t fr)) (hA : A g) (hR : Rows s w A C.toList l) (hl : l.length ≤ maxLen) : Sl s w A (some ⟨g, 0, none⟩) l.length l := by
  refine ⟨Nat.le_refl _, hl, fun e => (by cases e), fun _ => ⟨g, 0, rfl, hA, blkL hg⟩, fun b off e k hk => ?_⟩
  obtain ⟨rfl, rfl⟩ : g = b ∧ 0 = off := by simpa using e
  obtain ⟨c, hc, hj⟩ := hR.get k hk
  refine ⟨c, hc, fun j hjn => ?_⟩
  rw [← hj j hjn, Nat.zero_add, blkC hg, Array.getElem?_toList]

set_option maxRecDepth 100000 in
set_option maxHeartbeats 8000000 in
theorem knows10_calls (W : World) : Calls Try.prog 14 #[] W (Ret (TrueP W)) := by
  have hcv := fun (w : World) (C : Array Value) (n c : Nat) => Lib.run_convert_bytes_const (P := Try.prog) w 34 5 C n c Try.underlying34 Try.underlying5
  have hcv2 := hcv (W.alloc (.cells #[.int .u8 98, .int .u8 43] 5 (2, 3))) #[.int .u8 97, .int .u8 98] 2 2
  rw [show (W.alloc (.cells #[.int .u8 98, .int .u8 43] 5 (2, 3))).heap.size = W.heap.size + 1 by simp] at hcv2
  have hB0 : Below W.heap.size W (((W.alloc (.cells #[.int .u8 98, .int .u8 43] 5 (2, 3))).alloc (.cells #[.int .u8 97, .int .u8 98] 5 (2, 3))).alloc (.cells #[.slice (some ⟨W.heap.size, 0, none⟩) 2 2, .slice (some ⟨W.heap.size + 1, 0, none⟩) 2 2] 34)) :=
    (((Below.refl _ _).alloc (Nat.le_refl _) _).alloc (by simp) _).alloc (by simp; omega) _
  have hS0 : Sl (sSl sByte) (((W.alloc (.cells #[.int .u8 98, .int .u8 43] 5 (2, 3))).alloc (.cells #[.int .u8 97, .int .u8 98] 5 (2, 3))).alloc (.cells #[.slice (some ⟨W.heap.size, 0, none⟩) 2 2, .slice (some ⟨W.heap.size + 1, 0, none⟩) 2 2] 34))
      (fun b => b < (((W.alloc (.cells #[.int .u8 98, .int .u8 43] 5 (2, 3))).alloc (.cells #[.int .u8 97, .int .u8 98] 5 (2, 3))).alloc (.cells #[.slice (some ⟨W.heap.size, 0, none⟩) 2 2, .slice (some ⟨W.heap.size + 1, 0, none⟩) 2 2] 34)).heap.size) (some ⟨W.heap.size + 2, 0, none⟩) 2 kPats := by
    have h1 := heap_alloc_new W (.cells #[.int .u8 98, .int .u8 43] 5 (2, 3))
    have h2 := heap_alloc2_new W (.cells #[.int .u8 98, .int .u8 43] 5 (2, 3)) (.cells #[.int .u8 97, .int .u8 98] 5 (2, 3))
    have h3 := heap_alloc2_new (W.alloc (.cells #[.int .u8 98, .int .u8 43] 5 (2, 3))) (.cells #[.int .u8 97, .int .u8 98] 5 (2, 3)) (.cells #[.slice (some ⟨W.heap.size, 0, none⟩) 2 2, .slice (some ⟨W.heap.size + 1, 0, none⟩) 2 2] 34)
    rw [show (W.alloc (.cells #[.int .u8 98, .int .u8 43] 5 (2, 3))).heap.size + 1 = W.heap.size + 2 by simp] at h3
    refine Sl.rowsAt (l := kPats) h3 (by simp) ?_ (by decide)
    refine ⟨[_], _, rfl, ⟨_, _, rfl, Sl.rowsAt (l := ([98, 43] : List UInt8)) (((Below.heap_alloc _ _ _ (by simp; omega)).trans ((Below.heap_alloc _ _ _ (by simp)).trans h1))) (by simp; omega) ⟨[_], _, rfl, ⟨rfl, trivial⟩, [_], _, rfl, ⟨rfl, trivial⟩, rfl⟩ (by decide)⟩, [_], _, rfl, ⟨_, _, rfl, Sl.rowsAt (l := ([97, 98] : List UInt8)) ((Below.heap_alloc _ _ _ (by simp)).trans h2) (by simp) ⟨[_], _, rfl, ⟨rfl, trivial⟩, [_], _, rfl, ⟨rfl, trivial⟩, rfl⟩ (by decide)⟩, rfl⟩
  replace hB0 := Kp.mk hB0
  replace hS0 := Kp.mk hS0
  go_enter Try.func14, Try.ntmps14
  go_wp2_with fail
  refine ret_mono (arms_calls kPats _ 2 _ hS0.out (by decide)) ?_
  rintro v w1 ⟨⟨a1, c1, rfl, hS1⟩, hB1⟩
  rw [k_arms] at hS1 ⊢
  dsimp only at hS1 ⊢
  generalize hAr : [[oneI false [⟨98, 98⟩], twoI (-1) 1, doneI], [oneI false [⟨97, 97⟩], oneI false [⟨98, 98⟩], doneI]] = ar at hS1 ⊢
  have hl2 : ar.length = 2 := by rw [← hAr]; rfl
  have hp200 : ∀ p ∈ ar, p.length ≤ 200 := by rw [← hAr]; decide
  have hk1 : lookM ar kText = ((0, 2, 3), 0) := by rw [← hAr]; exact k_look
  have hk2 : lookM ar [] = ((0, 0, 0), 1) := by rw [← hAr]; exact k_look2
  clear hAr
  have hS1' : Sl (sSl sInst) w1 (fun b => b < w1.heap.size) a1 c1 ar := hS1.mono fun b _ hl => ⟨hl, rfl⟩
  have hB1' := Kp.mk (hB0.out.trans (hB1.mono hB0.out.size))
  have hA1 : Below w1.heap.size w1 (w1.alloc (.cells #[.int .u8 120, .int .u8 97, .int .u8 98, .int .u8 98] 5 (4, 5))) := (Below.refl _ _).alloc (Nat.le_refl _) _
  have hT1 : Sl sByte (w1.alloc (.cells #[.int .u8 120, .int .u8 97, .int .u8 98, .int .u8 98] 5 (4, 5))) (fun b => b < (w1.alloc (.cells #[.int .u8 120, .int .u8 97, .int .u8 98, .int .u8 98] 5 (4, 5))).heap.size) (some ⟨w1.heap.size, 0, none⟩) 4 kText :=
    Sl.rowsAt (l := kText) (heap_alloc_new _ _) (by simp) ⟨[_], _, rfl, ⟨rfl, trivial⟩, [_], _, rfl, ⟨rfl, trivial⟩, [_], _, rfl, ⟨rfl, trivial⟩, [_], _, rfl, ⟨rfl, trivial⟩, rfl⟩ (by decide)
  have hS2 := hS1'.mono (A' := fun b => b < (w1.alloc (.cells #[.int .u8 120, .int .u8 97, .int .u8 98, .int .u8 98] 5 (4, 5))).heap.size) fun b hb _ => ⟨Nat.lt_of_lt_of_le hb hA1.size, hA1.block b hb⟩
  replace hS1 := Kp.mk hS1
  replace hS1' := Kp.mk hS1'
  replace hS2 := Kp.mk hS2
  replace hA1 := Kp.mk hA1
  replace hT1 := Kp.mk hT1
  replace hB1 := Kp.mk hB1
  replace hl2 := Kp.mk hl2
  replace hk1 := Kp.mk hk1
  replace hk2 := Kp.mk hk2
  replace hp200 := Kp.mk hp200
  go_wp2_with fail
  refine ret_mono (look_calls ar a1 c1 kText _ 4 _ hS2.out (by rw [hl2.out]; decide) hp200.out hT1.out (by decide)) ?_
  rintro v w2 ⟨rfl, hB2⟩
  rw [hk1.out]
  dsimp only
  have hB2' := Kp.mk ((hB1'.out.trans (hA1.out.mono hB1'.out.size)).trans (hB2.mono (by have := hB1'.out.size; simp; omega)))
  have hS3 := hS2.out.mono (w' := w2) (A' := fun b => b < w2.heap.size) fun b hb _ => ⟨Nat.lt_of_lt_of_le hb hB2.size, hB2.block b hb⟩
  have hA2 : Below w2.heap.size w2 (w2.alloc (.cells #[.int .i64 0, .int .i64 2, .int .i64 3] 53)) := (Below.refl _ _).alloc (Nat.le_refl _) _
  have hF2 := heap_alloc_new w2 (.cells #[.int .i64 0, .int .i64 2, .int .i64 3] 53)
  have hS4 := hS3.mono (A' := fun b => b < (w2.alloc (.cells #[.int .i64 0, .int .i64 2, .int .i64 3] 53)).heap.size) fun b hb _ => ⟨Nat.lt_of_lt_of_le hb hA2.size, hA2.block b hb⟩
  replace hS3 := Kp.mk hS3
  replace hS4 := Kp.mk hS4
  replace hF2 := Kp.mk hF2
  replace hA2 := Kp.mk hA2
  clear hB2
  go_wp2_with fail
  refine ret_mono (look_calls ar a1 c1 [] none 0 _ hS4.out (by rw [hl2.out]; decide) hp200.out (Sl.nil_ _ _ _) (by decide)) ?_
  rintro v w3 ⟨rfl, hB3⟩
  rw [hk2.out]
  dsimp only
  have hB3' := Kp.mk ((hB2'.out.trans (hA2.out.mono hB2'.out.size)).trans (hB3.mono (by have := hB2'.out.size; simp; omega)))
  have hF3 := (hB3.block _ (by simp)).trans hF2.out
  have hF3c := blkC hF3
  have hF3l := blkL hF3
  replace hF3 := Kp.mk hF3
  clear hB3
  have hz4 : (w3.alloc (.cells #[.int .i64 0, .int .i64 0, .int .i64 0] 53)).heap.size = w3.heap.size + 1 := by simp
  have hcv4 := hcv (w3.alloc (.cells #[.int .i64 0, .int .i64 0, .int .i64 0] 53)) #[.int .u8 40] 1 1
  rw [hz4] at hcv4
  have hB4 : Below w3.heap.size w3 (((w3.alloc (.cells #[.int .i64 0, .int .i64 0, .int .i64 0] 53)).alloc (.cells #[.int .u8 40] 5 (1, 2))).alloc (.cells #[.slice none 0 0, .slice (some ⟨w3.heap.size + 1, 0, none⟩) 1 1] 34)) :=
    (((Below.refl _ _).alloc (Nat.le_refl _) _).alloc (by simp) _).alloc (by simp; omega) _
  have hS5 : Sl (sSl sByte) (((w3.alloc (.cells #[.int .i64 0, .int .i64 0, .int .i64 0] 53)).alloc (.cells #[.int .u8 40] 5 (1, 2))).alloc (.cells #[.slice none 0 0, .slice (some ⟨w3.heap.size + 1, 0, none⟩) 1 1] 34))
      (fun b => b < (((w3.alloc (.cells #[.int .i64 0, .int .i64 0, .int .i64 0] 53)).alloc (.cells #[.int .u8 40] 5 (1, 2))).alloc (.cells #[.slice none 0 0, .slice (some ⟨w3.heap.size + 1, 0, none⟩) 1 1] 34)).heap.size) (some ⟨w3.heap.size + 2, 0, none⟩) 2 kPats2 := by
    have h2 := heap_alloc2_new w3 (.cells #[.int .i64 0, .int .i64 0, .int .i64 0] 53) (.cells #[.int .u8 40] 5 (1, 2))
    have h3 := heap_alloc2_new (w3.alloc (.cells #[.int .i64 0, .int .i64 0, .int .i64 0] 53)) (.cells #[.int .u8 40] 5 (1, 2)) (.cells #[.slice none 0 0, .slice (some ⟨w3.heap.size + 1, 0, none⟩) 1 1] 34)
    rw [hz4] at h3
    refine Sl.rowsAt (l := kPats2) h3 (by simp) ?_ (by decide)
    refine ⟨[_], _, rfl, ⟨_, _, rfl, Sl.nil_ _ _ _⟩, [_], _, rfl, ⟨_, _, rfl, Sl.rowsAt (l := ([40] : List UInt8)) ((Below.heap_alloc _ _ _ (by simp)).trans h2) (by simp) ⟨[_], _, rfl, ⟨rfl, trivial⟩, rfl⟩ (by decide)⟩, rfl⟩
  replace hB4 := Kp.mk hB4
  replace hS5 := Kp.mk hS5
  replace hz4 := Kp.mk hz4
  go_wp2_with fail
  refine ret_mono (arms_calls kPats2 _ 2 _ hS5.out (by decide)) ?_
  rintro v w5 ⟨⟨a5, c5, rfl, hS6⟩, hB5⟩
  have hB5' := Kp.mk ((hB3'.out.trans (hB4.out.mono hB3'.out.size)).trans (hB5.mono (by have := hB3'.out.size; simp; omega)))
  have hk3 := k_arms2
  generalize armsM kPats2 = q at hS6 hk3 ⊢
  obtain ⟨x, q⟩ := q
  dsimp only at hk3 ⊢
  subst hk3
  dsimp only
  have hF5 := (hB5.block _ (by simp; omega)).trans ((hB4.out.block _ hF3l).trans hF3.out)
  have hF5c := blkC hF5
  clear hS6 hF5 hB5 hF3c
  go_wp2_with fail
  go_ret
  exact ⟨rfl, hB5'.out⟩
end Go.Proofs.Ytbcifjjnnbefkaa
