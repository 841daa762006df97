/-
  The document's examples of layer 9 (davitlaw09.knows): the program answers them so. Conditions: none.
-/
import Derived.Test.YtbcifjjnnbefkaaNfa8
import Derived.Lib.SlBytesConst
namespace Go.Proofs.Ytbcifjjnnbefkaa
open Go.RowKit

def kPat : List UInt8 := [97, 124, 98]
def kOps : List Op := [⟨1, false, [⟨97, 97⟩]⟩, ⟨1, false, [⟨98, 98⟩]⟩, ⟨4, false, []⟩]
def kIns : List Inst := [twoI 1 3, oneI false [⟨97, 97⟩], goI 2, oneI false [⟨98, 98⟩], doneI]
theorem k_parse : parseM kPat = (kOps, 0, 0) := by decide +kernel
theorem k_build : bRun 0 [] kOps = some (4, [[twoI 1 3, oneI false [⟨97, 97⟩], goI 2, oneI false [⟨98, 98⟩]]]) := by decide +kernel
theorem k_end : bEnd (4, [[twoI 1 3, oneI false [⟨97, 97⟩], goI 2, oneI false [⟨98, 98⟩]]]) = (kIns, 0) := by decide +kernel

/-- Bytes that lie in a block of their own. -/
theorem Sl.bytes {w : World} {g : Nat} {C : Array Value} {t : TypeId} {fr : Nat × Nat} {l : List UInt8} (hg : w.heap[g]? = some (.cells C t fr)) (hC : C.toList = l.map (fun x => .int .u8 x.toNat)) (hl : l.length ≤ maxLen) : Sl sByte w (fun _ => True) (some ⟨g, 0, none⟩) l.length l := by
  refine ⟨Nat.le_refl _, hl, fun e => (by cases e), fun _ => ⟨g, 0, rfl, trivial, blkL hg⟩, fun b off e k hk => ?_⟩
  obtain ⟨rfl, rfl⟩ : g = b ∧ 0 = off := by simpa using e
  refine ⟨_, ⟨rfl, trivial⟩, fun j hj => ?_⟩
  have hj : j < 1 := hj
  obtain rfl : j = 0 := by omega
  rw [show 0 + k * sByte.n + 0 = k by show 0 + k * 1 + 0 = k; omega, blkC hg, ← Array.getElem?_toList, hC]
  simp [hk]

/-- It answers true, and turns nothing that was there. -/
structure TrueP (W : World) (v : Value) (w : World) : Prop where
  v : v = .bool true
  fr : Below W.heap.size W w

structure KCells (w : World) (b off : Nat) (sa : Option Addr) (sc : Nat) : Prop where
  c00 : w.cell? ⟨b, off, none⟩ = some (.int .i64 2)
  c02 : w.cell? ⟨b, off + 2, none⟩ = some (.int .i64 3)
  c10 : w.cell? ⟨b, off + 5, none⟩ = some (.int .i64 1)
  c11 : w.cell? ⟨b, off + 5 + 1, none⟩ = some (.int .i64 0)
  c12 : w.cell? ⟨b, off + 5 + 2, none⟩ = some (.int .i64 0)
  c13 : w.cell? ⟨b, off + 5 + 3, none⟩ = some (.bool false)
  c14 : w.cell? ⟨b, off + 5 + 4, none⟩ = some (.slice sa 1 sc)
  c21 : w.cell? ⟨b, off + 10 + 1, none⟩ = some (.int .i64 2)
  c40 : w.cell? ⟨b, off + 20, none⟩ = some (.int .i64 4)
  sp : Sl sSpan w (fun k => k < w.heap.size) sa sc [⟨97, 97⟩]
theorem KCells.mono {w w' : World} {b off : Nat} {sa : Option Addr} {sc : Nat} (h : KCells w b off sa sc) (hb : b < w.heap.size) (hB : Below w.heap.size w w') : KCells w' b off sa sc := by
  have hc : ∀ o u, w.cell? ⟨b, o, none⟩ = some u → w'.cell? ⟨b, o, none⟩ = some u := fun o u e => (World.cell?_of_block (a := ⟨b, o, none⟩) (hB.block b hb)).trans e
  obtain ⟨c1, c2, c3, c4, c5, c6, c7, c8, c9, hs⟩ := h
  exact ⟨hc _ _ c1, hc _ _ c2, hc _ _ c3, hc _ _ c4, hc _ _ c5, hc _ _ c6, hc _ _ c7, hc _ _ c8, hc _ _ c9, hs.mono fun k hk _ => ⟨Nat.lt_of_lt_of_le hk hB.size, hB.block k hk⟩⟩
theorem kCells {w : World} {A : Nat → Prop} {a : Option Addr} {cap : Nat} (h : Sl sInst w A a cap kIns) : ∃ b off sa sc, a = some ⟨b, off, none⟩ ∧ b < w.heap.size ∧ KCells w b off sa sc := by
  obtain ⟨b, off, sa, sc, rfl, hb, _, _, _, _, hS, c0, c1, c2, c3, c4⟩ := inst_at h (k := 1) (by decide)
  obtain ⟨_, _, _, _, e, _, _, _, _, _, _, d0, d1, d2, _, _⟩ := inst_at h (k := 0) (by decide)
  cases e
  obtain ⟨_, _, _, _, e, _, _, _, _, _, _, e0, e1, _, _, _⟩ := inst_at h (k := 2) (by decide)
  cases e
  obtain ⟨_, _, _, _, e, _, _, _, _, _, _, f0, _, _, _, _⟩ := inst_at h (k := 4) (by decide)
  cases e
  refine ⟨b, off, sa, sc, rfl, hb, ⟨d0, d2, c0, c1, c2, c3, c4, e1, f0, ?_⟩⟩
  refine ⟨hS.le, hS.max, hS.nil, fun hp => ?_, hS.get⟩
  obtain ⟨b', o', e, _, hb'⟩ := hS.at_ hp
  exact ⟨b', o', e, hb', hb'⟩

set_option maxRecDepth 100000 in
set_option maxHeartbeats 8000000 in
theorem knows_calls (W : World) : Calls Try.prog 8 #[] W (Ret (TrueP W)) := by
  have hcv := Lib.run_convert_bytes_const W 34 5 #[.int .u8 97, .int .u8 124, .int .u8 98] 3 3 Try.underlying34 Try.underlying5
  have hs : Sl sByte (W.alloc (.cells #[.int .u8 97, .int .u8 124, .int .u8 98] 5 (3, 4))) (fun _ => True) (some ⟨W.heap.size, 0, none⟩) 3 kPat :=
    Sl.bytes (l := kPat) (heap_alloc_new _ _) rfl (by decide)
  replace hs := Kp.mk hs
  go_enter Try.func8, Try.ntmps8
  go_wp2_with fail
  refine ret_mono (parse_calls kPat _ 3 _ hs.out) ?_
  intro v w1 hQ
  obtain ⟨⟨a1, c1, rfl, hS1⟩, hB1⟩ := hQ
  rw [k_parse] at hS1 ⊢
  have hB1' : Below W.heap.size W w1 := ((Below.refl _ _).alloc (Nat.le_refl _) _).trans (hB1.mono (by simp))
  replace hS1 := Kp.mk hS1
  replace hB1' := Kp.mk hB1'
  clear hB1 hs hcv
  go_wp2_with fail
  refine ret_mono (build_calls kOps a1 c1 _ w1 (hS1.out.mono fun k _ _ => ⟨trivial, rfl⟩) (by decide) (by decide) k_build) ?_
  intro v w2 hQ
  obtain ⟨⟨a2, c2, rfl, hS2⟩, hB2⟩ := hQ
  rw [k_end] at hS2 ⊢
  have hB2' : Below W.heap.size W w2 := hB1'.out.trans (hB2.mono hB1'.out.size)
  obtain ⟨b, off, sa, sc, rfl, hb, hC⟩ := kCells hS2
  obtain ⟨c00, c02, c10, c11, c12, c13, c14, c21, c40, hsp⟩ := hC
  replace hC := Kp.mk (show KCells w2 b off sa sc from ⟨c00, c02, c10, c11, c12, c13, c14, c21, c40, hsp⟩)
  replace hsp := Kp.mk hsp
  replace hB2' := Kp.mk hB2'
  clear hS2 hB2
  go_wp2_with fail
  refine ret_mono (has_calls (oneI false [⟨97, 97⟩]) 97 sa sc w2 hsp.out) ?_
  rintro v w3 ⟨rfl, hB3⟩
  have hC3 := hC.out.mono hb hB3
  have hB3' := Kp.mk (hB2'.out.trans (hB3.mono hB2'.out.size))
  have hb3 := Nat.lt_of_lt_of_le hb hB3.size
  clear c00 c02 c10 c11 c12 c13 c14 c21 c40 hsp hC hB3
  obtain ⟨c00, c02, c10, c11, c12, c13, c14, c21, c40, hsp⟩ := hC3
  replace hsp := Kp.mk hsp
  have hh1 : has (oneI false [⟨97, 97⟩]) 97 = true := by decide
  rw [hh1]
  go_wp2_with fail
  refine ret_mono (has_calls (oneI false [⟨97, 97⟩]) 98 sa sc w3 hsp.out) ?_
  rintro v w4 ⟨rfl, hB4⟩
  have hB4' := Kp.mk (hB3'.out.trans (hB4.mono hB3'.out.size))
  have hh2 : has (oneI false [⟨97, 97⟩]) 98 = false := by decide
  rw [hh2]
  clear hB4
  go_wp2_with fail
  go_ret
  exact ⟨rfl, hB4'.out⟩
end Go.Proofs.Ytbcifjjnnbefkaa
