/-
  NfaHas: whether any instruction takes any byte is what the document says: the call answers true at every input. Conditions: none.
-/
import Derived.Test.YtbcifjjnnbefkaaKnows9
import Derived.Deep.RegionHeld3
namespace Go.Proofs.Ytbcifjjnnbefkaa
open Go.RowKit

def instV (x : Inst) (a : Option Addr) (cap : Nat) : Array Value := #[.int .i64 x.kind, .int .i64 x.x, .int .i64 x.y, .bool x.neg, .slice a x.spans.length cap]

set_option maxRecDepth 100000 in
set_option maxHeartbeats 8000000 in
theorem lawHas_calls (x : Inst) (c : UInt8) (a : Option Addr) (cap : Nat) (W : World) (h1 : i64ok x.kind) (h2 : i64ok x.x) (h3 : i64ok x.y) (hl : Sl sSpan W (fun b => b < W.heap.size) a cap x.spans) :
    Calls Try.prog 3 #[.agg #[.int .i64 x.kind, .int .i64 x.x, .int .i64 x.y, .bool x.neg, .slice a x.spans.length cap], .int .u8 c.toNat] W (Ret (TrueP W)) := by
  by_cases h60 : 60 < x.spans.length
  · have hd : decide ((60 : Int) < (x.spans.length : Int)) = true := by simp; omega
    clear hl
    go_enter Try.func3, Try.ntmps3
    go_wp2_with fail
    refine ret_mono (knows_calls _) ?_
    rintro v w1 ⟨rfl, hB⟩
    have hB' := Kp.mk (((Below.refl W.heap.size W).alloc (Nat.le_refl _) (Obj.cells #[.int .i64 x.kind, .int .i64 x.x, .int .i64 x.y, .bool x.neg, .slice a x.spans.length cap] 24)).trans (hB.mono (by simp)))
    clear hB
    go_wp2_with fail
    go_ret
    exact ⟨rfl, hB'.out⟩
  · have hd : decide ((60 : Int) < (x.spans.length : Int)) = false := by simp; omega
    have hl1 : Sl sInst ((W.alloc (Obj.cells #[.int .i64 x.kind, .int .i64 x.x, .int .i64 x.y, .bool x.neg, .slice a x.spans.length cap] 24)).alloc (Obj.cells #[.int .i64 x.kind, .int .i64 x.x, .int .i64 x.y, .bool x.neg, .slice a x.spans.length cap] 24)) (fun b => b < ((W.alloc (Obj.cells #[.int .i64 x.kind, .int .i64 x.x, .int .i64 x.y, .bool x.neg, .slice a x.spans.length cap] 24)).alloc (Obj.cells #[.int .i64 x.kind, .int .i64 x.x, .int .i64 x.y, .bool x.neg, .slice a x.spans.length cap] 24)).heap.size) (some ⟨W.heap.size + 1, 0, none⟩) 1 [x] := by
      have hz : (W.alloc (Obj.cells #[.int .i64 x.kind, .int .i64 x.x, .int .i64 x.y, .bool x.neg, .slice a x.spans.length cap] 24)).heap.size = W.heap.size + 1 := by simp
      have h := (Ow.made (E := 24) (s := sInst) (w := W.alloc (Obj.cells #[.int .i64 x.kind, .int .i64 x.x, .int .i64 x.y, .bool x.neg, .slice a x.spans.length cap] 24)) (A := fun b => b < W.heap.size + 2) (by simp) (c := #[.int .i64 x.kind, .int .i64 x.x, .int .i64 x.y, .bool x.neg, .slice a x.spans.length cap]) (l := [x])
        (Rows.one ⟨a, cap, rfl, h1, h2, h3, hl.mono fun b hb _ => ⟨⟨by omega, by simp; omega⟩, Below.heap_alloc _ _ _ hb⟩⟩) (show 1 ≤ maxLen by decide)).val
      obtain ⟨a', c', e, hS, _⟩ := h
      rw [hz] at e
      cases e
      exact hS.mono fun b hb _ => ⟨by simpa using hb, rfl⟩
    have hbox : ((W.alloc (Obj.cells #[.int .i64 x.kind, .int .i64 x.x, .int .i64 x.y, .bool x.neg, .slice a x.spans.length cap] 24)).alloc (Obj.cells #[.int .i64 x.kind, .int .i64 x.x, .int .i64 x.y, .bool x.neg, .slice a x.spans.length cap] 24)).heap[W.heap.size]? = some (Obj.cells #[.int .i64 x.kind, .int .i64 x.x, .int .i64 x.y, .bool x.neg, .slice a x.spans.length cap] 24) :=
      (Below.heap_alloc _ _ _ (by simp)).trans (heap_alloc_new _ _)
    have hB0 : Below W.heap.size W ((W.alloc (Obj.cells #[.int .i64 x.kind, .int .i64 x.x, .int .i64 x.y, .bool x.neg, .slice a x.spans.length cap] 24)).alloc (Obj.cells #[.int .i64 x.kind, .int .i64 x.x, .int .i64 x.y, .bool x.neg, .slice a x.spans.length cap] 24)) := ((Below.refl _ _).alloc (Nat.le_refl _) _).alloc (by simp) _
    replace hl := Kp.mk hl
    replace hl1 := Kp.mk hl1
    replace hbox := Kp.mk hbox
    replace hB0 := Kp.mk hB0
    replace h1 := Kp.mk h1
    replace h2 := Kp.mk h2
    replace h3 := Kp.mk h3
    go_enter Try.func3, Try.ntmps3
    go_wp2_with fail
    refine ret_mono (as_calls [x] _ 1 _ hl1.out (by simp) (by simp; omega)) ?_
    intro v w1 hQ
    obtain ⟨a1, cap1, rfl, hS1, hB1⟩ := hQ
    have hB1' : Below W.heap.size W w1 := hB0.out.trans (hB1.mono (by simp; omega))
    have hbox1 := (hB1.block _ (blkL hbox.out)).trans hbox.out
    obtain ⟨b, off, sa, sc, rfl, hb, _, _, _, _, hSx, c0, c1, c2, c3, c4⟩ := inst_at hS1 (k := 0) (by simp)
    have hSl1 : Sl sSpan w1 (fun b => b < W.heap.size) a cap x.spans := hl.out.mono fun b hb _ => ⟨hb, hB1'.block b hb⟩
    have hrow : ∀ j, w1.cell? ⟨W.heap.size, j, none⟩ = (instV x a cap)[j]? := blkC hbox1
    have hbl := blkL hbox1
    have hSx' : Sl sSpan w1 (fun b => b < w1.heap.size) sa sc x.spans := ⟨hSx.le, hSx.max, hSx.nil, fun hp => let ⟨b', o', e, _, hb'⟩ := hSx.at_ hp; ⟨b', o', e, hb', hb'⟩, hSx.get⟩
    -- what holds of each world of the region
    have hS : ∀ w, Kp (Below w1.heap.size w1 w) → w.cell? ⟨W.heap.size, 0, none⟩ = some (.int .i64 x.kind) ∧ w.cell? ⟨W.heap.size, 1, none⟩ = some (.int .i64 x.x) ∧ w.cell? ⟨W.heap.size, 2, none⟩ = some (.int .i64 x.y) ∧ w.cell? ⟨W.heap.size, 3, none⟩ = some (.bool x.neg) ∧ w.cell? ⟨W.heap.size, 4, none⟩ = some (.slice a x.spans.length cap) ∧
        w.cell? ⟨b, off, none⟩ = some (.int .i64 x.kind) ∧ w.cell? ⟨b, off + 1, none⟩ = some (.int .i64 x.x) ∧ w.cell? ⟨b, off + 2, none⟩ = some (.int .i64 x.y) ∧ w.cell? ⟨b, off + 3, none⟩ = some (.bool x.neg) ∧ w.cell? ⟨b, off + 4, none⟩ = some (.slice sa x.spans.length sc) := fun w hw => by
      have hc : ∀ o u, w1.cell? ⟨b, o, none⟩ = some u → w.cell? ⟨b, o, none⟩ = some u := fun o u e => (World.cell?_of_block (a := ⟨b, o, none⟩) (hw.out.block b hb)).trans e
      have hc2 : ∀ o u, w1.cell? ⟨W.heap.size, o, none⟩ = some u → w.cell? ⟨W.heap.size, o, none⟩ = some u := fun o u e => (World.cell?_of_block (a := ⟨W.heap.size, o, none⟩) (hw.out.block _ hbl)).trans e
      exact ⟨hc2 _ _ (hrow 0), hc2 _ _ (hrow 1), hc2 _ _ (hrow 2), hc2 _ _ (hrow 3), hc2 _ _ (hrow 4), hc _ _ c0, hc _ _ c1, hc _ _ c2, hc _ _ c3, hc _ _ c4⟩
    have hSa : ∀ w, Kp (Below w1.heap.size w1 w) → Sl sSpan w (fun b => b < w.heap.size) a cap x.spans := fun w hw => hSl1.mono fun b hb hl => ⟨Nat.lt_of_lt_of_le hl hw.out.size, hw.out.block b hl⟩
    have hSb : ∀ w, Kp (Below w1.heap.size w1 w) → Sl sSpan w (fun b => b < w.heap.size) sa sc x.spans := fun w hw => hSx'.mono fun b hb hl => ⟨Nat.lt_of_lt_of_le hl hw.out.size, hw.out.block b hl⟩
    have hcum : ∀ w w', Kp (Below w1.heap.size w1 w) → Below w.heap.size w w' → Kp (Below w1.heap.size w1 w') := fun w w' hw h => ⟨hw.out.trans (h.mono hw.out.size)⟩
    have hc0 : Kp (Below w1.heap.size w1 w1.drew) := ⟨(Below.refl _ _).drew⟩
    replace hS := Kp.mk hS
    replace hSa := Kp.mk hSa
    replace hSb := Kp.mk hSb
    replace hcum := Kp.mk hcum
    replace hB1' := Kp.mk hB1'
    clear hSx hSx' hSl1 hrow hbox1 hB1 hS1 c0 c1 c2 c3 c4 hbox hl1 hl
    go_upto_region 4 with fail
    go_region_held3 (fun w => w.cell? ⟨W.heap.size, 0, none⟩ = some (.int .i64 x.kind) ∧ w.cell? ⟨W.heap.size, 1, none⟩ = some (.int .i64 x.x) ∧ w.cell? ⟨W.heap.size, 2, none⟩ = some (.int .i64 x.y) ∧ w.cell? ⟨W.heap.size, 3, none⟩ = some (.bool x.neg) ∧ w.cell? ⟨W.heap.size, 4, none⟩ = some (.slice a x.spans.length cap) ∧
        w.cell? ⟨b, off, none⟩ = some (.int .i64 x.kind) ∧ w.cell? ⟨b, off + 1, none⟩ = some (.int .i64 x.x) ∧ w.cell? ⟨b, off + 2, none⟩ = some (.int .i64 x.y) ∧ w.cell? ⟨b, off + 3, none⟩ = some (.bool x.neg) ∧ w.cell? ⟨b, off + 4, none⟩ = some (.slice sa x.spans.length sc))
      (first
        | exact hS.out _ (by assumption)
        | go_keep)
      (first
        | (go_at_call 10; refine ret_mono (has_calls x c a cap _ (hSa.out _ (by assumption))) ?_; rintro v w5 ⟨rfl, hB5⟩; have hc5 := hcum.out _ _ (by assumption) hB5; clear hB5)
        | (go_at_call 11; refine ret_mono (rhas_calls x c sa sc _ (hSb.out _ (by assumption))) ?_; rintro v w6 ⟨rfl, hB6⟩; have hc6 := hcum.out _ _ (by assumption) hB6; clear hB6)
        | (go_at_call 8; refine ret_mono (knows_calls _) ?_; rintro v w7 ⟨rfl, hB7⟩; have hc7 := hcum.out _ _ (by assumption) hB7; clear hB7))
    all_goals
      go_wp2_with fail
      go_ret
      exact ⟨rfl, hB1'.out.trans (hc7.out.mono hB1'.out.size)⟩
end Go.Proofs.Ytbcifjjnnbefkaa
