/-
  The data of patterns: spans, ops, instructions; and the contracts of nfa.Has and of its reference: both answer 'has'. Conditions: the spans lie in memory that is read.
-/
import Derived.Test.YtbcifjjnnbefkaaProg
import Derived.Test.YtbcifjjnnbefkaaOpen
namespace Go.Proofs.Ytbcifjjnnbefkaa
open Go.RowKit

structure Span where
  lo : UInt8
  hi : UInt8
  deriving DecidableEq, Inhabited
structure Op where
  kind : Int
  neg : Bool
  spans : List Span
  deriving DecidableEq, Inhabited
structure Inst where
  kind : Int
  x : Int
  y : Int
  neg : Bool
  spans : List Span
  deriving DecidableEq, Inhabited

def i64ok (n : Int) : Prop := -9223372036854775808 ≤ n ∧ n ≤ 9223372036854775807

def sSpan : Shape Span where
  n := 2
  R := fun _ _ cs x => cs = [.int .u8 x.lo.toNat, .int .u8 x.hi.toNat]
  len := fun h => by rw [h]; rfl
  one := fun h u hu => by rw [h] at hu; simp at hu; rcases hu with rfl | rfl <;> rfl
  mono := fun _ h => h
def sOp : Shape Op where
  n := 3
  R := fun w A cs x => ∃ a cap, cs = [.int .i64 x.kind, .bool x.neg, .slice a x.spans.length cap] ∧ i64ok x.kind ∧ Sl sSpan w A a cap x.spans
  len := fun ⟨_, _, h, _⟩ => by rw [h]; rfl
  one := fun ⟨_, _, h, _⟩ u hu => by rw [h] at hu; simp at hu; rcases hu with rfl | rfl | rfl <;> rfl
  mono := fun hk ⟨a, cap, e, h1, h2⟩ => ⟨a, cap, e, h1, h2.mono hk⟩
def sInst : Shape Inst where
  n := 5
  R := fun w A cs x => ∃ a cap, cs = [.int .i64 x.kind, .int .i64 x.x, .int .i64 x.y, .bool x.neg, .slice a x.spans.length cap] ∧ i64ok x.kind ∧ i64ok x.x ∧ i64ok x.y ∧ Sl sSpan w A a cap x.spans
  len := fun ⟨_, _, h, _⟩ => by rw [h]; rfl
  one := fun ⟨_, _, h, _⟩ u hu => by rw [h] at hu; simp at hu; rcases hu with rfl | rfl | rfl | rfl | rfl <;> rfl
  mono := fun hk ⟨a, cap, e, h1, h2, h3, h4⟩ => ⟨a, cap, e, h1, h2, h3, h4.mono hk⟩

theorem span_at {w : World} {A : Nat → Prop} {a : Option Addr} {cap : Nat} {l : List Span} (h : Sl sSpan w A a cap l) {k : Nat} (hk : k < l.length) :
    ∃ b off, a = some ⟨b, off, none⟩ ∧ b < w.heap.size ∧ A b ∧ w.cell? ⟨b, off + k * 2, none⟩ = some (.int .u8 l[k].lo.toNat) ∧ w.cell? ⟨b, off + k * 2 + 1, none⟩ = some (.int .u8 l[k].hi.toNat) := by
  obtain ⟨b, off, e, hA, hb⟩ := h.at_ (by omega)
  obtain ⟨cs, rfl, hc⟩ := h.get b off e k hk
  exact ⟨b, off, e, hb, hA, hc 0 (by decide), hc 1 (by decide)⟩

/-- Does an instruction with these spans take a byte? -/
def inSpans (c : UInt8) : List Span → Bool
  | [] => false
  | s :: l => (s.lo ≤ c && c ≤ s.hi) || inSpans c l
def has (x : Inst) (c : UInt8) : Bool := inSpans c x.spans != x.neg

theorem inSpans_step {c : UInt8} {l : List Span} {k : Nat} (hk : k < l.length) : inSpans c (l.drop k) = ((l[k].lo ≤ c && c ≤ l[k].hi) || inSpans c (l.drop (k + 1))) := by
  rw [List.drop_eq_getElem_cons hk]; rfl
theorem inSpans_snoc (c : UInt8) (s : Span) : ∀ l : List Span, inSpans c (l ++ [s]) = (inSpans c l || (s.lo ≤ c && c ≤ s.hi))
  | [] => by simp [inSpans]
  | x :: l => by simp [inSpans, inSpans_snoc c s l, Bool.or_assoc]
theorem u8_le {a b : UInt8} : a ≤ b ↔ (a.toNat : Int) ≤ (b.toNat : Int) := by rw [UInt8.le_iff_toNat_le]; omega

structure HasI (W : World) (x : Inst) (a : Option Addr) (cap : Nat) (c : UInt8) (l : List Span) (v : Value) (w : World) : Prop where
  k : ∃ k : Nat, k ≤ l.length ∧ v = .int .i64 k ∧ inSpans c l = inSpans c (l.drop k)
  fr : Below W.heap.size W w
  box : w.heap[W.heap.size]? = some (.cells #[.int .i64 x.kind, .int .i64 x.x, .int .i64 x.y, .bool x.neg, .slice a l.length cap] 24)

set_option maxHeartbeats 800000 in
/-- nfa.Has. -/
theorem has_calls (x : Inst) (c : UInt8) (a : Option Addr) (cap : Nat) (w : World) (hl : Sl sSpan w (fun b => b < w.heap.size) a cap x.spans) :
    Calls Try.prog 10 #[.agg #[.int .i64 x.kind, .int .i64 x.x, .int .i64 x.y, .bool x.neg, .slice a x.spans.length cap], .int .u8 c.toNat] w (Ret fun v w' => v = .bool (has x c) ∧ Below w.heap.size w w') := by
  have hm : x.spans.length ≤ 9223372036854775807 := by have := hl.le; have := hl.max; unfold maxLen at this; omega
  generalize hx : x.spans = l at hl hm ⊢
  have hx := Kp.mk hx
  go_enter Try.func10, Try.ntmps10
  go_wp2
  go_loopw [10] (fun i wr => HasI w x a cap c l i wr) (fun i _ => l.length - (intOf i).toNat)
  case atStart => exact ⟨⟨0, Nat.zero_le _, rfl, rfl⟩, (Below.refl _ _).alloc (Nat.le_refl _) _, heap_alloc_new _ _⟩
  case round =>
    obtain ⟨⟨k, hk, rfl, hM⟩, hB, hG⟩ := hrel
    have hGc := blkC hG
    have hGl := blkL hG
    have hM := Kp.mk hM
    by_cases hlt : k < l.length
    · obtain ⟨b, off, rfl, hb, _, h1, h2⟩ := span_at hl hlt
      have h1' : wr.cell? ⟨b, off + k*2, none⟩ = some (.int .u8 l[k].lo.toNat) := (hB.cell hb).trans h1
      have h2' : wr.cell? ⟨b, off + k*2+1, none⟩ = some (.int .u8 l[k].hi.toNat) := (hB.cell hb).trans h2
      have hG := Kp.mk hG
      clear h1 h2
      by_cases c1 : l[k].lo ≤ c
      · have c1' := u8_le.1 c1
        by_cases c2 : c ≤ l[k].hi
        · have c2' := u8_le.1 c2
          have hR : has x c = !x.neg := by
            unfold has; rw [hx.out, hM.out, inSpans_step hlt]; simp [c1, c2]
          have hR := Kp.mk hR
          go_wp2
          go_ret
          exact ⟨by rw [hR.out]; rfl, hB.alloc (by omega) _⟩
        · have c2' : ¬ ((c.toNat : Int) ≤ (l[k].hi.toNat : Int)) := fun h => c2 (u8_le.2 h)
          go_wp2
          go_roundw
          case rel => exact ⟨⟨k + 1, hlt, by go_num, by rw [hM.out, inSpans_step hlt]; simp [c2]⟩, hB.alloc (by omega) _, by rw [Below.heap_alloc _ _ _ hGl]; exact hG.out⟩
          case measure => simp [intOf]; omega
      · have c1' : ¬ ((l[k].lo.toNat : Int) ≤ (c.toNat : Int)) := fun h => c1 (u8_le.2 h)
        go_wp2
        go_roundw
        case rel => exact ⟨⟨k + 1, hlt, by go_num, by rw [hM.out, inSpans_step hlt]; simp [c1]⟩, hB.alloc (by omega) _, by rw [Below.heap_alloc _ _ _ hGl]; exact hG.out⟩
        case measure => simp [intOf]; omega
    · have hR : has x c = x.neg := by
        unfold has; rw [hx.out, hM.out, List.drop_eq_nil_of_le (by omega)]; simp [inSpans]
      have hR := Kp.mk hR
      go_wp2
      go_ret
      exact ⟨by rw [hR.out]; rfl, hB⟩

structure RHasI (W : World) (x : Inst) (a : Option Addr) (cap : Nat) (c : UInt8) (l : List Span) (vi vb : Value) (w : World) : Prop where
  k : ∃ k : Nat, k ≤ l.length ∧ vi = .int .i64 k ∧ vb = .bool (inSpans c (l.take k))
  fr : Below W.heap.size W w
  box : w.heap[W.heap.size]? = some (.cells #[.int .i64 x.kind, .int .i64 x.x, .int .i64 x.y, .bool x.neg, .slice a l.length cap] 33)
theorem inSpans_take {c : UInt8} {l : List Span} {k : Nat} (hk : k < l.length) : inSpans c (l.take (k + 1)) = (inSpans c (l.take k) || (l[k].lo ≤ c && c ≤ l[k].hi)) := by
  rw [List.take_succ_eq_append_getElem hk, inSpans_snoc]

set_option maxHeartbeats 800000 in
/-- davitref09.Has. -/
theorem rhas_calls (x : Inst) (c : UInt8) (a : Option Addr) (cap : Nat) (w : World) (hl : Sl sSpan w (fun b => b < w.heap.size) a cap x.spans) :
    Calls Try.prog 11 #[.agg #[.int .i64 x.kind, .int .i64 x.x, .int .i64 x.y, .bool x.neg, .slice a x.spans.length cap], .int .u8 c.toNat] w (Ret fun v w' => v = .bool (has x c) ∧ Below w.heap.size w w') := by
  have hm : x.spans.length ≤ 9223372036854775807 := by have := hl.le; have := hl.max; unfold maxLen at this; omega
  generalize hx : x.spans = l at hl hm ⊢
  have hx := Kp.mk hx
  go_enter Try.func11, Try.ntmps11
  go_wp2
  go_loopw [6, 5] (fun i v wr => RHasI w x a cap c l i v wr) (fun i _ _ => l.length - (intOf i).toNat)
  case atStart => exact ⟨⟨0, Nat.zero_le _, rfl, rfl⟩, (Below.refl _ _).alloc (Nat.le_refl _) _, heap_alloc_new _ _⟩
  case round =>
    obtain ⟨⟨k, hk, rfl, rfl⟩, hB, hG⟩ := hrel
    have hGc := blkC hG
    have hGl := blkL hG
    by_cases hlt : k < l.length
    · obtain ⟨b, off, rfl, hb, _, h1, h2⟩ := span_at hl hlt
      have h1' : wr.cell? ⟨b, off + k*2, none⟩ = some (.int .u8 l[k].lo.toNat) := (hB.cell hb).trans h1
      have h2' : wr.cell? ⟨b, off + k*2+1, none⟩ = some (.int .u8 l[k].hi.toNat) := (hB.cell hb).trans h2
      have hG := Kp.mk hG
      have hS := Kp.mk (inSpans_take (c := c) hlt)
      clear h1 h2
      generalize inSpans c (l.take k) = bb at hS ⊢
      cases bb
      · by_cases c1 : l[k].lo ≤ c
        · have c1' := u8_le.1 c1
          by_cases c2 : c ≤ l[k].hi
          · have c2' := u8_le.1 c2
            go_wp2
            go_roundw
            case rel => exact ⟨⟨k + 1, hlt, by go_num, by rw [hS.out]; simp [c1, c2]⟩, hB, hG.out⟩
            case measure => simp [intOf]; omega
          · have c2' : ¬ ((c.toNat : Int) ≤ (l[k].hi.toNat : Int)) := fun h => c2 (u8_le.2 h)
            go_wp2
            go_roundw
            case rel => exact ⟨⟨k + 1, hlt, by go_num, by rw [hS.out]; simp [c2]⟩, hB, hG.out⟩
            case measure => simp [intOf]; omega
        · have c1' : ¬ ((l[k].lo.toNat : Int) ≤ (c.toNat : Int)) := fun h => c1 (u8_le.2 h)
          go_wp2
          go_roundw
          case rel => exact ⟨⟨k + 1, hlt, by go_num, by rw [hS.out]; simp [c1]⟩, hB, hG.out⟩
          case measure => simp [intOf]; omega
      · go_wp2
        go_roundw
        case rel => exact ⟨⟨k + 1, hlt, by go_num, by rw [hS.out]; simp⟩, hB, hG.out⟩
        case measure => simp [intOf]; omega
    · have hR : has x c = (inSpans c (l.take k) != x.neg) := by
        unfold has; rw [hx.out, List.take_of_length_le (by omega)]
      have hR := Kp.mk hR
      go_wp2
      go_ret
      exact ⟨by rw [hR.out]; rfl, hB⟩
end Go.Proofs.Ytbcifjjnnbefkaa
