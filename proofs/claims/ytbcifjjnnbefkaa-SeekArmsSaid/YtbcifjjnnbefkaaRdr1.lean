/-
  The reference of layer 8 (davitref08): the small functions of its reader. Conditions: the reader's block holds its fields, the pattern's bytes can be read.
-/
import Derived.Test.YtbcifjjnnbefkaaKnows10
namespace Go.Proofs.Ytbcifjjnnbefkaa
open Go.RowKit

/-- The reference's reader at rb. -/
structure RdE (rb : Nat) (c0 : Value) (bad : Nat) (w : World) : Prop where
  st : ∃ pl : Int, w.heap[rb]? = some (.cells #[c0, .int .i64 bad, .int .i64 pl] 110)
structure UP (W : World) (rb : Nat) (c0 : Value) (bad : Nat) (w : World) : Prop where
  rd : RdE rb c0 bad w
  fr : Fr (fun k => k = rb) W w
def isB (s : List UInt8) (i : Nat) (c : UInt8) : Bool := s[i]? == some c
theorem isB_lt {s : List UInt8} {i : Nat} {c : UInt8} (h : i < s.length) : isB s i c = (s[i] == c) := by simp [isB, h]
theorem isB_ge {s : List UInt8} {i : Nat} {c : UInt8} (h : s.length ≤ i) : isB s i c = false := by simp [isB, List.getElem?_eq_none h]
def wr (bad e : Nat) : Nat := if bad = 0 then e else bad

set_option maxHeartbeats 1000000 in
theorem wrong_calls (rb : Nat) (c0 : Value) (bad e : Nat) (at_ : Int) (W : World) (h : RdE rb c0 bad W) :
    Calls Try.prog 48 #[.pointer (some ⟨rb, 0, none⟩), .int .i64 at_, .int .i64 e] W (Ret fun v w => v = .tuple #[] ∧ UP W rb c0 (wr bad e) w) := by
  obtain ⟨pl, hb⟩ := h
  have hc := blkC hb
  have hf := blkF hb
  have hl := blkL hb
  by_cases h0 : bad = 0
  · subst h0
    have h1 := blkSet (i := 1) hb (.int .i64 e)
    have h2 := blkSet (i := 2) h1 (.int .i64 at_)
    replace hb := Kp.mk hb
    replace h1 := Kp.mk h1
    replace h2 := Kp.mk h2
    go_enter Try.func48, Try.ntmps48
    go_wp2_with fail
    go_end0
    exact ⟨rfl, ⟨at_, h2.out⟩, ((Fr.refl (fun k => k = rb) W).setCell (p := ⟨rb, 1, none⟩) (fun _ => rfl) _).setCell (p := ⟨rb, 2, none⟩) (fun _ => rfl) _⟩
  · have hd : ((bad : Int) == 0) = false := by simpa using h0
    have hE : wr bad e = bad := by unfold wr; rw [if_neg h0]
    replace hb := Kp.mk hb
    replace hE := Kp.mk hE
    go_enter Try.func48, Try.ntmps48
    go_wp2_with fail
    go_end0
    rw [hE.out]
    exact ⟨rfl, ⟨pl, hb.out⟩, Fr.refl _ _⟩

set_option maxHeartbeats 1000000 in
theorem is_calls (s : List UInt8) (sa : Option Addr) (sc rb bad i : Nat) (c : UInt8) (W : World) (h : RdE rb (.slice sa s.length sc) bad W) (hs : Sl sByte W (fun k => k ≠ rb) sa sc s) :
    Calls Try.prog 59 #[.pointer (some ⟨rb, 0, none⟩), .int .i64 i, .int .u8 c.toNat] W (Ret fun v w => v = .bool (isB s i c) ∧ W = w) := by
  obtain ⟨pl, hb⟩ := h
  have hc := blkC hb
  have hsl : s.length ≤ 9223372036854775807 := by have := hs.le; have := hs.max; unfold maxLen at this; omega
  replace hb := Kp.mk hb
  by_cases hlt : i < s.length
  · obtain ⟨b2, off, rfl, hb2, hbn, hc2⟩ := byte_at hs hlt
    have hd : decide (i < s.length) = true := by simpa using hlt
    have hE : isB s i c = ((s[i].toNat : Int) == c.toNat) := by rw [isB_lt hlt, u8_cases]
    generalize s[i] = x at hc2 hE
    replace hE := Kp.mk hE
    replace hs := Kp.mk hs
    go_enter Try.func59, Try.ntmps59
    go_wp2_with fail
    go_ret
    exact ⟨by rw [hE.out]; rfl, rfl⟩
  · have hd : decide (i < s.length) = false := by simpa using hlt
    have hE := isB_ge (c := c) (show s.length ≤ i by omega)
    replace hE := Kp.mk hE
    replace hs := Kp.mk hs
    go_enter Try.func59, Try.ntmps59
    go_wp2_with fail
    go_ret
    exact ⟨by rw [hE.out]; rfl, rfl⟩

theorem named_calls (c : UInt8) (w : World) : Calls Try.prog 68 #[.int .u8 c.toNat] w (Ret fun v w' => v = .bool (!plainB c) ∧ w = w') := by
  have H : plainB c = !((48 ≤ c.toNat && c.toNat ≤ 57) || (65 ≤ c.toNat && c.toNat ≤ 90) || (97 ≤ c.toNat && c.toNat ≤ 122)) := by
    unfold plainB
    rfl
  replace H := Kp.mk H
  by_cases h1 : 48 ≤ c.toNat <;> by_cases h2 : c.toNat ≤ 57 <;> by_cases h3 : 65 ≤ c.toNat <;> by_cases h4 : c.toNat ≤ 90 <;> by_cases h5 : 97 ≤ c.toNat <;> by_cases h6 : c.toNat ≤ 122 <;> (try omega)
  all_goals
    go_enter Try.func68, Try.ntmps68
    go_wp2
    go_ret
    exact ⟨congrArg Value.bool (by rw [H.out]; simp [h1, h2, h3, h4, h5, h6] <;> omega), rfl⟩

theorem rows_cons_span {w : World} {A : Nat → Prop} {x : Span} {l : List Span} {cs : List Value} (h : Rows sSpan w A cs l) : Rows sSpan w A (.int .u8 x.lo.toNat :: .int .u8 x.hi.toNat :: cs) (x :: l) := ⟨[_, _], cs, rfl, rfl, h⟩
theorem byte_t {c k : UInt8} (h : c = k) : ((c.toNat : Int) == (k.toNat : Int)) = true := by rw [u8_cases, h]; simp
theorem byte_f {c k : UInt8} (h : c ≠ k) : ((c.toNat : Int) == (k.toNat : Int)) = false := by rw [u8_cases]; simpa using h

set_option maxHeartbeats 4000000 in
theorem rclass_calls (c : UInt8) (W : World) : Calls Try.prog 65 #[.int .u8 c.toNat] W (Ret (RetSl sSpan W (classM c))) := by
  by_cases h1 : c = 100
  · subst h1
    go_enter Try.func65, Try.ntmps65
    go_wp2_with (at_builtin; refine pause ?_; intro K hK)
    refine hK.out _ _ ?_
    refine wpl_append1 (w := W) (A := (W.heap.size ≤ ·)) (v := .slice none 0 0) (l := ([] : List Span)) (y := ⟨48, 57⟩) ty_rSpan rfl rfl rfl (Ow.nil _ _ _ _) rfl rfl (heap_alloc_new _ _) ((Fr.refl _ _).alloc _) (by decide) (fun _ h => h) ?_
    intro v' w2 hO hF _
    obtain ⟨a, cap, rfl, hS, _⟩ := hO.val
    go_wp2_with fail
    go_ret
    exact ⟨a, cap, rfl, hS, hF.below (Nat.le_refl _) fun k _ e => by cases e⟩
  · have f1 : ((c.toNat : Int) == 100) = false := byte_f h1
    by_cases h2 : c = 119
    · subst h2
      go_enter Try.func65, Try.ntmps65
      go_wp2_with (at_builtin; refine pause ?_; intro K hK)
      refine hK.out _ _ ?_
      refine wpl_append1 (w := W) (A := (W.heap.size ≤ ·)) (v := .slice none 0 0) (l := ([] : List Span)) (y := ⟨48, 57⟩) ty_rSpan rfl rfl rfl (Ow.nil _ _ _ _) rfl rfl (heap_alloc_new _ _) ((Fr.refl _ _).alloc _) (by decide) (fun _ h => h) ?_
      intro v' w2 hO hF _
      have hB2 : Below W.heap.size W w2 := hF.below (Nat.le_refl _) fun k _ e => by cases e
      have hz2 := hB2.size
      go_wp2_with (at_builtin; refine pause ?_; intro K hK)
      refine hK.out _ _ ?_
      have hO2 : Ow 63 sSpan (w2.alloc (.cells #[.int .u8 65, .int .u8 90, .int .u8 95, .int .u8 95, .int .u8 97, .int .u8 122] 63)) (W.heap.size ≤ ·) v' ([] ++ [⟨48, 57⟩]) := hO.mono fun j hj hl => ⟨hj, Below.heap_alloc _ _ _ hl⟩
      have hnew := heap_alloc_new w2 (.cells #[.int .u8 65, .int .u8 90, .int .u8 95, .int .u8 95, .int .u8 97, .int .u8 122] 63)
      have hlt2 : ∀ k, v'.ownBlock = some k → k < w2.heap.size := fun k e => hO.lt e
      refine wpl_append (l2 := [⟨65, 90⟩, ⟨95, 95⟩, ⟨97, 122⟩]) ty_rSpan rfl rfl rfl hO2 rfl rfl (rows_cons_span (rows_cons_span (rows_cons_span rfl))) (fun j u hj => ?_) (by decide) (fun k hk => Nat.le_trans (Nat.le_trans hz2 (by simp)) hk) ?_
      · rw [show (⟨w2.heap.size, 0, none⟩ : Addr).add j = ⟨w2.heap.size, j, none⟩ by unfold Addr.add; split <;> simp_all, blkC hnew]
        simpa using hj
      intro v'' w3 hO3 hF3 _
      obtain ⟨a, cap, rfl, hS, _⟩ := hO3.val
      go_wp2_with fail
      go_ret
      exact ⟨a, cap, rfl, hS, (hB2.alloc hz2 _).trans (hF3.below (by simp; omega) fun k hk e => by have := hO.1 k e; omega)⟩
    · have f2 : ((c.toNat : Int) == 119) = false := byte_f h2
      by_cases h3 : c = 115
      · subst h3
        go_enter Try.func65, Try.ntmps65
        go_wp2_with (at_builtin; refine pause ?_; intro K hK)
        refine hK.out _ _ ?_
        have hnew := heap_alloc_new W (.cells #[.int .u8 9, .int .u8 13, .int .u8 32, .int .u8 32] 63)
        refine wpl_append (A := (W.heap.size ≤ ·)) (v := .slice none 0 0) (l := ([] : List Span)) (l2 := [⟨9, 13⟩, ⟨32, 32⟩]) ty_rSpan rfl rfl rfl (Ow.nil _ _ _ _) rfl rfl (rows_cons_span (rows_cons_span rfl)) (fun j u hj => ?_) (by decide) (fun k hk => Nat.le_trans (by simp) hk) ?_
        · rw [show (⟨W.heap.size, 0, none⟩ : Addr).add j = ⟨W.heap.size, j, none⟩ by unfold Addr.add; split <;> simp_all, blkC hnew]
          simpa using hj
        intro v'' w3 hO3 hF3 _
        obtain ⟨a, cap, rfl, hS, _⟩ := hO3.val
        go_wp2_with fail
        go_ret
        exact ⟨a, cap, rfl, hS, ((Below.refl _ _).alloc (Nat.le_refl _) _).trans (hF3.below (by simp) fun k hk e => by cases e)⟩
      · have f3 : ((c.toNat : Int) == 115) = false := byte_f h3
        have hE : classM c = [] := by simp [classM, h1, h2, h3]
        replace hE := Kp.mk hE
        replace h1 := Kp.mk h1
        replace h2 := Kp.mk h2
        replace h3 := Kp.mk h3
        go_enter Try.func65, Try.ntmps65
        go_wp2_with fail
        go_ret
        rw [hE.out]
        exact ⟨none, 0, rfl, Sl.nil_ _ _ _, Below.refl _ _⟩
end Go.Proofs.Ytbcifjjnnbefkaa
