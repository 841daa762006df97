/-
  Package nfa, the maker: put, take. Conditions: the maker's block holds its fields; a pile that is taken from isn't empty.
-/
import Derived.Test.YtbcifjjnnbefkaaAs
import Derived.Test.YtbcifjjnnbefkaaRegex8
namespace Go.Proofs.Ytbcifjjnnbefkaa
open Go.RowKit

/-- A cell that holds a slice of the call's own. -/
def sOw {α : Type} (E : TypeId) (s : Shape α) : Shape (List α) where
  n := 1
  R := fun w A cs l => ∃ v, cs = [v] ∧ Ow E s w A v l
  len := fun ⟨_, e, _⟩ => by rw [e]; rfl
  one := fun ⟨v, e, h⟩ u hu => by
    rw [e] at hu; simp at hu; subst hu
    obtain ⟨a, c, rfl⟩ := h.form rfl
    rfl
  mono := fun hk ⟨v, e, h⟩ => ⟨v, e, h.mono hk⟩
theorem ty_inst : SlTy Try.prog 28 24 sInst 56 := mkTy Try.underlying28 (by kernel_rfl) (by decide) (by decide)
theorem ty_rows : SlTy Try.prog 43 28 (sOw 24 sInst) 24 := mkTy Try.underlying43 (by kernel_rfl) (by decide) (by decide)

/-- The last element of a slice of the call's own; the slice's own block isn't among those that the element reads. -/
theorem Ow.last {α : Type} {E : TypeId} {s : Shape α} {w : World} {A : Nat → Prop} {v : Value} {l : List α} {x : α} (h : Ow E s w A v (l ++ [x])) :
    ∃ g cap c, v = .slice (some ⟨g, 0, none⟩) (l.length + 1) cap ∧ l.length + 1 ≤ cap ∧ A g ∧ g < w.heap.size ∧ s.R w (fun k => A k ∧ v.ownBlock ≠ some k) c x ∧ ∀ j, j < s.n → w.cell? ⟨g, l.length * s.n + j, none⟩ = c[j]? := by
  obtain ⟨hA, xs, hrow, hR⟩ := h
  rcases hrow.2 with ⟨rfl, h0⟩ | ⟨g, cap, cur, rfl, _, hg, hnc, hm, hs, ht⟩
  · simp at h0
  · obtain ⟨c, hc, hj⟩ := hR.get l.length (by simp)
    have hel : (l ++ [x])[l.length]'(by simp) = x := by simp
    rw [hel] at hc
    have hlen : (l ++ [x]).length = l.length + 1 := by simp
    rw [hlen] at hnc ht hc ⊢
    refine ⟨g, cap, c, rfl, hnc, hA g rfl, blkL hg, hc, fun j hjn => ?_⟩
    rw [← hj j hjn, ← ht, blkC hg, List.getElem?_take_of_lt, Array.getElem?_toList]
    rw [Nat.succ_mul]; omega

/-- The maker at m, above B. -/
structure MkP (B m many : Nat) (pile : List (List Inst)) (pv : Value) (w : World) : Prop where
  hz : B ≤ w.heap.size
  hb : w.heap[m]? = some (.cells #[pv, .int .i64 many, .bool false] 75)
  ow : Ow 28 (sOw 24 sInst) w (fun k => B ≤ k ∧ k ≠ m) pv pile
/-- What a maker's method may turn: the maker's own block, and what lies above B. -/
def MM (B m : Nat) (k : Nat) : Prop := k = m ∨ B ≤ k
/-- What may be put. -/
def RowP (B m : Nat) (pv v : Value) (l : List Inst) (w : World) : Prop := Ow 24 sInst w (fun k => (B ≤ k ∧ k ≠ m) ∧ pv.ownBlock ≠ some k) v l
def putM (many : Nat) (l : List Inst) : List Inst := if 200 < many then [] else l
structure MkQ (W : World) (B m many : Nat) (pile : List (List Inst)) (v : Value) (w : World) : Prop where
  v : v = .tuple #[]
  st : ∃ pv, MkP B m many pile pv w
  fr : Fr (MM B m) W w
/-- What 'put' turns besides. -/
structure PutQ (W : World) (B m many : Nat) (pile : List (List Inst)) (pv v : Value) (w : World) : Prop where
  q : MkQ W B m many pile v w
  far : Fr (fun k => k = m ∨ pv.ownBlock = some k) W w

set_option maxHeartbeats 2000000 in
theorem mput_callsF (B m many : Nat) (pile : List (List Inst)) (pv lv : Value) (l : List Inst) (W : World) (h : MkP B m many pile pv W) (hl : RowP B m pv lv l W) (hm : many ≤ 100000) (hn : pile.length ≤ 100000) :
    Calls Try.prog 56 #[.pointer (some ⟨m, 0, none⟩), lv] W (Ret (PutQ W B m many (pile ++ [putM many l]) pv)) := by
  obtain ⟨hz, hb, hO⟩ := h
  have hbc := blkC hb
  have hbf := blkF hb
  have hbl := blkL hb
  replace hb := Kp.mk hb
  replace hO := Kp.mk hO
  obtain ⟨la, lc, rfl⟩ := hl.form (n := l.length) rfl
  replace hl := Kp.mk hl
  by_cases h2 : 200 < many
  · have hd : decide ((200 : Int) < (many : Int)) = true := by simp; omega
    have hE : putM many l = [] := by unfold putM; rw [if_pos h2]
    rw [hE]
    clear h2
    go_enter Try.func56, Try.ntmps56
    go_wp2_with (at_builtin; refine pause ?_; intro K hK)
    refine hK.out _ _ ?_
    refine wpl_append1 (w := W) (y := []) ty_rows rfl rfl rfl hO.out rfl ⟨_, rfl, Ow.nil _ _ _ _⟩ (heap_alloc_new _ _) ((Fr.refl _ _).alloc _) (by omega) (fun k hk => ⟨by omega, by omega⟩) ?_
    intro v' w2 hO2 hF hd
    have h2 := hF.obj hb.out fun e => (hO.out.1 _ e).2 rfl
    have h2c := blkC h2
    have h2f := blkF h2
    have h2l := blkL h2
    replace h2 := Kp.mk h2
    obtain ⟨va, vc, rfl⟩ := hO2.form (n := pile.length + 1) (by simp)
    go_wp2
    go_end0
    exact ⟨⟨rfl, ⟨_, by simpa using Nat.le_trans hz hF.size, blkSet h2.out _, hO2.mono fun k hk hl => ⟨hk, Below.heap_setCell _ _ _ _ hk.2⟩⟩, (hF.mono (M' := MM B m) fun k hk e => .inr (hO.out.1 k e).1).setCell (fun _ => .inl rfl) _⟩, (hF.mono fun k _ e => .inr e).setCell (fun _ => .inl rfl) _⟩
  · have hd : decide ((200 : Int) < (many : Int)) = false := by simp; omega
    have hE : putM many l = l := by unfold putM; rw [if_neg h2]
    rw [hE]
    clear h2
    go_enter Try.func56, Try.ntmps56
    go_wp2_with (at_builtin; refine pause ?_; intro K hK)
    refine hK.out _ _ ?_
    refine wpl_append1 (w := W) (y := l) ty_rows rfl rfl rfl hO.out rfl ⟨_, rfl, hl.out⟩ (heap_alloc_new _ _) ((Fr.refl _ _).alloc _) (by omega) (fun k hk => ⟨by omega, by omega⟩) ?_
    intro v' w2 hO2 hF hd
    have h2 := hF.obj hb.out fun e => (hO.out.1 _ e).2 rfl
    have h2c := blkC h2
    have h2f := blkF h2
    have h2l := blkL h2
    replace h2 := Kp.mk h2
    obtain ⟨va, vc, rfl⟩ := hO2.form (n := pile.length + 1) (by simp)
    go_wp2
    go_end0
    exact ⟨⟨rfl, ⟨_, by simpa using Nat.le_trans hz hF.size, blkSet h2.out _, hO2.mono fun k hk hl => ⟨hk, Below.heap_setCell _ _ _ _ hk.2⟩⟩, (hF.mono (M' := MM B m) fun k hk e => .inr (hO.out.1 k e).1).setCell (fun _ => .inl rfl) _⟩, (hF.mono fun k _ e => .inr e).setCell (fun _ => .inl rfl) _⟩

theorem mput_calls (B m many : Nat) (pile : List (List Inst)) (pv lv : Value) (l : List Inst) (W : World) (h : MkP B m many pile pv W) (hl : RowP B m pv lv l W) (hm : many ≤ 100000) (hn : pile.length ≤ 100000) :
    Calls Try.prog 56 #[.pointer (some ⟨m, 0, none⟩), lv] W (Ret (MkQ W B m many (pile ++ [putM many l]))) :=
  ret_mono (mput_callsF B m many pile pv lv l W h hl hm hn) fun _ _ h => h.q

structure TakeP (W : World) (B m many : Nat) (pile : List (List Inst)) (l : List Inst) (pv : Value) (v : Value) (w : World) : Prop where
  row : RowP B m pv v l w
  st : ∃ pv', MkP B m many pile pv' w ∧ pv'.ownBlock = pv.ownBlock
  fr : Fr (fun k => k = m) W w
set_option maxHeartbeats 2000000 in
theorem mtake_calls (B m many : Nat) (pile : List (List Inst)) (l : List Inst) (pv : Value) (W : World) (h : MkP B m many (pile ++ [l]) pv W) (hn : pile.length ≤ 100000) :
    Calls Try.prog 57 #[.pointer (some ⟨m, 0, none⟩)] W (Ret (TakeP W B m many pile l pv)) := by
  obtain ⟨hz, hb, hO⟩ := h
  obtain ⟨g, cap, c, rfl, hcap, hgA, hgl, ⟨rv, rfl, hrv⟩, hcell⟩ := hO.last
  have hg1 : W.cell? ⟨g, pile.length, none⟩ = some rv := by simpa [sOw] using hcell 0 (by decide)
  have hO2 := hO.take (m := pile.length) (by simp) (by simp)
  rw [List.take_left' rfl] at hO2
  obtain ⟨ra, rc, rfl⟩ := hrv.form (n := l.length) rfl
  have hbc := blkC hb
  have hbf := blkF hb
  have hbl := blkL hb
  have hd : decide ((pile.length : Int) < 0) = false := by simp
  have hgm : g ≠ m := hgA.2
  clear hgA hcell hO
  replace hrv := Kp.mk hrv
  replace hO2 := Kp.mk hO2
  replace hb := Kp.mk hb
  go_enter Try.func57, Try.ntmps57
  go_wp2
  go_ret
  have hF : Fr (fun k => k = m) W (W.setCell ⟨m, 0, none⟩ (.slice (some ⟨g, 0, none⟩) pile.length cap)) := (Fr.refl (fun k => k = m) W).setCell (p := ⟨m, 0, none⟩) (fun _ => rfl) _
  exact ⟨hrv.out.mono fun k hk hl => ⟨hk, hF.block k hl hk.1.2⟩, ⟨_, ⟨by simpa using hz, blkSet hb.out _, hO2.out.mono fun k hk hl => ⟨hk, hF.block k hl hk.2⟩⟩, rfl⟩, hF⟩
end Go.Proofs.Ytbcifjjnnbefkaa
