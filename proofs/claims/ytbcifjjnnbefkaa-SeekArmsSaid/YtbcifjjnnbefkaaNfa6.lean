/-
  Package nfa, the maker's method set. Conditions: the maker's block holds its fields; the op's spans lie below what the call owns.
-/
import Derived.Test.YtbcifjjnnbefkaaNfa5
import Derived.Deep.RegionHeld3
namespace Go.Proofs.Ytbcifjjnnbefkaa
open Go.RowKit

/-- APPEND of a slice that is read, nil or not, from elsewhere: as a step of a region that draws its order. -/
theorem step_appendF {α : Type} {P : Program} {w : World} {ops : Array Oper} {o : Oper} {a : Act} {K : Act → World → Prop} {Q : Exit → Act → World → Prop} {C : Prop} {E : TypeId} {s : Shape α} {sx x : Operand} {t : TypeId} {bytes : Nat} (T : SlTy P t E s bytes) (hgd : o.guard = none)
    (ho : o.op = .call { callee := .builtin .append, args := #[sx, x], argTypes := #[t, t] })
    {A A2 : Nat → Prop} {v : Value} {l : List α} (hs : a.eval sx = v) (hown : Ow E s w A v l)
    {sa : Option Addr} {c n2 : Nat} {l2 : List α} (hx : a.eval x = .slice sa n2 c) (hn2 : l2.length = n2) (hS : Sl s w A2 sa c l2) (hR : ∀ cs, Rows s w A2 cs l2 → Rows s w (fun k => A k ∧ v.ownBlock ≠ some k) cs l2)
    (hbytes : (l.length + n2) * bytes ≤ 140737488355328) (hA : ∀ k, w.heap.size ≤ k → A k)
    (h : ∀ v' w', Ow E s w' A v' (l ++ l2) → Fr (fun k => v.ownBlock = some k) w w' → (v'.ownBlock = v.ownBlock ∨ ∃ g, v'.ownBlock = some g ∧ w.heap.size ≤ g) → K (a.put o.dst v') w') : if Region.wanted o (yielded ops a.tmps) = true then Oper.wp P o a w K Q else C := by
  have hw : Region.wanted o (yielded ops a.tmps) = true := by simp [Region.wanted, hgd]
  rw [if_pos hw]
  subst hn2
  cases sa with
  | none =>
    have hc := hS.nil rfl
    have hl := hS.le
    subst hc
    have h2 : l2 = [] := List.eq_nil_of_length_eq_zero (by omega)
    subst h2
    obtain ⟨i, z, hi, hz, hsize, hby, hzs⟩ := T.hi
    have hr : (Builtin.append_ #[t, t] o.type #[v, .slice none 0 0]).run P w = .ok v w := by
      obtain ⟨_, xs, hrow, _⟩ := hown
      exact run_append_owned_none w 0 t o.type E i s.n T.ht hi v l.length xs hrow
    unfold Oper.wp execOp
    simp only [ho, resolve, invoke, builtin, Sem.run_bind, Sem.run_pure, Result.andThen_ok, List.map_toArray, List.map_cons, List.map_nil, hs, hx, List.length_nil, hr]
    exact h v w (by simpa using hown) (Fr.refl _ _) (.inl rfl)
  | some ad =>
    obtain ⟨cs, hR1, hcell⟩ := hS.rows
    refine wpo_append T ho hs hown hx rfl (hR cs hR1) (fun j u hj => ?_) hbytes hA h
    have hlt := (List.getElem?_eq_some_iff.1 hj).1
    rw [hR1.length] at hlt
    obtain ⟨b, off, e, _, _⟩ := hS.at_ (by
      rcases Nat.eq_zero_or_pos l2.length with h0 | h0
      · rw [h0] at hlt; simp at hlt
      · exact h0)
    cases e
    rw [show (⟨b, off, none⟩ : Addr).add j = ⟨b, off + j, none⟩ by unfold Addr.add; split <;> simp_all]
    exact (hcell b off rfl j hlt).trans hj
theorem rows_span {w w' : World} {A A' : Nat → Prop} : ∀ {l : List Span} {cs : List Value}, Rows sSpan w A cs l → Rows sSpan w' A' cs l
  | [], _, h => h
  | _ :: _, _, ⟨c1, c2, e, h1, h2⟩ => ⟨c1, c2, e, h1, rows_span h2⟩

theorem Fr.cell {M : Nat → Prop} {w w' : World} (h : Fr M w w') {p : Addr} {u : Option Value} (hu : w.cell? p = u) (hk : p.block < w.heap.size) (hn : ¬ M p.block) : w'.cell? p = u :=
  (World.cell?_of_block (h.block _ hk hn)).trans hu
def oneI (neg : Bool) (spans : List Span) : Inst := ⟨1, 0, 0, neg, spans⟩

theorem set_row {B m many : Nat} {P : List (List Inst)} {pv : Value} {W1 w3 : World} {a : Option Addr} {n c : Nat} {neg : Bool} {spans : List Span} (hM : MkP B m many P pv W1) (hB : W1.heap.size ≤ w3.heap.size) (hO : Ow 62 sSpan w3 (fun k => W1.heap.size + 1 ≤ k) (.slice a n c) spans) :
    RowP B m pv (.slice (some ⟨w3.heap.size, 0, none⟩) 1 1) [oneI neg spans] (w3.alloc (.cells #[.int .i64 1, .int .i64 0, .int .i64 0, .bool neg, .slice a n c] 24)) := by
  obtain ⟨a', c', e, hS, _⟩ := hO.val
  cases e
  refine Ow.made (hM.above _ hB) (Rows.one ⟨a, c, rfl, by simp [i64ok, oneI], by simp [i64ok, oneI], by simp [i64ok, oneI], ?_⟩) (show 1 ≤ maxLen by decide)
  exact hS.mono fun k hk hl => ⟨⟨hM.above k (by omega), hl⟩, rfl⟩

set_option maxRecDepth 100000 in
set_option maxHeartbeats 4000000 in
theorem mset_calls (B m many : Nat) (P : List (List Inst)) (pv : Value) (kind : Int) (neg : Bool) (spans : List Span) (oa : Option Addr) (oc : Nat) (W : World) (h : MkP B m many P pv W) (hs : Sl sSpan W (fun k => k < B ∧ k ≠ m) oa oc spans) (hm : many ≤ 90000) (hn : P.length ≤ 10000) (hsp : spans.length ≤ 100000) :
    Calls Try.prog 40 #[.pointer (some ⟨m, 0, none⟩), .agg #[.int .i64 kind, .bool neg, .slice oa spans.length oc]] W (Ret (MkQ W B m (many + 1) (P ++ [putM (many + 1) [oneI neg spans]]))) := by
  have hbc := blkC h.hb
  have hbf := blkF h.hb
  have hbl := blkL h.hb
  have hM1 := h.add (many' := many + 1) (n := (many : Int) + 1) (by simp)
  generalize hln : spans.length = ln
  have hln' := Kp.mk hln
  rw [hln] at hsp
  clear hln
  have hz : ((W.setCell ⟨m, 1, none⟩ (.int .i64 ((many : Int) + 1))).alloc (Obj.cells #[.int .i64 kind, .bool neg, .slice oa ln oc] 79)).heap.size = W.heap.size + 1 := by simp
  have hB1 : Below W.heap.size (W.setCell ⟨m, 1, none⟩ (.int .i64 ((many : Int) + 1))) (((W.setCell ⟨m, 1, none⟩ (.int .i64 ((many : Int) + 1))).alloc (Obj.cells #[.int .i64 kind, .bool neg, .slice oa ln oc] 79)).alloc (Obj.cells #[] 62)).drew :=
    (((Below.refl _ _).alloc (by simp) _).alloc (by simp) _).drew
  have hown0 : Ow 62 sSpan (((W.setCell ⟨m, 1, none⟩ (.int .i64 ((many : Int) + 1))).alloc (Obj.cells #[.int .i64 kind, .bool neg, .slice oa ln oc] 79)).alloc (Obj.cells #[] 62)).drew (fun k => W.heap.size + 1 ≤ k) (.slice (some ⟨W.heap.size + 1, 0, none⟩) 0 0) [] := by
    have h1 := Ow.made (E := 62) (s := sSpan) (w := (W.setCell ⟨m, 1, none⟩ (.int .i64 ((many : Int) + 1))).alloc (Obj.cells #[.int .i64 kind, .bool neg, .slice oa ln oc] 79)) (A := fun k => W.heap.size + 1 ≤ k) (by simp) (c := #[]) (l := []) rfl (by decide)
    rw [hz] at h1
    exact h1.drew
  have hSl0 : Sl sSpan (((W.setCell ⟨m, 1, none⟩ (.int .i64 ((many : Int) + 1))).alloc (Obj.cells #[.int .i64 kind, .bool neg, .slice oa ln oc] 79)).alloc (Obj.cells #[] 62)).drew (fun k => k < B ∧ k ≠ m) oa oc spans :=
    hs.mono fun k hk hl => ⟨hk, (hB1.block k hl).trans (Below.heap_setCell _ _ _ _ (show k ≠ m from hk.2))⟩
  have hbox0 : ((W.setCell ⟨m, 1, none⟩ (.int .i64 ((many : Int) + 1))).alloc (Obj.cells #[.int .i64 kind, .bool neg, .slice oa ln oc] 79)).drew.cell? ⟨W.heap.size, 1, none⟩ = some (.bool neg) ∧
      ((W.setCell ⟨m, 1, none⟩ (.int .i64 ((many : Int) + 1))).alloc (Obj.cells #[.int .i64 kind, .bool neg, .slice oa ln oc] 79)).drew.cell? ⟨W.heap.size, 2, none⟩ = some (.slice oa ln oc) := by
    have h2 := heap_alloc_new (W.setCell ⟨m, 1, none⟩ (.int .i64 ((many : Int) + 1))) (Obj.cells #[.int .i64 kind, .bool neg, .slice oa ln oc] 79)
    rw [show (W.setCell ⟨m, 1, none⟩ (.int .i64 ((many : Int) + 1))).heap.size = W.heap.size by simp] at h2
    exact ⟨blkC h2 1, blkC h2 2⟩
  have hbox : (((W.setCell ⟨m, 1, none⟩ (.int .i64 ((many : Int) + 1))).alloc (Obj.cells #[.int .i64 kind, .bool neg, .slice oa ln oc] 79)).alloc (Obj.cells #[] 62)).drew.cell? ⟨W.heap.size, 1, none⟩ = some (.bool neg) ∧
      (((W.setCell ⟨m, 1, none⟩ (.int .i64 ((many : Int) + 1))).alloc (Obj.cells #[.int .i64 kind, .bool neg, .slice oa ln oc] 79)).alloc (Obj.cells #[] 62)).drew.cell? ⟨W.heap.size, 2, none⟩ = some (.slice oa ln oc) := by
    have h1 : (((W.setCell ⟨m, 1, none⟩ (.int .i64 ((many : Int) + 1))).alloc (Obj.cells #[.int .i64 kind, .bool neg, .slice oa ln oc] 79)).alloc (Obj.cells #[] 62)).drew.heap[W.heap.size]? = some (Obj.cells #[.int .i64 kind, .bool neg, .slice oa ln oc] 79) := by
      refine (Below.heap_alloc _ _ _ (by simp)).trans ?_
      have h2 := heap_alloc_new (W.setCell ⟨m, 1, none⟩ (.int .i64 ((many : Int) + 1))) (Obj.cells #[.int .i64 kind, .bool neg, .slice oa ln oc] 79)
      rw [show (W.setCell ⟨m, 1, none⟩ (.int .i64 ((many : Int) + 1))).heap.size = W.heap.size by simp] at h2
      exact h2
    exact ⟨blkC h1 1, blkC h1 2⟩
  have hzz : (((W.setCell ⟨m, 1, none⟩ (.int .i64 ((many : Int) + 1))).alloc (Obj.cells #[.int .i64 kind, .bool neg, .slice oa ln oc] 79)).alloc (Obj.cells #[] 62)).drew.heap.size = W.heap.size + 2 := by simp
  have hpv : pv.ownBlock ≠ some W.heap.size := fun e => by have := h.ow.lt e; omega
  have hBz := h.hz
  replace h := Kp.mk h
  replace hs := Kp.mk hs
  replace hM1 := Kp.mk hM1
  replace hB1 := Kp.mk hB1
  replace hown0 := Kp.mk hown0
  replace hSl0 := Kp.mk hSl0
  replace hbox := Kp.mk hbox
  replace hbox0 := Kp.mk hbox0
  replace hzz := Kp.mk hzz
  replace hz := Kp.mk hz
  replace hpv := Kp.mk hpv
  go_enter Try.func40, Try.ntmps40
  go_wp2_with fail
  go_region_held3 (fun w' => w'.cell? ⟨W.heap.size, 1, none⟩ = some (.bool neg) ∧ w'.cell? ⟨W.heap.size, 2, none⟩ = some (.slice oa ln oc))
    (first
      | exact hbox0.out
      | exact hbox.out
      | exact ⟨hF3.out.cell hbox.out.1 (by rw [hzz.out]; show W.heap.size < _; omega) (by simp [Value.ownBlock]), hF3.out.cell hbox.out.2 (by rw [hzz.out]; show W.heap.size < _; omega) (by simp [Value.ownBlock])⟩
      | exact hS5.out
      | go_keep)
    (first
      | (refine step_appendF ty_span rfl rfl rfl hown0.out rfl hln'.out hSl0.out (fun _ h => rows_span h) (by simp; omega) (fun k hk => by rw [hzz.out] at hk; omega) ?_; intro v3 w3 hO3 hF3 hd3; obtain ⟨a3, c3, rfl⟩ := hO3.form (n := ln) (by simpa using hln'.out); replace hO3 := Kp.mk hO3; replace hF3 := Kp.mk (show Fr (fun k => (Value.slice (some ⟨W.heap.size + 1, 0, none⟩) 0 0).ownBlock = some k) _ w3 from hF3); clear hd3)
      | (go_at_call 56
         have hB3 : Below W.heap.size (W.setCell ⟨m, 1, none⟩ (.int .i64 ((many : Int) + 1))) w3 := hB1.out.trans (hF3.out.below (by rw [hzz.out]; omega) fun k hk e => by simp [Value.ownBlock] at e; omega)
         have hz1 : (W.setCell ⟨m, 1, none⟩ (.int .i64 ((many : Int) + 1))).heap.size = W.heap.size := by simp
         have hsz : W.heap.size + 2 ≤ w3.heap.size := hzz.out ▸ hF3.out.size
         have hO3' : Ow 62 sSpan w3 (fun k => (W.setCell ⟨m, 1, none⟩ (.int .i64 ((many : Int) + 1))).heap.size + 1 ≤ k) (.slice a3 ln c3) spans := by rw [hz1]; simpa using hO3.out
         refine ret_mono (mput_callsF B m (many + 1) P pv _ [oneI neg spans] _ (hM1.out.keep (by rw [hz1]; exact hB3.alloc (by omega) _)) (set_row hM1.out (by omega) hO3') (by omega) (by omega)) ?_
         intro v5 w5 hQ
         obtain rfl := hQ.q.v
         have hS5 := Kp.mk (show w5.cell? ⟨W.heap.size, 1, none⟩ = some (.bool neg) ∧ w5.cell? ⟨W.heap.size, 2, none⟩ = some (.slice oa ln oc) from by
           have hq1 := hF3.out.cell hbox.out.1 (by rw [hzz.out]; show W.heap.size < _; omega) (by simp [Value.ownBlock])
           have hq2 := hF3.out.cell hbox.out.2 (by rw [hzz.out]; show W.heap.size < _; omega) (by simp [Value.ownBlock])
           have hfa := ((Fr.refl (fun _ => False) w3).alloc (.cells #[.int .i64 1, .int .i64 0, .int .i64 0, .bool neg, .slice a3 ln c3] 24))
           have hnn : ¬ (W.heap.size = m ∨ pv.ownBlock = some W.heap.size) := fun e => e.elim (fun e => by omega) hpv.out
           exact ⟨hQ.far.cell (hfa.cell hq1 (by show W.heap.size < _; omega) (fun e => e)) (by simp; omega) hnn, hQ.far.cell (hfa.cell hq2 (by show W.heap.size < _; omega) (fun e => e)) (by simp; omega) hnn⟩)
         replace hQ := Kp.mk hQ
         replace hB3 := Kp.mk hB3
         clear hO3' hz1))
  go_wp2_with fail
  go_end0
  have hW1 : Fr (MM B m) W (W.setCell ⟨m, 1, none⟩ (.int .i64 ((many : Int) + 1))) := (Fr.refl _ _).setCell (p := ⟨m, 1, none⟩) (fun _ => .inl rfl) _
  exact ⟨rfl, hQ.out.q.st, (hW1.trans (Fr.of_below ((hB3.out.alloc (by omega) _).mono (by simp))) fun _ _ e => e.elim).trans hQ.out.q.fr fun _ _ e => e⟩
end Go.Proofs.Ytbcifjjnnbefkaa
