/-
  Package nfa, the maker's methods: none, cat, star, plus, opt, alt. Conditions: the maker's block holds its fields; the pile holds what is taken.
-/
import Derived.Test.YtbcifjjnnbefkaaNfa2
import Derived.Laws.OwnMore
namespace Go.Proofs.Ytbcifjjnnbefkaa
open Go.RowKit

/-- APPEND of a slice that is read, nil or not. -/
theorem wpl_appendS {α : Type} {P : Program} {w : World} {ops : Array Oper} {rest : List Oper} {o : Oper} {a : Act} {Q : Exit → Act → World → Prop} {E : TypeId} {s : Shape α} {sx x : Operand} {t : TypeId} {bytes : Nat} (T : SlTy P t E s bytes) (hgd : o.guard = none)
    (ho : o.op = .call { callee := .builtin .append, args := #[sx, x], argTypes := #[t, t] })
    {A : Nat → Prop} {v : Value} {l : List α} (hs : a.eval sx = v) (hown : Ow E s w A v l)
    {sa : Option Addr} {c : Nat} {l2 : List α} (hx : a.eval x = .slice sa l2.length c) (hS : Sl s w (fun k => A k ∧ v.ownBlock ≠ some k) sa c l2)
    (hbytes : (l.length + l2.length) * bytes ≤ 140737488355328) (hA : ∀ k, w.heap.size ≤ k → A k)
    (h : ∀ v' w', Ow E s w' A v' (l ++ l2) → Fr (fun k => v.ownBlock = some k) w w' → (v'.ownBlock = v.ownBlock ∨ ∃ g, v'.ownBlock = some g ∧ w.heap.size ≤ g) → wpList P ops Q rest (a.put o.dst v') w') : wpList P ops Q (o :: rest) a w := by
  cases sa with
  | none =>
    have hc := hS.nil rfl
    have hl := hS.le
    subst hc
    have h2 : l2 = [] := List.eq_nil_of_length_eq_zero (by omega)
    subst h2
    refine wpList_plain hgd fun _ hK => ?_
    obtain ⟨i, z, hi, hz, hsize, hby, hzs⟩ := T.hi
    have hr : (Builtin.append_ #[t, t] o.type #[v, .slice none 0 0]).run P w = .ok v w := by
      obtain ⟨_, xs, hrow, _⟩ := hown
      exact run_append_owned_none w 0 t o.type E i s.n T.ht hi v l.length xs hrow
    unfold Oper.wp execOp
    simp only [ho, resolve, invoke, builtin, Sem.run_bind, Sem.run_pure, Result.andThen_ok, List.map_toArray, List.map_cons, List.map_nil, hs, hx, List.length_nil, hr]
    exact hK _ _ (h v w (by simpa using hown) (Fr.refl _ _) (.inl rfl))
  | some ad =>
    obtain ⟨cs, hR, hcell⟩ := hS.rows
    refine wpl_append T hgd ho hs hown hx rfl hR (fun j u hj => ?_) hbytes hA h
    have hlt := (List.getElem?_eq_some_iff.1 hj).1
    rw [hR.length] at hlt
    obtain ⟨b, off, e, _, _⟩ := hS.at_ (by
      rcases Nat.eq_zero_or_pos l2.length with h0 | h0
      · rw [h0] at hlt; simp at hlt
      · exact h0)
    cases e
    rw [show (⟨b, off, none⟩ : Addr).add j = ⟨b, off + j, none⟩ by unfold Addr.add; split <;> simp_all]
    exact (hcell b off rfl j hlt).trans hj

theorem MkP.keep {B m many : Nat} {pile : List (List Inst)} {pv : Value} {w w' : World} (h : MkP B m many pile pv w) (hb : Below w.heap.size w w') : MkP B m many pile pv w' :=
  ⟨Nat.le_trans h.hz hb.size, (hb.block m (blkL h.hb)).trans h.hb, h.ow.mono fun k hk hl => ⟨hk, hb.block k hl⟩⟩
theorem MkP.add {B m many many' : Nat} {pile : List (List Inst)} {pv : Value} {w : World} {n : Int} (h : MkP B m many pile pv w) (hn : n = many') : MkP B m many' pile pv (w.setCell ⟨m, 1, none⟩ (.int .i64 n)) := by
  subst hn
  exact ⟨by simpa using h.hz, blkSet h.hb _, h.ow.mono fun k hk hl => ⟨hk, Below.heap_setCell _ _ _ _ hk.2⟩⟩
theorem RowP.fr {B m : Nat} {pv v : Value} {l : List Inst} {w w' : World} (h : RowP B m pv v l w) (hF : Fr (fun k => k = m) w w') : RowP B m pv v l w' :=
  Ow.mono (hF.keep fun _ _ hk => hk.1.2) h
theorem RowP.keep {B m : Nat} {pv v : Value} {l : List Inst} {w w' : World} (h : RowP B m pv v l w) (hb : Below w.heap.size w w') : RowP B m pv v l w' :=
  Ow.mono (fun k hk hl => ⟨hk, hb.block k hl⟩) h
theorem RowP.pv {B m : Nat} {pv pv' v : Value} {l : List Inst} {w : World} (h : RowP B m pv v l w) (e : pv'.ownBlock = pv.ownBlock) : RowP B m pv' v l w := by
  unfold RowP; rw [e]; exact h

/-- A row that is made, above the world w2: nothing below its size is turned. -/
structure Bld (B m : Nat) (pv : Value) (w2 : World) (v : Value) (l : List Inst) (w : World) : Prop where
  row : RowP B m pv v l w
  own : ∀ k, v.ownBlock = some k → w2.heap.size ≤ k
  fr : Below w2.heap.size w2 w
theorem MkP.above {B m many : Nat} {pile : List (List Inst)} {pv : Value} {w : World} (h : MkP B m many pile pv w) : ∀ k, w.heap.size ≤ k → (B ≤ k ∧ k ≠ m) ∧ pv.ownBlock ≠ some k := fun k hk => by
  have h1 := blkL h.hb
  have h2 := h.hz
  exact ⟨⟨by omega, by omega⟩, fun e => by have := h.ow.lt e; omega⟩
theorem MkP.lit {B m many : Nat} {pile : List (List Inst)} {pv : Value} {w : World} (h : MkP B m many pile pv w) {c : Array Value} {l : List Inst} (hR : Rows sInst w (fun _ => False) c.toList l) (hm : l.length ≤ maxLen) :
    Bld B m pv w (.slice (some ⟨w.heap.size, 0, none⟩) l.length l.length) l (w.alloc (.cells c 24)) :=
  ⟨Ow.made (h.above _ (Nat.le_refl _)) (hR.mono fun _ e _ => e.elim) hm, fun k e => by simp [Value.ownBlock] at e; omega, (Below.refl _ _).alloc (Nat.le_refl _) _⟩
theorem MkP.lit2 {B m many n g : Nat} {pile : List (List Inst)} {pv : Value} {w : World} (h : MkP B m many pile pv w) (hg : w.heap.size = g) {c : Array Value} {l : List Inst} (hn : l.length = n) (hR : Rows sInst w (fun _ => False) c.toList l) (hm : l.length ≤ maxLen) :
    Bld B m pv w (.slice (some ⟨g, 0, none⟩) n n) l (w.alloc (.cells c 24)) := by
  subst hg; subst hn
  exact h.lit hR hm
theorem rows_inst (w : World) (kind x y : Int) (h1 : i64ok kind) (h2 : i64ok x) (h3 : i64ok y) : sInst.R w (fun _ => False) [.int .i64 kind, .int .i64 x, .int .i64 y, .bool false, .slice none 0 0] ⟨kind, x, y, false, []⟩ :=
  ⟨none, 0, rfl, h1, h2, h3, Sl.nil_ _ _ _⟩
/-- A row's elements are appended. -/
theorem wpl_bldS {B m many : Nat} {pile : List (List Inst)} {pv rv v : Value} {w2 w : World} {l r : List Inst} {ops : Array Oper} {rest : List Oper} {o : Oper} {a : Act} {Q : Exit → Act → World → Prop} {sx x : Operand} (hgd : o.guard = none)
    (ho : o.op = .call { callee := .builtin .append, args := #[sx, x], argTypes := #[28, 28] }) (hM : MkP B m many pile pv w2) (hb : Bld B m pv w2 v l w) (hr : RowP B m pv rv r w2) (hs : a.eval sx = v) (hx : a.eval x = rv)
    (hbytes : (l.length + r.length) * 56 ≤ 140737488355328)
    (h : ∀ v' w', Bld B m pv w2 v' (l ++ r) w' → wpList Try.prog ops Q rest (a.put o.dst v') w') : wpList Try.prog ops Q (o :: rest) a w := by
  obtain ⟨sa, c, e, hS, _⟩ := hr.val
  subst e
  refine wpl_appendS ty_inst hgd ho hs hb.row hx (hS.mono fun k hk hl => ⟨⟨hk, fun e => ?_⟩, hb.fr.block k hl⟩) hbytes (fun k hk => hM.above k (Nat.le_trans hb.fr.size hk)) fun v' w' hO hF hd => h v' w' ⟨hO, fun k e => ?_, hb.fr.trans (hF.below hb.fr.size fun k hk e => ?_)⟩
  · have := hb.own k e; omega
  · rcases hd with e' | ⟨g, e', hg⟩
    · exact hb.own k (e' ▸ e)
    · rw [e'] at e; cases e; exact Nat.le_trans hb.fr.size hg
  · have := hb.own k e; omega
/-- An instruction that was just built is appended. -/
theorem wpl_bld1 {B m many : Nat} {pile : List (List Inst)} {pv v : Value} {w2 w wb : World} {l : List Inst} {y : Inst} {c : Array Value} {g : Nat} {ops : Array Oper} {rest : List Oper} {o : Oper} {a : Act} {Q : Exit → Act → World → Prop} {sx x : Operand} (hgd : o.guard = none)
    (ho : o.op = .call { callee := .builtin .append, args := #[sx, x], argTypes := #[28, 28] }) (hM : MkP B m many pile pv w2) (hb : Bld B m pv w2 v l w) (hs : a.eval sx = v) (hx : a.eval x = .slice (some ⟨g, 0, none⟩) 1 1) (hR : sInst.R w (fun _ => False) c.toList y)
    (hg : wb.heap[g]? = some (.cells c 24)) (hwb : Fr (fun _ => False) w wb)
    (hbytes : (l.length + 1) * 56 ≤ 140737488355328)
    (h : ∀ v' w', Bld B m pv w2 v' (l ++ [y]) w' → wpList Try.prog ops Q rest (a.put o.dst v') w') : wpList Try.prog ops Q (o :: rest) a wb := by
  refine wpl_append1 (w := w) (y := y) ty_inst hgd ho hs hb.row hx (sInst.mono (fun _ e _ => e.elim) hR) hg hwb hbytes (fun k hk => hM.above k (Nat.le_trans hb.fr.size hk)) fun v' w' hO hF hd => h v' w' ⟨hO, fun k e => ?_, hb.fr.trans (hF.below hb.fr.size fun k hk e => ?_)⟩
  · rcases hd with e' | ⟨g, e', hg⟩
    · exact hb.own k (e' ▸ e)
    · rw [e'] at e; cases e; exact Nat.le_trans hb.fr.size hg
  · have := hb.own k e; omega

def twoI (x y : Int) : Inst := ⟨2, x, y, false, []⟩
def goI (x : Int) : Inst := ⟨3, x, 0, false, []⟩

theorem mnone_calls (B m many : Nat) (P : List (List Inst)) (pv : Value) (oc : Array Value) (W : World) (h : MkP B m many P pv W) (hm : many ≤ 100000) (hn : P.length ≤ 100000) (hoc : oc.size = 3) :
    Calls Try.prog 41 #[.pointer (some ⟨m, 0, none⟩), .agg oc] W (Ret (MkQ W B m many (P ++ [[]]))) := by
  obtain ⟨oc⟩ := oc
  match oc, hoc with
  | [c0, c1, c2], _ =>
    replace h := Kp.mk h
    go_enter Try.func41, Try.ntmps41
    go_wp2_with fail
    have hA : Below W.heap.size W (W.alloc (Obj.cells #[c0, c1, c2] 79)) := (Below.refl _ _).alloc (Nat.le_refl _) _
    have h1 := h.out.keep hA
    refine ret_mono (mput_calls B m many P pv (.slice none 0 0) [] _ h1 (Ow.nil _ _ _ _) hm hn) ?_
    intro v w1 hQ
    obtain rfl := hQ.v
    have hE : putM many [] = [] := by unfold putM; split <;> rfl
    rw [hE] at hQ
    have hz := h.out.hz
    replace hQ := Kp.mk hQ
    go_wp2_with fail
    go_end0
    exact ⟨rfl, hQ.out.st, ((Fr.refl (MM B m) W).alloc _).trans hQ.out.fr fun _ _ e => e⟩
end Go.Proofs.Ytbcifjjnnbefkaa
