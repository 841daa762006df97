/-
  From the given row to a walk's contract: a law that answers true and turns nothing that was there. Conditions: none. And: what the arguments read as.
-/
import Derived.Test.YtbcifjjnnbefkaaRows
import Derived.Test.YtbcifjjnnbefkaaLawHas
import Derived.Carry
import Derived.JoinedCond
namespace Go.Proofs.Ytbcifjjnnbefkaa
open Go.ChangeShapes Go.WideShapes Go.ChangeAt Go.RowKit

theorem own_knob : ownKnob Try.prog.godebug = none := by kernel_rfl
theorem laid_out : laidOutB Try.prog = true := by kernel_rfl

theorem trodAll_stays {H : Type} {enc : TypeId × Value → H} {P : Program} (hl : laidOutB P = true) {W W' : World} (hb : Below W.heap.size W W') : ∀ {ts : List TypeId} {vs : List Value} {ds : List (DataW H)} {ps : List MemPlace}, (ts.all fun t => P.readableRec t && decide (t < P.types.size)) = true →
    DataW.TrodAll enc P W 0 (fun _ => true) true ts vs ds ps → (∀ x ∈ ps, x.block < W.heap.size) → DataW.TrodAll enc P W' 0 (fun b => decide (b < W.heap.size)) true ts vs ds ps
  | [], [], [], _, _, h, _ => h
  | t :: ts, v :: vs, d :: ds, ps, hr, ⟨p, q, h1, h2, e⟩, hlt => by
    simp only [List.all_cons, Bool.and_eq_true, decide_eq_true_eq] at hr
    subst e
    exact ⟨p, q, Below.trod hl hr.1.1 hr.1.2 h1 hb fun x hx => hlt x (List.mem_append_left _ hx), trodAll_stays hl hb hr.2 h2 fun x hx => hlt x (List.mem_append_right _ hx), rfl⟩
  | [], _ :: _, _, _, _, h, _ => h.elim
  | [], [], _ :: _, _, _, h, _ => h.elim
  | _ :: _, [], _, _, _, h, _ => h.elim
  | _ :: _, _ :: _, [], _, _, h, _ => h.elim

/-- A law's call, whatever its parameters: what the row asks of it. -/
theorem law_contract {f : FuncId} {fn : Func} {s : ChangeSpec} {H : Type} {enc : TypeId × Value → H} {W : World} {args : Array Value} {ds gs : List (DataW H)} {before : List MemPlace} {B : TypeId} (hB : Try.prog.underlying B = some .bool)
    (hW : DataW.Whole enc Try.prog fn.params.toList s.vars false W args.toList ds gs before) (hv : s.vars = []) (hres : fn.resultTypes = #[B]) (hfn : s.fn H ds = { results := [.lit (.bool true)], args := ds }) (hr : (fn.params.toList.all fun t => Try.prog.readableRec t && decide (t < Try.prog.types.size)) = true)
    (hc : Calls Try.prog f args W (Ret (TrueP W))) : Calls Try.prog f args W fun e W' => ∃ v, e = .returned v ∧ s.post enc Try.prog fn false true false false W args v W' := by
  have hW' := hW
  obtain ⟨p, q, hA0, hV, rfl, _, _⟩ := hW
  rw [hv] at hV
  obtain ⟨rfl, rfl⟩ := trodVars_none hV
  simp only [List.append_nil] at hW'
  refine ret_mono hc ?_
  rintro v W' ⟨rfl, hBl⟩
  refine ⟨_, rfl, ds, [], p, [], p, [], hW', ?_, ?_, ?_, hBl.frame _, fun h => by cases h⟩
  · rw [hres, List.append_nil, hfn]
    exact trodAll_mk1 (shut_bool hB _)
  · rw [List.append_nil, hfn]
    exact trodAll_stays laid_out hBl hr hA0 fun x hx => by simpa using hW'.lt x hx
  · rw [hv, List.append_nil, hfn]
    exact rfl

set_option maxRecDepth 100000 in
theorem opens_span : Opens Try.prog 62 sSpan := fun {H enc w sp held fuel cs y} h => by
  obtain ⟨xs, n, rfl, _, hl, hx, hf⟩ := DataW.trod_struct Try.underlying62 h
  have hl : cs.length = 2 := hl.trans (by kernel_rfl)
  have hx : xs.length = 2 := hx
  obtain ⟨lo, hlo⟩ := opens_field (opens_byte Try.underlying5) (i := 0) (m := 1) (by omega) (by kernel_rfl) (hf 0 _ rfl)
  obtain ⟨hi, hhi⟩ := opens_field (opens_byte Try.underlying5) (i := 1) (m := 1) (by omega) (by kernel_rfl) (hf 1 _ rfl)
  match cs, hl with
  | [a, b], _ =>
    have e1 : [a] = _ := hlo.1
    have e2 : [b] = _ := hhi.1
    cases e1
    cases e2
    exact ⟨⟨lo, hi⟩, rfl⟩
set_option maxRecDepth 100000 in
theorem opens_inst : Opens Try.prog 24 sInst := fun {H enc w sp held fuel cs y} h => by
  obtain ⟨xs, n, rfl, _, hl, hx, hf⟩ := DataW.trod_struct Try.underlying24 h
  have hl : cs.length = 5 := hl.trans (by kernel_rfl)
  have hx : xs.length = 5 := hx
  obtain ⟨k, hk⟩ := opens_field (opens_int Try.underlying3) (i := 0) (m := 1) (by omega) (by kernel_rfl) (hf 0 _ rfl)
  obtain ⟨x, hx1⟩ := opens_field (opens_int Try.underlying3) (i := 1) (m := 1) (by omega) (by kernel_rfl) (hf 1 _ rfl)
  obtain ⟨y, hy⟩ := opens_field (opens_int Try.underlying3) (i := 2) (m := 1) (by omega) (by kernel_rfl) (hf 2 _ rfl)
  obtain ⟨neg, hn⟩ := opens_field (opens_bool Try.underlying4) (i := 3) (m := 1) (by omega) (by kernel_rfl) (hf 3 _ rfl)
  obtain ⟨spans, hs⟩ := opens_field (opens_slice Try.underlying22 (by kernel_rfl) (by decide) opens_span) (i := 4) (m := 1) (by omega) (by kernel_rfl) (hf 4 _ rfl)
  match cs, hl with
  | [a, b, c, d, e], _ =>
    obtain ⟨e1, h1⟩ : [a] = _ ∧ _ := hk
    obtain ⟨e2, h2⟩ : [b] = _ ∧ _ := hx1
    obtain ⟨e3, h3⟩ : [c] = _ ∧ _ := hy
    obtain ⟨e4, _⟩ : [d] = _ ∧ _ := hn
    obtain ⟨sa, sc, e5, hS⟩ : ∃ a cap, [e] = _ ∧ _ := hs
    cases e1; cases e2; cases e3; cases e4; cases e5
    exact ⟨⟨k, x, y, neg, spans⟩, sa, sc, rfl, h1, h2, h3, hS⟩
end Go.Proofs.Ytbcifjjnnbefkaa
