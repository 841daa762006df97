/-
  Maps that a call writes out as a literal, and asks: what an insert and a lookup do. Conditions: integer keys.
-/
import Derived.Test.YtbcifjjnnbefkaaBase
namespace Go.Proofs.Ytbcifjjnnbefkaa
open Go.RowKit

/-- The entry with a key, among written-out entries. -/
def findE (k : IntKind) (n : Int) : List MapEntry → Option Value
  | [] => none
  | e :: l => match e.key with
    | .int k' m => if k = k' ∧ n = m then some e.val else findE k n l
    | _ => none
def intKeys (k : IntKind) (l : List MapEntry) : Prop := ∀ e ∈ l, ∃ m, e.key = .int k m
theorem findNow_int {K : TypeDesc} {k : IntKind} {n : Int} (hK : K = .int k) : ∀ (l : List MapEntry) (i : Nat), intKeys k l → ∃ r, Instr.findNow K (.int k n) l i = some r ∧ (r.map (·.2)) = findE k n l
  | [], _, _ => ⟨none, rfl, rfl⟩
  | e :: l, i, h => by
    obtain ⟨m, hm⟩ := h e List.mem_cons_self
    subst hK
    unfold Instr.findNow findE
    rw [hm]
    by_cases hnm : n = m
    · subst hnm
      exact ⟨some (i, e.val), by simp [Instr.sameNow], by simp⟩
    · obtain ⟨r, h1, h2⟩ := findNow_int (n := n) rfl l (i + 1) fun e he => h e (List.mem_cons_of_mem _ he)
      have hb : (n == m) = false := beq_eq_false_iff_ne.2 hnm
      exact ⟨r, by simp [Instr.sameNow, hb, h1], by simp [hnm, h2]⟩

theorem run_checkKey {P : Program} {K : TypeId} {k : IntKind} (hK : P.underlying K = some (.int k)) (b : Bool) (n : Nat) (v : Value) (w : World) : (Instr.checkKey b (n + 1) K v).run P w = .ok () w := by
  unfold Instr.checkKey
  rw [Sem.run_bind, run_underlying hK w]
  rfl

theorem run_ins {P : Program} {t K E : TypeId} {k : IntKind} (ht : P.underlying t = some (.map K E)) (hK : P.underlying K = some (.int k)) {w : World} {r : Nat} {es : Array MapEntry} {clock : Nat} (hr : w.heap[r]? = some (.map es clock)) {n : Int} {v : Value} (hk : intKeys k es.toList) (hf : findE k n es.toList = none) :
    (Instr.mapUpdate t (.map (some r)) (.int k n) v).run P w = .ok () { w with heap := w.heap.setIfInBounds r (.map (es.push { key := .int k n, val := v, born := clock }) (clock + 1)) } := by
  obtain ⟨q, h1, h2⟩ := findNow_int (n := n) rfl es.toList 0 hk
  rw [hf] at h2
  have hq : q = none := by cases q with | none => rfl | some x => simp at h2
  subst hq
  unfold Instr.mapUpdate
  rw [Sem.run_bind, run_underlying ht w]
  simp only [Result.andThen_ok]
  rw [Sem.run_bind]
  have hg : (getObj r).run P w = .ok (.map es clock) w := by unfold getObj; simp only [Sem.run, hr]
  rw [hg]
  simp only [Result.andThen_ok]
  rw [Sem.run_bind, run_checkKey hK]
  simp only [Result.andThen_ok]
  have hff : (Instr.findKey K (.int k n) es.toList).run P w = .ok none w := by
    unfold Instr.findKey
    rw [Sem.run_bind, run_underlying hK w]
    simp only [Result.andThen_ok, h1]
    rfl
  rw [Sem.run_bind, hff]
  simp only [Result.andThen_ok]
  unfold setObj
  simp only [Sem.run, hr]

theorem run_look {P : Program} {t K E : TypeId} {k : IntKind} (ht : P.underlying t = some (.map K E)) (hK : P.underlying K = some (.int k)) {z : Value} (hz : ∀ w, (zeroValue E).run P w = .ok z w) {w : World} {r : Nat} {es : Array MapEntry} {clock : Nat} (hr : w.heap[r]? = some (.map es clock)) {n : Int} (ok : Bool) (hk : intKeys k es.toList) :
    (Instr.lookup t (.map (some r)) (.int k n) ok).run P w = .ok (if ok then .tuple #[(findE k n es.toList).getD z, .bool (findE k n es.toList).isSome] else (findE k n es.toList).getD z) w := by
  obtain ⟨q, h1, h2⟩ := findNow_int (n := n) rfl es.toList 0 hk
  unfold Instr.lookup
  rw [Sem.run_bind, run_underlying ht w]
  simp only [Result.andThen_ok]
  have hg : (getObj r).run P w = .ok (.map es clock) w := by unfold getObj; simp only [Sem.run, hr]
  have hff : (Instr.findKey K (.int k n) es.toList).run P w = .ok q w := by
    unfold Instr.findKey
    rw [Sem.run_bind, run_underlying hK w]
    simp only [Result.andThen_ok, h1]
    rfl
  rw [← h2]
  simp only [Sem.run_bind, hg, Result.andThen_ok, Sem.run_pure, run_checkKey hK, hff]
  cases q with
  | none => simp only [Sem.run_bind, hz, Result.andThen_ok, Sem.run_pure, Option.map_none, Option.getD_none, Option.isSome_none]
  | some x => simp only [Sem.run_bind, Result.andThen_ok, Sem.run_pure, Option.map_some, Option.getD_some, Option.isSome_some]
theorem push_set {α : Type} (a : Array α) (x y : α) : (a.push x).setIfInBounds a.size y = a.push y := by
  apply Array.ext
  · simp
  · intro i h1 h2
    simp at h1
    rw [Array.getElem_setIfInBounds, Array.getElem_push]
    · split
      · rename_i e; subst e; simp
      · rw [Array.getElem_push]; split
        · rfl
        · exfalso; omega
    · simpa using h1
theorem run_ins_new {P : Program} {t K E : TypeId} {k : IntKind} (ht : P.underlying t = some (.map K E)) (hK : P.underlying K = some (.int k)) {W : World} {es : Array MapEntry} {clock : Nat} {n : Int} {v : Value} (hk : intKeys k es.toList) (hf : findE k n es.toList = none) (D : Nat) :
    (Instr.mapUpdate t (.map (some W.heap.size)) (.int k n) v).run P { W.alloc (.map es clock) with drawn := D } = .ok () { W.alloc (.map (es.push { key := .int k n, val := v, born := clock }) (clock + 1)) with drawn := D } := by
  have h := run_ins (P := P) ht hK (w := { W.alloc (.map es clock) with drawn := D }) (r := W.heap.size) (v := v) (heap_alloc_new W _) hk hf
  rw [h]
  exact congrArg (fun hp : Array Obj => (Result.ok () ⟨hp, W.tape, D, W.os, W.output⟩ : Result Unit)) (push_set _ _ _)
theorem run_look_new {P : Program} {t K E : TypeId} {k : IntKind} (ht : P.underlying t = some (.map K E)) (hK : P.underlying K = some (.int k)) {z : Value} (hz : ∀ w, (zeroValue E).run P w = .ok z w) {W : World} {es : Array MapEntry} {clock : Nat} {n : Int} (ok : Bool) (hk : intKeys k es.toList) (D : Nat) :
    (Instr.lookup t (.map (some W.heap.size)) (.int k n) ok).run P { W.alloc (.map es clock) with drawn := D } = .ok (if ok then .tuple #[(findE k n es.toList).getD z, .bool (findE k n es.toList).isSome] else (findE k n es.toList).getD z) { W.alloc (.map es clock) with drawn := D } :=
  run_look ht hK hz (w := { W.alloc (.map es clock) with drawn := D }) (heap_alloc_new W _) ok hk
theorem intKeys_nil (k : IntKind) : intKeys k [] := fun _ h => by cases h
theorem intKeys_cons {k : IntKind} {n : Int} {v : Value} {b : Nat} {l : List MapEntry} (h : intKeys k l) : intKeys k ({ key := .int k n, val := v, born := b } :: l) := fun e he => by
  rcases List.mem_cons.1 he with rfl | he
  · exact ⟨n, rfl⟩
  · exact h e he
end Go.Proofs.Ytbcifjjnnbefkaa
