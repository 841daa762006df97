/-
  Operations that leave the world alone: a predicate on the model's terms, and what it gives of a run in another world. Conditions: none; every lemma is over any program.
-/
import Derived.Test.YtbcifjjnnbefkaaBase
import Derived.Orders
namespace Go.Proofs.Ytbcifjjnnbefkaa

/-- No block but a map's has turned, and none has gone. -/
structure Ext (w w' : World) : Prop where
  size : w.heap.size ≤ w'.heap.size
  block : ∀ (b : Nat) (o : Obj), w.heap[b]? = some o → (∀ es c, o ≠ Obj.map es c) → w'.heap[b]? = some o
theorem Ext.refl (w : World) : Ext w w := ⟨Nat.le_refl _, fun _ _ h _ => h⟩
theorem Ext.trans {a b c : World} (h : Ext a b) (h' : Ext b c) : Ext a c := ⟨Nat.le_trans h.size h'.size, fun x o ho hm => h'.block x o (h.block x o ho hm) hm⟩
theorem Ext.alloc (w : World) (o : Obj) : Ext w { w with heap := w.heap.push o } :=
  ⟨by simp, fun b o' h _ => by
    have hb : b < w.heap.size := (Array.getElem?_eq_some_iff.1 h).1
    show (w.heap.push o)[b]? = _
    rw [Array.getElem?_push, if_neg (by omega)]; exact h⟩

/-- It never comes to an answer. -/
def dead {α : Type} (P : Program) : Sem α → Prop
  | .pure _ => False
  | .load _ _ k => ∀ v, dead P (k v)
  | .store _ _ _ k => dead P k
  | .new _ k => ∀ v, dead P (k v)
  | .shape _ k => ∀ v, dead P (k v)
  | .freeze _ _ k => dead P k
  | .frozen _ k => ∀ v, dead P (k v)
  | .getObj _ k => ∀ v, dead P (k v)
  | .setObj _ _ k => dead P k
  | .choose _ k => ∀ v, dead P (k v)
  | .sys _ k => ∀ v, dead P (k v)
  | .program k => dead P (k P)
  | .mark _ k => dead P k
  | .halt _ => True
/-- Where it comes to an answer (one of 'leaf'), it has looked at nothing but the program (ld: and cells). -/
def quiet {α : Type} (P : Program) (ld : Bool) (leaf : α → Prop) : Sem α → Prop
  | .pure a => leaf a
  | .load _ _ k => (ld = true ∧ ∀ v, quiet P ld leaf (k v)) ∨ ∀ v, dead P (k v)
  | .program k => quiet P ld leaf (k P)
  | .mark _ k => quiet P ld leaf k
  | s => dead P s

theorem dead_run {α : Type} {P : Program} : ∀ (s : Sem α) (w : World), dead P s → ∀ a w', s.run P w ≠ .ok a w' := by
  intro s
  induction s with
  | pure a => intro w h; exact h.elim
  | load m a k ih =>
    intro w h x w' e
    simp only [Sem.run] at e
    split at e
    · exact ih _ w (h _) _ _ e
    · split at e
      · exact ih _ w (h _) _ _ e
      · cases e
  | store m a v k ih =>
    intro w h x w' e
    cases v <;> simp only [Sem.run] at e <;> first | (cases e; done) | (
      split at e
      · split at e
        · cases e
        · exact ih _ h _ _ e
      · split at e
        · exact ih _ h _ _ e
        · cases e)
  | new o k ih => intro w h x w' e; exact ih _ _ (h _) _ _ e
  | shape r k ih => intro w h x w' e; exact ih _ _ (h _) _ _ e
  | freeze a n k ih => intro w h x w' e; exact ih _ h _ _ e
  | frozen a k ih => intro w h x w' e; exact ih _ _ (h _) _ _ e
  | getObj r k ih =>
    intro w h x w' e
    simp only [Sem.run] at e
    split at e
    · cases e
    · exact ih _ _ (h _) _ _ e
    · cases e
  | setObj r o k ih =>
    intro w h x w' e
    simp only [Sem.run] at e
    split at e
    · cases e
    · exact ih _ h _ _ e
    · cases e
  | choose q k ih =>
    intro w h x w' e
    simp only [Sem.run] at e
    split at e
    · exact ih _ _ (h _) _ _ e
    · exact ih _ _ (h _) _ _ e
  | sys c k ih => intro w h x w' e; exact ih _ _ (h _) _ _ e
  | program k ih => intro w h x w' e; exact ih _ _ h _ _ e
  | mark m k ih => intro w h x w' e; exact ih _ h _ _ e
  | halt h => intro w _ x w' e; cases e

theorem dead_bind {α β : Type} {P : Program} (f : α → Sem β) : ∀ (s : Sem α), dead P s → dead P (s.bind f) := by
  intro s
  induction s with
  | pure a => intro h; exact h.elim
  | halt h => intro _; trivial
  | load m a k ih => intro h v; exact ih _ (h v)
  | store m a v k ih => intro h; exact ih h
  | new o k ih => intro h v; exact ih _ (h v)
  | shape r k ih => intro h v; exact ih _ (h v)
  | freeze a n k ih => intro h; exact ih h
  | frozen a k ih => intro h v; exact ih _ (h v)
  | getObj r k ih => intro h v; exact ih _ (h v)
  | setObj r o k ih => intro h; exact ih h
  | choose q k ih => intro h v; exact ih _ (h v)
  | sys c k ih => intro h v; exact ih _ (h v)
  | program k ih => intro h; exact ih _ h
  | mark m k ih => intro h; exact ih h
theorem dead_then {α β : Type} {P : Program} (f : α → Sem β) (hf : ∀ a, dead P (f a)) : ∀ (s : Sem α), dead P (s.bind f) := by
  intro s
  induction s with
  | pure a => exact hf a
  | halt h => trivial
  | load m a k ih => intro v; exact ih _
  | store m a v k ih => exact ih
  | new o k ih => intro v; exact ih _
  | shape r k ih => intro v; exact ih _
  | freeze a n k ih => exact ih
  | frozen a k ih => intro v; exact ih _
  | getObj r k ih => intro v; exact ih _
  | setObj r o k ih => exact ih
  | choose q k ih => intro v; exact ih _
  | sys c k ih => intro v; exact ih _
  | program k ih => exact ih _
  | mark m k ih => exact ih
theorem quiet_of_dead {α : Type} {P : Program} {ld : Bool} {leaf : α → Prop} : ∀ (s : Sem α), dead P s → quiet P ld leaf s := by
  intro s
  induction s with
  | pure a => intro h; exact h.elim
  | load m a k ih => intro h; exact .inr h
  | program k ih => intro h; exact ih _ h
  | mark m k ih => intro h; exact ih h
  | _ => intro h; exact h
theorem quiet_bind {α β : Type} {P : Program} {ld : Bool} {leaf : α → Prop} {leaf' : β → Prop} (f : α → Sem β) (hf : ∀ a, leaf a → quiet P ld leaf' (f a)) : ∀ (s : Sem α), quiet P ld leaf s → quiet P ld leaf' (s.bind f) := by
  intro s
  induction s with
  | pure a => intro h; exact hf a h
  | load m a k ih =>
    intro h
    rcases h with ⟨hl, h⟩ | h
    · exact .inl ⟨hl, fun v => ih v (h v)⟩
    · exact .inr fun v => dead_bind f _ (h v)
  | program k ih => intro h; exact ih _ h
  | mark m k ih => intro h; exact ih h
  | halt h => intro _; trivial
  | store m a v k ih => intro h; exact dead_bind f (.store m a v k) h
  | new o k ih => intro h; exact dead_bind f (.new o k) h
  | shape r k ih => intro h; exact dead_bind f (.shape r k) h
  | freeze a n k ih => intro h; exact dead_bind f (.freeze a n k) h
  | frozen a k ih => intro h; exact dead_bind f (.frozen a k) h
  | getObj r k ih => intro h; exact dead_bind f (.getObj r k) h
  | setObj r o k ih => intro h; exact dead_bind f (.setObj r o k) h
  | choose q k ih => intro h; exact dead_bind f (.choose q k) h
  | sys c k ih => intro h; exact dead_bind f (.sys c k) h

theorem seen_cells {P : Program} {w : World} {at_ k : Addr} {u : TypeId} {b : Bool} {x} (h : w.seen P at_ u k b = .ok x) : ∃ c e f, w.heap[at_.block]? = some (.cells c e f) := by
  unfold World.seen at h
  have thr : ∀ {α : Type} (s : String), (MonadExcept.throw s : Except String α) = .error s := fun _ => rfl
  simp only [bind, Except.bind, pure, Except.pure, thr] at h
  cases ho : w.heap[at_.block]? with
  | none =>
    rw [ho] at h
    exfalso
    (repeat' split at h) <;> first | (cases h; done) | contradiction | (exfalso; simp_all; done)
  | some o =>
    cases o with
    | cells c e f => exact ⟨c, e, f, rfl⟩
    | _ =>
      rw [ho] at h
      exfalso
      (repeat' split at h) <;> first | (cases h; done) | contradiction | (exfalso; simp_all; done)
theorem viewLoad_ext {P : Program} {w w' : World} {at_ a : Addr} {u : TypeId} {at' : Bool} (hx : Ext w w') {r : Value × List Addr} (h : w.viewLoad P at_ u a at' = .ok r) : w'.viewLoad P at_ u a at' = .ok r := by
  have hs : ∃ x, w.seen P at_ u a at' = .ok x := by
    unfold World.viewLoad at h
    cases hs : w.seen P at_ u a at' with
    | ok x => exact ⟨x, rfl⟩
    | error e => rw [hs] at h; cases h
  obtain ⟨x, hs⟩ := hs
  obtain ⟨c, e, f, ho⟩ := seen_cells hs
  have e : w'.heap[at_.block]? = w.heap[at_.block]? := by rw [ho]; exact hx.block _ _ ho (by intro _ _ e; cases e)
  have : w'.viewLoad P at_ u a at' = w.viewLoad P at_ u a at' := by unfold World.viewLoad World.seen; rw [e]
  rw [this]; exact h

theorem quiet_run {α : Type} {P : Program} {leaf : α → Prop} : ∀ (s : Sem α) (w : World), quiet P true leaf s → ∀ a w', s.run P w = .ok a w' → w' = w ∧ leaf a ∧ ∀ w2, Ext w w2 → s.run P w2 = .ok a w2 := by
  intro s
  induction s with
  | pure a => intro w h x w' e; cases e; exact ⟨rfl, h, fun _ _ => rfl⟩
  | load m a k ih =>
    intro w h x w' e
    rcases h with ⟨_, h⟩ | h
    · simp only [Sem.run] at e ⊢
      split at e
      · rename_i v hv
        obtain ⟨h1, h2, h3⟩ := ih _ w (h _) _ _ e
        refine ⟨h1, h2, fun w2 hx => ?_⟩
        have hc : w2.cell? a = some v := by
          unfold World.cell? at hv ⊢
          cases ho : w.heap[a.block]? with
          | none => rw [ho] at hv; cases hv
          | some o =>
            cases o with
            | cells c e f => rw [hx.block _ _ ho (by intro _ _ e; cases e)]; rw [ho] at hv; exact hv
            | _ => rw [ho] at hv; cases hv
        rw [hc]; exact h3 w2 hx
      · rename_i hv
        split at e
        · rename_i v t hf
          obtain ⟨h1, h2, h3⟩ := ih _ w (h _) _ _ e
          refine ⟨h1, h2, fun w2 hx => ?_⟩
          unfold World.farLoad at hf
          cases ho : w.heap[a.block]? with
          | none => rw [ho] at hf; cases hf
          | some o =>
            cases o with
            | view at_ u =>
              have ho2 := hx.block _ _ ho (by intro _ _ e; cases e)
              have hc : w2.cell? a = none := by unfold World.cell?; rw [ho2]
              rw [hc]
              unfold World.farLoad
              rw [ho2]
              rw [ho] at hf
              simp only at hf ⊢
              cases hvl : w.viewLoad P at_ u a (m == .atomic) with
              | error why => rw [hvl] at hf; cases hf
              | ok r =>
                rw [hvl] at hf
                rw [viewLoad_ext hx hvl]
                cases hf
                exact h3 w2 hx
            | _ => rw [ho] at hf; cases hf
        · cases e
    · exact absurd e (dead_run (.load m a k) w h _ _)
  | program k ih => intro w h x w' e; exact ih _ w h _ _ e
  | mark m k ih => intro w h x w' e; exact ih w h _ _ e
  | halt h => intro w _ x w' e; cases e
  | store m a v k ih => intro w h x w' e; exact absurd e (dead_run (.store m a v k) w h _ _)
  | new o k ih => intro w h x w' e; exact absurd e (dead_run (.new o k) w h _ _)
  | shape r k ih => intro w h x w' e; exact absurd e (dead_run (.shape r k) w h _ _)
  | freeze a n k ih => intro w h x w' e; exact absurd e (dead_run (.freeze a n k) w h _ _)
  | frozen a k ih => intro w h x w' e; exact absurd e (dead_run (.frozen a k) w h _ _)
  | getObj r k ih => intro w h x w' e; exact absurd e (dead_run (.getObj r k) w h _ _)
  | setObj r o k ih => intro w h x w' e; exact absurd e (dead_run (.setObj r o k) w h _ _)
  | choose q k ih => intro w h x w' e; exact absurd e (dead_run (.choose q k) w h _ _)
  | sys c k ih => intro w h x w' e; exact absurd e (dead_run (.sys c k) w h _ _)

theorem flat_run {α : Type} {P : Program} {leaf : α → Prop} : ∀ (s : Sem α) (w : World), quiet P false leaf s → ∀ a w', s.run P w = .ok a w' → w' = w ∧ leaf a ∧ ∀ w2, s.run P w2 = .ok a w2 := by
  intro s
  induction s with
  | pure a => intro w h x w' e; cases e; exact ⟨rfl, h, fun _ => rfl⟩
  | load m a k ih =>
    intro w h x w' e
    rcases h with ⟨h, _⟩ | h
    · cases h
    · exact absurd e (dead_run (.load m a k) w h _ _)
  | program k ih => intro w h x w' e; exact ih _ w h _ _ e
  | mark m k ih => intro w h x w' e; exact ih w h _ _ e
  | halt h => intro w _ x w' e; cases e
  | store m a v k ih => intro w h x w' e; exact absurd e (dead_run (.store m a v k) w h _ _)
  | new o k ih => intro w h x w' e; exact absurd e (dead_run (.new o k) w h _ _)
  | shape r k ih => intro w h x w' e; exact absurd e (dead_run (.shape r k) w h _ _)
  | freeze a n k ih => intro w h x w' e; exact absurd e (dead_run (.freeze a n k) w h _ _)
  | frozen a k ih => intro w h x w' e; exact absurd e (dead_run (.frozen a k) w h _ _)
  | getObj r k ih => intro w h x w' e; exact absurd e (dead_run (.getObj r k) w h _ _)
  | setObj r o k ih => intro w h x w' e; exact absurd e (dead_run (.setObj r o k) w h _ _)
  | choose q k ih => intro w h x w' e; exact absurd e (dead_run (.choose q k) w h _ _)
  | sys c k ih => intro w h x w' e; exact absurd e (dead_run (.sys c k) w h _ _)

/-- It makes new blocks at most. -/
def grows {α : Type} (P : Program) (leaf : α → Prop) : Sem α → Prop
  | .pure a => leaf a
  | .load _ _ k => ∀ v, grows P leaf (k v)
  | .new _ k => ∀ v, grows P leaf (k v)
  | .shape _ k => ∀ v, grows P leaf (k v)
  | .frozen _ k => ∀ v, grows P leaf (k v)
  | .getObj _ k => ∀ v, grows P leaf (k v)
  | .choose _ k => ∀ v, grows P leaf (k v)
  | .program k => grows P leaf (k P)
  | .mark _ k => grows P leaf k
  | s => dead P s
theorem grows_of_dead {α : Type} {P : Program} {leaf : α → Prop} : ∀ (s : Sem α), dead P s → grows P leaf s := by
  intro s
  induction s with
  | pure a => intro h; exact h.elim
  | load m a k ih => intro h v; exact ih _ (h v)
  | new o k ih => intro h v; exact ih _ (h v)
  | shape r k ih => intro h v; exact ih _ (h v)
  | frozen a k ih => intro h v; exact ih _ (h v)
  | getObj r k ih => intro h v; exact ih _ (h v)
  | choose q k ih => intro h v; exact ih _ (h v)
  | program k ih => intro h; exact ih _ h
  | mark m k ih => intro h; exact ih h
  | _ => intro h; exact h
theorem grows_bind {α β : Type} {P : Program} {leaf : α → Prop} {leaf' : β → Prop} (f : α → Sem β) (hf : ∀ a, leaf a → grows P leaf' (f a)) : ∀ (s : Sem α), grows P leaf s → grows P leaf' (s.bind f) := by
  intro s
  induction s with
  | pure a => intro h; exact hf a h
  | load m a k ih => intro h v; exact ih _ (h v)
  | new o k ih => intro h v; exact ih _ (h v)
  | shape r k ih => intro h v; exact ih _ (h v)
  | frozen a k ih => intro h v; exact ih _ (h v)
  | getObj r k ih => intro h v; exact ih _ (h v)
  | choose q k ih => intro h v; exact ih _ (h v)
  | program k ih => intro h; exact ih _ h
  | mark m k ih => intro h; exact ih h
  | halt h => intro _; trivial
  | store m a v k ih => intro h; exact dead_bind f (.store m a v k) h
  | freeze a n k ih => intro h; exact dead_bind f (.freeze a n k) h
  | setObj r o k ih => intro h; exact dead_bind f (.setObj r o k) h
  | sys c k ih => intro h; exact dead_bind f (.sys c k) h
theorem grows_run {α : Type} {P : Program} {leaf : α → Prop} : ∀ (s : Sem α) (w : World), grows P leaf s → ∀ a w', s.run P w = .ok a w' → Ext w w' ∧ leaf a := by
  intro s
  induction s with
  | pure a => intro w h x w' e; cases e; exact ⟨Ext.refl _, h⟩
  | load m a k ih =>
    intro w h x w' e
    simp only [Sem.run] at e
    split at e
    · exact ih _ w (h _) _ _ e
    · split at e
      · exact ih _ w (h _) _ _ e
      · cases e
  | new o k ih =>
    intro w h x w' e
    obtain ⟨h1, h2⟩ := ih _ _ (h _) _ _ e
    exact ⟨(Ext.alloc w o).trans h1, h2⟩
  | shape r k ih => intro w h x w' e; exact ih _ w (h _) _ _ e
  | frozen a k ih => intro w h x w' e; exact ih _ w (h _) _ _ e
  | getObj r k ih =>
    intro w h x w' e
    simp only [Sem.run] at e
    split at e
    · cases e
    · exact ih _ w (h _) _ _ e
    · cases e
  | choose q k ih =>
    intro w h x w' e
    simp only [Sem.run] at e
    split at e
    · exact ih _ w (h _) _ _ e
    · obtain ⟨h1, h2⟩ := ih _ _ (h _) _ _ e
      exact ⟨⟨h1.size, h1.block⟩, h2⟩
  | program k ih => intro w h x w' e; exact ih _ w h _ _ e
  | mark m k ih => intro w h x w' e; exact ih w h _ _ e
  | halt h => intro w _ x w' e; cases e
  | store m a v k ih => intro w h x w' e; exact absurd e (dead_run (.store m a v k) w h _ _)
  | freeze a n k ih => intro w h x w' e; exact absurd e (dead_run (.freeze a n k) w h _ _)
  | setObj r o k ih => intro w h x w' e; exact absurd e (dead_run (.setObj r o k) w h _ _)
  | sys c k ih => intro w h x w' e; exact absurd e (dead_run (.sys c k) w h _ _)
end Go.Proofs.Ytbcifjjnnbefkaa
