/-
  The spans of what is read are few; and of the instructions that ops come to each jump stays within its piece. Plain lists, no program. Conditions: none.
-/
import Derived.Test.YtbcifjjnnbefkaaParsed
namespace Go.Proofs.Ytbcifjjnnbefkaa

theorem setL_spans (s : List UInt8) (neg : Bool) : ∀ (f i : Nat) (sp : List Span), (setL s neg f i sp).1.1.spans.length ≤ sp.length + f
  | 0, i, _ => by unfold setL; simp
  | f + 1, i, sp => by
    unfold setL
    split
    · simp
    · split
      · simp
      · split
        · split
          · simp
          · split
            · simp
            · refine Nat.le_trans (setL_spans s neg f _ _) (by simp; omega)
        · refine Nat.le_trans (setL_spans s neg f _ _) (by simp; omega)
theorem bytesM_spans (s : List UInt8) (i : Nat) (c : UInt8) : (bytesM s i c).1.1.spans.length ≤ s.length + 10 := by
  have hc : ∀ d, (classM d).length ≤ 4 := fun d => by unfold classM; split <;> (try split) <;> (try split) <;> simp
  unfold bytesM
  split
  · simp
  · split
    · unfold setM; split <;> exact Nat.le_trans (setL_spans _ _ _ _ _) (by simp)
    · split
      · simp
      · split
        · split
          · simp
          · rename_i d _
            split
            · simp
            · have := hc d; simp; omega
        · simp
def Few (n : Nat) (l : List Op) : Prop := ∀ o ∈ l, o.spans.length ≤ n
theorem Few.app {n : Nat} {l l' : List Op} (h : Few n l) (h' : Few n l') : Few n (l ++ l') := fun o ho => (List.mem_append.1 ho).elim (h o) (h' o)
theorem Few.one {n : Nat} {o : Op} (h : o.spans.length ≤ n) : Few n [o] := fun o' ho => by rw [List.mem_singleton.1 ho]; exact h
theorem Few.nil (n : Nat) : Few n [] := fun o ho => by cases ho
theorem branch_few {n br pc : Nat} {out : List Op} (h : Few n out) : Few n (branchOps br pc out) := by
  unfold branchOps
  refine (h.app ?_).app ?_
  · split
    · exact Few.one (Nat.zero_le _)
    · exact Few.nil n
  · split
    · exact Few.nil n
    · exact Few.one (Nat.zero_le _)
theorem rep_few {s : List UInt8} {n i pc : Nat} {out : List Op} (h : Few n out) : Few n (repOps s i pc out) := by
  have h1 : Few n (if repAt s i = 0 then out else out ++ [⟨repAt s i, false, []⟩]) := by
    split
    · exact h
    · exact h.app (Few.one (Nat.zero_le _))
  unfold repOps pieceOps
  split
  · exact h1
  · exact h1.app (Few.one (Nat.zero_le _))
theorem stepM_few (s : List UInt8) (p : PS) (c : UInt8) (h : Few (s.length + 10) p.out) : Few (s.length + 10) (stepM s p c).2.out := by
  unfold stepM
  split
  · split <;> exact h
  · split
    · exact branch_few h
    · split
      · split
        · exact h
        · exact rep_few (branch_few h)
      · split
        · exact h
        · exact rep_few (h.app (Few.one (bytesM_spans s p.i c)))
theorem parseL_few (s : List UInt8) : ∀ (f : Nat) (p : PS), Few (s.length + 10) p.out → Few (s.length + 10) (parseL s f p).2.out
  | 0, p, h => h
  | f + 1, p, h => by
    unfold parseL
    cases s[p.i]? with
    | none => exact h
    | some c =>
      dsimp only
      split
      · exact parseL_few s f _ (stepM_few s p c h)
      · exact stepM_few s p c h
theorem parse_few (s : List UInt8) : Few (s.length + 10) (parseM s).1 := by
  have h := parseL_few s (s.length + 1) ⟨0, [], [(0, 0)]⟩ (Few.nil _)
  unfold parseM
  split
  · exact Few.nil _
  · split
    · exact Few.nil _
    · split
      · exact Few.nil _
      · exact branch_few h

/-- An instruction at place i of n: it goes on within what there is, and isn't the last one. -/
def okAt (n : Nat) (i : Nat) (x : Inst) : Prop :=
  1 ≤ x.kind ∧ x.kind ≤ 3 ∧ (x.kind = 2 ∨ x.kind = 3 → 0 ≤ (i : Int) + x.x ∧ (i : Int) + x.x ≤ n) ∧ (x.kind = 2 → 0 ≤ (i : Int) + x.y ∧ (i : Int) + x.y ≤ n)
def Good (l : List Inst) : Prop := ∀ i x, l[i]? = some x → okAt l.length i x
theorem okAt.shift {n i k m : Nat} {x : Inst} (h : okAt n i x) (hm : n + k ≤ m) : okAt m (k + i) x := by
  obtain ⟨h1, h2, h3, h4⟩ := h
  exact ⟨h1, h2, fun e => by have := h3 e; omega, fun e => by have := h4 e; omega⟩
/-- Every instruction of a list stands within m when the list stands k behind the start. -/
def In (m k : Nat) (l : List Inst) : Prop := ∀ i x, l[i]? = some x → okAt m (k + i) x
theorem Good.in_ {l : List Inst} (h : Good l) {m k : Nat} (hm : l.length + k ≤ m) : In m k l := fun i x hx => (h i x hx).shift hm
theorem In.app {m k : Nat} {l l' : List Inst} (h : In m k l) (h' : In m (k + l.length) l') : In m k (l ++ l') := fun i x hx => by
  rcases Nat.lt_or_ge i l.length with hi | hi
  · rw [List.getElem?_append_left hi] at hx; exact h i x hx
  · rw [List.getElem?_append_right hi] at hx
    have := h' _ _ hx
    rwa [show k + l.length + (i - l.length) = k + i by omega] at this
theorem In.one {m k : Nat} {x : Inst} (h : okAt m k x) : In m k [x] := fun i y hy => by
  match i, hy with
  | 0, hy => cases hy; exact h
  | i + 1, hy => simp at hy
theorem In.good {l : List Inst} (h : In l.length 0 l) : Good l := fun i x hx => by have := h i x hx; rwa [Nat.zero_add] at this
theorem Good.nil : Good [] := fun i x hx => by simp at hx
theorem Good.put {many : Nat} {l : List Inst} (h : Good l) : Good (putM many l) := by
  unfold putM; split
  · exact Good.nil
  · exact h
theorem okTwo {m k : Nat} {x y : Int} (h1 : 0 ≤ (k : Int) + x) (h2 : (k : Int) + x ≤ m) (h3 : 0 ≤ (k : Int) + y) (h4 : (k : Int) + y ≤ m) : okAt m k (twoI x y) := ⟨by simp [twoI], by simp [twoI], fun _ => ⟨h1, h2⟩, fun _ => ⟨h3, h4⟩⟩
theorem okGo {m k : Nat} {x : Int} (h1 : 0 ≤ (k : Int) + x) (h2 : (k : Int) + x ≤ m) : okAt m k (goI x) := ⟨by simp [goI], by simp [goI], fun _ => ⟨h1, h2⟩, fun e => by simp [goI] at e⟩
theorem okOne {m k : Nat} {neg : Bool} {sp : List Span} : okAt m k (oneI neg sp) := ⟨by simp [oneI], by simp [oneI], fun e => by simp [oneI] at e, fun e => by simp [oneI] at e⟩

theorem bStep_good {many : Nat} {R : List (List Inst)} {o : Op} {s : Nat × List (List Inst)} (h : ∀ x ∈ R, Good x) (hs : bStep many R o = some s) : ∀ x ∈ s.2, Good x := by
  unfold bStep at hs
  split at hs
  · cases hs
    exact fun x hx => (List.mem_cons.1 hx).elim (fun e => e ▸ Good.put (In.good (In.one okOne))) (h x)
  · split at hs
    · cases hs
      exact fun x hx => (List.mem_cons.1 hx).elim (fun e => e ▸ Good.nil) (h x)
    · split at hs
      · split at hs
        · rename_i y x R
          cases hs
          have hx := h x (by simp)
          have hy := h y (by simp)
          refine fun z hz => (List.mem_cons.1 hz).elim (fun e => e ▸ Good.put (In.good ?_)) (fun hz => h z (by simp [hz]))
          exact (hx.in_ (by simp)).app (hy.in_ (by simp; omega))
        · cases hs
      · split at hs
        · split at hs
          · rename_i y x R
            cases hs
            have hx := h x (by simp)
            have hy := h y (by simp)
            refine fun z hz => (List.mem_cons.1 hz).elim (fun e => e ▸ Good.put (In.good ?_)) (fun hz => h z (by simp [hz]))
            refine (((In.one (okTwo ?_ ?_ ?_ ?_)).app (hx.in_ ?_)).app (In.one (okGo ?_ ?_))).app (hy.in_ ?_) <;> simp <;> omega
          · cases hs
        · split at hs
          · split at hs
            · rename_i x R
              cases hs
              have hx := h x (by simp)
              refine fun z hz => (List.mem_cons.1 hz).elim (fun e => e ▸ Good.put (In.good ?_)) (fun hz => h z (by simp [hz]))
              refine ((In.one (okTwo ?_ ?_ ?_ ?_)).app (hx.in_ ?_)).app (In.one (okGo ?_ ?_)) <;> simp <;> omega
            · cases hs
          · split at hs
            · split at hs
              · rename_i x R
                cases hs
                have hx := h x (by simp)
                refine fun z hz => (List.mem_cons.1 hz).elim (fun e => e ▸ Good.put (In.good ?_)) (fun hz => h z (by simp [hz]))
                refine (hx.in_ ?_).app (In.one (okTwo ?_ ?_ ?_ ?_)) <;> simp <;> omega
              · cases hs
            · split at hs
              · split at hs
                · rename_i x R
                  cases hs
                  have hx := h x (by simp)
                  refine fun z hz => (List.mem_cons.1 hz).elim (fun e => e ▸ Good.put (In.good ?_)) (fun hz => h z (by simp [hz]))
                  refine (In.one (okTwo ?_ ?_ ?_ ?_)).app (hx.in_ ?_) <;> simp <;> omega
                · cases hs
              · cases hs
theorem bRun_good : ∀ (l : List Op) (many : Nat) (R : List (List Inst)) (s : Nat × List (List Inst)), (∀ x ∈ R, Good x) → bRun many R l = some s → ∀ x ∈ s.2, Good x
  | [], many, R, s, h, hs => by cases hs; exact h
  | o :: l, many, R, s, h, hs => by
    unfold bRun at hs
    cases h1 : bStep many R o with
    | none => rw [h1] at hs; cases hs
    | some s1 =>
      rw [h1] at hs
      exact bRun_good l _ _ s (bStep_good h h1) hs
theorem bRun_inv : ∀ (l : List Op) (k many : Nat) (R : List (List Inst)) (s : Nat × List (List Inst)), BInv k many R → bRun many R l = some s → BInv (k + l.length) s.1 s.2
  | [], k, many, R, s, h, hs => by cases hs; exact h
  | o :: l, k, many, R, s, h, hs => by
    unfold bRun at hs
    cases h1 : bStep many R o with
    | none => rw [h1] at hs; cases hs
    | some s1 =>
      rw [h1] at hs
      have := bRun_inv l (k + 1) _ _ s (bStep_inv h h1) hs
      rwa [show k + 1 + l.length = k + (o :: l).length by simp; omega] at this

/-- Of what is read: it is built, or it is too much; and where it is built each instruction's place is right. -/
theorem places (s : List UInt8) (h : (parseM s).2.2 = 0) : ∃ tot, bRun 0 [] (parseM s).1 = some tot ∧ ((bEnd tot = ([], 3)) ∨
    (∃ x, bEnd tot = (x ++ [doneI], 0) ∧ Good x ∧ x.length ≤ 3 * s.length)) := by
  obtain ⟨hd, hw, _, _⟩ := parse_fit s h
  obtain ⟨tot, hr, hl, hm⟩ := bRun_dep (parseM s).1 0 [] 1 hd
  refine ⟨tot, hr, ?_⟩
  obtain ⟨many, R⟩ := tot
  dsimp only at hl hm
  match R, hl with
  | [x], _ =>
    have hg := bRun_good _ _ _ _ (fun x hx => by cases hx) hr x (by simp)
    have hi := (bRun_inv _ 0 0 [] _ ⟨by omega, by simp, by simp⟩ hr).rows
    simp at hi
    unfold bEnd
    dsimp only
    split
    · exact .inl rfl
    · exact .inr ⟨x, rfl, hg, by omega⟩
end Go.Proofs.Ytbcifjjnnbefkaa
