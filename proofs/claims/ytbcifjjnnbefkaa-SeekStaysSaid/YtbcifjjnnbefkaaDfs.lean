/-
  What 'add' and 'come' reach: the instructions that one comes to without a byte. Plain, no program. Conditions: an arm has up to 200 instructions.
-/
import Derived.Test.YtbcifjjnnbefkaaHits
namespace Go.Proofs.Ytbcifjjnnbefkaa
open Go.RowKit

/-- From an instruction one comes to another one, without a byte. -/
def eps (p : List Inst) (x : Nat) (y : Int) : Prop :=
  ((p.getD x default).kind = 2 ∧ (y = wrap64 (x + (p.getD x default).x) ∨ y = wrap64 (x + (p.getD x default).y))) ∨ ((p.getD x default).kind = 3 ∧ y = wrap64 (x + (p.getD x default).x))
inductive Cl (p : List Inst) : Int → Nat → Prop
  | here {x : Nat} : x < p.length → Cl p x x
  | step {x : Nat} {y : Int} {z : Nat} : x < p.length → eps p x y → Cl p y z → Cl p x z
theorem Cl.lt {p : List Inst} {a : Int} {z : Nat} (h : Cl p a z) : z < p.length := by
  induction h with
  | here h => exact h
  | step _ _ _ ih => exact ih
theorem Cl.snoc {p : List Inst} {a : Int} {x y : Nat} (h : Cl p a x) (he : eps p x y) (hy : y < p.length) : Cl p a y := by
  induction h with
  | here h => exact .step h he (.here hy)
  | step h1 h2 _ ih => exact .step h1 h2 (ih he)

/-- One came there from a begin up to b. -/
def Vis (ts : List Nat) (b x : Nat) : Prop := 0 < ts.getD x 0 ∧ ts.getD x 0 ≤ b
theorem getD_set_eq {ts : List Nat} {k b : Nat} (h : k < ts.length) : (ts.set k b).getD k 0 = b := by simp [List.getD, h]
theorem getD_set_ne {ts : List Nat} {k x b : Nat} (h : k ≠ x) : (ts.set k b).getD x 0 = ts.getD x 0 := by simp [List.getD, h]

structure Dfs (p : List Inst) (ts : List Nat) (at_ : Int) (b : Nat) (ts' : List Nat) : Prop where
  old : ∀ x, Vis ts b x → ts'.getD x 0 = ts.getD x 0
  new : ∀ x, ts'.getD x 0 = ts.getD x 0 ∨ (ts'.getD x 0 = b ∧ Cl p at_ x ∧ ¬ Vis ts b x)
  here : ∀ x : Nat, at_ = x → x < p.length → Vis ts' b x
  next : ∀ x y : Nat, Vis ts' b x → ¬ Vis ts b x → eps p x y → y < p.length → Vis ts' b y
theorem Dfs.vis {p : List Inst} {ts ts' : List Nat} {at_ : Int} {b : Nat} (h : Dfs p ts at_ b ts') {x : Nat} (hx : Vis ts b x) : Vis ts' b x := by
  unfold Vis at *; rw [h.old x hx]; exact hx
theorem Dfs.rfl_ {p : List Inst} {ts : List Nat} {at_ : Int} {b : Nat} (h : ∀ x : Nat, at_ = x → x < p.length → Vis ts b x) : Dfs p ts at_ b ts := ⟨fun _ _ => rfl, fun _ => .inl rfl, h, fun _ _ h1 h2 => absurd h1 h2⟩

theorem addM_dfs (p : List Inst) (hp : p.length ≤ 200) {b : Nat} (hb : 0 < b) : ∀ (f : Nat) (ts : List Nat) (at_ : Int), ts.length = 200 → free ts b < f → Dfs p ts at_ b (addM p f ts at_ b)
  | 0, _, _, _, h => absurd h (by omega)
  | f + 1, ts, at_, hl, hf => by
    unfold addM
    split
    · rename_i h
      exact Dfs.rfl_ fun x hx hlt => by subst hx; omega
    · rename_i h
      obtain ⟨k, rfl⟩ : ∃ k : Nat, at_ = k := ⟨at_.toNat, by omega⟩
      rw [show ((k : Int)).toNat = k from rfl]
      have hkp : k < p.length := by omega
      have hkt : k < ts.length := by omega
      split
      · rename_i h2
        exact Dfs.rfl_ fun x hx _ => by have : k = x := by omega
                                        subst this; exact h2
      · rename_i h2
        have hfs := free_set hkt hb h2
        have hv1 : ∀ x, Vis ts b x → k ≠ x := fun x hx e => h2 (e ▸ hx)
        have hk1 : Vis (ts.set k b) b k := by unfold Vis; rw [getD_set_eq hkt]; exact ⟨hb, Nat.le_refl _⟩
        have ho1 : ∀ x, Vis ts b x → (ts.set k b).getD x 0 = ts.getD x 0 := fun x hx => getD_set_ne (hv1 x hx)
        have hvv : ∀ x, Vis ts b x → Vis (ts.set k b) b x := fun x hx => by unfold Vis; rw [ho1 x hx]; exact hx
        have hvr : ∀ x, k ≠ x → Vis (ts.set k b) b x → Vis ts b x := fun x hx h => by unfold Vis at *; rw [getD_set_ne hx] at h; exact h
        have hn1 : ∀ x, (ts.set k b).getD x 0 = ts.getD x 0 ∨ ((ts.set k b).getD x 0 = b ∧ Cl p k x ∧ ¬ Vis ts b x) := fun x => by
          by_cases e : k = x
          · subst e; exact .inr ⟨getD_set_eq hkt, .here hkp, h2⟩
          · exact .inl (getD_set_ne e)
        -- one more call, behind what stands
        have ext : ∀ (t1 t2 : List Nat) (a1 : Int), (∀ x, Vis ts b x → t1.getD x 0 = ts.getD x 0) → (∀ x, Vis ts b x → Vis t1 b x) → (∀ x, t1.getD x 0 = ts.getD x 0 ∨ (t1.getD x 0 = b ∧ Cl p k x ∧ ¬ Vis ts b x)) → eps p k a1 → Dfs p t1 a1 b t2 →
            (∀ x, Vis ts b x → t2.getD x 0 = ts.getD x 0) ∧ (∀ x, Vis ts b x → Vis t2 b x) ∧ (∀ x, t2.getD x 0 = ts.getD x 0 ∨ (t2.getD x 0 = b ∧ Cl p k x ∧ ¬ Vis ts b x)) := fun t1 t2 a1 o1 v1 n1 he D => by
          refine ⟨fun x hx => (D.old x (v1 x hx)).trans (o1 x hx), fun x hx => D.vis (v1 x hx), fun x => ?_⟩
          rcases D.new x with e | ⟨e1, e2, e3⟩
          · rcases n1 x with e' | ⟨e', c, d⟩
            · exact .inl (e.trans e')
            · exact .inr ⟨e.trans e', c, d⟩
          · exact .inr ⟨e1, .step hkp he e2, fun h => e3 (v1 x h)⟩
        split
        · rename_i k2
          have D1 := addM_dfs p hp hb f (ts.set k b) (wrap64 (k + (p.getD k default).x)) (by rw [List.length_set]; exact hl) (by omega)
          have D2 := addM_dfs p hp hb f (addM p f (ts.set k b) (wrap64 (k + (p.getD k default).x)) b) (wrap64 (k + (p.getD k default).y)) (by rw [addM_len, List.length_set]; exact hl) (by have := free_addM p hb f (ts.set k b) (wrap64 (k + (p.getD k default).x)); omega)
          generalize addM p f (ts.set k b) (wrap64 (k + (p.getD k default).x)) b = t1 at D1 D2
          generalize addM p f t1 (wrap64 (k + (p.getD k default).y)) b = t2 at D2
          obtain ⟨o1, v1, n1⟩ := ext _ _ _ ho1 hvv hn1 (.inl ⟨k2, .inl rfl⟩) D1
          obtain ⟨o2, v2, n2⟩ := ext _ _ _ o1 v1 n1 (.inl ⟨k2, .inr rfl⟩) D2
          refine ⟨o2, n2, fun x hx _ => ?_, fun x y hx hn he hy => ?_⟩
          · have : k = x := by omega
            subst this; exact D2.vis (D1.vis hk1)
          · by_cases hx1 : Vis t1 b x
            · by_cases hx0 : Vis (ts.set k b) b x
              · have hkx : k = x := by
                  by_cases e : k = x
                  · exact e
                  · exact absurd (hvr x e hx0) hn
                subst hkx
                rcases he with ⟨_, e | e⟩ | ⟨e, _⟩
                · exact D2.vis (D1.here y e.symm hy)
                · exact D2.here y e.symm hy
                · omega
              · exact D2.vis (D1.next x y hx1 hx0 he hy)
            · exact D2.next x y hx hx1 he hy
        · rename_i k2
          split
          · rename_i k3
            have D1 := addM_dfs p hp hb f (ts.set k b) (wrap64 (k + (p.getD k default).x)) (by rw [List.length_set]; exact hl) (by omega)
            generalize addM p f (ts.set k b) (wrap64 (k + (p.getD k default).x)) b = t1 at D1
            obtain ⟨o1, v1, n1⟩ := ext _ _ _ ho1 hvv hn1 (.inr ⟨k3, rfl⟩) D1
            refine ⟨o1, n1, fun x hx _ => ?_, fun x y hx hn he hy => ?_⟩
            · have : k = x := by omega
              subst this; exact D1.vis hk1
            · by_cases hx0 : Vis (ts.set k b) b x
              · have hkx : k = x := by
                  by_cases e : k = x
                  · exact e
                  · exact absurd (hvr x e hx0) hn
                subst hkx
                rcases he with ⟨e, _⟩ | ⟨_, e⟩
                · exact absurd e k2
                · exact D1.here y e.symm hy
              · exact D1.next x y hx hx0 he hy
          · rename_i k3
            refine ⟨ho1, hn1, fun x hx _ => ?_, fun x y hx hn he hy => ?_⟩
            · have : k = x := by omega
              subst this; exact hk1
            · have hkx : k = x := by
                by_cases e : k = x
                · exact e
                · exact absurd (hvr x e hx) hn
              subst hkx
              rcases he with ⟨e, _⟩ | ⟨e, _⟩
              · exact absurd e k2
              · exact absurd e k3

/-- Who comes somewhere, comes on from there. -/
def Closed (p : List Inst) (ts : List Nat) : Prop := ∀ x y : Nat, 0 < ts.getD x 0 → eps p x y → y < p.length → 0 < ts.getD y 0 ∧ ts.getD y 0 ≤ ts.getD x 0
structure Added (p : List Inst) (ts : List Nat) (at_ : Int) (b : Nat) (ts' : List Nat) : Prop where
  closed : Closed p ts'
  low : ∀ x, Cl p at_ x → 0 < ts'.getD x 0 ∧ ts'.getD x 0 ≤ b
  keep : ∀ x, 0 < ts.getD x 0 → 0 < ts'.getD x 0 ∧ ts'.getD x 0 ≤ ts.getD x 0
  new : ∀ x, ts'.getD x 0 = ts.getD x 0 ∨ (ts'.getD x 0 = b ∧ Cl p at_ x)
theorem addM_added (p : List Inst) (hp : p.length ≤ 200) {b : Nat} (hb : 0 < b) {f : Nat} {ts : List Nat} {at_ : Int} (hl : ts.length = 200) (hf : free ts b < f) (hc : Closed p ts) : Added p ts at_ b (addM p f ts at_ b) := by
  have D := addM_dfs p hp hb f ts at_ hl hf
  generalize addM p f ts at_ b = ts' at D
  have hnew : ∀ x, ts'.getD x 0 = ts.getD x 0 ∨ (ts'.getD x 0 = b ∧ Cl p at_ x) := fun x => (D.new x).imp id fun h => ⟨h.1, h.2.1⟩
  have hclV : ∀ x y : Nat, Vis ts' b x → eps p x y → y < p.length → Vis ts' b y := fun x y hx he hy => by
    by_cases h : Vis ts b x
    · have := hc x y h.1 he hy
      exact D.vis ⟨this.1, Nat.le_trans this.2 h.2⟩
    · exact D.next x y hx h he hy
  have hlow : ∀ x, Cl p at_ x → Vis ts' b x := fun x hx => by
    have gen : ∀ (a : Int) (z : Nat), Cl p a z → ∀ (y : Nat), a = y → Vis ts' b y → Vis ts' b z := fun a z hz => by
      induction hz with
      | @here x _ => intro y hy hv; have e : y = x := by omega
                     exact e ▸ hv
      | @step x y z hx he hcl ih =>
        intro u hu hv
        have hxu : x = u := by omega
        subst hxu
        cases hcl with
        | here h2 => exact hclV _ _ hv he h2
        | step h2 h3 h4 => exact ih _ rfl (hclV _ _ hv he h2)
    cases hx with
    | here h => exact D.here _ rfl h
    | step h1 h2 h3 => exact gen _ _ (.step h1 h2 h3) _ rfl (D.here _ rfl h1)
  have hkeep : ∀ x, 0 < ts.getD x 0 → 0 < ts'.getD x 0 ∧ ts'.getD x 0 ≤ ts.getD x 0 := fun x hx => by
    rcases D.new x with e | ⟨e, _, hn⟩
    · omega
    · unfold Vis at hn; omega
  refine ⟨fun x y hx he hy => ?_, hlow, hkeep, hnew⟩
  rcases D.new x with e | ⟨e, hcx, _⟩
  · have h1 := hc x y (by omega) he hy
    have h2 := hkeep y h1.1
    omega
  · have hv := hclV x y ⟨by omega, by omega⟩ he hy
    unfold Vis at hv; omega
theorem rep0_getD : ∀ n x : Nat, (List.replicate n 0).getD x 0 = 0
  | 0, _ => rfl
  | _ + 1, 0 => rfl
  | n + 1, x + 1 => by rw [List.replicate_succ, List.getD_cons_succ]; exact rep0_getD n x
theorem zeros_getD (x : Nat) : zeros.getD x 0 = 0 := rep0_getD 200 x
theorem closed_zeros (p : List Inst) : Closed p zeros := fun x y hx => by rw [zeros_getD] at hx; omega
end Go.Proofs.Ytbcifjjnnbefkaa
