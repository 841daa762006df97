/-
  What seek.Look finds is the best of all matches. Plain, no program. Conditions: an arm has up to 200 instructions.
-/
import Derived.Test.YtbcifjjnnbefkaaMet
namespace Go.Proofs.Ytbcifjjnnbefkaa
open Go.RowKit

def arm (arms : List (List Inst)) (i : Nat) : List Inst := arms.getD i []
def Fit (arms : List (List Inst)) : Prop := ∀ i, i < arms.length → (arm arms i).length ≤ 200
def RelA (arms : List (List Inst)) (b : List UInt8) (T K : Nat) (ns : List (List Nat)) (i : Nat) : Prop := Rel (arm arms i) b T K (ns.getD i [])
theorem getD_setL {ns : List (List Nat)} {k i : Nat} {l : List Nat} (hk : k < ns.length) : (ns.set k l).getD i [] = if k = i then l else ns.getD i [] := by
  simp only [List.getD, List.getElem?_set, hk, if_true]
  split <;> rfl

/-- A hit at the place T, of the arm i. -/
def hitT (arms : List (List Inst)) (b : List UInt8) (i f T : Nat) : Prop := f ≤ T ∧ doneB (arm arms i) (metAt (arm arms i) b f (T - f)) = true
theorem scan_spec {arms : List (List Inst)} (hF : Fit arms) {b : List UInt8} {T : Nat} {ns : List (List Nat)} (hl : ns.length = arms.length) (hR : ∀ i, i < arms.length → RelA arms b T T ns i) : ∀ k, k ≤ arms.length →
    match scanM arms T ns k with
    | (some (i, f), _) => i < k ∧ hitT arms b i f T ∧ (∀ f', hitT arms b i f' T → f ≤ f') ∧ ∀ i' f', i' < i → ¬ hitT arms b i' f' T
    | (none, ns') => ns'.length = arms.length ∧ (∀ i, i < k → RelA arms b T (T + 1) ns' i) ∧ (∀ i, k ≤ i → ns'.getD i [] = ns.getD i []) ∧ ∀ i f, i < k → ¬ hitT arms b i f T
  | 0, _ => ⟨hl, fun i h => by omega, fun i _ => rfl, fun i f h => by omega⟩
  | k + 1, hk => by
    have ih := scan_spec hF hl hR k (by omega)
    unfold scanM
    cases hs : scanM arms T ns k with
    | mk o ns' =>
      rw [hs] at ih
      cases o with
      | some r => obtain ⟨i, f⟩ := r; exact ⟨by have := ih.1; omega, ih.2⟩
      | none =>
        obtain ⟨hl', h1, h2, h3⟩ := ih
        dsimp only
        have hp := hF k (by omega)
        have hRk := hR k (by omega)
        unfold RelA at hRk
        rw [← h2 k (Nat.le_refl _)] at hRk
        have hA := hRk.add hp
        change Rel (arm arms k) b T (T + 1) (addM (arms.getD k []) 201 (ns'.getD k []) 0 (T + 1)) at hA
        have hD := hA.done
        change (0 < doneM (arms.getD k []) (addM (arms.getD k []) 201 (ns'.getD k []) 0 (T + 1)) → _) ∧ _ at hD
        generalize addM (arms.getD k []) 201 (ns'.getD k []) 0 (T + 1) = n1 at hA hD ⊢
        have hDe : doneM (arm arms k) n1 = doneM (arms.getD k []) n1 := rfl
        rw [hDe] at hD
        generalize doneM (arms.getD k []) n1 = d at hD ⊢
        by_cases hd : 0 < d
        · rw [if_pos hd]
          have q := hD.1 hd
          exact ⟨by omega, ⟨by omega, q.2⟩, fun f' hf' => by have := hD.2 f' hf'.1 hf'.2; omega, fun i' f' hi => h3 i' f' hi⟩
        · rw [if_neg hd]
          refine ⟨by rw [List.length_set]; exact hl', fun i hi => ?_, fun i hi => ?_, fun i f hi => ?_⟩
          · unfold RelA
            rw [getD_setL (by omega)]
            split
            · rename_i e; subst e; exact hA
            · exact h1 i (by omega)
          · rw [getD_setL (by omega), if_neg (by omega)]; exact h2 i (by omega)
          · by_cases e : i = k
            · subst e
              intro h
              have := hD.2 f h.1 h.2
              omega
            · exact h3 i f (by omega)
theorem takes_spec {arms : List (List Inst)} (hF : Fit arms) {b : List UInt8} {T : Nat} {c : UInt8} (hc : b[T]? = some c) {ns : List (List Nat)} (hl : ns.length = arms.length) (hR : ∀ i, i < arms.length → RelA arms b T (T + 1) ns i) : ∀ k, k ≤ arms.length →
    (∀ i, i < k → RelA arms b (T + 1) (T + 1) (takesM arms c ns k) i) ∧ ∀ i, k ≤ i → (takesM arms c ns k).getD i [] = ns.getD i []
  | 0, _ => ⟨fun i h => by omega, fun i _ => rfl⟩
  | k + 1, hk => by
    obtain ⟨h1, h2⟩ := takes_spec hF hc hl hR k (by omega)
    have hlen : k < (takesM arms c ns k).length := by rw [takesM_len]; omega
    have e : takesM arms c ns (k + 1) = (takesM arms c ns k).set k (takeM (arms.getD k []) ((takesM arms c ns k).getD k []) c) := rfl
    rw [e]
    refine ⟨fun i hi => ?_, fun i hi => ?_⟩
    · unfold RelA
      rw [getD_setL hlen]
      split
      · rename_i e; subst e
        have hRk := hR k (by omega)
        unfold RelA at hRk
        rw [← h2 k (Nat.le_refl _)] at hRk
        exact hRk.take (hF k (by omega)) hc
      · exact h1 i (by omega)
    · rw [getD_setL hlen, if_neg (by omega)]; exact h2 i (by omega)

theorem hit_iff {arms : List (List Inst)} {b : List UInt8} {i f t : Nat} : hit arms b i f t ↔ i < arms.length ∧ t ≤ b.length ∧ hitT arms b i f t := by
  unfold hit hitT arm
  constructor
  · rintro ⟨h1, h2, h3, h4⟩; exact ⟨h1, h3, h2, h4⟩
  · rintro ⟨h1, h3, h2, h4⟩; exact ⟨h1, h2, h3, h4⟩
theorem look_spec {arms : List (List Inst)} (hF : Fit arms) {b : List UInt8} : ∀ (f T : Nat) (ns : List (List Nat)), b.length + 1 < T + f → T ≤ b.length + 1 → ns.length = arms.length → (T ≤ b.length → ∀ i, i < arms.length → RelA arms b T T ns i) → (∀ i g t, t < T → ¬ hit arms b i g t) →
    match lookL arms b f T ns with
    | some (i, g, t) => hit arms b i g t ∧ ∀ i' g' t', hit arms b i' g' t' → t < t' ∨ (t = t' ∧ (i < i' ∨ (i = i' ∧ g ≤ g')))
    | none => ∀ i g t, ¬ hit arms b i g t
  | 0, T, ns, h1, h2, _, _, _ => by omega
  | f + 1, T, ns, h1, h2, hl, hR, hno => by
    unfold lookL
    by_cases hT : b.length < T
    · rw [if_pos hT]
      intro i g t h
      exact hno i g t (by have := h.2.2.1; omega) h
    · rw [if_neg hT]
      have hs := scan_spec hF hl (hR (by omega)) arms.length (Nat.le_refl _)
      cases hsc : scanM arms T ns arms.length with
      | mk o ns' =>
        rw [hsc] at hs
        cases o with
        | some r =>
          obtain ⟨i, g⟩ := r
          obtain ⟨a1, a2, a3, a4⟩ := hs
          refine ⟨hit_iff.2 ⟨a1, by omega, a2⟩, fun i' g' t' h => ?_⟩
          by_cases e : t' < T
          · exact absurd h (hno _ _ _ e)
          · by_cases e2 : t' = T
            · subst e2
              have h' := hit_iff.1 h
              right
              refine ⟨rfl, ?_⟩
              by_cases e3 : i' < i
              · exact absurd h'.2.2 (a4 _ _ e3)
              · by_cases e4 : i' = i
                · subst e4; exact .inr ⟨rfl, a3 _ h'.2.2⟩
                · left; omega
            · left; omega
        | none =>
          obtain ⟨b1, b2, _, b4⟩ := hs
          dsimp only
          refine look_spec hF f (T + 1) _ (by omega) (by omega) ?_ ?_ ?_
          · split
            · rw [takesM_len]; exact b1
            · exact b1
          · intro hT2 i hi
            rw [List.getElem?_eq_getElem (show T < b.length by omega)]
            exact (takes_spec hF (List.getElem?_eq_getElem (show T < b.length by omega)) b1 b2 arms.length (Nat.le_refl _)).1 i hi
          · intro i g t ht h
            by_cases e : t = T
            · subst e
              have h' := hit_iff.1 h
              exact b4 i g h'.1 h'.2.2
            · exact hno i g t (by omega) h
theorem look_start {arms : List (List Inst)} (hF : Fit arms) (b : List UInt8) :
    match lookL arms b (b.length + 2) 0 (List.replicate arms.length zeros) with
    | some (i, g, t) => hit arms b i g t ∧ ∀ i' g' t', hit arms b i' g' t' → t < t' ∨ (t = t' ∧ (i < i' ∨ (i = i' ∧ g ≤ g')))
    | none => ∀ i g t, ¬ hit arms b i g t :=
  look_spec hF _ _ _ (by omega) (by omega) (by simp) (fun _ i hi => by
    unfold RelA
    have : (List.replicate arms.length zeros).getD i [] = zeros := by simp [List.getD, hi]
    rw [this]; exact Rel.start _ _) (fun i g t h => by omega)
/-- What Look answers is the best of what the reference looks at. -/
theorem look_best {arms : List (List Inst)} (hF : Fit arms) {b : List UInt8} {a : Int} {bg en : Nat} (h : Best (hit arms (b.take 256)) (b.take 256).length (seen arms.length 0 0) a bg en) : lookM arms b = bestR b a bg en := by
  have hs := look_start hF (b.take 256)
  unfold lookM
  rw [lookL_fuel arms (b.take 256) (b.length + 2) ((b.take 256).length + 2) 0 _ (by simp; omega) (by omega)]
  have hseen : ∀ i f t, hit arms (b.take 256) i f t → seen arms.length 0 0 i f t := fun i f t hh => .inl hh.1
  cases hk : lookL arms (b.take 256) ((b.take 256).length + 2) 0 (List.replicate arms.length zeros) with
  | none =>
    rw [hk] at hs
    dsimp only at hs ⊢
    rcases h.st with ⟨h1, h2, h3, h4⟩ | ⟨i0, h1, h2, h3, h4, h5⟩
    · subst h1; unfold bestR; rw [if_neg (show ¬ (0 : Int) ≤ -1 by omega)]
    · exact absurd h3 (hs _ _ _)
  | some r =>
    obtain ⟨i, g, t⟩ := r
    rw [hk] at hs
    dsimp only at hs ⊢
    rcases h.st with ⟨h1, h2, h3, h4⟩ | ⟨i0, h1, h2, h3, h4, h5⟩
    · exact absurd hs.1 (h4 _ _ _ (hseen _ _ _ hs.1))
    · have q1 := h5 _ _ _ (hseen _ _ _ hs.1) hs.1
      have q2 := hs.2 _ _ _ h3
      subst h1
      unfold bestR
      rw [if_pos (by omega)]
      have e1 : i = i0 := by omega
      have e2 : g = bg := by omega
      have e3 : t = en := by omega
      subst e1; subst e2; subst e3
      simp
end Go.Proofs.Ytbcifjjnnbefkaa
