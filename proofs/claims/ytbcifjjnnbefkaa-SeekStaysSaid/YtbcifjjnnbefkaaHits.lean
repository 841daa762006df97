/-
  Where arms match: the first end of all, of these the first arm, of these the first begin. Plain, no program. Conditions: none.
-/
import Derived.Test.YtbcifjjnnbefkaaRten3
namespace Go.Proofs.Ytbcifjjnnbefkaa

/-- An arm matches from a place to another one. -/
def hit (arms : List (List Inst)) (b : List UInt8) (i f t : Nat) : Prop := i < arms.length ∧ f ≤ t ∧ t ≤ b.length ∧ doneB (arms.getD i []) (metAt (arms.getD i []) b f (t - f)) = true
/-- What is looked at ahead of a place. -/
def seen (i f t : Nat) (i' f' t' : Nat) : Prop := i' < i ∨ (i' = i ∧ (f' < f ∨ (f' = f ∧ t' < t)))
structure Best (H : Nat → Nat → Nat → Prop) (n : Nat) (P : Nat → Nat → Nat → Prop) (arm : Int) (bg en : Nat) : Prop where
  st : (arm = -1 ∧ bg = 0 ∧ en = n + 1 ∧ ∀ i f t, P i f t → ¬ H i f t) ∨ (∃ i0 : Nat, arm = i0 ∧ en ≤ n ∧ H i0 bg en ∧ P i0 bg en ∧ ∀ i f t, P i f t → H i f t → en < t ∨ (en = t ∧ (i0 < i ∨ (i0 = i ∧ bg ≤ f))))
theorem Best.start (arms : List (List Inst)) (b : List UInt8) : Best (hit arms b) b.length (seen 0 0 0) (-1) 0 (b.length + 1) :=
  ⟨.inl ⟨rfl, rfl, rfl, fun i f t h => by unfold seen at h; omega⟩⟩
theorem Best.bound {H : Nat → Nat → Nat → Prop} {n : Nat} {P : Nat → Nat → Nat → Prop} {arm : Int} {bg en : Nat} (h : Best H n P arm bg en) : en ≤ n + 1 := by
  rcases h.st with ⟨_, _, h, _⟩ | ⟨_, _, h, _⟩ <;> omega
theorem Best.won {arms : List (List Inst)} {b : List UInt8} {i f t : Nat} {arm : Int} {bg en : Nat} (h : Best (hit arms b) b.length (seen i f t) arm bg en) (hh : hit arms b i f t) (ht : t < en) : Best (hit arms b) b.length (seen i f (t + 1)) (i : Int) f t := by
  refine ⟨.inr ⟨i, rfl, hh.2.2.1, hh, by unfold seen; omega, fun i' f' t' hp hx => ?_⟩⟩
  by_cases e : seen i f t i' f' t'
  · rcases h.st with ⟨_, _, _, h4⟩ | ⟨i0, _, _, _, _, h5⟩
    · exact absurd hx (h4 _ _ _ e)
    · have := h5 _ _ _ e hx
      left; omega
  · unfold seen at e hp
    right; omega
theorem Best.lost {arms : List (List Inst)} {b : List UInt8} {i f t : Nat} {arm : Int} {bg en : Nat} (h : Best (hit arms b) b.length (seen i f t) arm bg en) (hh : ¬ hit arms b i f t) : Best (hit arms b) b.length (seen i f (t + 1)) arm bg en := by
  have key : ∀ i' f' t', seen i f (t + 1) i' f' t' → hit arms b i' f' t' → seen i f t i' f' t' := fun i' f' t' hp hx => by
    by_cases e : i' = i ∧ f' = f ∧ t' = t
    · obtain ⟨rfl, rfl, rfl⟩ := e; exact absurd hx hh
    · unfold seen at hp ⊢; omega
  rcases h.st with ⟨h1, h2, h3, h4⟩ | ⟨i0, h1, h2, h3, h4, h5⟩
  · exact ⟨.inl ⟨h1, h2, h3, fun i' f' t' hp hx => h4 _ _ _ (key _ _ _ hp hx) hx⟩⟩
  · exact ⟨.inr ⟨i0, h1, h2, h3, by unfold seen at h4 ⊢; omega, fun i' f' t' hp hx => h5 _ _ _ (key _ _ _ hp hx) hx⟩⟩
theorem Best.nextF {arms : List (List Inst)} {b : List UInt8} {i f t : Nat} {arm : Int} {bg en : Nat} (h : Best (hit arms b) b.length (seen i f t) arm bg en) (ht : b.length < t ∨ en ≤ t) : Best (hit arms b) b.length (seen i (f + 1) 0) arm bg en := by
  have hb := h.bound
  rcases h.st with ⟨h1, h2, h3, h4⟩ | ⟨i0, h1, h2, h3, h4, h5⟩
  · refine ⟨.inl ⟨h1, h2, h3, fun i' f' t' hp hx => h4 i' f' t' ?_ hx⟩⟩
    have := hx.2.2.1
    unfold seen at hp ⊢; omega
  · refine ⟨.inr ⟨i0, h1, h2, h3, by unfold seen at h4 ⊢; omega, fun i' f' t' hp hx => ?_⟩⟩
    by_cases e : seen i f t i' f' t'
    · exact h5 _ _ _ e hx
    · have := hx.2.2.1
      unfold seen at e hp h4; omega
theorem Best.startT {arms : List (List Inst)} {b : List UInt8} {i f : Nat} {arm : Int} {bg en : Nat} (h : Best (hit arms b) b.length (seen i f 0) arm bg en) : Best (hit arms b) b.length (seen i f f) arm bg en := by
  have key : ∀ i' f' t', seen i f f i' f' t' → hit arms b i' f' t' → seen i f 0 i' f' t' := fun i' f' t' hp hx => by
    have := hx.2.1
    unfold seen at hp ⊢; omega
  rcases h.st with ⟨h1, h2, h3, h4⟩ | ⟨i0, h1, h2, h3, h4, h5⟩
  · exact ⟨.inl ⟨h1, h2, h3, fun i' f' t' hp hx => h4 _ _ _ (key _ _ _ hp hx) hx⟩⟩
  · exact ⟨.inr ⟨i0, h1, h2, h3, by unfold seen at h4 ⊢; omega, fun i' f' t' hp hx => h5 _ _ _ (key _ _ _ hp hx) hx⟩⟩
theorem Best.nextI {arms : List (List Inst)} {b : List UInt8} {i f : Nat} {arm : Int} {bg en : Nat} (h : Best (hit arms b) b.length (seen i f 0) arm bg en) (hf : b.length < f ∨ en < f) : Best (hit arms b) b.length (seen (i + 1) 0 0) arm bg en := by
  have hb := h.bound
  rcases h.st with ⟨h1, h2, h3, h4⟩ | ⟨i0, h1, h2, h3, h4, h5⟩
  · refine ⟨.inl ⟨h1, h2, h3, fun i' f' t' hp hx => h4 i' f' t' ?_ hx⟩⟩
    have := hx.2.2.1
    have := hx.2.1
    unfold seen at hp ⊢; omega
  · refine ⟨.inr ⟨i0, h1, h2, h3, by unfold seen at h4 ⊢; omega, fun i' f' t' hp hx => ?_⟩⟩
    by_cases e : seen i f 0 i' f' t'
    · exact h5 _ _ _ e hx
    · have := hx.2.2.1
      have := hx.2.1
      unfold seen at e hp h4; omega
/-- What is told of the best. -/
def bestR (b : List UInt8) (arm : Int) (bg en : Nat) : (Nat × Nat × Nat) × Nat := if 0 ≤ arm then ((arm.toNat, bg, en), 0) else ((0, 0, 0), if 256 ≤ b.length then 2 else 1)
end Go.Proofs.Ytbcifjjnnbefkaa
