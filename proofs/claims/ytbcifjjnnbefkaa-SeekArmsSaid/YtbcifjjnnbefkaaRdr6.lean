/-
  The reference of layer 8 (davitref08): Alt, and its bounds. Conditions: the reader's block holds its fields, nothing is amiss yet, the pattern's bytes can be read.
-/
import Derived.Test.YtbcifjjnnbefkaaRdr5
namespace Go.Proofs.Ytbcifjjnnbefkaa
open Go.RowKit

def branchW (s : List UInt8) (at_ : Nat → (List Op × Nat) × Nat) (i : Nat) : (List Op × Nat) × Nat := branchL s at_ (s.length + 1) i 0 [] 0
/-- More branches. -/
def altL (s : List UInt8) (br : Nat → (List Op × Nat) × Nat) : Nat → Nat → List Op → Nat → (List Op × Nat) × Nat
  | 0, i, out, bad => ((out, i), bad)
  | f + 1, i, out, bad =>
    if bad ≠ 0 ∨ isB s i 124 = false then ((out, i), bad)
    else altL s br f (br (i + 1)).1.2 (out ++ (br (i + 1)).1.1 ++ [⟨4, false, []⟩]) (br (i + 1)).2
def altW (s : List UInt8) (br : Nat → (List Op × Nat) × Nat) (i : Nat) : (List Op × Nat) × Nat := altL s br (s.length + 1) (br i).1.2 (br i).1.1 (br i).2
/-- Branches, where k more brackets may open. -/
def altK (s : List UInt8) : Nat → Nat → (List Op × Nat) × Nat
  | 0 => altW s (branchW s (atomW s none))
  | k + 1 => altW s (branchW s (atomW s (some (altK s k))))

/-! ### Bounds -/
structure BrB (s : List UInt8) (M A i : Nat) (r : (List Op × Nat) × Nat) : Prop where
  ok : r.2 = 0 → i ≤ r.1.2 ∧ r.1.2 ≤ s.length ∧ r.1.1.length ≤ 2 * (r.1.2 - i) + 1
  len : r.1.1.length ≤ M
  at_ : r.1.2 ≤ s.length + A
structure AtA (s : List UInt8) (M A i : Nat) (r : (List Op × Nat) × Nat) : Prop where
  ok : r.2 = 0 → i < r.1.2 ∧ r.1.2 ≤ s.length ∧ r.1.1.length + 1 ≤ 2 * (r.1.2 - i)
  len : r.1.1.length ≤ M
  at_ : r.1.2 ≤ s.length + A
theorem repI_b (s : List UInt8) (j : Nat) : j ≤ repI s j ∧ (repI s j ≤ s.length ∨ repI s j = j) ∧ repI s j ≤ j + 1 := by
  rcases isB_rep s j with ⟨h, _, _, e⟩ | ⟨_, h, _, e⟩ | ⟨_, _, h, e⟩ | ⟨_, _, _, e⟩
  · have := isB_some h; rw [(repOps_k e (by decide) 0 []).2]; omega
  · have := isB_some h; rw [(repOps_k e (by decide) 0 []).2]; omega
  · have := isB_some h; rw [(repOps_k e (by decide) 0 []).2]; omega
  · rw [(repOps_0 e 0 []).2]; omega
theorem repOps_b (s : List UInt8) (j n : Nat) (out : List Op) : (repOps s j n out).length ≤ out.length + 1 + (repI s j - j) := by
  unfold repOps repI pieceOps
  split <;> split <;> simp
theorem noneIf_b (n : Nat) (out : List Op) : (noneIf n out).length ≤ out.length + 1 := by unfold noneIf; split <;> simp
theorem branchL_b {s : List UInt8} {at_ : Nat → (List Op × Nat) × Nat} {M A : Nat} (hat : ∀ i, i < s.length → AtA s M A i (at_ i)) : ∀ (f i n : Nat) (out : List Op) (bad : Nat), (bad = 0 → i ≤ s.length ∧ s.length < i + f) → i ≤ s.length + A →
    ((branchL s at_ f i n out bad).2 = 0 → bad = 0 ∧ i ≤ (branchL s at_ f i n out bad).1.2 ∧ (branchL s at_ f i n out bad).1.2 ≤ s.length ∧ (branchL s at_ f i n out bad).1.1.length ≤ out.length + 2 * ((branchL s at_ f i n out bad).1.2 - i) + 1) ∧
    (bad = 0 → (branchL s at_ f i n out bad).1.1.length ≤ out.length + 2 * (s.length - i) + M + 3) ∧ (bad ≠ 0 → (branchL s at_ f i n out bad).1.1.length ≤ out.length + 1) ∧ (branchL s at_ f i n out bad).1.2 ≤ s.length + A
  | 0, i, n, out, bad, h, hA => by
    have := noneIf_b n out
    unfold branchL
    exact ⟨fun h0 => by have := h h0; omega, fun h0 => by have := h h0; omega, fun _ => this, hA⟩
  | f + 1, i, n, out, bad, h, hA => by
    have hn := noneIf_b n out
    unfold branchL
    split
    · rename_i hc
      refine ⟨fun h0 => ?_, fun _ => ?_, fun _ => hn, hA⟩
      · have := h h0
        dsimp only at h0 ⊢
        exact ⟨h0, Nat.le_refl _, this.1, by omega⟩
      · dsimp only; omega
    · rename_i hc
      have hb : bad = 0 := Classical.byContradiction fun e => hc (.inl e)
      have hi : i < s.length := by
        have : ¬ s.length ≤ i := fun e => hc (.inr (.inl e))
        omega
      have hx := hat i hi
      obtain ⟨x1, x2, x3⟩ := hx
      have r1 := repI_b s (at_ i).1.2
      have r2 := repOps_b s (at_ i).1.2 n (out ++ (at_ i).1.1)
      simp only [List.length_append] at r2
      have ih := branchL_b hat f (repI s (at_ i).1.2) (n + 1) (repOps s (at_ i).1.2 n (out ++ (at_ i).1.1)) (at_ i).2 (fun h0 => by have := x1 h0; have := h hb; omega) (by omega)
      generalize branchL s at_ f (repI s (at_ i).1.2) (n + 1) (repOps s (at_ i).1.2 n (out ++ (at_ i).1.1)) (at_ i).2 = r at ih
      obtain ⟨i1, i2, i3, i4⟩ := ih
      refine ⟨fun h0 => ?_, fun _ => ?_, fun h => absurd hb h, i4⟩
      · obtain ⟨j1, j2, j3, j4⟩ := i1 h0
        have := x1 j1
        exact ⟨hb, by omega, j3, by omega⟩
      · by_cases e : (at_ i).2 = 0
        · have := x1 e
          have := i2 e
          omega
        · have := i3 e
          omega
theorem branchW_b {s : List UInt8} {at_ : Nat → (List Op × Nat) × Nat} {M A : Nat} (hat : ∀ i, i < s.length → AtA s M A i (at_ i)) (i : Nat) (hi : i ≤ s.length) : BrB s (2 * s.length + M + 3) A i (branchW s at_ i) := by
  have h := branchL_b hat (s.length + 1) i 0 [] 0 (fun _ => ⟨hi, by omega⟩) (by omega)
  unfold branchW
  generalize branchL s at_ (s.length + 1) i 0 [] 0 = r at h
  obtain ⟨i1, i2, _, i4⟩ := h
  have := i2 rfl
  simp only [List.length_nil] at this
  exact ⟨fun h0 => by have := i1 h0; simp at this; omega, by omega, i4⟩
theorem altL_b {s : List UInt8} {br : Nat → (List Op × Nat) × Nat} {M A : Nat} (hbr : ∀ i, i ≤ s.length → BrB s M A i (br i)) : ∀ (f i : Nat) (out : List Op) (bad : Nat), (bad = 0 → i ≤ s.length) → i ≤ s.length + A →
    ((altL s br f i out bad).2 = 0 → bad = 0 ∧ i ≤ (altL s br f i out bad).1.2 ∧ (altL s br f i out bad).1.2 ≤ s.length ∧ (altL s br f i out bad).1.1.length ≤ out.length + 2 * ((altL s br f i out bad).1.2 - i)) ∧
    (bad = 0 → (altL s br f i out bad).1.1.length ≤ out.length + 2 * (s.length - i) + M + 1) ∧ (bad ≠ 0 → (altL s br f i out bad).1.1.length ≤ out.length) ∧ (altL s br f i out bad).1.2 ≤ s.length + A
  | 0, i, out, bad, h, hA => by
    unfold altL
    refine ⟨fun h0 => ?_, fun _ => ?_, fun _ => Nat.le_refl _, hA⟩
    · have := h h0; dsimp only at h0 ⊢; exact ⟨h0, Nat.le_refl _, this, by omega⟩
    · dsimp only; omega
  | f + 1, i, out, bad, h, hA => by
    unfold altL
    split
    · refine ⟨fun h0 => ?_, fun _ => ?_, fun _ => Nat.le_refl _, hA⟩
      · have := h h0; dsimp only at h0 ⊢; exact ⟨h0, Nat.le_refl _, this, by omega⟩
      · dsimp only; omega
    · rename_i hc
      have hb : bad = 0 := Classical.byContradiction fun e => hc (.inl e)
      have hi : isB s i 124 = true := by
        cases e : isB s i 124
        · exact absurd (.inr e) hc
        · rfl
      have hi := isB_some hi
      obtain ⟨x1, x2, x3⟩ := hbr (i + 1) (by omega)
      have ih := altL_b hbr f (br (i + 1)).1.2 (out ++ (br (i + 1)).1.1 ++ [⟨4, false, []⟩]) (br (i + 1)).2 (fun h0 => (x1 h0).2.1) x3
      simp only [List.length_append, List.length_singleton] at ih
      generalize altL s br f (br (i + 1)).1.2 (out ++ (br (i + 1)).1.1 ++ [⟨4, false, []⟩]) (br (i + 1)).2 = r at ih
      obtain ⟨i1, i2, i3, i4⟩ := ih
      refine ⟨fun h0 => ?_, fun _ => ?_, fun h => absurd hb h, i4⟩
      · obtain ⟨j1, j2, j3, j4⟩ := i1 h0
        have := x1 j1
        exact ⟨hb, by omega, j3, by omega⟩
      · by_cases e : (br (i + 1)).2 = 0
        · have := x1 e
          have := i2 e
          omega
        · have := i3 e
          omega
theorem altW_b {s : List UInt8} {br : Nat → (List Op × Nat) × Nat} {M A : Nat} (hbr : ∀ i, i ≤ s.length → BrB s M A i (br i)) (i : Nat) (hi : i ≤ s.length) : BrB s (2 * s.length + M + 2) A i (altW s br i) := by
  obtain ⟨x1, x2, x3⟩ := hbr i hi
  have h := altL_b hbr (s.length + 1) (br i).1.2 (br i).1.1 (br i).2 (fun h0 => (x1 h0).2.1) x3
  unfold altW
  generalize altL s br (s.length + 1) (br i).1.2 (br i).1.1 (br i).2 = r at h
  obtain ⟨i1, i2, i3, i4⟩ := h
  refine ⟨fun h0 => ?_, ?_, i4⟩
  · obtain ⟨j1, j2, j3, j4⟩ := i1 h0
    have := x1 j1
    omega
  · by_cases e : (br i).2 = 0
    · have := x1 e
      have := i2 e
      omega
    · have := i3 e
      omega
theorem setRL_at (s : List UInt8) : ∀ (f i : Nat) (sp : List Span) (bad : Nat), (bad = 0 → i ≤ s.length) → i ≤ s.length + 4 →
    ((setRL s f i sp bad).2 = 0 → bad = 0 ∧ s.length < i + f → i < (setRL s f i sp bad).1.2 ∧ (setRL s f i sp bad).1.2 ≤ s.length) ∧ (setRL s f i sp bad).1.2 ≤ s.length + 4
  | 0, i, sp, bad, h, hA => by
    unfold setRL
    exact ⟨fun h0 hf => by have := h h0; omega, hA⟩
  | f + 1, i, sp, bad, h, hA => by
    unfold setRL
    split
    · rename_i hb
      exact ⟨fun h0 _ => absurd h0 hb, hA⟩
    · rename_i hb
      have hb : bad = 0 := Classical.byContradiction hb
      have hi := h hb
      split
      · rename_i hx
        have := isB_some hx.2
        exact ⟨fun _ _ => by dsimp only; omega, by dsimp only; omega⟩
      · have o1 := oneR_at s i
        split
        · rename_i hx
          have o2 := oneR_at s ((oneR s i).1.2 + 1)
          have h1 := o1.2 hx.1
          have h2 := isB_some hx.2
          have ih := setRL_at s f (oneR s ((oneR s i).1.2 + 1)).1.2 (sp ++ [⟨(oneR s i).1.1, (oneR s ((oneR s i).1.2 + 1)).1.1⟩]) (if (oneR s ((oneR s i).1.2 + 1)).2 = 0 ∧ (oneR s ((oneR s i).1.2 + 1)).1.1 < (oneR s i).1.1 then 2 else (oneR s ((oneR s i).1.2 + 1)).2)
            (fun h0 => by
              split at h0
              · cases h0
              · exact (o2.2 h0).2) (by omega)
          refine ⟨fun h0 hf => ?_, ih.2⟩
          have hz : (if (oneR s ((oneR s i).1.2 + 1)).2 = 0 ∧ (oneR s ((oneR s i).1.2 + 1)).1.1 < (oneR s i).1.1 then 2 else (oneR s ((oneR s i).1.2 + 1)).2) = 0 := by
            have gen : ∀ (f i : Nat) (sp : List Span) (bad : Nat), (setRL s f i sp bad).2 = 0 → bad = 0 := fun f i sp bad => by
              cases f with
              | zero => exact id
              | succ f =>
                intro h
                by_cases e : bad = 0
                · exact e
                · unfold setRL at h; rw [if_pos e] at h; exact h
            exact gen _ _ _ _ h0
          have hz2 := hz
          split at hz
          · cases hz
          · have h3 := o2.2 hz
            have := ih.1 h0 ⟨hz2, by omega⟩
            omega
        · have ih := setRL_at s f (oneR s i).1.2 (sp ++ [⟨(oneR s i).1.1, (oneR s i).1.1⟩]) (oneR s i).2 (fun h0 => (o1.2 h0).2) (by omega)
          refine ⟨fun h0 hf => ?_, ih.2⟩
          have gen : ∀ (f i : Nat) (sp : List Span) (bad : Nat), (setRL s f i sp bad).2 = 0 → bad = 0 := fun f i sp bad => by
            cases f with
            | zero => exact id
            | succ f =>
              intro h
              by_cases e : bad = 0
              · exact e
              · unfold setRL at h; rw [if_pos e] at h; exact h
          have hz := gen _ _ _ _ h0
          have h3 := o1.2 hz
          have := ih.1 h0 ⟨hz, by omega⟩
          omega
theorem setR_at (s : List UInt8) (i : Nat) (hi : i ≤ s.length) : ((setR s i).2 = 0 → i < (setR s i).1.2 ∧ (setR s i).1.2 ≤ s.length) ∧ (setR s i).1.2 ≤ s.length + 4 := by
  unfold setR
  dsimp only
  have hle : (if isB s i 94 = true then i + 1 else i) ≤ s.length ∧ i ≤ (if isB s i 94 = true then i + 1 else i) := by
    split
    · rename_i h; have := isB_some h; omega
    · omega
  have h := setRL_at s (s.length + 2) (if isB s i 94 = true then i + 1 else i) [] 0 (fun _ => hle.1) (by omega)
  refine ⟨fun h0 => ?_, h.2⟩
  have := h.1 h0 ⟨rfl, by omega⟩
  omega
theorem atomW_b {s : List UInt8} {al : Option (Nat → (List Op × Nat) × Nat)} {M A : Nat} (hM : 1 ≤ M) (hA : 4 ≤ A) (hal : ∀ f, al = some f → ∀ i, i ≤ s.length → BrB s M A i (f i)) (i : Nat) (hi : i < s.length) : AtA s M (A + 1) i (atomW s al i) := by
  have hesc := escR_at s (i + 1)
  have eo : AtA s M (A + 1) i (escOp s i) := by
    unfold escOp
    exact ⟨fun h0 => by have := hesc.2 h0; simp; omega, by simpa using hM, by dsimp only; omega⟩
  unfold atomW
  rw [List.getElem?_eq_getElem hi]
  dsimp only
  split
  · cases al with
    | none => exact ⟨fun h => (by cases h), by simp, by dsimp only; omega⟩
    | some f =>
      obtain ⟨x1, x2, x3⟩ := hal f rfl (i + 1) hi
      dsimp only
      refine ⟨fun h0 => ?_, x2, by dsimp only; omega⟩
      dsimp only at h0 ⊢
      split at h0
      · cases h0
      · rename_i hc
        have h41 : isB s (f (i + 1)).1.2 41 = true := by
          cases e : isB s (f (i + 1)).1.2 41
          · exact absurd ⟨h0, e⟩ hc
          · rfl
        have := isB_some h41
        have := x1 h0
        omega
  · split
    · have := setR_at s (i + 1) hi
      exact ⟨fun h0 => by have := this.1 h0; simp; omega, by simpa using hM, by dsimp only; omega⟩
    · split
      · exact ⟨fun _ => by simp; omega, by simpa using hM, by dsimp only; omega⟩
      · split
        · exact ⟨fun h => (by cases h), by simpa using hM, by dsimp only; omega⟩
        · split
          · split
            · exact eo
            · split
              · exact eo
              · rename_i d hd _
                have := (List.getElem?_eq_some_iff.1 hd).1
                exact ⟨fun _ => by simp; omega, by simpa using hM, by dsimp only; omega⟩
          · exact ⟨fun _ => by simp; omega, by simpa using hM, by dsimp only; omega⟩
theorem altK_b (s : List UInt8) : ∀ (k i : Nat), i ≤ s.length → BrB s ((k + 1) * (4 * s.length + 10)) (5 + k) i (altK s k i)
  | 0, i, hi => by
    have h := altW_b (branchW_b (atomW_b (s := s) (al := none) (M := 1) (A := 4) (Nat.le_refl _) (Nat.le_refl _) (fun f h => by cases h))) i hi
    exact ⟨h.ok, Nat.le_trans h.len (by omega), h.at_⟩
  | k + 1, i, hi => by
    have h := altW_b (branchW_b (atomW_b (s := s) (al := some (altK s k)) (M := (k + 1) * (4 * s.length + 10)) (A := 5 + k) (by rw [Nat.add_mul]; omega) (by omega) (fun f h => by cases h; exact altK_b s k))) i hi
    refine ⟨h.ok, Nat.le_trans h.len ?_, Nat.le_trans h.at_ (by omega)⟩
    rw [show k + 1 + 1 = (k + 1) + 1 from rfl, Nat.add_mul (k + 1) 1]
    omega
end Go.Proofs.Ytbcifjjnnbefkaa
