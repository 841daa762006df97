/-
  Of patterns that are read: the arms' sizes. Plain, no program. Conditions: none.
-/
import Derived.Test.YtbcifjjnnbefkaaSeek6
namespace Go.Proofs.Ytbcifjjnnbefkaa
open Go.RowKit

def FewI (n : Nat) (l : List Inst) : Prop := ∀ x ∈ l, x.spans.length ≤ n
theorem FewI.app {n : Nat} {l l' : List Inst} (h : FewI n l) (h' : FewI n l') : FewI n (l ++ l') := fun o ho => (List.mem_append.1 ho).elim (h o) (h' o)
theorem FewI.one {n : Nat} {o : Inst} (h : o.spans.length ≤ n) : FewI n [o] := fun o' ho => by rw [List.mem_singleton.1 ho]; exact h
theorem FewI.put {n many : Nat} {l : List Inst} (h : FewI n l) : FewI n (putM many l) := by
  unfold putM; split
  · exact fun x hx => by cases hx
  · exact h
theorem bStep_fewI {n many : Nat} {R : List (List Inst)} {o : Op} {s : Nat × List (List Inst)} (ho : o.spans.length ≤ n) (h : ∀ x ∈ R, FewI n x) (hs : bStep many R o = some s) : ∀ x ∈ s.2, FewI n x := by
  have key : ∀ (l : List Inst) (R' : List (List Inst)), FewI n l → (∀ x ∈ R', FewI n x) → ∀ x ∈ l :: R', FewI n x := fun l R' h1 h2 x hx => (List.mem_cons.1 hx).elim (fun e => e ▸ h1) (h2 x)
  have t0 : ∀ x y : Int, FewI n [twoI x y] := fun x y => FewI.one (Nat.zero_le _)
  have g0 : ∀ x : Int, FewI n [goI x] := fun x => FewI.one (Nat.zero_le _)
  unfold bStep at hs
  split at hs
  · cases hs; exact key _ _ (FewI.put (FewI.one ho)) h
  · split at hs
    · cases hs; exact key _ _ (fun x hx => by cases hx) h
    · split at hs
      · split at hs
        · rename_i y x R; cases hs
          exact key _ _ (FewI.put ((h x (by simp)).app (h y (by simp)))) (fun z hz => h z (by simp [hz]))
        · cases hs
      · split at hs
        · split at hs
          · rename_i y x R; cases hs
            exact key _ _ (FewI.put ((((t0 _ _).app (h x (by simp))).app (g0 _)).app (h y (by simp)))) (fun z hz => h z (by simp [hz]))
          · cases hs
        · split at hs
          · split at hs
            · rename_i x R; cases hs
              exact key _ _ (FewI.put (((t0 _ _).app (h x (by simp))).app (g0 _))) (fun z hz => h z (by simp [hz]))
            · cases hs
          · split at hs
            · split at hs
              · rename_i x R; cases hs
                exact key _ _ (FewI.put ((h x (by simp)).app (t0 _ _))) (fun z hz => h z (by simp [hz]))
              · cases hs
            · split at hs
              · split at hs
                · rename_i x R; cases hs
                  exact key _ _ (FewI.put ((t0 _ _).app (h x (by simp)))) (fun z hz => h z (by simp [hz]))
                · cases hs
              · cases hs
theorem bRun_fewI {n : Nat} : ∀ (l : List Op) (many : Nat) (R : List (List Inst)) (s : Nat × List (List Inst)), (∀ o ∈ l, o.spans.length ≤ n) → (∀ x ∈ R, FewI n x) → bRun many R l = some s → ∀ x ∈ s.2, FewI n x
  | [], many, R, s, _, h, hs => by cases hs; exact h
  | o :: l, many, R, s, ho, h, hs => by
    unfold bRun at hs
    cases h1 : bStep many R o with
    | none => rw [h1] at hs; cases hs
    | some s1 =>
      rw [h1] at hs
      exact bRun_fewI l _ _ s (fun o' h' => ho o' (by simp [h'])) (bStep_fewI (ho o (by simp)) h h1) hs
/-- A pattern's instructions: few, of few spans. -/
theorem arm_fit (s : List UInt8) (h : (armM s).2 = 0) : (armM s).1.length ≤ 200 ∧ FewI 100 (armM s).1 := by
  unfold armM at h ⊢
  split at h
  · rename_i h2; exact absurd h h2
  · rename_i h2
    rw [if_neg h2]
    have h0 : (parseM s).2.2 = 0 := by simpa using h2
    obtain ⟨tot, hr, -⟩ := places s h0
    obtain ⟨_, _, _, hs80⟩ := parse_fit s h0
    have hfew := bRun_fewI (n := 100) _ _ _ _ (fun o ho => by have := parse_few s o ho; omega) (fun x hx => by cases hx) hr
    have hi := (bRun_inv _ 0 0 [] _ ⟨by omega, by simp, by simp⟩ hr).rows
    rw [hr] at h ⊢
    dsimp only at h ⊢
    obtain ⟨many, R⟩ := tot
    unfold bEnd at h ⊢
    dsimp only at h ⊢ hi hfew
    split
    · rename_i x
      split
      · rename_i h3; simp [h3] at h
      · simp at hi
        exact ⟨by simp; omega, (hfew x (by simp)).app (FewI.one (o := doneI) (by decide))⟩
    · exact ⟨by simp, fun x hx => by cases hx⟩
theorem armsL_all : ∀ (l : List (List UInt8)) (i : Nat) (out : List (List Inst)), (armsL l i out).2.2 = 0 → (∀ p ∈ out, p.length ≤ 200 ∧ FewI 100 p) → ∀ p ∈ (armsL l i out).1, p.length ≤ 200 ∧ FewI 100 p
  | [], _, _, _, h => h
  | s :: l, i, out, h0, h => by
    unfold armsL at h0 ⊢
    split at h0
    · rename_i h2; exact absurd h0 h2
    · rename_i h2
      rw [if_neg h2]
      refine armsL_all l _ _ h0 fun p hp => ?_
      rcases List.mem_append.1 hp with hp | hp
      · exact h p hp
      · rw [List.mem_singleton.1 hp]; exact arm_fit s (by simpa using h2)
theorem armsL_len : ∀ (l : List (List UInt8)) (i : Nat) (out : List (List Inst)), (armsL l i out).1.length ≤ l.length + out.length
  | [], _, _ => by simp [armsL]
  | s :: l, i, out => by
    unfold armsL
    split
    · simp
    · have := armsL_len l (i + 1) (out ++ [(armM s).1]); simp at this ⊢; omega
theorem arms_len (l : List (List UInt8)) : (armsM l).1.length ≤ l.length := by have := armsL_len l 0 []; simpa [armsM] using this

/-- Where an error is told there are no arms. -/
theorem armsL_err : ∀ (l : List (List UInt8)) (i : Nat) (out : List (List Inst)), (armsL l i out).2.2 ≠ 0 → (armsL l i out).1 = []
  | [], i, out, h => absurd rfl h
  | s :: l, i, out, h => by
    rw [armsL] at h ⊢
    by_cases h2 : (armM s).2 ≠ 0
    · rw [if_pos h2]
    · rw [if_neg h2] at h ⊢
      exact armsL_err l (i + 1) _ h
theorem armsM_all (l : List (List UInt8)) : ∀ p ∈ (armsM l).1, p.length ≤ 200 ∧ FewI 100 p := by
  intro p hp
  by_cases h : (armsM l).2.2 = 0
  · exact armsL_all l 0 [] h (fun q hq => by cases hq) p hp
  · rw [show (armsM l).1 = [] from armsL_err l 0 [] h] at hp; cases hp
end Go.Proofs.Ytbcifjjnnbefkaa
