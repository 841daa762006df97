/-
  Of patterns that are read: the arms' sizes; and that what is found stays found when more comes behind. Plain, no program. Conditions: none.
-/
import Derived.Test.YtbcifjjnnbefkaaFound
import Derived.Test.YtbcifjjnnbefkaaSeek6
namespace Go.Proofs.Ytbcifjjnnbefkaa
open Go.RowKit

def FewI (n : Nat) (l : List Inst) : Prop := ∀ x ∈ l, x.spans.length ≤ n
theorem FewI.app {n : Nat} {l l' : List Inst} (h : FewI n l) (h' : FewI n l') : FewI n (l ++ l') := fun o ho => (List.mem_append.1 ho).elim (h o) (h' o)
theorem FewI.one {n : Nat} {o : Inst} (h : o.spans.length ≤ n) : FewI n [o] := fun o' ho => by rw [List.mem_singleton.1 ho]; exact h
theorem FewI.put {n many : Nat} {l : List Inst} (h : FewI n l) : FewI n (putM many l) := by
  unfold putM; split
  · exact fun x hx => by cases hx
  · exact h
theorem bStep_fewI {n many : Nat} {R : List (List Inst)} {o : Op} {s : Nat × List (List Inst)} (ho : o.spans.length ≤ n) (h : ∀ x ∈ R, FewI n x) (hs : bStep many R o = some s) : ∀ x ∈ s.2, FewI n x := by
  have key : ∀ (l : List Inst) (R' : List (List Inst)), FewI n l → (∀ x ∈ R', FewI n x) → ∀ x ∈ l :: R', FewI n x := fun l R' h1 h2 x hx => (List.mem_cons.1 hx).elim (fun e => e ▸ h1) (h2 x)
  have t0 : ∀ x y : Int, FewI n [twoI x y] := fun x y => FewI.one (Nat.zero_le _)
  have g0 : ∀ x : Int, FewI n [goI x] := fun x => FewI.one (Nat.zero_le _)
  unfold bStep at hs
  split at hs
  · cases hs; exact key _ _ (FewI.put (FewI.one ho)) h
  · split at hs
    · cases hs; exact key _ _ (fun x hx => by cases hx) h
    · split at hs
      · split at hs
        · rename_i y x R; cases hs
          exact key _ _ (FewI.put ((h x (by simp)).app (h y (by simp)))) (fun z hz => h z (by simp [hz]))
        · cases hs
      · split at hs
        · split at hs
          · rename_i y x R; cases hs
            exact key _ _ (FewI.put ((((t0 _ _).app (h x (by simp))).app (g0 _)).app (h y (by simp)))) (fun z hz => h z (by simp [hz]))
          · cases hs
        · split at hs
          · split at hs
            · rename_i x R; cases hs
              exact key _ _ (FewI.put (((t0 _ _).app (h x (by simp))).app (g0 _))) (fun z hz => h z (by simp [hz]))
            · cases hs
          · split at hs
            · split at hs
              · rename_i x R; cases hs
                exact key _ _ (FewI.put ((h x (by simp)).app (t0 _ _))) (fun z hz => h z (by simp [hz]))
              · cases hs
            · split at hs
              · split at hs
                · rename_i x R; cases hs
                  exact key _ _ (FewI.put ((t0 _ _).app (h x (by simp)))) (fun z hz => h z (by simp [hz]))
                · cases hs
              · cases hs
theorem bRun_fewI {n : Nat} : ∀ (l : List Op) (many : Nat) (R : List (List Inst)) (s : Nat × List (List Inst)), (∀ o ∈ l, o.spans.length ≤ n) → (∀ x ∈ R, FewI n x) → bRun many R l = some s → ∀ x ∈ s.2, FewI n x
  | [], many, R, s, _, h, hs => by cases hs; exact h
  | o :: l, many, R, s, ho, h, hs => by
    unfold bRun at hs
    cases h1 : bStep many R o with
    | none => rw [h1] at hs; cases hs
    | some s1 =>
      rw [h1] at hs
      exact bRun_fewI l _ _ s (fun o' h' => ho o' (by simp [h'])) (bStep_fewI (ho o (by simp)) h h1) hs
/-- A pattern's instructions: few, of few spans. -/
theorem arm_fit (s : List UInt8) (h : (armM s).2 = 0) : (armM s).1.length ≤ 200 ∧ FewI 100 (armM s).1 := by
  unfold armM at h ⊢
  split at h
  · rename_i h2; exact absurd h h2
  · rename_i h2
    rw [if_neg h2]
    have h0 : (parseM s).2.2 = 0 := by simpa using h2
    obtain ⟨tot, hr, -⟩ := places s h0
    obtain ⟨_, _, _, hs80⟩ := parse_fit s h0
    have hfew := bRun_fewI (n := 100) _ _ _ _ (fun o ho => by have := parse_few s o ho; omega) (fun x hx => by cases hx) hr
    have hi := (bRun_inv _ 0 0 [] _ ⟨by omega, by simp, by simp⟩ hr).rows
    rw [hr] at h ⊢
    dsimp only at h ⊢
    obtain ⟨many, R⟩ := tot
    unfold bEnd at h ⊢
    dsimp only at h ⊢ hi hfew
    split
    · rename_i x
      split
      · rename_i h3; simp [h3] at h
      · simp at hi
        exact ⟨by simp; omega, (hfew x (by simp)).app (FewI.one (o := doneI) (by decide))⟩
    · exact ⟨by simp, fun x hx => by cases hx⟩
theorem armsL_all : ∀ (l : List (List UInt8)) (i : Nat) (out : List (List Inst)), (armsL l i out).2.2 = 0 → (∀ p ∈ out, p.length ≤ 200 ∧ FewI 100 p) → ∀ p ∈ (armsL l i out).1, p.length ≤ 200 ∧ FewI 100 p
  | [], _, _, _, h => h
  | s :: l, i, out, h0, h => by
    unfold armsL at h0 ⊢
    split at h0
    · rename_i h2; exact absurd h0 h2
    · rename_i h2
      rw [if_neg h2]
      refine armsL_all l _ _ h0 fun p hp => ?_
      rcases List.mem_append.1 hp with hp | hp
      · exact h p hp
      · rw [List.mem_singleton.1 hp]; exact arm_fit s (by simpa using h2)
theorem armsL_len : ∀ (l : List (List UInt8)) (i : Nat) (out : List (List Inst)), (armsL l i out).1.length ≤ l.length + out.length
  | [], _, _ => by simp [armsL]
  | s :: l, i, out => by
    unfold armsL
    split
    · simp
    · have := armsL_len l (i + 1) (out ++ [(armM s).1]); simp at this ⊢; omega
theorem arms_len (l : List (List UInt8)) : (armsM l).1.length ≤ l.length := by have := armsL_len l 0 []; simpa [armsM] using this

/-- Only the bytes that came matter. -/
theorem metAt_congr (p : List Inst) (b b' : List UInt8) (f f' : Nat) : ∀ k, (∀ j, j < k → b[f + j]? = b'[f' + j]?) → metAt p b f k = metAt p b' f' k
  | 0, _ => rfl
  | k + 1, h => by
    unfold metAt
    rw [h k (by omega), metAt_congr p b b' f f' k fun j hj => h j (by omega)]
theorem hit_more {arms : List (List Inst)} {b more : List UInt8} {i f t : Nat} (ht : t ≤ b.length) : hit arms (b ++ more) i f t ↔ hit arms b i f t := by
  unfold hit
  by_cases hf : f ≤ t
  · have e := metAt_congr (arms.getD i []) (b ++ more) b f f (t - f) fun j hj => List.getElem?_append_left (by omega)
    rw [e]
    simp only [List.length_append]
    constructor
    · rintro ⟨h1, h2, h3, h4⟩; exact ⟨h1, h2, ht, h4⟩
    · rintro ⟨h1, h2, h3, h4⟩; exact ⟨h1, h2, by omega, h4⟩
  · constructor <;> (rintro ⟨_, h, _⟩; exact absurd h hf)
theorem look_of {arms : List (List Inst)} (hF : Fit arms) {b : List UInt8} (hb : b.length < 256) :
    (∃ i g t, lookM arms b = ((i, g, t), 0) ∧ hit arms b i g t ∧ ∀ i' g' t', hit arms b i' g' t' → t < t' ∨ (t = t' ∧ (i < i' ∨ (i = i' ∧ g ≤ g')))) ∨ (lookM arms b = ((0, 0, 0), 1) ∧ ∀ i g t, ¬ hit arms b i g t) := by
  have hs := look_start hF b
  have e : b.take 256 = b := List.take_of_length_le (by omega)
  unfold lookM
  rw [e]
  cases hk : lookL arms b (b.length + 2) 0 (List.replicate arms.length zeros) with
  | none =>
    rw [hk] at hs
    right
    exact ⟨by dsimp only; rw [if_neg (by omega)], hs⟩
  | some r =>
    obtain ⟨i, g, t⟩ := r
    rw [hk] at hs
    left
    exact ⟨i, g, t, rfl, hs.1, hs.2⟩
/-- What is found is found, too, when more comes behind. -/
theorem stays {arms : List (List Inst)} (hF : Fit arms) {b more : List UInt8} (hb : b.length ≤ 60) (hm : more.length ≤ 60) :
    (∃ i g t, lookM arms b = ((i, g, t), 0) ∧ i < arms.length ∧ g ≤ t ∧ t ≤ b.length ∧ doneB (arms.getD i []) (metAt (arms.getD i []) ((b.take t).drop g) 0 (t - g)) = true ∧ lookM arms (b ++ more) = ((i, g, t), 0)) ∨
      (lookM arms b = ((0, 0, 0), 1) ∧ ((lookM arms (b ++ more)).2 = 0 → b.length < (lookM arms (b ++ more)).1.2.2)) := by
  have h2 := look_of hF (b := b ++ more) (by simp; omega)
  rcases look_of hF (b := b) (by omega) with ⟨i, g, t, e, hh, hmin⟩ | ⟨e, hno⟩
  · refine .inl ⟨i, g, t, e, hh.1, hh.2.1, hh.2.2.1, ?_, ?_⟩
    · have e2 := metAt_congr (arms.getD i []) ((b.take t).drop g) b 0 g (t - g) fun j hj => by
        rw [List.getElem?_drop, List.getElem?_take_of_lt (by omega), Nat.zero_add]
      rw [e2]; exact hh.2.2.2
    · have hh2 : hit arms (b ++ more) i g t := (hit_more hh.2.2.1).2 hh
      rcases h2 with ⟨i', g', t', e', hh', hmin'⟩ | ⟨e', hno'⟩
      · have q1 := hmin' _ _ _ hh2
        have ht' : t' ≤ b.length := by have := hh.2.2.1; omega
        have q2 := hmin _ _ _ ((hit_more ht').1 hh')
        have e1 : i = i' := by omega
        have e2 : g = g' := by omega
        have e3 : t = t' := by omega
        subst e1; subst e2; subst e3
        exact e'
      · exact absurd hh2 (hno' _ _ _)
  · refine .inr ⟨e, fun h0 => ?_⟩
    rcases h2 with ⟨i', g', t', e', hh', hmin'⟩ | ⟨e', hno'⟩
    · rw [e']
      by_cases ht : t' ≤ b.length
      · exact absurd ((hit_more ht).1 hh') (hno _ _ _)
      · dsimp only; omega
    · rw [e'] at h0; cases h0
end Go.Proofs.Ytbcifjjnnbefkaa
