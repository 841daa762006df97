/-
  The reference's reading of patterns answers as the program's: recursive descent against open levels. Plain, no program. Conditions: none.
-/
import Derived.Test.YtbcifjjnnbefkaaRdr7
import Derived.Test.YtbcifjjnnbefkaaPlaces
namespace Go.Proofs.Ytbcifjjnnbefkaa
open Go.RowKit

theorem isB_iff {s : List UInt8} {i : Nat} {c : UInt8} : isB s i c = true ↔ s[i]? = some c := by unfold isB; simp
theorem esc_sim (s : List UInt8) (i : Nat) : ((escM s i).1.2 = true → escR s i = (((escM s i).1.1, (escM s i).2), 0)) ∧ ((escM s i).1.2 = false → (escR s i).2 = 2) := by
  unfold escM escR
  by_cases h : i < s.length
  · rw [dif_pos h, List.getElem?_eq_getElem h]
    dsimp only
    generalize s[i] = c
    repeat' split
    all_goals simp_all
  · rw [dif_neg h, List.getElem?_eq_none (by omega)]
    simp
theorem one_sim (s : List UInt8) (i : Nat) : ((oneM s i).1.2 = true → oneR s i = (((oneM s i).1.1, (oneM s i).2), 0)) ∧ ((oneM s i).1.2 = false → (oneR s i).2 = 2) := by
  unfold oneM oneR
  by_cases h : i < s.length
  · rw [dif_pos h, List.getElem?_eq_getElem h]
    dsimp only
    generalize s[i] = c
    have he := esc_sim s (i + 1)
    split
    · exact he
    · split <;> simp
  · rw [dif_neg h, List.getElem?_eq_none (by omega)]
    simp
theorem setRL_bad (s : List UInt8) (f i : Nat) (sp : List Span) (bad : Nat) (h : bad ≠ 0) : (setRL s f i sp bad).2 = bad := by
  cases f with
  | zero => rfl
  | succ f => unfold setRL; rw [if_pos h]
theorem setL_sim (s : List UInt8) (neg : Bool) : ∀ (f i : Nat) (sp : List Span), i ≤ s.length → s.length < i + f →
    ((setL s neg f i sp).1.2 = true → setRL s (f + 1) i sp 0 = (((setL s neg f i sp).1.1.spans, (setL s neg f i sp).2), 0) ∧ (setL s neg f i sp).1.1 = ⟨1, neg, (setL s neg f i sp).1.1.spans⟩) ∧ ((setL s neg f i sp).1.2 = false → (setRL s (f + 1) i sp 0).2 = 2)
  | 0, i, sp, h, hf => by omega
  | f + 1, i, sp, h, hf => by
    have o1 := one_sim s i
    have l1 := oneM_le s i
    have o2 := one_sim s ((oneM s i).2 + 1)
    have l2 := oneM_le s ((oneM s i).2 + 1)
    have eR : setRL s (f + 1 + 1) i sp 0 = if sp ≠ [] ∧ isB s i 93 = true then ((sp, i + 1), 0) else
        if (oneR s i).2 = 0 ∧ isB s (oneR s i).1.2 45 = true then
          setRL s (f + 1) (oneR s ((oneR s i).1.2 + 1)).1.2 (sp ++ [⟨(oneR s i).1.1, (oneR s ((oneR s i).1.2 + 1)).1.1⟩]) (if (oneR s ((oneR s i).1.2 + 1)).2 = 0 ∧ (oneR s ((oneR s i).1.2 + 1)).1.1 < (oneR s i).1.1 then 2 else (oneR s ((oneR s i).1.2 + 1)).2)
        else setRL s (f + 1) (oneR s i).1.2 (sp ++ [⟨(oneR s i).1.1, (oneR s i).1.1⟩]) (oneR s i).2 := by
      rw [setRL, if_neg (by simp)]
    have eL : setL s neg (f + 1) i sp = if sp ≠ [] ∧ s[i]? = some 93 then ((⟨1, neg, sp⟩, true), i + 1)
        else if (oneM s i).1.2 = false then ((⟨0, false, []⟩, false), (oneM s i).2)
        else if s[(oneM s i).2]? = some 45 then
          (if (oneM s ((oneM s i).2 + 1)).1.2 = false then ((⟨0, false, []⟩, false), (oneM s ((oneM s i).2 + 1)).2)
           else if (oneM s ((oneM s i).2 + 1)).1.1 < (oneM s i).1.1 then ((⟨0, false, []⟩, false), (oneM s ((oneM s i).2 + 1)).2 - 1)
           else setL s neg f (oneM s ((oneM s i).2 + 1)).2 (sp ++ [⟨(oneM s i).1.1, (oneM s ((oneM s i).2 + 1)).1.1⟩]))
        else setL s neg f (oneM s i).2 (sp ++ [⟨(oneM s i).1.1, (oneM s i).1.1⟩]) := rfl
    by_cases hx : sp ≠ [] ∧ s[i]? = some 93
    · rw [if_pos hx] at eL
      rw [if_pos ⟨hx.1, isB_iff.2 hx.2⟩] at eR
      rw [eL, eR]
      simp
    · rw [if_neg hx] at eL
      rw [if_neg (fun h => hx ⟨h.1, isB_iff.1 h.2⟩)] at eR
      by_cases h1 : (oneM s i).1.2 = false
      · rw [if_pos h1] at eL
        have e := o1.2 h1
        rw [if_neg (fun h => by rw [e] at h; cases h.1)] at eR
        rw [eL, eR]
        refine ⟨fun h => (by cases h), fun _ => ?_⟩
        rw [setRL_bad _ _ _ _ _ (by rw [e]; decide), e]
      · have h1' : (oneM s i).1.2 = true := by simpa using h1
        have e := o1.1 h1'
        have hle := l1.2.2 h1'
        rw [if_neg h1] at eL
        rw [e] at eR
        dsimp only at eR
        by_cases hd : s[(oneM s i).2]? = some 45
        · rw [if_pos hd] at eL
          rw [if_pos ⟨rfl, isB_iff.2 hd⟩] at eR
          by_cases h2 : (oneM s ((oneM s i).2 + 1)).1.2 = false
          · rw [if_pos h2] at eL
            have e2 := o2.2 h2
            rw [if_neg (fun h => by rw [e2] at h; cases h.1)] at eR
            rw [eL, eR]
            refine ⟨fun h => (by cases h), fun _ => ?_⟩
            rw [setRL_bad _ _ _ _ _ (by rw [e2]; decide), e2]
          · have h2' : (oneM s ((oneM s i).2 + 1)).1.2 = true := by simpa using h2
            have e2 := o2.1 h2'
            have hle2 := l2.2.2 h2'
            rw [if_neg h2] at eL
            rw [e2] at eR
            dsimp only at eR
            by_cases hlt : (oneM s ((oneM s i).2 + 1)).1.1 < (oneM s i).1.1
            · rw [if_pos hlt] at eL
              rw [if_pos ⟨rfl, hlt⟩] at eR
              rw [eL, eR]
              refine ⟨fun h => (by cases h), fun _ => ?_⟩
              rw [setRL_bad _ _ _ _ _ (by decide)]
            · rw [if_neg hlt] at eL
              rw [if_neg (fun h => hlt h.2)] at eR
              rw [eL, eR]
              exact setL_sim s neg f _ _ hle2.2 (by omega)
        · rw [if_neg hd] at eL
          rw [if_neg (fun h => hd (isB_iff.1 h.2))] at eR
          rw [eL, eR]
          exact setL_sim s neg f _ _ hle.2 (by omega)
theorem set_sim (s : List UInt8) (i : Nat) (hi : i ≤ s.length) : ((setM s i).1.2 = true → setR s i = (((setM s i).1.1, (setM s i).2), 0)) ∧ ((setM s i).1.2 = false → (setR s i).2 = 2) := by
  unfold setM setR
  by_cases h : s[i]? = some 94
  · have hlt := (List.getElem?_eq_some_iff.1 h).1
    rw [if_pos h, isB_iff.2 h]
    have := setL_sim s true (s.length + 1) (i + 1) [] (by omega) (by omega)
    simp only [if_true]
    refine ⟨fun h1 => ?_, this.2⟩
    obtain ⟨e1, e2⟩ := this.1 h1
    rw [e1]
    dsimp only
    rw [← e2]
  · rw [if_neg h]
    have hb : isB s i 94 = false := by
      cases e : isB s i 94
      · rfl
      · exact absurd (isB_iff.1 e) h
    rw [hb]
    have := setL_sim s false (s.length + 1) i [] hi (by omega)
    simp only [Bool.false_eq_true, if_false]
    refine ⟨fun h1 => ?_, this.2⟩
    obtain ⟨e1, e2⟩ := this.1 h1
    rw [e1]
    dsimp only
    rw [← e2]
theorem escOp_sim (s : List UInt8) (i : Nat) : ((escM s (i + 1)).1.2 = true → escOp s i = (([⟨1, false, [⟨(escM s (i + 1)).1.1, (escM s (i + 1)).1.1⟩]⟩], (escM s (i + 1)).2), 0)) ∧ ((escM s (i + 1)).1.2 = false → (escOp s i).2 = 2) := by
  have h := esc_sim s (i + 1)
  unfold escOp
  exact ⟨fun h1 => by rw [h.1 h1], fun h1 => h.2 h1⟩
theorem bytes_sim (s : List UInt8) (al : Option (Nat → (List Op × Nat) × Nat)) (i : Nat) (c : UInt8) (hc : s[i]? = some c) (h40 : c ≠ 40) :
    ((bytesM s i c).1.2 = true → atomW s al i = (([(bytesM s i c).1.1], (bytesM s i c).2), 0)) ∧ ((bytesM s i c).1.2 = false → (atomW s al i).2 = 2) := by
  have hlt := (List.getElem?_eq_some_iff.1 hc).1
  unfold atomW bytesM
  rw [hc]
  dsimp only
  rw [if_neg h40]
  by_cases h1 : c = 42 ∨ c = 43 ∨ c = 63 ∨ c = 93
  · rw [if_pos h1]
    have e1 : ¬ c = 91 := by rcases h1 with rfl | rfl | rfl | rfl <;> decide
    have e2 : ¬ c = 46 := by rcases h1 with rfl | rfl | rfl | rfl <;> decide
    rw [if_neg e1, if_neg e2, if_pos h1]
    simp
  · rw [if_neg h1]
    by_cases h2 : c = 91
    · rw [if_pos h2, if_pos h2]
      have := set_sim s (i + 1) hlt
      exact ⟨fun h => by rw [this.1 h], this.2⟩
    · rw [if_neg h2, if_neg h2]
      by_cases h3 : c = 46
      · rw [if_pos h3, if_pos h3]; simp
      · rw [if_neg h3, if_neg h3, if_neg h1]
        by_cases h4 : c = 92
        · rw [if_pos h4, if_pos h4]
          cases h5 : s[i + 1]? with
          | none => exact escOp_sim s i
          | some d =>
            dsimp only
            by_cases h6 : classM d = []
            · rw [if_pos h6, if_pos h6]; exact escOp_sim s i
            · rw [if_neg h6, if_neg h6]; simp
        · rw [if_neg h4, if_neg h4]; simp

/-- The program's reader comes from one state to another one. -/
inductive Reach (s : List UInt8) : PS → PS → Prop
  | refl (p : PS) : Reach s p p
  | step {p q : PS} {c : UInt8} : s[p.i]? = some c → (stepM s p c).1 = 0 → Reach s (stepM s p c).2 q → Reach s p q
theorem Reach.trans {s : List UInt8} {p q r : PS} (h : Reach s p q) (h' : Reach s q r) : Reach s p r := by
  induction h with
  | refl => exact h'
  | step a b _ ih => exact .step a b (ih h')
/-- It comes to an error. -/
def Fails (s : List UInt8) (p : PS) (e : Nat) : Prop := ∃ q, Reach s p q ∧ ((∃ c, s[q.i]? = some c ∧ (stepM s q c).1 = e ∧ e ≠ 0) ∨ (e = 2 ∧ s[q.i]? = none ∧ 1 < q.opn.length))
theorem Fails.of {s : List UInt8} {p q : PS} {e : Nat} (h : Reach s p q) (h' : Fails s q e) : Fails s p e := by
  obtain ⟨r, a, b⟩ := h'
  exact ⟨r, h.trans a, b⟩
theorem repOps_pre (s : List UInt8) (j n : Nat) (p x : List Op) : repOps s j n (p ++ x) = p ++ repOps s j n x := by
  unfold repOps pieceOps
  split <;> split <;> simp
def AtS (s : List UInt8) (d : Nat) (at_ : Nat → (List Op × Nat) × Nat) : Prop :=
  ∀ (i : Nat) (c : UInt8) (n br : Nat) (pre : List Op) (lv : List (Nat × Nat)), s[i]? = some c → c ≠ 124 → c ≠ 41 → lv.length = d →
    ((at_ i).2 = 0 → Reach s ⟨i, pre, lv ++ [(br, n)]⟩ ⟨repI s (at_ i).1.2, repOps s (at_ i).1.2 n (pre ++ (at_ i).1.1), lv ++ [(br, n + 1)]⟩) ∧ ((at_ i).2 ≠ 0 → Fails s ⟨i, pre, lv ++ [(br, n)]⟩ (at_ i).2)
def Ended (s : List UInt8) (j : Nat) : Prop := s.length ≤ j ∨ isB s j 124 = true ∨ isB s j 41 = true
theorem branchL_bad (s : List UInt8) (at_ : Nat → (List Op × Nat) × Nat) (f i n : Nat) (out : List Op) (bad : Nat) (h : bad ≠ 0) : (branchL s at_ f i n out bad).2 = bad := by
  cases f with
  | zero => rfl
  | succ f => unfold branchL; rw [if_pos (.inl h)]
theorem branch_sim {s : List UInt8} {d M A : Nat} {at_ : Nat → (List Op × Nat) × Nat} (hS : AtS s d at_) (hB : ∀ i, i < s.length → AtA s M A i (at_ i)) (pre : List Op) (lv : List (Nat × Nat)) (br : Nat) (hlv : lv.length = d) : ∀ (f i n : Nat) (out : List Op), i ≤ s.length → s.length < i + f →
    ((branchL s at_ f i n out 0).2 = 0 → ∃ o n', (branchL s at_ f i n out 0).1.1 = noneIf n' o ∧ Reach s ⟨i, pre ++ out, lv ++ [(br, n)]⟩ ⟨(branchL s at_ f i n out 0).1.2, pre ++ o, lv ++ [(br, n')]⟩ ∧ Ended s (branchL s at_ f i n out 0).1.2) ∧
    ((branchL s at_ f i n out 0).2 ≠ 0 → Fails s ⟨i, pre ++ out, lv ++ [(br, n)]⟩ (branchL s at_ f i n out 0).2)
  | 0, i, n, out, h1, h2 => by omega
  | f + 1, i, n, out, h1, h2 => by
    unfold branchL
    by_cases hc : (0 : Nat) ≠ 0 ∨ s.length ≤ i ∨ isB s i 124 = true ∨ isB s i 41 = true
    · rw [if_pos hc]
      refine ⟨fun _ => ⟨out, n, rfl, .refl _, ?_⟩, fun h => absurd rfl h⟩
      rcases hc with h | h
      · exact absurd rfl h
      · exact h
    · rw [if_neg hc]
      have hi : i < s.length := by
        have : ¬ s.length ≤ i := fun e => hc (.inr (.inl e))
        omega
      have hci : s[i]? = some s[i] := List.getElem?_eq_getElem hi
      have n1 : s[i] ≠ 124 := fun e => hc (.inr (.inr (.inl (isB_iff.2 (by rw [hci, e])))))
      have n2 : s[i] ≠ 41 := fun e => hc (.inr (.inr (.inr (isB_iff.2 (by rw [hci, e])))))
      have ha := hS i s[i] n br (pre ++ out) lv hci n1 n2 hlv
      obtain ⟨x1, x2, x3⟩ := hB i hi
      by_cases hz : (at_ i).2 = 0
      · have hr := ha.1 hz
        have hx := x1 hz
        have rb := repI_b s (at_ i).1.2
        rw [List.append_assoc, repOps_pre] at hr
        have ih := branch_sim hS hB pre lv br hlv f (repI s (at_ i).1.2) (n + 1) (repOps s (at_ i).1.2 n (out ++ (at_ i).1.1)) (by omega) (by omega)
        rw [hz]
        refine ⟨fun h => ?_, fun h => Fails.of hr (ih.2 h)⟩
        obtain ⟨o, n', e, hr2, he⟩ := ih.1 h
        exact ⟨o, n', e, hr.trans hr2, he⟩
      · refine ⟨fun h => ?_, fun h => ?_⟩
        · rw [branchL_bad _ _ _ _ _ _ _ hz] at h; exact absurd h hz
        · rw [branchL_bad _ _ _ _ _ _ _ hz]; exact ha.2 hz
theorem altL_bad (s : List UInt8) (br : Nat → (List Op × Nat) × Nat) (f i : Nat) (out : List Op) (bad : Nat) (h : bad ≠ 0) : (altL s br f i out bad).2 = bad := by
  cases f with
  | zero => rfl
  | succ f => unfold altL; rw [if_pos (.inl h)]
theorem noneIf_ops (br n : Nat) (pre o : List Op) : branchOps br n (pre ++ o) = pre ++ (noneIf n o ++ if br = 0 then [] else [⟨4, false, []⟩]) := by
  unfold branchOps noneIf
  split <;> simp
theorem alt_sim {s : List UInt8} {d M A : Nat} {at_ : Nat → (List Op × Nat) × Nat} (hS : AtS s d at_) (hB : ∀ i, i < s.length → AtA s M A i (at_ i)) (pre : List Op) (lv : List (Nat × Nat)) (hlv : lv.length = d) : ∀ (f i : Nat) (out P : List Op) (b n : Nat), i ≤ s.length → s.length < i + f → branchOps b n P = pre ++ out → Ended s i →
    ((altL s (branchW s at_) f i out 0).2 = 0 → ∃ P' b' n', Reach s ⟨i, P, lv ++ [(b, n)]⟩ ⟨(altL s (branchW s at_) f i out 0).1.2, P', lv ++ [(b', n')]⟩ ∧ branchOps b' n' P' = pre ++ (altL s (branchW s at_) f i out 0).1.1 ∧ (s.length ≤ (altL s (branchW s at_) f i out 0).1.2 ∨ isB s (altL s (branchW s at_) f i out 0).1.2 41 = true)) ∧
    ((altL s (branchW s at_) f i out 0).2 ≠ 0 → Fails s ⟨i, P, lv ++ [(b, n)]⟩ (altL s (branchW s at_) f i out 0).2)
  | 0, i, out, P, b, n, h1, h2, _, _ => by omega
  | f + 1, i, out, P, b, n, h1, h2, hP, hE => by
    unfold altL
    by_cases hc : isB s i 124 = false
    · rw [if_pos (.inr hc)]
      refine ⟨fun _ => ⟨P, b, n, .refl _, hP, ?_⟩, fun h => absurd rfl h⟩
      rcases hE with h | h | h
      · exact .inl h
      · rw [hc] at h; cases h
      · exact .inr h
    · have hc' : isB s i 124 = true := by simpa using hc
      rw [if_neg (by simp [hc'])]
      have hi := isB_some hc'
      have hs124 := isB_iff.1 hc'
      have hstep : stepM s ⟨i, P, lv ++ [(b, n)]⟩ 124 = (0, ⟨i + 1, pre ++ out, lv ++ [(b + 1, 0)]⟩) := by
        unfold stepM
        rw [if_neg (by decide), if_pos rfl]
        simp [PS.branch, PS.next, PS.top, PS.rest, hP]
      have hr1 : Reach s ⟨i, P, lv ++ [(b, n)]⟩ ⟨i + 1, pre ++ out, lv ++ [(b + 1, 0)]⟩ := .step (c := 124) hs124 (by rw [hstep]) (by rw [hstep]; exact .refl _)
      have hb := branch_sim hS hB (pre ++ out) lv (b + 1) hlv (s.length + 1) (i + 1) 0 [] (by omega) (by omega)
      have hbb := branchW_b hB (i + 1) hi
      obtain ⟨y1, y2, y3⟩ := hbb
      change ((branchW s at_ (i + 1)).2 = 0 → _) ∧ _ at hb
      change (_ → ∃ o n', (branchW s at_ (i + 1)).1.1 = noneIf n' o ∧ Reach s _ ⟨(branchW s at_ (i + 1)).1.2, _, _⟩ ∧ Ended s (branchW s at_ (i + 1)).1.2) ∧ ((branchW s at_ (i + 1)).2 ≠ 0 → Fails s _ (branchW s at_ (i + 1)).2) at hb
      rw [List.append_nil] at hb
      by_cases hz : (branchW s at_ (i + 1)).2 = 0
      · obtain ⟨o, n', e, hr2, he⟩ := hb.1 hz
        have hy := y1 hz
        have hops : branchOps (b + 1) n' (pre ++ out ++ o) = pre ++ (out ++ (branchW s at_ (i + 1)).1.1 ++ [⟨4, false, []⟩]) := by
          rw [noneIf_ops, e]; simp
        have ih := alt_sim hS hB pre lv hlv f (branchW s at_ (i + 1)).1.2 (out ++ (branchW s at_ (i + 1)).1.1 ++ [⟨4, false, []⟩]) (pre ++ out ++ o) (b + 1) n' hy.2.1 (by omega) hops he
        rw [hz]
        refine ⟨fun h => ?_, fun h => Fails.of (hr1.trans hr2) (ih.2 h)⟩
        obtain ⟨P', b', n'', r3, e3, e4⟩ := ih.1 h
        exact ⟨P', b', n'', (hr1.trans hr2).trans r3, e3, e4⟩
      · refine ⟨fun h => ?_, fun h => ?_⟩
        · rw [altL_bad _ _ _ _ _ _ hz] at h; exact absurd h hz
        · rw [altL_bad _ _ _ _ _ _ hz]; exact Fails.of hr1 (hb.2 hz)
def AltS (s : List UInt8) (d : Nat) (al : Nat → (List Op × Nat) × Nat) : Prop :=
  ∀ (i : Nat) (pre : List Op) (lv : List (Nat × Nat)), i ≤ s.length → lv.length = d →
    ((al i).2 = 0 → ∃ P' b' n', Reach s ⟨i, pre, lv ++ [(0, 0)]⟩ ⟨(al i).1.2, P', lv ++ [(b', n')]⟩ ∧ branchOps b' n' P' = pre ++ (al i).1.1 ∧ (s.length ≤ (al i).1.2 ∨ isB s (al i).1.2 41 = true)) ∧ ((al i).2 ≠ 0 → Fails s ⟨i, pre, lv ++ [(0, 0)]⟩ (al i).2)
theorem altW_sim {s : List UInt8} {d M A : Nat} {at_ : Nat → (List Op × Nat) × Nat} (hS : AtS s d at_) (hB : ∀ i, i < s.length → AtA s M A i (at_ i)) : AltS s d (altW s (branchW s at_)) := by
  intro i pre lv hi hlv
  have hb := branch_sim hS hB pre lv 0 hlv (s.length + 1) i 0 [] hi (by omega)
  have hbb := branchW_b hB i hi
  obtain ⟨y1, y2, y3⟩ := hbb
  change (_ → ∃ o n', (branchW s at_ i).1.1 = noneIf n' o ∧ Reach s _ ⟨(branchW s at_ i).1.2, _, _⟩ ∧ Ended s (branchW s at_ i).1.2) ∧ ((branchW s at_ i).2 ≠ 0 → Fails s _ (branchW s at_ i).2) at hb
  rw [List.append_nil] at hb
  unfold altW
  by_cases hz : (branchW s at_ i).2 = 0
  · obtain ⟨o, n', e, hr2, he⟩ := hb.1 hz
    have hy := y1 hz
    have hops : branchOps 0 n' (pre ++ o) = pre ++ (branchW s at_ i).1.1 := by rw [noneIf_ops, e]; simp
    have ih := alt_sim hS hB pre lv hlv (s.length + 1) (branchW s at_ i).1.2 (branchW s at_ i).1.1 (pre ++ o) 0 n' hy.2.1 (by omega) hops he
    rw [hz]
    refine ⟨fun h => ?_, fun h => Fails.of hr2 (ih.2 h)⟩
    obtain ⟨P', b', n'', r3, e3, e4⟩ := ih.1 h
    exact ⟨P', b', n'', hr2.trans r3, e3, e4⟩
  · refine ⟨fun h => ?_, fun h => ?_⟩
    · rw [altL_bad _ _ _ _ _ _ hz] at h; exact absurd h hz
    · rw [altL_bad _ _ _ _ _ _ hz]; exact hb.2 hz
/-- An atom, where a bracket's content is read as it should. -/
theorem atomW_sim {s : List UInt8} {d : Nat} {al : Option (Nat → (List Op × Nat) × Nat)} (hal : match al with | none => 8 ≤ d | some f => d < 8 ∧ AltS s (d + 1) f) : AtS s d (atomW s al) := by
  intro i c n br pre lv hc n1 n2 hlv
  have hlt := (List.getElem?_eq_some_iff.1 hc).1
  by_cases h40 : c = 40
  · subst h40
    cases al with
    | none =>
      have hA : atomW s none i = (([], i), 5) := by unfold atomW; rw [hc]; rfl
      rw [hA]
      refine ⟨fun h => (by cases h), fun _ => ⟨_, .refl _, .inl ⟨40, hc, ?_, by simp⟩⟩⟩
      have : 8 ≤ d := hal
      unfold stepM
      rw [if_pos rfl, if_pos (by simp; omega)]
    | some f =>
      obtain ⟨hd, hf⟩ := hal
      have hA : atomW s (some f) i = (((f (i + 1)).1.1, (f (i + 1)).1.2 + 1), if (f (i + 1)).2 = 0 ∧ isB s (f (i + 1)).1.2 41 = false then 2 else (f (i + 1)).2) := by unfold atomW; rw [hc]; rfl
      rw [hA]
      dsimp only
      have hstep : stepM s ⟨i, pre, lv ++ [(br, n)]⟩ 40 = (0, ⟨i + 1, pre, (lv ++ [(br, n)]) ++ [(0, 0)]⟩) := by
        unfold stepM
        rw [if_pos rfl, if_neg (by simp; omega)]
      have hr1 : Reach s ⟨i, pre, lv ++ [(br, n)]⟩ ⟨i + 1, pre, (lv ++ [(br, n)]) ++ [(0, 0)]⟩ := .step (c := 40) hc (by rw [hstep]) (by rw [hstep]; exact .refl _)
      have ha := hf (i + 1) pre (lv ++ [(br, n)]) hlt (by simp; omega)
      by_cases hz : (f (i + 1)).2 = 0
      · obtain ⟨P', b', n', hr2, hops, hend⟩ := ha.1 hz
        by_cases h41 : isB s (f (i + 1)).1.2 41 = false
        · rw [if_pos ⟨hz, h41⟩]
          refine ⟨fun h => (by cases h), fun _ => ⟨_, hr1.trans hr2, .inr ⟨rfl, ?_, by simp⟩⟩⟩
          rcases hend with h | h
          · exact List.getElem?_eq_none h
          · rw [h41] at h; cases h
        · have h41' : isB s (f (i + 1)).1.2 41 = true := by simpa using h41
          rw [if_neg (fun h => h41 h.2)]
          refine ⟨fun _ => ?_, fun h => absurd hz h⟩
          have hs41 := isB_iff.1 h41'
          have hstep2 : stepM s ⟨(f (i + 1)).1.2, P', (lv ++ [(br, n)]) ++ [(b', n')]⟩ 41 = (0, ⟨repI s ((f (i + 1)).1.2 + 1), repOps s ((f (i + 1)).1.2 + 1) n (pre ++ (f (i + 1)).1.1), lv ++ [(br, n + 1)]⟩) := by
            unfold stepM
            rw [if_neg (by decide), if_neg (by decide), if_pos rfl, if_neg (by simp)]
            simp only [PS.branch, PS.pop, PS.next, PS.rep, PS.top, PS.rest, List.getLastD_concat, List.dropLast_concat, hops]
          exact (hr1.trans hr2).trans (.step (c := 41) hs41 (by rw [hstep2]) (by rw [hstep2]; exact .refl _))
      · rw [if_neg (fun h => hz h.1)]
        exact ⟨fun h => absurd h hz, fun _ => Fails.of hr1 (ha.2 hz)⟩
  · have hb := bytes_sim s al i c hc h40
    by_cases hk : (bytesM s i c).1.2 = true
    · have e := hb.1 hk
      rw [e]
      refine ⟨fun _ => ?_, fun h => absurd rfl h⟩
      have hstep : stepM s ⟨i, pre, lv ++ [(br, n)]⟩ c = (0, ⟨repI s (bytesM s i c).2, repOps s (bytesM s i c).2 n (pre ++ [(bytesM s i c).1.1]), lv ++ [(br, n + 1)]⟩) := by
        unfold stepM
        rw [if_neg h40, if_neg n1, if_neg n2, if_neg (by simp [hk])]
        simp only [PS.rep, PS.top, PS.rest, List.getLastD_concat, List.dropLast_concat]
      exact .step (c := c) hc (by rw [hstep]) (by rw [hstep]; exact .refl _)
    · have hk' : (bytesM s i c).1.2 = false := by simpa using hk
      have e := hb.2 hk'
      rw [e]
      refine ⟨fun h => (by cases h), fun _ => ⟨_, .refl _, .inl ⟨c, hc, ?_, by decide⟩⟩⟩
      unfold stepM
      rw [if_neg h40, if_neg n1, if_neg n2, if_pos hk']
theorem altK_sim (s : List UInt8) : ∀ k, k ≤ 8 → AltS s (8 - k) (altK s k)
  | 0, _ => altW_sim (atomW_sim (al := none) (by show 8 ≤ 8; omega)) (atomW_b (M := 1) (A := 4) (Nat.le_refl _) (Nat.le_refl _) (fun f h => by cases h))
  | k + 1, hk => altW_sim (atomW_sim (al := some (altK s k)) ⟨by omega, by rw [show 8 - (k + 1) + 1 = 8 - k by omega]; exact altK_sim s k (by omega)⟩)
      (atomW_b (M := (k + 1) * (4 * s.length + 10)) (A := 5 + k) (by rw [Nat.add_mul]; omega) (by omega) (fun f h => by cases h; exact altK_b s k))

theorem parseL_reach {s : List UInt8} {p q : PS} (h : Reach s p q) : PInv s p → PInv s q ∧ parseL s (s.length + 1) p = parseL s (s.length + 1) q := by
  induction h with
  | refl => exact fun h => ⟨h, rfl⟩
  | @step p q c hc h0 _ ih =>
    intro hI
    have h1 := stepM_inv s p c hI hc h0
    have h2 := ih h1.1
    refine ⟨h2.1, ?_⟩
    rw [← h2.2]
    rw [show parseL s (s.length + 1) p = if (stepM s p c).1 = 0 then parseL s s.length (stepM s p c).2 else stepM s p c by rw [parseL, hc], if_pos h0]
    exact parseL_fuel s _ _ _ h1.1 (by omega) (by omega)
/-- The reference reads patterns as the program does. -/
theorem parse_sim (s : List UInt8) : parseR s = ((parseM s).1, (parseM s).2.2) := by
  unfold parseR parseM
  by_cases h80 : 80 < s.length
  · rw [if_pos h80, if_pos h80]
  · rw [if_neg h80, if_neg h80]
    have hI : PInv s ⟨0, [], [(0, 0)]⟩ := ⟨by simp, by simp, by simp, by simp, by simp⟩
    have hA := altK_sim s 8 (Nat.le_refl _) 0 [] [] (Nat.zero_le _) rfl
    simp only [List.nil_append] at hA
    generalize altK s 8 0 = r at hA
    obtain ⟨⟨l, j⟩, bd⟩ := r
    dsimp only at hA ⊢
    have fails : ∀ e, Fails s ⟨0, [], [(0, 0)]⟩ e → (([] : List Op), e) = ((if (parseL s (s.length + 1) ⟨0, [], [(0, 0)]⟩).1 ≠ 0 then (([] : List Op), (parseL s (s.length + 1) ⟨0, [], [(0, 0)]⟩).2.i, (parseL s (s.length + 1) ⟨0, [], [(0, 0)]⟩).1)
        else if 1 < (parseL s (s.length + 1) ⟨0, [], [(0, 0)]⟩).2.opn.length then ([], (parseL s (s.length + 1) ⟨0, [], [(0, 0)]⟩).2.i, 2)
        else ((parseL s (s.length + 1) ⟨0, [], [(0, 0)]⟩).2.branch.out, 0, 0)).1, (if (parseL s (s.length + 1) ⟨0, [], [(0, 0)]⟩).1 ≠ 0 then (([] : List Op), (parseL s (s.length + 1) ⟨0, [], [(0, 0)]⟩).2.i, (parseL s (s.length + 1) ⟨0, [], [(0, 0)]⟩).1)
        else if 1 < (parseL s (s.length + 1) ⟨0, [], [(0, 0)]⟩).2.opn.length then ([], (parseL s (s.length + 1) ⟨0, [], [(0, 0)]⟩).2.i, 2)
        else ((parseL s (s.length + 1) ⟨0, [], [(0, 0)]⟩).2.branch.out, 0, 0)).2.2) := by
      rintro e ⟨q, hr, hx⟩
      obtain ⟨_, hp⟩ := parseL_reach hr hI
      rw [hp]
      rcases hx with ⟨c, hc, he, hne⟩ | ⟨rfl, hc, hop⟩
      · have h1 : parseL s (s.length + 1) q = stepM s q c := by rw [parseL, hc]; dsimp only; rw [if_neg (by rw [he]; exact hne)]
        rw [h1, he, if_pos hne]
      · have h1 : parseL s (s.length + 1) q = (0, q) := by rw [parseL, hc]
        rw [h1]
        dsimp only
        rw [if_neg (by decide), if_pos hop]
    by_cases hz : bd = 0
    · subst hz
      obtain ⟨P', b', n', hr, hops, hend⟩ := hA.1 rfl
      by_cases hj : j < s.length
      · have h41 : isB s j 41 = true := by
          rcases hend with h | h
          · omega
          · exact h
        have hf : Fails s ⟨0, [], [(0, 0)]⟩ 2 := ⟨_, hr, .inl ⟨41, isB_iff.1 h41, by unfold stepM; rw [if_neg (by decide), if_neg (by decide), if_pos rfl, if_pos (by simp)], by decide⟩⟩
        have h2 : (if (0 : Nat) = 0 ∧ j < s.length then 2 else 0) = 2 := if_pos ⟨rfl, hj⟩
        rw [if_pos (by rw [h2]; decide), h2]
        exact fails 2 hf
      · have h2 : (if (0 : Nat) = 0 ∧ j < s.length then 2 else 0) = 0 := if_neg (fun h => hj h.2)
        rw [if_neg (by rw [h2]; decide)]
        obtain ⟨_, hp⟩ := parseL_reach hr hI
        rw [hp]
        have h1 : parseL s (s.length + 1) ⟨j, P', [(b', n')]⟩ = (0, ⟨j, P', [(b', n')]⟩) := by rw [parseL, show s[(⟨j, P', [(b', n')]⟩ : PS).i]? = none from List.getElem?_eq_none (by show s.length ≤ j; omega)]
        rw [h1]
        simp [PS.branch, PS.top, hops]
    · have h2 : (if bd = 0 ∧ j < s.length then 2 else bd) = bd := if_neg (fun h => hz h.1)
      rw [if_pos (by rw [h2]; exact hz), h2]
      exact fails bd (hA.2 hz)
end Go.Proofs.Ytbcifjjnnbefkaa
