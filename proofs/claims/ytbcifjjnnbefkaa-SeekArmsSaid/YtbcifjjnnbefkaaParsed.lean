/-
  What is read is fit to be built: each op of a parsed pattern finds on the pile what it takes, one piece is left, and the instructions are few. Plain lists, no program. Conditions: none.
-/
import Derived.Test.YtbcifjjnnbefkaaNfa8
namespace Go.Proofs.Ytbcifjjnnbefkaa

/-- How deep the pile is behind an op. -/
def dStep (n : Nat) (o : Op) : Option Nat :=
  if o.kind = 1 ∨ o.kind = 2 then some (n + 1) else if o.kind = 3 ∨ o.kind = 4 then (if 2 ≤ n then some (n - 1) else none) else if o.kind = 5 ∨ o.kind = 6 ∨ o.kind = 7 then (if 1 ≤ n then some n else none) else none
def dRun : Nat → List Op → Option Nat
  | n, [] => some n
  | n, o :: l => (dStep n o).bind fun m => dRun m l
theorem dRun_append : ∀ (l1 l2 : List Op) (n : Nat), dRun n (l1 ++ l2) = (dRun n l1).bind fun m => dRun m l2
  | [], _, _ => rfl
  | o :: l1, l2, n => by
    simp only [List.cons_append, dRun]
    cases dStep n o with
    | none => rfl
    | some m => exact dRun_append l1 l2 m
/-- How many instructions an op makes. -/
def wOp (o : Op) : Nat := if o.kind = 4 ∨ o.kind = 5 then 2 else if o.kind = 1 ∨ o.kind = 6 ∨ o.kind = 7 then 1 else 0
def wOps (l : List Op) : Nat := (l.map wOp).sum
theorem wOps_append (l1 l2 : List Op) : wOps (l1 ++ l2) = wOps l1 + wOps l2 := by unfold wOps; simp

theorem bStep_dep {many : Nat} {R : List (List Inst)} {o : Op} {m : Nat} (h : dStep R.length o = some m) : ∃ s, bStep many R o = some s ∧ s.2.length = m ∧ s.1 = many + wOp o := by
  obtain ⟨kind, neg, spans⟩ := o
  unfold dStep at h
  unfold bStep wOp
  dsimp only at h ⊢
  by_cases h1 : kind = 1
  · subst h1; simp at h ⊢; exact h
  · by_cases h2 : kind = 2
    · subst h2; simp at h ⊢; exact h
    · by_cases h3 : kind = 3
      · subst h3
        simp at h
        match R, h with
        | y :: x :: R, h => simp at h ⊢; omega
        | [_], h => simp at h
        | [], h => simp at h
      · by_cases h4 : kind = 4
        · subst h4
          simp at h
          match R, h with
          | y :: x :: R, h => simp at h ⊢; omega
          | [_], h => simp at h
          | [], h => simp at h
        · by_cases h5 : kind = 5
          · subst h5
            simp at h
            match R, h with
            | x :: R, h => simp at h ⊢; omega
            | [], h => simp at h
          · by_cases h6 : kind = 6
            · subst h6
              simp at h
              match R, h with
              | x :: R, h => simp at h ⊢; omega
              | [], h => simp at h
            · by_cases h7 : kind = 7
              · subst h7
                simp at h
                match R, h with
                | x :: R, h => simp at h ⊢; omega
                | [], h => simp at h
              · simp [h1, h2, h3, h4, h5, h6, h7] at h
theorem bRun_dep : ∀ (l : List Op) (many : Nat) (R : List (List Inst)) (d : Nat), dRun R.length l = some d → ∃ s, bRun many R l = some s ∧ s.2.length = d ∧ s.1 = many + wOps l
  | [], many, R, d, h => by
    cases h
    exact ⟨_, rfl, rfl, by simp [wOps]⟩
  | o :: l, many, R, d, h => by
    simp only [dRun] at h
    cases hs : dStep R.length o with
    | none => rw [hs] at h; cases h
    | some m =>
      rw [hs] at h
      obtain ⟨s, e, hm, hw⟩ := bStep_dep (many := many) hs
      have h' : dRun s.2.length l = some d := by rw [hm]; exact h
      obtain ⟨s', e', hd, hw'⟩ := bRun_dep l s.1 s.2 d h'
      refine ⟨s', by rw [bRun, e]; exact e', hd, ?_⟩
      rw [hw', hw, wOps, wOps, List.map_cons, List.sum_cons]
      omega

/-- What the levels have on the pile; what they still owe. -/
def levD (l : List (Nat × Nat)) : Nat := (l.map fun e => (if 0 < e.1 then 1 else 0) + if 0 < e.2 then 1 else 0).sum
def levW (l : List (Nat × Nat)) : Nat := (l.map fun e => if 0 < e.1 then 2 else 0).sum
structure PFit (p : PS) : Prop where
  dep : dRun 0 p.out = some (levD p.opn)
  wgt : wOps p.out + levW p.opn ≤ 2 * p.i

theorem branch_fit {br pc n : Nat} {out : List Op} (h : dRun 0 out = some (n + ((if 0 < br then 1 else 0) + if 0 < pc then 1 else 0))) :
    dRun 0 (branchOps br pc out) = some (n + 1) ∧ wOps (branchOps br pc out) = wOps out + if 0 < br then 2 else 0 := by
  unfold branchOps
  by_cases h1 : pc = 0 <;> by_cases h2 : br = 0
  all_goals simp [h1, h2, dRun_append, wOps, wOp, h, dRun, dStep, Nat.pos_iff_ne_zero] at h ⊢
  all_goals (try simp [h, dRun, dStep])
  all_goals omega
theorem rep_fit {s : List UInt8} {i pc n : Nat} {out : List Op} (h : dRun 0 out = some (n + (if 0 < pc then 1 else 0) + 1)) :
    dRun 0 (repOps s i pc out) = some (n + 1) ∧ wOps (repOps s i pc out) ≤ wOps out + 2 * (repI s i - i) := by
  have hk : repAt s i = 0 ∨ repAt s i = 5 ∨ repAt s i = 6 ∨ repAt s i = 7 := by
    unfold repAt
    split
    · exact .inl rfl
    · unfold repK; split <;> (try split) <;> (try split) <;> simp
  unfold repOps repI pieceOps
  rcases hk with e | e | e | e
  all_goals rw [e]
  all_goals by_cases h1 : pc = 0
  all_goals simp [h1, dRun_append, wOps, wOp, h, dRun, dStep, Nat.pos_iff_ne_zero] at h ⊢
  all_goals (try simp [h, dRun, dStep])
  all_goals (try omega)

theorem setL_kind (s : List UInt8) (neg : Bool) : ∀ (f i : Nat) (sp : List Span), (setL s neg f i sp).1.2 = true → (setL s neg f i sp).1.1.kind = 1
  | 0, i, _ => by unfold setL; simp
  | f + 1, i, sp => by
    unfold setL
    split
    · simp
    · split
      · simp
      · split
        · split
          · simp
          · split
            · simp
            · exact setL_kind s neg f _ _
        · exact setL_kind s neg f _ _
theorem bytesM_kind (s : List UInt8) (i : Nat) (c : UInt8) : (bytesM s i c).1.2 = true → (bytesM s i c).1.1.kind = 1 := by
  unfold bytesM
  split
  · simp
  · split
    · unfold setM; split <;> exact setL_kind _ _ _ _ _
    · split
      · simp
      · split
        · split
          · simp
          · split <;> simp
        · simp

theorem levD_snoc (l : List (Nat × Nat)) (e : Nat × Nat) : levD (l ++ [e]) = levD l + ((if 0 < e.1 then 1 else 0) + if 0 < e.2 then 1 else 0) := by unfold levD; simp
theorem levW_snoc (l : List (Nat × Nat)) (e : Nat × Nat) : levW (l ++ [e]) = levW l + if 0 < e.1 then 2 else 0 := by unfold levW; simp

theorem stepM_fit (s : List UInt8) (p : PS) (c : UInt8) (hI : PInv s p) (h : PFit p) (hi : s[p.i]? = some c) (h0 : (stepM s p c).1 = 0) : PFit (stepM s p c).2 := by
  obtain ⟨i, out, opn⟩ := p
  obtain ⟨hd, hw⟩ := h
  obtain ⟨l, ⟨br, pc⟩, rfl⟩ : ∃ l' e, opn = l' ++ [e] := ⟨opn.dropLast, opn.getLast hI.ne, (List.dropLast_concat_getLast hI.ne).symm⟩
  dsimp only at *
  rw [levD_snoc] at hd
  rw [levW_snoc] at hw
  dsimp only at hd hw
  have hb := branch_fit hd
  unfold stepM at h0 ⊢
  split at h0
  · rename_i h1; rw [if_pos h1]
    split at h0
    · cases h0
    · rename_i h2; rw [if_neg h2]
      refine ⟨?_, ?_⟩
      · dsimp only; rw [levD_snoc, levD_snoc]; simpa using hd
      · dsimp only; rw [levW_snoc, levW_snoc]; simp; omega
  · rename_i h1; rw [if_neg h1]
    split at h0
    · rename_i h2; rw [if_pos h2]
      refine ⟨?_, ?_⟩
      · simp only [PS.next, PS.branch, PS.rest, PS.top, List.getLastD_concat, List.dropLast_concat]
        rw [levD_snoc]; simpa using hb.1
      · simp only [PS.next, PS.branch, PS.rest, PS.top, List.getLastD_concat, List.dropLast_concat]
        rw [levW_snoc, hb.2]; simp; split at hw <;> split <;> omega
    · rename_i h2; rw [if_neg h2]
      split at h0
      · rename_i h3; rw [if_pos h3]
        split at h0
        · cases h0
        · rename_i h4; rw [if_neg h4]
          have hl0 : l ≠ [] := by intro e; apply h4; simp [e]
          obtain ⟨l', ⟨br', pc'⟩, rfl⟩ : ∃ l' e, l = l' ++ [e] := ⟨l.dropLast, l.getLast hl0, (List.dropLast_concat_getLast hl0).symm⟩
          have hlt := (List.getElem?_eq_some_iff.1 hi).1
          have hr := repI_le s (i + 1) (by omega)
          rw [levD_snoc] at hb
          dsimp only at hb
          have hrf := rep_fit (s := s) (i := i + 1) (pc := pc') (n := levD l' + if 0 < br' then 1 else 0) (out := branchOps br pc out) (by rw [hb.1]; simp; omega)
          rw [levW_snoc] at hw
          dsimp only at hw
          refine ⟨?_, ?_⟩
          · simp only [PS.next, PS.branch, PS.pop, PS.rep, PS.rest, PS.top, List.getLastD_concat, List.dropLast_concat]
            rw [levD_snoc, hrf.1]; simp; omega
          · simp only [PS.next, PS.branch, PS.pop, PS.rep, PS.rest, PS.top, List.getLastD_concat, List.dropLast_concat]
            rw [levW_snoc]; dsimp only
            have := hrf.2; rw [hb.2] at this
            omega
      · rename_i h3; rw [if_neg h3]
        have hok := bytesM_ok s i c hi
        have hk := bytesM_kind s i c
        split at h0
        · cases h0
        · rename_i h4; rw [if_neg h4]
          simp only [Bool.not_eq_false] at h4
          have hok := hok h4
          have hk := hk h4
          have hr := repI_le s (bytesM s i c).2 hok.2
          have hrf := rep_fit (s := s) (i := (bytesM s i c).2) (pc := pc) (n := levD l + if 0 < br then 1 else 0) (out := out ++ [(bytesM s i c).1.1]) (by rw [dRun_append, hd]; simp [dRun, dStep, hk]; omega)
          have hwo : wOps (out ++ [(bytesM s i c).1.1]) = wOps out + 1 := by rw [wOps_append]; simp [wOps, wOp, hk]
          rw [hwo] at hrf
          refine ⟨?_, ?_⟩
          · simp only [PS.rep, PS.rest, PS.top, List.getLastD_concat, List.dropLast_concat]
            rw [levD_snoc, hrf.1]; simp; omega
          · simp only [PS.rep, PS.rest, PS.top, List.getLastD_concat, List.dropLast_concat]
            rw [levW_snoc]; dsimp only
            have := hrf.2
            omega

theorem parseL_fit (s : List UInt8) : ∀ (f : Nat) (p : PS), PInv s p → PFit p → (parseL s f p).1 = 0 → PInv s (parseL s f p).2 ∧ PFit (parseL s f p).2
  | 0, p, hI, h, _ => ⟨hI, h⟩
  | f + 1, p, hI, h, h0 => by
    unfold parseL at h0 ⊢
    cases hc : s[p.i]? with
    | none => exact ⟨hI, h⟩
    | some c =>
      rw [hc] at h0
      dsimp only at h0 ⊢
      split at h0
      · rename_i h1
        rw [if_pos h1]
        exact parseL_fit s f _ (stepM_inv s p c hI hc h1).1 (stepM_fit s p c hI h hc h1) h0
      · rename_i h1; exact absurd h0 h1
/-- What is read is fit to be built. -/
theorem parse_fit (s : List UInt8) (h : (parseM s).2.2 = 0) : dRun 0 (parseM s).1 = some 1 ∧ wOps (parseM s).1 ≤ 2 * s.length ∧ (parseM s).1.length ≤ 5 * s.length + 2 ∧ s.length ≤ 80 := by
  have h00 : PInv s ⟨0, [], [(0, 0)]⟩ := ⟨by simp, by simp, by simp, by simp, by simp⟩
  have h01 : PFit ⟨0, [], [(0, 0)]⟩ := ⟨rfl, by simp [wOps, levW]⟩
  unfold parseM at h ⊢
  split at h
  · cases h
  · rename_i h1; rw [if_neg h1]
    split at h
    · rename_i h2; exact absurd h h2
    · rename_i h2; rw [if_neg h2]
      split at h
      · cases h
      · rename_i h3; rw [if_neg h3]
        have hf := parseL_fit s (s.length + 1) _ h00 h01 (by simpa using h2)
        generalize (parseL s (s.length + 1) ⟨0, [], [(0, 0)]⟩).2 = p at *
        obtain ⟨i, out, opn⟩ := p
        obtain ⟨hI, hd, hw⟩ := hf
        have hle := hI.le
        have hol := hI.out
        obtain ⟨e, rfl⟩ : ∃ e, opn = [e] := by
          match opn, h3, hI.ne with
          | [e], _, _ => exact ⟨e, rfl⟩
          | [], _, h => exact absurd rfl h
          | _ :: _ :: _, h, _ => simp at h
        have hb := branch_fit (br := e.1) (pc := e.2) (n := 0) (out := out) (by rw [hd]; simp [levD])
        simp [levW] at hw
        have hbl := branchOps_len e.1 e.2 out
        dsimp only at hle hol
        refine ⟨by simpa [PS.branch, PS.top] using hb.1, ?_, ?_, by omega⟩
        · simp only [PS.branch, PS.top, List.getLastD_cons, List.getLastD_nil]
          rw [hb.2]; split at hw <;> split <;> omega
        · simp only [PS.branch, PS.top, List.getLastD_cons, List.getLastD_nil]
          omega
end Go.Proofs.Ytbcifjjnnbefkaa
