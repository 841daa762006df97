/-
  Which instructions the reference's runner and the program's have come to. Plain, no program. Conditions: an arm has up to 200 instructions.
-/
import Derived.Test.YtbcifjjnnbefkaaDfs
namespace Go.Proofs.Ytbcifjjnnbefkaa
open Go.RowKit

def bn (x : Bool) : Nat := if x then 1 else 0
def toN (ms : List Bool) : List Nat := ms.map bn ++ List.replicate (200 - ms.length) 1
theorem toN_len {ms : List Bool} (h : ms.length ≤ 200) : (toN ms).length = 200 := by simp [toN]; omega
theorem toN_get {ms : List Bool} {k : Nat} (hk : k < ms.length) : (toN ms).getD k 0 = bn (ms.getD k false) := by
  unfold toN List.getD
  rw [List.getElem?_append_left (by simpa using hk)]
  simp [hk]
theorem toN_set {ms : List Bool} {k : Nat} (hk : k < ms.length) : (toN ms).set k 1 = toN (ms.set k true) := by
  unfold toN
  rw [List.set_append_left _ _ (by simpa using hk), List.length_set, List.map_set]; rfl
theorem free_ones : ∀ n : Nat, free (List.replicate n 1) 1 = 0
  | 0 => rfl
  | n + 1 => by rw [List.replicate_succ, free, free_ones n]; simp
theorem free_append : ∀ (l l' : List Nat) (b : Nat), free (l ++ l') b = free l b + free l' b
  | [], l', b => by simp [free]
  | x :: l, l', b => by simp only [List.cons_append, free, free_append l l' b]; omega
theorem free_toN (ms : List Bool) : free (toN ms) 1 = freeB ms := by
  unfold toN
  rw [free_append, free_ones]
  induction ms with
  | nil => rfl
  | cons x l ih => simp only [List.map_cons, free, freeB] at ih ⊢; cases x <;> simp [bn] at ih ⊢ <;> omega
theorem come_sim (p : List Inst) (hp : p.length ≤ 200) : ∀ (f : Nat) (ms : List Bool) (at_ : Int), ms.length = p.length → toN (comeM p f ms at_) = addM p f (toN ms) at_ 1
  | 0, _, _, _ => rfl
  | f + 1, ms, at_, hl => by
    unfold comeM addM
    by_cases h1 : at_ < 0 ∨ (p.length : Int) ≤ at_
    · rw [if_pos h1, if_pos (show at_ < 0 ∨ (p.length : Int) ≤ at_ ∨ 200 ≤ at_ by omega)]
    · rw [if_neg h1, if_neg (show ¬ (at_ < 0 ∨ (p.length : Int) ≤ at_ ∨ 200 ≤ at_) by omega)]
      obtain ⟨k, rfl⟩ : ∃ k : Nat, at_ = k := ⟨at_.toNat, by omega⟩
      rw [show ((k : Int)).toNat = k from rfl]
      have hk : k < ms.length := by omega
      rw [toN_get hk]
      by_cases h2 : ms.getD k false = true
      · rw [if_pos h2, if_pos (show 0 < bn (ms.getD k false) ∧ bn (ms.getD k false) ≤ 1 by rw [h2]; simp [bn])]
      · have h3 : ms.getD k false = false := by simpa using h2
        rw [if_neg h2, if_neg (show ¬ (0 < bn (ms.getD k false) ∧ bn (ms.getD k false) ≤ 1) by rw [h3]; simp [bn]), toN_set hk]
        split
        · rw [come_sim p hp f _ _ (by rw [comeM_len, List.length_set]; exact hl), come_sim p hp f _ _ (by rw [List.length_set]; exact hl)]
        · split
          · rw [come_sim p hp f _ _ (by rw [List.length_set]; exact hl)]
          · rfl

def Met (ms : List Bool) (x : Nat) : Prop := ms.getD x false = true
def ClosedB (p : List Inst) (ms : List Bool) : Prop := ∀ x y : Nat, Met ms x → eps p x y → y < p.length → Met ms y
theorem met_lt {ms : List Bool} {x : Nat} (h : Met ms x) : x < ms.length := by
  by_cases hx : x < ms.length
  · exact hx
  · unfold Met List.getD at h; rw [List.getElem?_eq_none (by omega)] at h; cases h
theorem met_toN {ms : List Bool} {x : Nat} (hx : x < ms.length) : 0 < (toN ms).getD x 0 ↔ Met ms x := by
  rw [toN_get hx]; unfold Met bn; cases ms.getD x false <;> simp
theorem eps_lt {p : List Inst} {x : Nat} {y : Int} (h : eps p x y) : x < p.length := by
  by_cases hx : x < p.length
  · exact hx
  · unfold eps List.getD at h; rw [List.getElem?_eq_none (by omega)] at h
    rcases h with ⟨h, _⟩ | ⟨h, _⟩ <;> cases h
theorem come_spec (p : List Inst) (hp : p.length ≤ 200) {f : Nat} {ms : List Bool} {at_ : Int} (hl : ms.length = p.length) (hf : freeB ms < f) (hc : ClosedB p ms) : ClosedB p (comeM p f ms at_) ∧ ∀ x, Met (comeM p f ms at_) x ↔ Met ms x ∨ Cl p at_ x := by
  have hone : ∀ ms : List Bool, ∀ x, x < ms.length → (toN ms).getD x 0 ≤ 1 := fun ms x hx => by rw [toN_get hx]; unfold bn; split <;> omega
  have hcl : Closed p (toN ms) := fun x y hx he hy => by
    have hxl := eps_lt he
    have h1 := hc x y ((met_toN (by omega)).1 hx) he hy
    have h2 := (met_toN (by omega)).2 h1
    have h3 := hone ms y (by omega)
    omega
  have A := addM_added p hp (b := 1) (by omega) (f := f) (at_ := at_) (toN_len (by omega)) (by rw [free_toN]; exact hf) hcl
  rw [← come_sim p hp f ms at_ hl] at A
  have hl2 : (comeM p f ms at_).length = p.length := by rw [comeM_len, hl]
  generalize comeM p f ms at_ = ms' at A hl2
  refine ⟨fun x y hx he hy => ?_, fun x => ⟨fun hx => ?_, fun hx => ?_⟩⟩
  · have h1 := met_lt hx
    have := A.closed x y ((met_toN h1).2 hx) he hy
    exact (met_toN (by omega)).1 this.1
  · have h1 := met_lt hx
    have h2 := (met_toN h1).2 hx
    rcases A.new x with e | ⟨_, e⟩
    · left; rw [e] at h2; exact (met_toN (by omega)).1 h2
    · exact .inr e
  · rcases hx with hx | hx
    · have h1 := met_lt hx
      exact (met_toN (by omega)).1 (A.keep x ((met_toN h1).2 hx)).1
    · have h1 := hx.lt
      exact (met_toN (by omega)).1 (A.low x hx).1

/-- An instruction takes a byte. -/
def Tk (p : List Inst) (c : UInt8) (j : Nat) : Prop := (p.getD j default).kind = 1 ∧ has (p.getD j default) c = true
theorem met_none (n x : Nat) : ¬ Met (List.replicate n false) x := fun h => by
  have h1 := met_lt h
  unfold Met List.getD at h
  simp at h1 h
  simp [h1] at h
theorem rtakeF_spec (p : List Inst) (hp : p.length ≤ 200) (old : List Bool) (c : UInt8) : ∀ k, ClosedB p (rtakeF p old c k) ∧ ∀ x, Met (rtakeF p old c k) x ↔ ∃ j, j < k ∧ Met old j ∧ Tk p c j ∧ Cl p (j + 1) x
  | 0 => by
    refine ⟨fun x y h => absurd h (met_none _ _), fun x => ⟨fun h => absurd h (met_none _ _), fun ⟨j, h, _⟩ => by omega⟩⟩
  | k + 1 => by
    obtain ⟨h1, h2⟩ := rtakeF_spec p hp old c k
    unfold rtakeF
    split
    · rename_i h
      have := come_spec p hp (f := p.length + 1) (at_ := (k : Int) + 1) (rtakeF_len p old c k) (by have := freeB_le (rtakeF p old c k); rw [rtakeF_len] at this; omega) h1
      refine ⟨this.1, fun x => (this.2 x).trans ⟨fun hx => ?_, fun ⟨j, hj, a, b, d⟩ => ?_⟩⟩
      · rcases hx with hx | hx
        · obtain ⟨j, hj, r⟩ := (h2 x).1 hx
          exact ⟨j, by omega, r⟩
        · exact ⟨k, by omega, h.1, h.2, hx⟩
      · by_cases e : j = k
        · subst e; exact .inr d
        · exact .inl ((h2 x).2 ⟨j, by omega, a, b, d⟩)
    · rename_i h
      refine ⟨h1, fun x => (h2 x).trans ⟨fun ⟨j, hj, r⟩ => ⟨j, by omega, r⟩, fun ⟨j, hj, a, b, d⟩ => ?_⟩⟩
      by_cases e : j = k
      · subst e; exact absurd ⟨a, b⟩ h
      · exact ⟨j, by omega, a, b, d⟩
theorem metAt_spec0 (p : List Inst) (hp : p.length ≤ 200) (b : List UInt8) (f : Nat) : ∀ x, Met (metAt p b f 0) x ↔ Cl p 0 x := fun x => by
  have := come_spec p hp (f := p.length + 1) (ms := List.replicate p.length false) (at_ := 0) (by simp) (by have := freeB_le (List.replicate p.length false); rw [List.length_replicate] at this; omega) (fun x y h => absurd h (met_none _ _))
  refine (this.2 x).trans ⟨fun h => h.resolve_left (met_none _ _), .inr⟩
theorem metAt_closed (p : List Inst) (hp : p.length ≤ 200) (b : List UInt8) (f : Nat) : ∀ k, ClosedB p (metAt p b f k)
  | 0 => (come_spec p hp (f := p.length + 1) (ms := List.replicate p.length false) (at_ := 0) (by simp) (by have := freeB_le (List.replicate p.length false); rw [List.length_replicate] at this; omega) (fun x y h => absurd h (met_none _ _))).1
  | k + 1 => by
    unfold metAt
    split
    · exact (rtakeF_spec p hp _ _ _).1
    · exact metAt_closed p hp b f k
theorem metAt_specS (p : List Inst) (hp : p.length ≤ 200) (b : List UInt8) (f k : Nat) (c : UInt8) (hc : b[f + k]? = some c) : ∀ x, Met (metAt p b f (k + 1)) x ↔ ∃ j, Met (metAt p b f k) j ∧ Tk p c j ∧ Cl p (j + 1) x := fun x => by
  have e : metAt p b f (k + 1) = match b[f + k]? with | some c => rtakeM p (metAt p b f k) c | none => metAt p b f k := rfl
  rw [e, hc]
  refine ((rtakeF_spec p hp _ _ _).2 x).trans ⟨fun ⟨j, _, r⟩ => ⟨j, r⟩, fun ⟨j, h, r⟩ => ⟨j, ?_, h, r⟩⟩
  have := met_lt h
  rwa [metAt_len] at this

theorem takeF_spec (p : List Inst) (hp : p.length ≤ 200) (now : List Nat) (c : UInt8) : ∀ k, Closed p (takeF p now c k) ∧ (∀ x, 0 < (takeF p now c k).getD x 0 → ∃ j, j < k ∧ 0 < now.getD j 0 ∧ Tk p c j ∧ Cl p (j + 1) x ∧ (takeF p now c k).getD x 0 = now.getD j 0) ∧
      ∀ j, j < k → 0 < now.getD j 0 → Tk p c j → ∀ x, Cl p (j + 1) x → 0 < (takeF p now c k).getD x 0 ∧ (takeF p now c k).getD x 0 ≤ now.getD j 0
  | 0 => ⟨closed_zeros p, fun x h => by simp only [takeF] at h; rw [zeros_getD] at h; omega, fun j h => by omega⟩
  | k + 1 => by
    obtain ⟨h1, h2, h3⟩ := takeF_spec p hp now c k
    unfold takeF
    split
    · rename_i h
      have A := addM_added p hp (b := now.getD k 0) h.1 (f := 201) (at_ := (k : Int) + 1) (takeF_len p now c k) (by have := free_le (takeF p now c k) (now.getD k 0); rw [takeF_len] at this; omega) h1
      generalize addM p 201 (takeF p now c k) ((k : Int) + 1) (now.getD k 0) = n' at A
      refine ⟨A.closed, fun x hx => ?_, fun j hj hn ht x hx => ?_⟩
      · rcases A.new x with e | ⟨e, hc⟩
        · rw [e] at hx ⊢
          obtain ⟨j, hj, r⟩ := h2 x hx
          exact ⟨j, by omega, r⟩
        · exact ⟨k, by omega, h.1, h.2, hc, e⟩
      · by_cases e : j = k
        · subst e; exact A.low x hx
        · have q := h3 j (by omega) hn ht x hx
          have q2 := A.keep x q.1
          omega
    · rename_i h
      refine ⟨h1, fun x hx => ?_, fun j hj hn ht x hx => ?_⟩
      · obtain ⟨j, hj, r⟩ := h2 x hx
        exact ⟨j, by omega, r⟩
      · by_cases e : j = k
        · subst e; exact absurd ⟨hn, ht⟩ h
        · exact h3 j (by omega) hn ht x hx

/-- The least begin, for each instruction, of the K first ones at the place T. -/
structure Rel (p : List Inst) (b : List UInt8) (T K : Nat) (ts : List Nat) : Prop where
  len : ts.length = 200
  closed : Closed p ts
  low : ∀ x f, f < K → Met (metAt p b f (T - f)) x → 0 < ts.getD x 0 ∧ ts.getD x 0 ≤ f + 1
  hit : ∀ x, 0 < ts.getD x 0 → ts.getD x 0 ≤ K ∧ Met (metAt p b (ts.getD x 0 - 1) (T - (ts.getD x 0 - 1))) x
theorem Rel.start (p : List Inst) (b : List UInt8) : Rel p b 0 0 zeros := ⟨zeros_len, closed_zeros p, fun _ _ h => by omega, fun x h => by rw [zeros_getD] at h; omega⟩
theorem Rel.add {p : List Inst} (hp : p.length ≤ 200) {b : List UInt8} {T : Nat} {ts : List Nat} (h : Rel p b T T ts) : Rel p b T (T + 1) (addM p 201 ts 0 (T + 1)) := by
  have A := addM_added p hp (b := T + 1) (by omega) (f := 201) (at_ := 0) h.len (by have := free_le ts (T + 1); rw [h.len] at this; omega) h.closed
  have hl : (addM p 201 ts 0 (T + 1)).length = 200 := by rw [addM_len]; exact h.len
  generalize addM p 201 ts 0 (T + 1) = n' at A hl
  have h0 := metAt_spec0 p hp b T
  refine ⟨hl, A.closed, fun x f hf hm => ?_, fun x hx => ?_⟩
  · by_cases e : f = T
    · subst e
      rw [Nat.sub_self] at hm
      exact A.low x ((h0 x).1 hm)
    · have q := h.low x f (by omega) hm
      have q2 := A.keep x q.1
      omega
  · rcases A.new x with e | ⟨e, hc⟩
    · rw [e] at hx ⊢
      have q := h.hit x hx
      exact ⟨by omega, q.2⟩
    · rw [e]
      refine ⟨Nat.le_refl _, ?_⟩
      rw [Nat.add_sub_cancel, Nat.sub_self]
      exact (h0 x).2 hc
theorem Rel.take {p : List Inst} (hp : p.length ≤ 200) {b : List UInt8} {T : Nat} {c : UInt8} (hc : b[T]? = some c) {ts : List Nat} (h : Rel p b T (T + 1) ts) : Rel p b (T + 1) (T + 1) (takeM p ts c) := by
  obtain ⟨h1, h2, h3⟩ := takeF_spec p hp ts c p.length
  refine ⟨takeF_len _ _ _ _, h1, fun x f hf hm => ?_, fun x hx => ?_⟩
  · rw [show T + 1 - f = (T - f) + 1 by omega] at hm
    obtain ⟨j, hj, ht, hcl⟩ := (metAt_specS p hp b f (T - f) c (by rw [show f + (T - f) = T by omega]; exact hc) x).1 hm
    have q := h.low j f hf hj
    have hjl := met_lt hj
    rw [metAt_len] at hjl
    have q2 := h3 j hjl q.1 ht x hcl
    exact ⟨q2.1, Nat.le_trans q2.2 q.2⟩
  · obtain ⟨j, hj, hn, ht, hcl, e⟩ := h2 x hx
    have q := h.hit j hn
    have e' : (takeM p ts c).getD x 0 = ts.getD j 0 := e
    rw [e']
    refine ⟨q.1, ?_⟩
    rw [show T + 1 - (ts.getD j 0 - 1) = (T - (ts.getD j 0 - 1)) + 1 by omega]
    exact (metAt_specS p hp b _ _ c (by rw [show ts.getD j 0 - 1 + (T - (ts.getD j 0 - 1)) = T by omega]; exact hc) x).2 ⟨j, q.2, ht, hcl⟩
theorem doneF_spec (p : List Inst) (ts : List Nat) : ∀ k, (0 < doneF p ts k → ∃ j, j < k ∧ (p.getD j default).kind = 4 ∧ ts.getD j 0 = doneF p ts k) ∧ ∀ j, j < k → (p.getD j default).kind = 4 → 0 < ts.getD j 0 → 0 < doneF p ts k ∧ doneF p ts k ≤ ts.getD j 0
  | 0 => ⟨fun h => by simp [doneF] at h, fun j h => by omega⟩
  | k + 1 => by
    obtain ⟨h1, h2⟩ := doneF_spec p ts k
    unfold doneF
    split
    · rename_i h
      refine ⟨fun _ => ⟨k, by omega, h.1, rfl⟩, fun j hj hk hn => ?_⟩
      by_cases e : j = k
      · subst e; omega
      · have := h2 j (by omega) hk hn
        omega
    · rename_i h
      refine ⟨fun hd => ?_, fun j hj hk hn => ?_⟩
      · obtain ⟨j, hj, r⟩ := h1 hd
        exact ⟨j, by omega, r⟩
      · by_cases e : j = k
        · subst e; omega
        · exact h2 j (by omega) hk hn
theorem doneB_iff (p : List Inst) (ms : List Bool) : doneB p ms = true ↔ ∃ j, j < p.length ∧ Met ms j ∧ (p.getD j default).kind = 4 := by
  unfold doneB
  rw [List.any_eq_true]
  constructor
  · rintro ⟨j, hj, h⟩
    simp only [Bool.and_eq_true, decide_eq_true_eq] at h
    exact ⟨j, List.mem_range.1 hj, h⟩
  · rintro ⟨j, hj, h⟩
    exact ⟨j, List.mem_range.2 hj, by simpa [Met] using h⟩
theorem Rel.done {p : List Inst} {b : List UInt8} {T : Nat} {ts : List Nat} (h : Rel p b T (T + 1) ts) : (0 < doneM p ts → doneM p ts ≤ T + 1 ∧ doneB p (metAt p b (doneM p ts - 1) (T - (doneM p ts - 1))) = true) ∧ ∀ f, f ≤ T → doneB p (metAt p b f (T - f)) = true → 0 < doneM p ts ∧ doneM p ts ≤ f + 1 := by
  obtain ⟨h1, h2⟩ := doneF_spec p ts p.length
  refine ⟨fun hd => ?_, fun f hf hb => ?_⟩
  · obtain ⟨j, hj, hk, e⟩ := h1 hd
    have e' : ts.getD j 0 = doneM p ts := e
    have q := h.hit j (by omega)
    rw [e'] at q
    exact ⟨q.1, (doneB_iff _ _).2 ⟨j, hj, q.2, hk⟩⟩
  · obtain ⟨j, hj, hm, hk⟩ := (doneB_iff _ _).1 hb
    have q := h.low j f (by omega) hm
    have q2 := h2 j hj hk q.1
    have e : doneM p ts = doneF p ts p.length := rfl
    omega
end Go.Proofs.Ytbcifjjnnbefkaa
