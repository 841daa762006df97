/-
  More of package regex: one, set. Conditions: the reader's block holds its fields, the pattern's bytes can be read.
-/
import Derived.Test.YtbcifjjnnbefkaaRegex2
namespace Go.Proofs.Ytbcifjjnnbefkaa
open Go.RowKit

def oneM (s : List UInt8) (i : Nat) : (UInt8 × Bool) × Nat :=
  if h : i < s.length then
    if s[i] = 92 then escM s (i + 1) else if s[i] = 93 ∨ s[i] = 45 ∨ s[i] = 94 then ((0, false), i) else ((s[i], true), i + 1)
  else ((0, false), i)

theorem escM_le (s : List UInt8) (i : Nat) : i ≤ (escM s i).2 ∧ (escM s i).2 ≤ i + 1 ∧ ((escM s i).1.2 = true → i < (escM s i).2 ∧ (escM s i).2 ≤ s.length) := by
  unfold escM
  split
  · (repeat' split) <;> simp <;> omega
  · simp
theorem oneM_le (s : List UInt8) (i : Nat) : i ≤ (oneM s i).2 ∧ (oneM s i).2 ≤ i + 2 ∧ ((oneM s i).1.2 = true → i < (oneM s i).2 ∧ (oneM s i).2 ≤ s.length) := by
  unfold oneM
  have h := escM_le s (i + 1)
  split
  · split
    · exact ⟨by omega, by omega, fun e => by have := h.2.2 e; omega⟩
    · split <;> simp <;> omega
  · simp

/-- A set's loop: how far, the spans so far; what is read, and the place. -/
def setL (s : List UInt8) (neg : Bool) : Nat → Nat → List Span → (Op × Bool) × Nat
  | 0, i, _ => ((⟨0, false, []⟩, false), i)
  | f + 1, i, sp =>
    if sp ≠ [] ∧ s[i]? = some 93 then ((⟨1, neg, sp⟩, true), i + 1)
    else if (oneM s i).1.2 = false then ((⟨0, false, []⟩, false), (oneM s i).2)
    else if s[(oneM s i).2]? = some 45 then
      (if (oneM s ((oneM s i).2 + 1)).1.2 = false then ((⟨0, false, []⟩, false), (oneM s ((oneM s i).2 + 1)).2)
       else if (oneM s ((oneM s i).2 + 1)).1.1 < (oneM s i).1.1 then ((⟨0, false, []⟩, false), (oneM s ((oneM s i).2 + 1)).2 - 1)
       else setL s neg f (oneM s ((oneM s i).2 + 1)).2 (sp ++ [⟨(oneM s i).1.1, (oneM s ((oneM s i).2 + 1)).1.1⟩]))
    else setL s neg f (oneM s i).2 (sp ++ [⟨(oneM s i).1.1, (oneM s i).1.1⟩])
/-- More rounds than bytes are left make no difference. -/
theorem setL_fuel (s : List UInt8) (neg : Bool) : ∀ (f g i : Nat) (sp : List Span), s.length < i + f → s.length < i + g → i ≤ s.length → setL s neg f i sp = setL s neg g i sp
  | 0, g, i, sp, h1, h2, h3 => by omega
  | f + 1, 0, i, sp, h1, h2, h3 => by omega
  | f + 1, g + 1, i, sp, h1, h2, h3 => by
    unfold setL
    have ha := oneM_le s i
    have hb := oneM_le s ((oneM s i).2 + 1)
    split
    · rfl
    · split
      · rfl
      · rename_i he
        simp only [Bool.not_eq_false] at he
        have ha2 := ha.2.2 he
        split
        · split
          · rfl
          · rename_i he2
            simp only [Bool.not_eq_false] at he2
            have hb2 := hb.2.2 he2
            split
            · rfl
            · exact setL_fuel s neg f g _ _ (by omega) (by omega) (by omega)
        · exact setL_fuel s neg f g _ _ (by omega) (by omega) (by omega)
def setM (s : List UInt8) (i : Nat) : (Op × Bool) × Nat := if s[i]? = some 94 then setL s true (s.length + 1) (i + 1) [] else setL s false (s.length + 1) i []

set_option maxRecDepth 100000 in
set_option maxHeartbeats 4000000 in
theorem one_calls (s : List UInt8) (b : Nat) (sa : Option Addr) (sc i : Nat) (c2 c3 : Value) (W : World) (hb : W.heap[b]? = some (.cells #[.slice sa s.length sc, .int .i64 i, c2, c3] 68)) (hs : Sl sByte W (fun k => k ≠ b) sa sc s) (hl : s.length ≤ 100) (hi : i ≤ 200) :
    Calls Try.prog 61 #[.pointer (some ⟨b, 0, none⟩)] W (Ret (ByteP W b (.slice sa s.length sc) c2 c3 (oneM s i))) := by
  have hbc := blkC hb
  have hbf := blkF hb
  have hbl := blkL hb
  replace hb := Kp.mk hb
  by_cases hlt : i < s.length
  · have hs' := Kp.mk hs
    obtain ⟨b2, off, rfl, hb2, hbn, hc⟩ := byte_at hs hlt
    have hE : oneM s i = if s[i] = 92 then escM s (i + 1) else if s[i] = 93 ∨ s[i] = 45 ∨ s[i] = 94 then ((0, false), i) else ((s[i], true), i + 1) := by
      unfold oneM; rw [dif_pos hlt]
    clear hs
    generalize s[i] = c at hc hE
    have hd : decide (s.length ≤ i) = false := by simp; omega
    by_cases h92 : c = 92
    · subst h92
      rw [if_pos rfl] at hE
      replace hE := Kp.mk hE
      go_enter Try.func61, Try.ntmps61
      go_wp2
      refine wp_lex (by kernel_rfl) ⟨fun _ _ _ h => h.2, fun _ _ h => h⟩ (by kernel_rfl) ?_
      go_wp2
      refine fin_end (by kernel_rfl) ?_
      go_wp2
      refine wp_lex (by kernel_rfl) ⟨fun _ _ _ h => h.2, fun _ _ h => h⟩ (by kernel_rfl) ?_
      go_wp2
      refine fin_end (by kernel_rfl) ?_
      go_wp2_with fail
      have hS : Fr (fun k => k = b) W (W.setCell ⟨b, 1, none⟩ (.int .i64 ((i : Int) + 1))).drew.drew := ((Fr.refl (fun k => k = b) W).setCell (p := ⟨b, 1, none⟩) (fun _ => rfl) _).drew.drew
      refine ret_mono (esc_calls s b _ sc (i + 1) c2 c3 _ (blkSet hb.out _) (hs'.out.mono (hS.keep fun k _ hk => hk)) (by omega) (by omega)) ?_
      rintro v w1 ⟨rfl, hb1, hF⟩
      go_wp2
      go_ret2
      rw [hE.out]
      exact ⟨rfl, hb1, hS.trans hF fun _ _ e => e⟩
    · have f1 : ((c.toNat : Int) == 92) = false := (u8_cases c 92).trans (beq_eq_false_iff_ne.2 h92)
      rw [if_neg h92] at hE
      clear hs'
      by_cases h3 : c = 93 ∨ c = 45 ∨ c = 94
      · rw [if_pos h3] at hE
        replace hE := Kp.mk hE
        rcases h3 with rfl | rfl | rfl
        all_goals
          go_enter Try.func61, Try.ntmps61
          go_wp2
          refine wp_lex (by kernel_rfl) ⟨fun _ _ _ h => h.2, fun _ _ h => h⟩ (by kernel_rfl) ?_
          go_wp2
          refine fin_end (by kernel_rfl) ?_
          go_wp2
          refine wp_lex (by kernel_rfl) ⟨fun _ _ _ h => h.2, fun _ _ h => h⟩ (by kernel_rfl) ?_
          go_wp2
          refine fin_end (by kernel_rfl) ?_
          go_wp2
          go_ret2
          rw [hE.out]
          exact ⟨rfl, hb.out, (Fr.refl _ _).drew.drew⟩
      · rw [if_neg h3] at hE
        simp only [not_or] at h3
        have f2 : ((c.toNat : Int) == 93) = false := (u8_cases c 93).trans (beq_eq_false_iff_ne.2 h3.1)
        have f3 : ((c.toNat : Int) == 45) = false := (u8_cases c 45).trans (beq_eq_false_iff_ne.2 h3.2.1)
        have f4 : ((c.toNat : Int) == 94) = false := (u8_cases c 94).trans (beq_eq_false_iff_ne.2 h3.2.2)
        clear h3 h92
        replace hE := Kp.mk hE
        go_enter Try.func61, Try.ntmps61
        go_wp2
        refine wp_lex (by kernel_rfl) ⟨fun _ _ _ h => h.2, fun _ _ h => h⟩ (by kernel_rfl) ?_
        go_wp2
        refine fin_end (by kernel_rfl) ?_
        go_wp2
        refine wp_lex (by kernel_rfl) ⟨fun _ _ _ h => h.2, fun _ _ h => h⟩ (by kernel_rfl) ?_
        go_wp2
        refine fin_end (by kernel_rfl) ?_
        go_wp2
        go_ret2
        rw [hE.out]
        exact ⟨rfl, blkSet hb.out _, ((Fr.refl (fun k => k = b) W).setCell (p := ⟨b, 1, none⟩) (fun _ => rfl) _).drew.drew⟩
  · have hr : oneM s i = ((0, false), i) := by unfold oneM; rw [dif_neg hlt]
    have hd : decide (s.length ≤ i) = true := by simp; omega
    replace hr := Kp.mk hr
    clear hs
    go_enter Try.func61, Try.ntmps61
    go_wp2
    refine wp_lex (by kernel_rfl) ⟨fun _ _ _ h => h.2, fun _ _ h => h⟩ (by kernel_rfl) ?_
    go_wp2
    refine fin_end (by kernel_rfl) ?_
    go_wp2
    go_ret2
    rw [hr.out]
    exact ⟨rfl, hb.out, (Fr.refl _ _).drew⟩
end Go.Proofs.Ytbcifjjnnbefkaa
