/-
  Package regex: Parse. Conditions: the pattern's bytes can be read.
-/
import Derived.Test.YtbcifjjnnbefkaaRegex7
namespace Go.Proofs.Ytbcifjjnnbefkaa
open Go.RowKit

/-- What holds of a reader between steps. -/
structure PInv (s : List UInt8) (p : PS) : Prop where
  ne : p.opn ≠ []
  le : p.i ≤ s.length
  out : p.out.length ≤ 5 * p.i
  opn : p.opn.length ≤ p.i + 1
  all : ∀ e ∈ p.opn, e.1 ≤ p.i ∧ e.2 ≤ p.i

theorem branchOps_len (br pc : Nat) (out : List Op) : (branchOps br pc out).length ≤ out.length + 2 := by
  unfold branchOps; split <;> split <;> simp
theorem repOps_len (s : List UInt8) (i pc : Nat) (out : List Op) : (repOps s i pc out).length ≤ out.length + 1 + (repI s i - i) := by
  unfold repOps repI pieceOps; split <;> split <;> simp
theorem repI_le (s : List UInt8) (i : Nat) (h : i ≤ s.length) : i ≤ repI s i ∧ repI s i ≤ s.length := by
  unfold repI repAt
  split
  · simp; omega
  · rename_i h2
    have := (List.getElem?_eq_some_iff.1 h2).1
    split <;> omega
theorem stepM_inv (s : List UInt8) (p : PS) (c : UInt8) (h : PInv s p) (hi : s[p.i]? = some c) (h0 : (stepM s p c).1 = 0) : PInv s (stepM s p c).2 ∧ p.i < (stepM s p c).2.i := by
  obtain ⟨i, out, opn⟩ := p
  obtain ⟨hne, hle, hout, hopn, hall⟩ := h
  obtain ⟨l, ⟨br, pc⟩, rfl⟩ : ∃ l' e, opn = l' ++ [e] := ⟨opn.dropLast, opn.getLast hne, (List.dropLast_concat_getLast hne).symm⟩
  dsimp only at *
  have hlt := (List.getElem?_eq_some_iff.1 hi).1
  have hbr := hall (br, pc) (by simp)
  have hl := branchOps_len br pc out
  simp only [List.length_append, List.length_singleton] at hopn
  have hal : ∀ e ∈ l, e.1 ≤ i ∧ e.2 ≤ i := fun e he => hall e (by simp [he])
  unfold stepM at h0 ⊢
  split at h0
  · rename_i h1; rw [if_pos h1]
    split at h0
    · cases h0
    · rename_i h2; rw [if_neg h2]
      refine ⟨⟨by simp, by dsimp only; omega, by dsimp only; omega, by simp; omega, fun e he => ?_⟩, by dsimp only; omega⟩
      simp only [List.mem_append, List.mem_singleton, or_assoc] at he
      rcases he with he | rfl | rfl
      · have := hal e he; dsimp only; omega
      · dsimp only at *; omega
      · dsimp only; omega
  · rename_i h1; rw [if_neg h1]
    split at h0
    · rename_i h2; rw [if_pos h2]
      refine ⟨⟨by simp [PS.next, PS.branch, PS.rest, PS.top], by simp [PS.next, PS.branch]; omega, by simp [PS.next, PS.branch, PS.rest, PS.top]; omega, by simp [PS.next, PS.branch, PS.rest, PS.top]; omega, fun e he => ?_⟩, by simp [PS.next, PS.branch]⟩
      simp [PS.next, PS.branch, PS.rest, PS.top] at he ⊢
      rcases he with he | rfl
      · have := hal e he; omega
      · dsimp only; omega
    · rename_i h2; rw [if_neg h2]
      split at h0
      · rename_i h3; rw [if_pos h3]
        split at h0
        · cases h0
        · rename_i h4; rw [if_neg h4]
          have hl0 : l ≠ [] := by intro e; apply h4; simp [e]
          obtain ⟨l', ⟨br', pc'⟩, rfl⟩ : ∃ l' e, l = l' ++ [e] := ⟨l.dropLast, l.getLast hl0, (List.dropLast_concat_getLast hl0).symm⟩
          have hb' := hal (br', pc') (by simp)
          have hr := repI_le s (i + 1) (by omega)
          have hrl := repOps_len s (i + 1) pc' (branchOps br pc out)
          simp only [List.length_append, List.length_singleton] at hopn
          refine ⟨⟨by simp [PS.rep], by simp [PS.next, PS.branch, PS.pop, PS.rep]; omega, by simp [PS.next, PS.branch, PS.pop, PS.rep, PS.rest, PS.top]; omega, by simp [PS.next, PS.branch, PS.pop, PS.rep, PS.rest, PS.top]; omega, fun e he => ?_⟩, by simp [PS.next, PS.branch, PS.pop, PS.rep]; omega⟩
          simp [PS.next, PS.branch, PS.pop, PS.rep, PS.rest, PS.top] at he ⊢
          rcases he with he | rfl
          · have := hal e (by simp [he]); omega
          · dsimp only at *; omega
      · rename_i h3; rw [if_neg h3]
        have hok := bytesM_ok s i c hi
        split at h0
        · cases h0
        · rename_i h4; rw [if_neg h4]
          simp only [Bool.not_eq_false] at h4
          have hok := hok h4
          have hr := repI_le s (bytesM s i c).2 hok.2
          have hrl := repOps_len s (bytesM s i c).2 pc (out ++ [(bytesM s i c).1.1])
          simp only [List.length_append, List.length_singleton] at hrl
          refine ⟨⟨by simp [PS.rep], by simp [PS.rep]; omega, by simp [PS.rep, PS.rest, PS.top]; omega, by simp [PS.rep, PS.rest, PS.top]; omega, fun e he => ?_⟩, by simp [PS.rep]; omega⟩
          simp [PS.rep, PS.rest, PS.top] at he ⊢
          rcases he with he | rfl
          · have := hal e he; omega
          · dsimp only at *; omega

/-- The steps, one behind the other. -/
def parseL (s : List UInt8) : Nat → PS → Nat × PS
  | 0, p => (0, p)
  | f + 1, p => match s[p.i]? with
    | none => (0, p)
    | some c => if (stepM s p c).1 = 0 then parseL s f (stepM s p c).2 else stepM s p c
theorem parseL_fuel (s : List UInt8) : ∀ (f g : Nat) (p : PS), PInv s p → s.length < p.i + f → s.length < p.i + g → parseL s f p = parseL s g p
  | 0, g, p, h, h1, h2 => by have := h.le; omega
  | f + 1, 0, p, h, h1, h2 => by have := h.le; omega
  | f + 1, g + 1, p, h, h1, h2 => by
    unfold parseL
    cases hc : s[p.i]? with
    | none => rfl
    | some c =>
      dsimp only
      split
      · rename_i h0
        have := stepM_inv s p c h hc h0
        exact parseL_fuel s f g _ this.1 (by omega) (by omega)
      · rfl
/-- What Parse answers: the ops, the place, the error's number. -/
def parseM (s : List UInt8) : List Op × Nat × Nat :=
  if 80 < s.length then ([], 0, 3)
  else if (parseL s (s.length + 1) ⟨0, [], [(0, 0)]⟩).1 ≠ 0 then ([], (parseL s (s.length + 1) ⟨0, [], [(0, 0)]⟩).2.i, (parseL s (s.length + 1) ⟨0, [], [(0, 0)]⟩).1)
  else if 1 < (parseL s (s.length + 1) ⟨0, [], [(0, 0)]⟩).2.opn.length then ([], (parseL s (s.length + 1) ⟨0, [], [(0, 0)]⟩).2.i, 2)
  else ((parseL s (s.length + 1) ⟨0, [], [(0, 0)]⟩).2.branch.out, 0, 0)

structure ParseP (W : World) (r : List Op × Nat × Nat) (v : Value) (w : World) : Prop where
  v : ∃ a cap, v = .tuple #[.slice a r.1.length cap, .int .i64 r.2.1, .int .i64 r.2.2] ∧ Sl sOp w (W.heap.size ≤ ·) a cap r.1
  fr : Below W.heap.size W w

/-- The loop of Parse. -/
structure ParseI (W : World) (b : Nat) (c0 : Value) (s : List UInt8) (tot : Nat × PS) (n : Nat) (w : World) : Prop where
  st : ∃ (p : PS) (pv : Value), PInv s p ∧ s.length - p.i ≤ n ∧ RdP W.heap.size b c0 p.i p.out pv p.opn w ∧ tot = parseL s (s.length + 1) p
  fr : Below W.heap.size W w

set_option maxRecDepth 100000 in
set_option maxHeartbeats 8000000 in
theorem parse_calls (s : List UInt8) (sa : Option Addr) (sc : Nat) (W : World) (hs : Sl sByte W (fun _ => True) sa sc s) :
    Calls Try.prog 12 #[.slice sa s.length sc] W (Ret (ParseP W (parseM s))) := by
  by_cases h80 : 80 < s.length
  · have hd : decide ((80 : Int) < (s.length : Int)) = true := by simp; omega
    have hE : parseM s = ([], 0, 3) := by unfold parseM; rw [if_pos h80]
    replace hE := Kp.mk hE
    clear hs
    go_enter Try.func12, Try.ntmps12
    go_wp2
    go_ret3
    rw [hE.out]
    exact ⟨⟨none, 0, rfl, Sl.nil_ _ _ _⟩, Below.refl _ _⟩
  · have hd : decide ((80 : Int) < (s.length : Int)) = false := by simp; omega
    have hE : parseM s = if (parseL s (s.length + 1) ⟨0, [], [(0, 0)]⟩).1 ≠ 0 then ([], (parseL s (s.length + 1) ⟨0, [], [(0, 0)]⟩).2.i, (parseL s (s.length + 1) ⟨0, [], [(0, 0)]⟩).1)
        else if 1 < (parseL s (s.length + 1) ⟨0, [], [(0, 0)]⟩).2.opn.length then ([], (parseL s (s.length + 1) ⟨0, [], [(0, 0)]⟩).2.i, 2)
        else ((parseL s (s.length + 1) ⟨0, [], [(0, 0)]⟩).2.branch.out, 0, 0) := by unfold parseM; rw [if_neg h80]
    have htot : ∃ tot, tot = parseL s (s.length + 1) ⟨0, [], [(0, 0)]⟩ := ⟨_, rfl⟩
    obtain ⟨tot, htot⟩ := htot
    rw [← htot] at hE
    replace hE := Kp.mk hE
    replace htot := Kp.mk htot
    replace hs := Kp.mk hs
    go_enter Try.func12, Try.ntmps12
    go_wp2_with fail
    refine ret_mono (put_calls W.heap.size (.slice sa s.length sc) (.int .i64 0) (.slice none 0 0) (.slice none 0 0) (fun k => W.heap.size ≤ k ∧ k ≠ W.heap.size ∧ (Value.slice none 0 0).ownBlock ≠ some k) [] 0 0 _ (heap_alloc_new _ _) (Ow.nil _ _ _ _) (fun e => e.2.1 rfl) (fun k hk => ⟨by simp at hk; omega, by simp at hk; omega, fun e => by cases e⟩) (by simp)) ?_
    intro v w1 hQ
    obtain rfl := hQ.v
    obtain ⟨⟨pv', hR⟩, hB1⟩ := RdP.put (B := W.heap.size) (Nat.le_refl _) (by simp) (Ow.nil _ _ _ _) (Ow.nil _ _ _ _) hQ
    clear hQ
    have hI0 : ParseI W W.heap.size (.slice sa s.length sc) s tot s.length w1 := ⟨⟨⟨0, [], [(0, 0)]⟩, pv', ⟨by simp, by simp, by simp, by simp, by simp⟩, by simp, hR, htot.out⟩, ((Below.refl _ _).alloc (Nat.le_refl _) _).trans hB1⟩
    replace hI0 := Kp.mk hI0
    clear hR hB1
    go_wp2_with fail
    go_loopg [] s.length (fun k w => ParseI W W.heap.size (.slice sa s.length sc) s tot k w)
    case atStart => exact hI0.out
    case round =>
      obtain ⟨⟨⟨i, out, opn⟩, pv, hI, hk, hR, hT⟩, hB⟩ := hrel
      obtain ⟨l, ⟨br, pc⟩, rfl⟩ : ∃ l' e, opn = l' ++ [e] := ⟨opn.dropLast, opn.getLast hI.ne, (List.dropLast_concat_getLast hI.ne).symm⟩
      dsimp only at hk hR
      have hR' := hR
      obtain ⟨_, _, ov1, hb1, hO1, hP1⟩ := hR'
      obtain ⟨va, vc, rfl⟩ := hP1.form (n := l.length + 1) (by simp)
      have hbc1 := blkC hb1
      have hbf1 := blkF hb1
      clear hb1 hP1 hO1
      have hle : i ≤ s.length := hI.le
      have hol : out.length ≤ 5 * i := hI.out
      have hnl : l.length ≤ i := by have := hI.opn; simpa using this
      have hal : ∀ e ∈ l ++ [(br, pc)], e.1 ≤ i ∧ e.2 ≤ i := hI.all
      have hbp := hal (br, pc) (by simp)
      dsimp only at hbp
      replace hal := Kp.mk hal
      replace hI := Kp.mk hI
      replace hR := Kp.mk hR
      replace hB := Kp.mk hB
      replace hT := Kp.mk hT
      by_cases hlt : i < s.length
      · have hd1 : decide (i < s.length) = true := by simp; omega
        generalize hcc : s[i] = c
        have hi : s[i]? = some c := by rw [List.getElem?_eq_getElem hlt, hcc]
        clear hcc
        replace hi := Kp.mk hi
        go_wp2_with fail
        refine ret_mono (step_calls s W.heap.size W.heap.size sa sc i out c _ l br pc _ hR.out (hs.out.mono fun k _ hk => ⟨hk, hB.out.block k hk⟩) (by omega) hi.out (by omega) (by omega) (fun e he => by have := hal.out e he; omega)) ?_
        intro v w2 hQ
        have hE2 : tot = if (stepM s ⟨i, out, l ++ [(br, pc)]⟩ c).1 = 0 then parseL s (s.length + 1) (stepM s ⟨i, out, l ++ [(br, pc)]⟩ c).2 else stepM s ⟨i, out, l ++ [(br, pc)]⟩ c := by
          rw [hT.out, parseL]
          simp only [hi.out]
          split
          · rename_i h0
            have h1 := stepM_inv s _ c hI.out hi.out h0
            have h2 := h1.2
            dsimp only at h2
            exact parseL_fuel s _ _ _ h1.1 (by omega) (by omega)
          · rfl
        have hinv := stepM_inv s ⟨i, out, l ++ [(br, pc)]⟩ c hI.out hi.out
        generalize stepM s ⟨i, out, l ++ [(br, pc)]⟩ c = q at *
        obtain ⟨n, p'⟩ := q
        obtain ⟨rfl, ⟨pv2, hR2⟩, hB2⟩ := hQ
        dsimp only at hR2 hinv hE2
        replace hB2 := Kp.mk (hB.out.trans hB2)
        have hR2' := hR2
        obtain ⟨_, _, ov2, hb2, _, _⟩ := hR2'
        have hbc2 := blkC hb2
        have hbf2 := blkF hb2
        clear hb2
        replace hR2 := Kp.mk hR2
        by_cases h0 : n = 0
        · subst h0
          rw [if_pos rfl] at hE2
          obtain ⟨hvA, hi2⟩ := hinv rfl
          clear hinv
          have hk2 := hvA.le
          replace hvA := Kp.mk hvA
          replace hE2 := Kp.mk hE2
          go_wp2_with fail
          go_roundg (gk - 1)
          case measure => omega
          case rel => exact ⟨⟨p', pv2, hvA.out, by omega, hR2.out, hE2.out⟩, hB2.out⟩
        · rw [if_neg h0] at hE2
          have hne : ((n : Int) != 0) = true := by simp; omega
          have hne2 : ((n : Int) == 0) = false := by simp; omega
          replace h0 := Kp.mk h0
          replace hE2 := Kp.mk hE2
          replace hinv := Kp.mk hinv
          go_wp2_with fail
          refine wp_lex (by kernel_rfl) ⟨fun _ _ _ h => h.2, fun _ _ h => h⟩ (by kernel_rfl) ?_
          go_wp2_with fail
          refine fin_end (by kernel_rfl) ?_
          go_wp2_with fail
          go_ret3
          rw [hE.out, hE2.out, if_pos h0.out]
          exact ⟨⟨none, 0, rfl, Sl.nil_ _ _ _⟩, hB2.out.drew⟩
      · have hd1 : decide (i < s.length) = false := by simp; omega
        have hE2 : tot = (0, ⟨i, out, l ++ [(br, pc)]⟩) := by
          rw [hT.out, parseL]
          simp only [List.getElem?_eq_none (show s.length ≤ i by omega)]
        by_cases h1 : l = []
        · subst h1
          have hE3 : parseM s = (branchOps br pc out, 0, 0) := by
            rw [hE.out, hE2]; simp [PS.branch, PS.top]
          have hd2 : decide ((1 : Int) < 0 + 1) = false := by decide
          replace hE2 := Kp.mk hE2
          replace hE3 := Kp.mk hE3
          go_wp2_with fail
          refine ret_mono (branch_calls W.heap.size W.heap.size _ i out _ [] br pc _ hR.out (by omega) (by simp) (by omega)) ?_
          intro v w2 hQ
          obtain rfl := hQ.v
          have hR2 := hQ.p
          have hB2 := Kp.mk (hB.out.trans hQ.fr)
          obtain ⟨_, _, ov2, hb2, hO2, _⟩ := hR2
          obtain ⟨oa, oc, e, hSO, _⟩ := hO2.val
          have hbc2 := blkC hb2
          have hbf2 := blkF hb2
          subst e
          clear hb2 hO2 hQ
          replace hSO := Kp.mk hSO
          go_wp2_with fail
          go_ret3
          rw [hE3.out]
          exact ⟨⟨oa, oc, rfl, hSO.out.mono fun k hk _ => ⟨hk.1, rfl⟩⟩, hB2.out⟩
        · have hd2 : decide ((1 : Int) < (l.length : Int) + 1) = true := by
            have : l.length ≠ 0 := by simpa using h1
            simp; omega
          have hE3 : parseM s = ([], i, 2) := by
            rw [hE.out, hE2]
            have : l.length ≠ 0 := by simpa using h1
            rw [if_neg (by simp), if_pos (by simp; omega)]
          replace hE2 := Kp.mk hE2
          replace hE3 := Kp.mk hE3
          clear h1
          go_wp2_with fail
          refine wp_lex (by kernel_rfl) ⟨fun _ _ _ h => h.2, fun _ _ h => h⟩ (by kernel_rfl) ?_
          go_wp2_with fail
          refine fin_end (by kernel_rfl) ?_
          go_wp2_with fail
          go_ret3
          rw [hE3.out]
          exact ⟨⟨none, 0, rfl, Sl.nil_ _ _ _⟩, hB.out.drew⟩
end Go.Proofs.Ytbcifjjnnbefkaa
