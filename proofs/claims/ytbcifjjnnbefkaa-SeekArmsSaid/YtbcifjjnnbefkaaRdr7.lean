/-
  The reference of layer 8 (davitref08): Alt, with all brackets, and Parse. Conditions: the pattern's bytes can be read.
-/
import Derived.Test.YtbcifjjnnbefkaaRdr6
namespace Go.Proofs.Ytbcifjjnnbefkaa
open Go.RowKit

theorem LPO.lp {W : World} {rb : Nat} {c0 : Value} {r : (List Op × Nat) × Nat} {v : Value} {w : World} (h : LPO W rb c0 r v w) : LP W rb c0 r v w := by
  obtain ⟨⟨v1, e, hO⟩, hU⟩ := h
  obtain ⟨a, c, e1, hS, _⟩ := hO.val
  exact ⟨⟨a, c, by rw [e, e1], hS⟩, hU⟩
structure AlK (W : World) (rb : Nat) (c0 : Value) (s : List UInt8) (br : Nat → (List Op × Nat) × Nat) (M : Nat) (tot : (List Op × Nat) × Nat) (k : Nat) (vi vo : Value) (w : World) : Prop where
  st : ∃ (i : Nat) (out : List Op) (bad : Nat), vi = .int .i64 i ∧ RdE rb c0 bad w ∧ Ow 126 sOp w (W.heap.size ≤ ·) vo out ∧
    (bad = 0 → i ≤ s.length ∧ s.length < i + k ∧ out.length ≤ 2 * i + 1) ∧ out.length ≤ 2 * s.length + 2 * M + 10 ∧ i ≤ s.length + 100 ∧ tot = altL s br k i out bad
  fr : Fr (fun k => k = rb) W w

set_option maxRecDepth 100000 in
set_option maxHeartbeats 16000000 in
theorem altE_calls (s : List UInt8) (sa : Option Addr) (sc rb i0 deep M A : Nat) (br : Nat → (List Op × Nat) × Nat) (W : World) (h : Pre s sa sc rb W) (hl : s.length ≤ 1000) (hi : i0 ≤ s.length) (hM : M ≤ 100000) (hAA : A ≤ 100)
    (hbr : ∀ i, i ≤ s.length → BrB s M A i (br i)) (hcall : ∀ (i : Nat) (W : World), i ≤ s.length → Pre s sa sc rb W → Calls Try.prog 58 #[.pointer (some ⟨rb, 0, none⟩), .int .i64 i, .int .i64 deep] W (Ret (LPO W rb (.slice sa s.length sc) (br i)))) :
    Calls Try.prog 47 #[.pointer (some ⟨rb, 0, none⟩), .int .i64 i0, .int .i64 deep] W (Ret (LP W rb (.slice sa s.length sc) (altW s br i0))) := by
  have htot : ∃ tot, tot = altW s br i0 := ⟨_, rfl⟩
  obtain ⟨tot, htot⟩ := htot
  rw [← htot]
  have hc0 := hcall i0 W hi h
  obtain ⟨b1, b2, b3⟩ := hbr i0 hi
  unfold altW at htot
  generalize br i0 = q at htot hc0 b1 b2 b3
  obtain ⟨⟨ol, j0⟩, bd0⟩ := q
  dsimp only at htot b1 b2 b3
  have hrbl : rb < W.heap.size := by
    obtain ⟨pl, hb⟩ := h.rd
    exact blkL hb
  replace htot := Kp.mk htot
  replace hbr := Kp.mk hbr
  replace hcall := Kp.mk hcall
  replace hc0 := Kp.mk hc0
  replace b1 := Kp.mk b1
  replace h := Kp.mk h
  go_enter Try.func47, Try.ntmps47
  go_wp2_with fail
  refine ret_mono hc0.out ?_
  rintro v w1 ⟨⟨v1, rfl, hO1⟩, hU1⟩
  dsimp only at hO1 ⊢
  have hI0 : AlK W rb (.slice sa s.length sc) s br M tot (s.length + 1) (.int .i64 j0) v1 w1 := ⟨⟨j0, ol, bd0, rfl, hU1.rd, hO1, fun h0 => by have := b1.out h0; omega, by omega, by omega, htot.out⟩, hU1.fr⟩
  replace hI0 := Kp.mk hI0
  clear hO1 hU1
  go_wp2_with fail
  go_loopg [1, 8] (s.length + 1) (fun k vi vo w => AlK W rb (.slice sa s.length sc) s br M tot k vi vo w)
  case atStart => exact hI0.out
  case round =>
    obtain ⟨⟨i, out, bad, rfl, hR, hO, hbad, hol, hil, hT⟩, hF⟩ := hrel
    have hR' := hR
    obtain ⟨pl1, hb1⟩ := hR'
    have hc1 := blkC hb1
    have hz := hF.size
    obtain ⟨oa, oc, eO, hSO, _⟩ := hO.val
    subst eO
    have hend : tot = ((out, i), bad) → LP W rb (.slice sa s.length sc) tot (.tuple #[.slice oa out.length oc, .int .i64 i]) wr := fun ht => by
      rw [ht]
      exact ⟨⟨oa, oc, rfl, hSO⟩, hR, hF⟩
    have hs2 : Kp (Sl sByte wr (fun k => k ≠ rb) sa sc s) := ⟨h.out.s.mono fun j hj hl => ⟨hj.1, hF.block j hl hj.1⟩⟩
    have hPre : Kp (bad = 0 → Pre s sa sc rb wr) := ⟨fun h0 => by subst h0; exact h.out.on ⟨hR, hF⟩⟩
    have hRk := Kp.mk hR
    clear hR
    replace hend := Kp.mk hend
    replace hb1 := Kp.mk hb1
    replace hO := Kp.mk hO
    replace hSO := Kp.mk hSO
    replace hF := Kp.mk hF
    replace hT := Kp.mk hT
    by_cases hb0 : bad = 0
    case neg =>
      have hd : ((bad : Int) == 0) = false := by simpa using hb0
      have ht : tot = ((out, i), bad) := by
        rw [hT.out]
        cases gk with
        | zero => rfl
        | succ gk => unfold altL; rw [if_pos (.inl hb0)]
      have hL := hend.out ht
      replace hL := Kp.mk hL
      replace ht := Kp.mk ht
      replace hb0 := Kp.mk hb0
      replace hbad := Kp.mk hbad
      go_wp2_with fail
      go_ret2
      exact hL.out
    subst hb0
    obtain ⟨q1, q2, q3⟩ := hbad rfl
    clear hbad
    obtain ⟨g', rfl⟩ : ∃ g', gk = g' + 1 := ⟨gk - 1, by omega⟩
    have hT2 := hT.out
    rw [altL] at hT2
    cases h124 : isB s i 124 with
    | false =>
      have ht : tot = ((out, i), 0) := by rw [hT2, if_pos (.inr h124)]
      have hL := hend.out ht
      replace hL := Kp.mk hL
      replace ht := Kp.mk ht
      replace h124 := Kp.mk h124
      clear hT2
      go_wp2_with fail
      refine ret_mono (is_calls s _ sc rb 0 i 124 _ hRk.out hs2.out) ?_
      rintro v wi ⟨rfl, rfl⟩
      rw [h124.out]
      go_wp2_with fail
      go_ret2
      exact hL.out
    | true =>
      have hlt := isB_some h124
      rw [if_neg (by rw [h124]; simp)] at hT2
      have hac := hcall.out (i + 1) wr (by omega) (hPre.out rfl)
      rw [show ((i + 1 : Nat) : Int) = (i : Int) + 1 from rfl] at hac
      obtain ⟨x1, x2, x3⟩ := hbr.out (i + 1) (by omega)
      generalize br (i + 1) = q at hT2 hac x1 x2 x3
      obtain ⟨⟨al, j⟩, bd⟩ := q
      dsimp only at hT2 x1 x2 x3
      replace h124 := Kp.mk h124
      replace hac := Kp.mk hac
      replace x1 := Kp.mk x1
      replace hT2 := Kp.mk hT2
      go_wp2_with fail
      refine ret_mono (is_calls s _ sc rb 0 i 124 _ hRk.out hs2.out) ?_
      rintro v wi ⟨rfl, rfl⟩
      rw [h124.out]
      go_wp2_with fail
      refine ret_mono hac.out ?_
      rintro v w2 ⟨⟨v2, rfl, hO2'⟩, hU2⟩
      dsimp only at hO2' ⊢
      obtain ⟨la, lc, rfl, hS2, _⟩ := hO2'.val
      have hz2 := hU2.fr.size
      have hF2 : Fr (fun k => k = rb) W w2 := hF.out.trans hU2.fr fun _ _ e => e
      have hO2 : Ow 126 sOp w2 (W.heap.size ≤ ·) (.slice oa out.length oc) out := hO.out.mono fun j hj hl => ⟨hj, hU2.fr.block j hl (by omega)⟩
      have hown : ∀ k, (Value.slice oa out.length oc).ownBlock = some k → W.heap.size ≤ k ∧ k < wr.heap.size := fun k e => ⟨hO.out.1 k e, hO.out.lt e⟩
      have hS3 : Sl sOp w2 (fun j => W.heap.size ≤ j ∧ (Value.slice oa out.length oc).ownBlock ≠ some j) la lc al := hS2.mono fun j hj _ => ⟨⟨by omega, fun e => by have := hown j e; omega⟩, rfl⟩
      have hRd2 := hU2.rd
      replace hF2 := Kp.mk hF2
      replace hO2 := Kp.mk hO2
      replace hown := Kp.mk hown
      replace hS3 := Kp.mk hS3
      replace hRd2 := Kp.mk hRd2
      clear hS2 hU2 hO2'
      go_wp2_with (at_builtin; refine pause ?_; intro K hK)
      refine hK.out _ _ ?_
      refine wpl_appendS (v := .slice oa out.length oc) ty_rOp rfl rfl rfl hO2.out rfl hS3.out (by omega) (fun k hk => by omega) ?_
      intro v' w3 hO3 hF3 hd3
      have hF3' : Fr (fun k => k = rb) W w3 := hF2.out.trans (M' := fun k => W.heap.size ≤ k) (hF3.mono fun k _ e => (hown.out k e).1) fun k hk e => by omega
      have hRd3 : RdE rb (.slice sa s.length sc) bd w3 := by
        obtain ⟨p2, hp2⟩ := hRd2.out
        exact ⟨p2, hF3.obj hp2 fun e => by have := hown.out rb e; omega⟩
      have hz3 := hF3'.size
      obtain ⟨o2, ho2⟩ : ∃ o2, o2 = out ++ al := ⟨_, rfl⟩
      have hT3 := hT2.out
      rw [← ho2] at hO3 hT3
      have ho2l : o2.length = out.length + al.length := by rw [ho2]; simp
      obtain ⟨va, vc, rfl⟩ := hO3.form (n := o2.length) rfl
      replace hF3' := Kp.mk hF3'
      replace hRd3 := Kp.mk hRd3
      replace hO3 := Kp.mk hO3
      replace hT3 := Kp.mk hT3
      replace ho2 := Kp.mk ho2
      have ho2l1 : o2.length ≤ out.length + al.length := by omega
      have ho2l2 : out.length + al.length ≤ o2.length := by omega
      replace ho2l := Kp.mk ho2l
      clear hF3 hd3
      go_wp2_with (at_builtin; refine pause ?_; intro K hK)
      refine hK.out _ _ ?_
      refine wpl_append1 (w := w3) (v := .slice va o2.length vc) (y := ⟨4, false, []⟩) ty_rOp rfl rfl rfl hO3.out rfl (opK _ _ 4 (by unfold i64ok; omega)) (heap_alloc_new _ _) ((Fr.refl _ _).alloc _) (by omega) (fun j hj => by omega) ?_
      intro v' w4 hO4 hF4 hd4
      have hF4' : Fr (fun k => k = rb) W w4 := hF3'.out.trans (M' := fun k => W.heap.size ≤ k) (hF4.mono fun k _ e => hO3.out.1 k e) fun k hk e => by omega
      have hRd4 : RdE rb (.slice sa s.length sc) bd w4 := by
        obtain ⟨p2, hp2⟩ := hRd3.out
        exact ⟨p2, hF4.obj hp2 fun e => by have : W.heap.size ≤ rb := hO3.out.1 rb e; omega⟩
      replace hF4' := Kp.mk hF4'
      replace hRd4 := Kp.mk hRd4
      replace hO4 := Kp.mk hO4
      clear hF4 hd4
      go_wp2_with fail
      go_roundg g'
      case measure => omega
      case rel => exact ⟨⟨j, o2 ++ [⟨4, false, []⟩], bd, rfl, hRd4.out, hO4.out, fun h0 => (by have := x1.out h0; simp; omega), (by simp; omega), by omega, hT3.out⟩, hF4'.out⟩

theorem alt_calls (s : List UInt8) (sa : Option Addr) (sc rb : Nat) (hl : s.length ≤ 1000) : ∀ k, k ≤ 8 → ∀ (i : Nat) (W : World), i ≤ s.length → Pre s sa sc rb W →
    Calls Try.prog 47 #[.pointer (some ⟨rb, 0, none⟩), .int .i64 i, .int .i64 (8 - k : Nat)] W (Ret (LP W rb (.slice sa s.length sc) (altK s k i)))
  | 0, _, i, W, hi, hp => by
    refine altE_calls s sa sc rb i 8 (2 * s.length + 1 + 3) 5 (branchW s (atomW s none)) W hp hl hi (by omega) (by omega) (branchW_b (atomW_b (M := 1) (A := 4) (Nat.le_refl _) (Nat.le_refl _) (fun f h => by cases h))) fun i W hi hp => ?_
    have hb : ∀ i, i < s.length → AtB s 1 i (atomW s none i) := fun i hi => by
      obtain ⟨a, b, c⟩ := atomW_b (s := s) (al := none) (M := 1) (A := 4) (Nat.le_refl _) (Nat.le_refl _) (fun f h => by cases h) i hi
      exact ⟨a, b, by omega⟩
    exact branchE_calls s sa sc rb i 8 1 (atomW s none) W hp hl hi (by omega) hb fun i W hi hp => atom_calls s sa sc rb i 8 none W hp hl hi (by omega) (Nat.le_refl _)
  | k + 1, hk, i, W, hi, hp => by
    have hMk : (k + 1) * (4 * s.length + 10) ≤ 9 * 4010 := Nat.mul_le_mul (by omega) (by omega)
    have hb0 := atomW_b (s := s) (al := some (altK s k)) (M := (k + 1) * (4 * s.length + 10)) (A := 5 + k) (by rw [Nat.add_mul]; omega) (by omega) (fun f h => by cases h; exact altK_b s k)
    refine altE_calls s sa sc rb i (8 - (k + 1)) (2 * s.length + (k + 1) * (4 * s.length + 10) + 3) (5 + k + 1) (branchW s (atomW s (some (altK s k)))) W hp hl hi (by omega) (by omega) (branchW_b hb0) fun i W hi hp => ?_
    have hb : ∀ i, i < s.length → AtB s ((k + 1) * (4 * s.length + 10)) i (atomW s (some (altK s k)) i) := fun i hi => by
      obtain ⟨a, b, c⟩ := hb0 i hi
      exact ⟨a, b, by omega⟩
    refine branchE_calls s sa sc rb i (8 - (k + 1)) ((k + 1) * (4 * s.length + 10)) (atomW s (some (altK s k))) W hp hl hi (by omega) hb fun i W hi hp => atom_calls s sa sc rb i (8 - (k + 1)) (some (altK s k)) W hp hl hi (by omega) ⟨by omega, by have := (altK_b s k (i + 1) hi).at_; omega, ?_⟩
    have h := alt_calls s sa sc rb hl k (by omega) (i + 1) W hi hp
    rw [show 8 - k = (8 - (k + 1)) + 1 by omega] at h
    exact h

/-- What the reference's Parse answers: the ops, and what is amiss (its place is left open). -/
def parseR (s : List UInt8) : List Op × Nat :=
  if 80 < s.length then ([], 3)
  else if (if (altK s 8 0).2 = 0 ∧ (altK s 8 0).1.2 < s.length then 2 else (altK s 8 0).2) ≠ 0 then ([], if (altK s 8 0).2 = 0 ∧ (altK s 8 0).1.2 < s.length then 2 else (altK s 8 0).2)
  else ((altK s 8 0).1.1, 0)
structure RParseP (W : World) (r : List Op × Nat) (v : Value) (w : World) : Prop where
  v : ∃ a cap pl, v = .tuple #[.slice a r.1.length cap, .int .i64 pl, .int .i64 r.2] ∧ Sl sOp w (W.heap.size ≤ ·) a cap r.1
  fr : Below W.heap.size W w
set_option maxRecDepth 100000 in
set_option maxHeartbeats 8000000 in
theorem rparse_calls (s : List UInt8) (sa : Option Addr) (sc : Nat) (W : World) (hs : Sl sByte W (fun k => k < W.heap.size) sa sc s) :
    Calls Try.prog 26 #[.slice sa s.length sc] W (Ret (RParseP W (parseR s))) := by
  have q1 := hs.max
  have q2 := hs.le
  unfold maxLen at q1
  by_cases h80 : 80 < s.length
  · have hd : decide ((80 : Int) < (s.length : Int)) = true := by simp; omega
    have hE : parseR s = ([], 3) := by unfold parseR; rw [if_pos h80]
    replace hE := Kp.mk hE
    clear hs
    go_enter Try.func26, Try.ntmps26
    go_wp2_with fail
    go_ret3
    rw [hE.out]
    exact ⟨⟨none, 0, 0, rfl, Sl.nil_ _ _ _⟩, Below.refl _ _⟩
  · have hd : decide ((80 : Int) < (s.length : Int)) = false := by simp; omega
    have hE : parseR s = if (if (altK s 8 0).2 = 0 ∧ (altK s 8 0).1.2 < s.length then 2 else (altK s 8 0).2) ≠ 0 then ([], if (altK s 8 0).2 = 0 ∧ (altK s 8 0).1.2 < s.length then 2 else (altK s 8 0).2)
        else ((altK s 8 0).1.1, 0) := by unfold parseR; rw [if_neg h80]
    have hb := heap_alloc_new W (.cells #[.slice sa s.length sc, .int .i64 0, .int .i64 0] 110)
    have hcall := alt_calls s sa sc W.heap.size (by omega) 8 (by omega) 0 (W.alloc (.cells #[.slice sa s.length sc, .int .i64 0, .int .i64 0] 110)) (Nat.zero_le _)
      ⟨⟨0, hb⟩, hs.mono fun j hj hl => ⟨⟨by omega, by simp; omega⟩, Below.heap_alloc _ _ _ hl⟩⟩
    have hat := (altK_b s 8 0 (Nat.zero_le _)).at_
    generalize altK s 8 0 = q at hE hcall hat
    obtain ⟨⟨l, j⟩, bd⟩ := q
    dsimp only at hE hat
    replace hE := Kp.mk hE
    replace hcall := Kp.mk hcall
    replace hs := Kp.mk hs
    replace hb := Kp.mk hb
    go_enter Try.func26, Try.ntmps26
    go_wp2_with fail
    refine ret_mono hcall.out ?_
    rintro v w1 ⟨⟨la, lc, rfl, hS⟩, hU⟩
    dsimp only at hS ⊢
    have hB : Below W.heap.size W w1 := ((Below.refl W.heap.size W).alloc (Nat.le_refl _) (.cells #[.slice sa s.length sc, .int .i64 0, .int .i64 0] 110)).trans (hU.fr.below (by simp) fun k hk e => by omega)
    have hS' : Sl sOp w1 (W.heap.size ≤ ·) la lc l := hS.mono fun j hj _ => ⟨by simp at hj; omega, rfl⟩
    have hU' := hU.rd
    obtain ⟨pl, hb1⟩ := hU'
    have hc1 := blkC hb1
    have hUr := Kp.mk hU.rd
    clear hS hU
    by_cases h0 : bd = 0
    · subst h0
      by_cases hj : j < s.length
      · have hd1 : decide (j < s.length) = true := by simpa using hj
        have hE2 := hE.out
        simp [hj] at hE2
        replace hE2 := Kp.mk hE2
        replace hB := Kp.mk hB
        replace hS' := Kp.mk hS'
        replace hb1 := Kp.mk hb1
        go_wp2_with fail
        refine ret_mono (wrong_calls _ _ 0 2 _ _ hUr.out) ?_
        rintro v w2 ⟨rfl, ⟨pl2, hb2⟩, hF2⟩
        have hc2 := blkC hb2
        have hB2 := hB.out.trans (hF2.below hB.out.size fun k hk e => by omega)
        replace hb2 := Kp.mk hb2
        replace hB2 := Kp.mk hB2
        clear hF2 hc1
        go_wp2_with fail
        refine wp_lex (by kernel_rfl) ⟨fun _ _ _ h => h.2, fun _ _ h => h⟩ (by kernel_rfl) ?_
        go_wp2_with fail
        refine fin_end (by kernel_rfl) ?_
        go_wp2_with fail
        go_ret3
        rw [hE2.out]
        exact ⟨⟨none, 0, pl2, rfl, Sl.nil_ _ _ _⟩, hB2.out.drew⟩
      · have hd1 : decide (j < s.length) = false := by simpa using hj
        have hE2 := hE.out
        simp [hj] at hE2
        replace hE2 := Kp.mk hE2
        replace hB := Kp.mk hB
        replace hS' := Kp.mk hS'
        replace hb1 := Kp.mk hb1
        go_wp2_with fail
        go_ret3
        rw [hE2.out]
        exact ⟨⟨la, lc, 0, rfl, hS'.out⟩, hB.out⟩
    · have hd1 : ((bd : Int) == 0) = false := by simpa using h0
      have hd2 : ((bd : Int) != 0) = true := by simpa using h0
      have hE2 := hE.out
      simp [h0] at hE2
      replace hE2 := Kp.mk hE2
      replace hB := Kp.mk hB
      replace hS' := Kp.mk hS'
      replace hb1 := Kp.mk hb1
      replace h0 := Kp.mk h0
      go_wp2_with fail
      refine wp_lex (by kernel_rfl) ⟨fun _ _ _ h => h.2, fun _ _ h => h⟩ (by kernel_rfl) ?_
      go_wp2_with fail
      refine fin_end (by kernel_rfl) ?_
      go_wp2_with fail
      go_ret3
      rw [hE2.out]
      exact ⟨⟨none, 0, pl, rfl, Sl.nil_ _ _ _⟩, hB.out.drew⟩
end Go.Proofs.Ytbcifjjnnbefkaa
