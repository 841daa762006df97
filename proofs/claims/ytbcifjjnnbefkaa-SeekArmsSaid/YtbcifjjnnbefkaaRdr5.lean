/-
  The reference of layer 8 (davitref08): Branch. Conditions: the reader's block holds its fields, nothing is amiss yet, the pattern's bytes can be read; atom's contract.
-/
import Derived.Test.YtbcifjjnnbefkaaRdr4
namespace Go.Proofs.Ytbcifjjnnbefkaa
open Go.RowKit

def noneIf (n : Nat) (out : List Op) : List Op := if n = 0 then out ++ [⟨2, false, []⟩] else out
/-- A branch from a place on: n pieces of it are read. -/
def branchL (s : List UInt8) (at_ : Nat → (List Op × Nat) × Nat) : Nat → Nat → Nat → List Op → Nat → (List Op × Nat) × Nat
  | 0, i, n, out, bad => ((noneIf n out, i), bad)
  | f + 1, i, n, out, bad =>
    if bad ≠ 0 ∨ s.length ≤ i ∨ isB s i 124 = true ∨ isB s i 41 = true then ((noneIf n out, i), bad)
    else branchL s at_ f (repI s (at_ i).1.2) (n + 1) (repOps s (at_ i).1.2 n (out ++ (at_ i).1.1)) (at_ i).2
/-- What bounds an atom. -/
structure AtB (s : List UInt8) (M : Nat) (i : Nat) (r : (List Op × Nat) × Nat) : Prop where
  ok : r.2 = 0 → i < r.1.2 ∧ r.1.2 ≤ s.length ∧ r.1.1.length + 1 ≤ 2 * (r.1.2 - i)
  len : r.1.1.length ≤ M
  at_ : r.1.2 ≤ s.length + 100
theorem ty_rOp : SlTy Try.prog 81 126 sOp 40 := mkTy Try.underlying81 (by kernel_rfl) (by decide) (by decide)
theorem opK (w : World) (A : Nat → Prop) (k : Int) (hk : i64ok k) : sOp.R w A (#[.int .i64 k, .bool false, .slice none 0 0] : Array Value).toList ⟨k, false, []⟩ := ⟨none, 0, rfl, hk, Sl.nil_ _ _ _⟩
theorem repI_of {s : List UInt8} {j : Nat} : repI s j = if repAt s j = 0 then j else j + 1 := rfl
theorem isB_rep (s : List UInt8) (j : Nat) : (isB s j 42 = true ∧ isB s j 43 = false ∧ isB s j 63 = false ∧ repAt s j = 5) ∨ (isB s j 42 = false ∧ isB s j 43 = true ∧ isB s j 63 = false ∧ repAt s j = 6) ∨ (isB s j 42 = false ∧ isB s j 43 = false ∧ isB s j 63 = true ∧ repAt s j = 7) ∨ (isB s j 42 = false ∧ isB s j 43 = false ∧ isB s j 63 = false ∧ repAt s j = 0) := by
  unfold isB repAt
  cases h : s[j]? with
  | none => simp
  | some c =>
    unfold repK
    by_cases h1 : c = 42
    · subst h1; simp
    · by_cases h2 : c = 43
      · subst h2; simp
      · by_cases h3 : c = 63
        · subst h3; simp
        · simp [h1, h2, h3]
theorem repOps_0 {s : List UInt8} {j : Nat} (h : repAt s j = 0) (n : Nat) (out : List Op) : repOps s j n out = pieceOps n out ∧ repI s j = j := by unfold repOps repI; rw [if_pos h, if_pos h]; exact ⟨rfl, rfl⟩
theorem repOps_k {s : List UInt8} {j k : Nat} (h : repAt s j = k) (hk : k ≠ 0) (n : Nat) (out : List Op) : repOps s j n out = pieceOps n (out ++ [⟨k, false, []⟩]) ∧ repI s j = j + 1 := by subst h; unfold repOps repI; rw [if_neg hk, if_neg hk]; exact ⟨rfl, rfl⟩

structure LPO (W : World) (rb : Nat) (c0 : Value) (r : (List Op × Nat) × Nat) (v : Value) (w : World) : Prop where
  v : ∃ v1, v = .tuple #[v1, .int .i64 r.1.2] ∧ Ow 126 sOp w (W.heap.size ≤ ·) v1 r.1.1
  up : UP W rb c0 r.2 w
structure BrK (W : World) (rb : Nat) (c0 : Value) (s : List UInt8) (at_ : Nat → (List Op × Nat) × Nat) (M : Nat) (tot : (List Op × Nat) × Nat) (k : Nat) (vi vo vn : Value) (w : World) : Prop where
  st : ∃ (i n : Nat) (out : List Op) (bad : Nat), vi = .int .i64 i ∧ vn = .int .i64 n ∧ RdE rb c0 bad w ∧ Ow 126 sOp w (W.heap.size ≤ ·) vo out ∧
    (bad = 0 → i ≤ s.length ∧ s.length < i + k ∧ out.length ≤ 2 * i ∧ n ≤ i) ∧ out.length ≤ 2 * s.length + M + 10 ∧ i ≤ s.length + 101 ∧ n ≤ s.length + 1 ∧ tot = branchL s at_ k i n out bad
  fr : Fr (fun k => k = rb) W w

set_option maxRecDepth 100000 in
set_option maxHeartbeats 32000000 in
theorem branchE_calls (s : List UInt8) (sa : Option Addr) (sc rb i0 deep M : Nat) (at_ : Nat → (List Op × Nat) × Nat) (W : World) (h : Pre s sa sc rb W) (hl : s.length ≤ 1000) (hi : i0 ≤ s.length) (hM : M ≤ 100000)
    (hat : ∀ i, i < s.length → AtB s M i (at_ i)) (hcall : ∀ i W, i < s.length → Pre s sa sc rb W → Calls Try.prog 63 #[.pointer (some ⟨rb, 0, none⟩), .int .i64 i, .int .i64 deep] W (Ret (LP W rb (.slice sa s.length sc) (at_ i)))) :
    Calls Try.prog 58 #[.pointer (some ⟨rb, 0, none⟩), .int .i64 i0, .int .i64 deep] W (Ret (LPO W rb (.slice sa s.length sc) (branchL s at_ (s.length + 1) i0 0 [] 0))) := by
  obtain ⟨tot, htot⟩ : ∃ tot, tot = branchL s at_ (s.length + 1) i0 0 [] 0 := ⟨_, rfl⟩
  rw [← htot]
  have hI0 : BrK W rb (.slice sa s.length sc) s at_ M tot (s.length + 1) (.int .i64 i0) (.slice none 0 0) (.int .i64 0) W := ⟨⟨i0, 0, [], 0, rfl, rfl, h.rd, Ow.nil _ _ _ _, fun _ => ⟨hi, by omega, by simp, by omega⟩, by simp, by omega, by omega, htot⟩, Fr.refl _ _⟩
  have hrbl : rb < W.heap.size := by
    obtain ⟨pl, hb⟩ := h.rd
    exact blkL hb
  replace hI0 := Kp.mk hI0
  replace htot := Kp.mk htot
  replace hat := Kp.mk hat
  replace hcall := Kp.mk hcall
  replace h := Kp.mk h
  go_enter Try.func58, Try.ntmps58
  go_wp2_with fail
  go_loopg [1, 8, 9] (s.length + 1) (fun k vi vo vn w => BrK W rb (.slice sa s.length sc) s at_ M tot k vi vo vn w)
  case atStart => exact hI0.out
  case round =>
    obtain ⟨⟨i, n, out, bad, rfl, rfl, hR, hO, hbad, hol, hil, hnl, hT⟩, hF⟩ := hrel
    have hR' := hR
    obtain ⟨pl1, hb1⟩ := hR'
    have hc1 := blkC hb1
    have hz := hF.size
    obtain ⟨oa, oc, eO, hSO, _⟩ := hO.val
    subst eO
    -- how it ends
    have hend : tot = ((noneIf n out, i), bad) → n ≠ 0 → LPO W rb (.slice sa s.length sc) tot (.tuple #[.slice oa out.length oc, .int .i64 i]) wr := fun ht hn => by
      rw [ht, noneIf, if_neg hn]
      exact ⟨⟨_, rfl, hO⟩, hR, hF⟩
    have hend0 : tot = ((noneIf n out, i), bad) → n = 0 → ∀ (v : Value) (w : World), Ow 126 sOp w (W.heap.size ≤ ·) v (out ++ [⟨2, false, []⟩]) → Fr (fun k => W.heap.size ≤ k) wr w → ∃ a c, v = .slice a (out.length + 1) c ∧ LPO W rb (.slice sa s.length sc) tot (.tuple #[v, .int .i64 i]) w := fun ht hn v w hOw hFw => by
      rw [ht, noneIf, if_pos hn]
      obtain ⟨a, c, e, _, _⟩ := hOw.val
      have e' : v = .slice a (out.length + 1) c := by rw [e]; simp
      refine ⟨a, c, e', ⟨v, rfl, hOw⟩, ⟨pl1, hFw.obj hb1 (by omega)⟩, hF.trans hFw fun j hj e => by omega⟩
    replace hend := Kp.mk hend
    replace hend0 := Kp.mk hend0
    have hRk := Kp.mk hR
    clear hR
    replace hb1 := Kp.mk hb1
    replace hO := Kp.mk hO
    replace hSO := Kp.mk hSO
    replace hF := Kp.mk hF
    replace hT := Kp.mk hT
    have hPre : Kp (bad = 0 → Pre s sa sc rb wr) := ⟨fun h0 => by subst h0; exact h.out.on ⟨hRk.out, hF.out⟩⟩
    have hs2 : Kp (Sl sByte wr (fun k => k ≠ rb) sa sc s) := ⟨h.out.s.mono fun j hj hl => ⟨hj.1, hF.out.block j hl hj.1⟩⟩
    by_cases hb0 : bad = 0
    case neg =>
      have hd : ((bad : Int) == 0) = false := by simpa using hb0
      have ht : tot = ((noneIf n out, i), bad) := by
        rw [hT.out]
        cases gk with
        | zero => rfl
        | succ gk => unfold branchL; rw [if_pos (.inl hb0)]
      replace hb0 := Kp.mk hb0
      replace hbad := Kp.mk hbad
      by_cases hn0 : n = 0
      · subst hn0
        replace ht := Kp.mk ht
      
        go_wp2_with (at_builtin; refine pause ?_; intro K hK)
        refine hK.out _ _ ?_
        refine wpl_append1 (w := wr) (y := ⟨2, false, []⟩) ty_rOp rfl rfl rfl hO.out rfl (opK _ _ 2 (by unfold i64ok; omega)) (heap_alloc_new _ _) ((Fr.refl _ _).alloc _) (by omega) (fun j hj => by omega) ?_
        intro v' w5 hO5 hF5 hd5
        obtain ⟨fa, fc, rfl, hL⟩ := hend0.out ht.out (by simp) v' w5 hO5 (hF5.mono fun k _ e => hO.out.1 k e)
        replace hL := Kp.mk hL
        clear hO5 hF5 hd5
        go_wp2_with fail
        go_ret2
        exact hL.out
      · have hnb : ((n : Int) == 0) = false := by simpa using hn0
        have hL := hend.out ht hn0
        replace hL := Kp.mk hL
        replace ht := Kp.mk ht
        replace hn0 := Kp.mk hn0
      
        go_wp2_with fail
        go_ret2
        exact hL.out
    subst hb0
    obtain ⟨q1, q2, q3, q4⟩ := hbad rfl
    clear hbad
    obtain ⟨g', rfl⟩ : ∃ g', gk = g' + 1 := ⟨gk - 1, by omega⟩
    have hT2 := hT.out
    rw [branchL] at hT2
    by_cases hlt : i < s.length
    case neg =>
      have hd1 : decide (i < s.length) = false := by simpa using hlt
      have ht : tot = ((noneIf n out, i), 0) := by rw [hT2, if_pos (.inr (.inl (by omega)))]
      clear hT2
      by_cases hn0 : n = 0
      · subst hn0
        replace ht := Kp.mk ht
      
        go_wp2_with (at_builtin; refine pause ?_; intro K hK)
        refine hK.out _ _ ?_
        refine wpl_append1 (w := wr) (y := ⟨2, false, []⟩) ty_rOp rfl rfl rfl hO.out rfl (opK _ _ 2 (by unfold i64ok; omega)) (heap_alloc_new _ _) ((Fr.refl _ _).alloc _) (by omega) (fun j hj => by omega) ?_
        intro v' w5 hO5 hF5 hd5
        obtain ⟨fa, fc, rfl, hL⟩ := hend0.out ht.out (by simp) v' w5 hO5 (hF5.mono fun k _ e => hO.out.1 k e)
        replace hL := Kp.mk hL
        clear hO5 hF5 hd5
        go_wp2_with fail
        go_ret2
        exact hL.out
      · have hnb : ((n : Int) == 0) = false := by simpa using hn0
        have hL := hend.out ht hn0
        replace hL := Kp.mk hL
        replace ht := Kp.mk ht
        replace hn0 := Kp.mk hn0
      
        go_wp2_with fail
        go_ret2
        exact hL.out
    have hd1 : decide (i < s.length) = true := by simpa using hlt
    cases h124 : isB s i 124 with
    | true =>
      have ht : tot = ((noneIf n out, i), 0) := by rw [hT2, if_pos (.inr (.inr (.inl h124)))]
      clear hT2
      replace h124 := Kp.mk h124
      by_cases hn0 : n = 0
      · subst hn0
        replace ht := Kp.mk ht
        go_wp2_with fail
        refine ret_mono (is_calls s _ sc rb 0 i 124 _ hRk.out hs2.out) ?_
        rintro v wi ⟨rfl, rfl⟩
        rw [h124.out]
        go_wp2_with (at_builtin; refine pause ?_; intro K hK)
        refine hK.out _ _ ?_
        refine wpl_append1 (w := wr) (y := ⟨2, false, []⟩) ty_rOp rfl rfl rfl hO.out rfl (opK _ _ 2 (by unfold i64ok; omega)) (heap_alloc_new _ _) ((Fr.refl _ _).alloc _) (by omega) (fun j hj => by omega) ?_
        intro v' w5 hO5 hF5 hd5
        obtain ⟨fa, fc, rfl, hL⟩ := hend0.out ht.out (by simp) v' w5 hO5 (hF5.mono fun k _ e => hO.out.1 k e)
        replace hL := Kp.mk hL
        clear hO5 hF5 hd5
        go_wp2_with fail
        go_ret2
        exact hL.out
      · have hnb : ((n : Int) == 0) = false := by simpa using hn0
        have hL := hend.out ht hn0
        replace hL := Kp.mk hL
        replace ht := Kp.mk ht
        replace hn0 := Kp.mk hn0
        go_wp2_with fail
        refine ret_mono (is_calls s _ sc rb 0 i 124 _ hRk.out hs2.out) ?_
        rintro v wi ⟨rfl, rfl⟩
        rw [h124.out]
        go_wp2_with fail
        go_ret2
        exact hL.out
    | false =>
    cases h41 : isB s i 41 with
    | true =>
      have ht : tot = ((noneIf n out, i), 0) := by rw [hT2, if_pos (.inr (.inr (.inr h41)))]
      clear hT2
      replace h124 := Kp.mk h124
      replace h41 := Kp.mk h41
      by_cases hn0 : n = 0
      · subst hn0
        replace ht := Kp.mk ht
        go_wp2_with fail
        refine ret_mono (is_calls s _ sc rb 0 i 124 _ hRk.out hs2.out) ?_
        rintro v wi ⟨rfl, rfl⟩
        rw [h124.out]
        go_wp2_with fail
        refine ret_mono (is_calls s _ sc rb 0 i 41 _ hRk.out hs2.out) ?_
        rintro v wi ⟨rfl, rfl⟩
        rw [h41.out]
        go_wp2_with (at_builtin; refine pause ?_; intro K hK)
        refine hK.out _ _ ?_
        refine wpl_append1 (w := wr) (y := ⟨2, false, []⟩) ty_rOp rfl rfl rfl hO.out rfl (opK _ _ 2 (by unfold i64ok; omega)) (heap_alloc_new _ _) ((Fr.refl _ _).alloc _) (by omega) (fun j hj => by omega) ?_
        intro v' w5 hO5 hF5 hd5
        obtain ⟨fa, fc, rfl, hL⟩ := hend0.out ht.out (by simp) v' w5 hO5 (hF5.mono fun k _ e => hO.out.1 k e)
        replace hL := Kp.mk hL
        clear hO5 hF5 hd5
        go_wp2_with fail
        go_ret2
        exact hL.out
      · have hnb : ((n : Int) == 0) = false := by simpa using hn0
        have hL := hend.out ht hn0
        replace hL := Kp.mk hL
        replace ht := Kp.mk ht
        replace hn0 := Kp.mk hn0
        go_wp2_with fail
        refine ret_mono (is_calls s _ sc rb 0 i 124 _ hRk.out hs2.out) ?_
        rintro v wi ⟨rfl, rfl⟩
        rw [h124.out]
        go_wp2_with fail
        refine ret_mono (is_calls s _ sc rb 0 i 41 _ hRk.out hs2.out) ?_
        rintro v wi ⟨rfl, rfl⟩
        rw [h41.out]
        go_wp2_with fail
        go_ret2
        exact hL.out
    | false =>
    rw [if_neg (by rw [h124, h41]; simp; omega)] at hT2
    have hab := hat.out i hlt
    have hac := hcall.out i wr hlt (hPre.out rfl)
    generalize at_ i = q at hT2 hab hac
    obtain ⟨⟨al, j⟩, bd⟩ := q
    obtain ⟨hab1, hab2, hab3⟩ := hab
    dsimp only at hT2 hab1 hab2 hab3
    replace h124 := Kp.mk h124
    replace h41 := Kp.mk h41
    replace hac := Kp.mk hac
    replace hab1 := Kp.mk hab1
    go_wp2_with fail
    refine ret_mono (is_calls s _ sc rb 0 i 124 _ hRk.out hs2.out) ?_
    rintro v wi ⟨rfl, rfl⟩
    rw [h124.out]
    go_wp2_with fail
    refine ret_mono (is_calls s _ sc rb 0 i 41 _ hRk.out hs2.out) ?_
    rintro v wi ⟨rfl, rfl⟩
    rw [h41.out]
    go_wp2_with fail
    refine ret_mono hac.out ?_
    rintro v w2 ⟨⟨la, lc, rfl, hS2⟩, hU2⟩
    dsimp only at hS2 ⊢
    have hz2 := hU2.fr.size
    have hF2 : Fr (fun k => k = rb) W w2 := hF.out.trans hU2.fr fun _ _ e => e
    have hO2 : Ow 126 sOp w2 (W.heap.size ≤ ·) (.slice oa out.length oc) out := hO.out.mono fun j hj hl => ⟨hj, hU2.fr.block j hl (by omega)⟩
    have hown : ∀ k, (Value.slice oa out.length oc).ownBlock = some k → W.heap.size ≤ k ∧ k < wr.heap.size := fun k e => ⟨hO.out.1 k e, hO.out.lt e⟩
    have hS3 : Sl sOp w2 (fun j => W.heap.size ≤ j ∧ (Value.slice oa out.length oc).ownBlock ≠ some j) la lc al := hS2.mono fun j hj _ => ⟨⟨by omega, fun e => by have := hown j e; omega⟩, rfl⟩
    have hRd2 := hU2.rd
    replace hF2 := Kp.mk hF2
    replace hO2 := Kp.mk hO2
    replace hown := Kp.mk hown
    replace hS3 := Kp.mk hS3
    replace hRd2 := Kp.mk hRd2
    clear hS2 hU2
    go_wp2_with (at_builtin; refine pause ?_; intro K hK)
    refine hK.out _ _ ?_
    refine wpl_appendS (v := .slice oa out.length oc) ty_rOp rfl rfl rfl hO2.out rfl hS3.out (by omega) (fun k hk => by omega) ?_
    intro v' w3 hO3 hF3 hd3
    have hF3' : Fr (fun k => k = rb) W w3 := hF2.out.trans (M' := fun k => W.heap.size ≤ k) (hF3.mono fun k _ e => (hown.out k e).1) fun k hk e => by omega
    have hRd3 : RdE rb (.slice sa s.length sc) bd w3 := by
      obtain ⟨p2, hp2⟩ := hRd2.out
      exact ⟨p2, hF3.obj hp2 fun e => by have := hown.out rb e; omega⟩
    have hs3 : Sl sByte w3 (fun k => k ≠ rb) sa sc s := h.out.s.mono fun j hj hl => ⟨hj.1, hF3'.block j hl hj.1⟩
    have hz3 := hF3'.size
    obtain ⟨o2, ho2⟩ : ∃ o2, o2 = out ++ al := ⟨_, rfl⟩
    rw [← ho2] at hO3 hT2
    have ho2l : o2.length = out.length + al.length := by rw [ho2]; simp
    obtain ⟨va, vc, rfl⟩ := hO3.form (n := o2.length) rfl
    replace hF3' := Kp.mk hF3'
    replace hRd3 := Kp.mk hRd3
    replace hs3 := Kp.mk hs3
    replace hO3 := Kp.mk hO3
    replace hT2 := Kp.mk hT2
    replace ho2 := Kp.mk ho2
    have ho2l1 : o2.length ≤ out.length + al.length := by omega
    have ho2l2 : out.length + al.length ≤ o2.length := by omega
    replace ho2l := Kp.mk ho2l
    clear hF3 hd3
    have hrep := isB_rep s j
    have is1 := is_calls s sa sc rb bd j 42 w3 hRd3.out hs3.out
    have is2 := is_calls s sa sc rb bd j 43 w3 hRd3.out hs3.out
    have is3 := is_calls s sa sc rb bd j 63 w3 hRd3.out hs3.out
    rcases hrep with ⟨e1, e2, e3, e4⟩ | ⟨e1, e2, e3, e4⟩ | ⟨e1, e2, e3, e4⟩ | ⟨e1, e2, e3, e4⟩
    · have hjl := isB_some e1
      rw [e1] at is1
      rw [e2] at is2
      rw [e3] at is3
      obtain ⟨hro, hri⟩ := repOps_k e4 (by decide) n o2
      have hT3 := hT2.out
      rw [hro, hri] at hT3
      replace hT3 := Kp.mk hT3
      replace is1 := Kp.mk is1
      replace is2 := Kp.mk is2
      replace is3 := Kp.mk is3
      replace e1 := Kp.mk e1
      replace e2 := Kp.mk e2
      replace e3 := Kp.mk e3
      replace hro := Kp.mk hro
      replace hri := Kp.mk hri
      replace e4 := Kp.mk e4
      go_wp2_with fail
      refine ret_mono is1.out ?_
      rintro v wi ⟨rfl, rfl⟩
      go_wp2_with fail
      refine ret_mono is2.out ?_
      rintro v wi ⟨rfl, rfl⟩
      go_wp2_with fail
      refine ret_mono is3.out ?_
      rintro v wi ⟨rfl, rfl⟩
      go_wp2_with (at_builtin; refine pause ?_; intro K hK)
      refine hK.out _ _ ?_
      refine wpl_append1 (w := w3) (v := .slice va o2.length vc) (y := ⟨5, false, []⟩) ty_rOp rfl rfl rfl hO3.out rfl (opK _ _ 5 (by unfold i64ok; omega)) (heap_alloc_new _ _) ((Fr.refl _ _).alloc _) (by omega) (fun j hj => by omega) ?_
      intro v' w4 hO4 hF4 hd4
      have hF4' : Fr (fun k => k = rb) W w4 := hF3'.out.trans (M' := fun k => W.heap.size ≤ k) (hF4.mono fun k _ e => hO3.out.1 k e) fun k hk e => by omega
      have hRd4 : RdE rb (.slice sa s.length sc) bd w4 := by
        obtain ⟨p2, hp2⟩ := hRd3.out
        exact ⟨p2, hF4.obj hp2 fun e => by have : W.heap.size ≤ rb := hO3.out.1 rb e; omega⟩
      have hz4 := hF4'.size
      obtain ⟨vb, vd, rfl⟩ := hO4.form (n := o2.length + 1) (by simp)
      replace hF4' := Kp.mk hF4'
      replace hRd4 := Kp.mk hRd4
      replace hO4 := Kp.mk hO4
      clear hF4 hd4
      by_cases hn0 : n = 0
      · subst hn0
        have hT4 := hT3.out
        rw [pieceOps, if_pos rfl] at hT4
        replace hT4 := Kp.mk hT4
        go_wp2_with fail
        go_roundg g'
        case measure => omega
        case rel => exact ⟨⟨j + 1, 0 + 1, (o2 ++ [⟨5, false, []⟩]), bd, by go_num, by go_num, hRd4.out, hO4.out, fun h0 => (by have := hab1.out h0; (try simp); omega), (by (try simp); omega), by omega, by omega, hT4.out⟩, hF4'.out⟩
      · have hnb : decide (0 < n) = true := by simp; omega
        have hT4 := hT3.out
        rw [pieceOps, if_neg hn0] at hT4
        replace hT4 := Kp.mk hT4
        go_wp2_with (at_builtin; refine pause ?_; intro K hK)
        refine hK.out _ _ ?_
        refine wpl_append1 (w := w4) (v := .slice vb (o2.length + 1) vd) (y := ⟨3, false, []⟩) ty_rOp rfl rfl rfl hO4.out rfl (opK _ _ 3 (by unfold i64ok; omega)) (heap_alloc_new _ _) ((Fr.refl _ _).alloc _) (by (try simp); omega) (fun j hj => by omega) ?_
        intro v' w6 hO6 hF6 hd6
        have hF6' : Fr (fun k => k = rb) W w6 := hF4'.out.trans (M' := fun k => W.heap.size ≤ k) (hF6.mono fun k _ e => hO4.out.1 k e) fun k hk e => by omega
        have hRd6 : RdE rb (.slice sa s.length sc) bd w6 := by
          obtain ⟨p2, hp2⟩ := hRd4.out
          exact ⟨p2, hF6.obj hp2 fun e => by have : W.heap.size ≤ rb := hO4.out.1 rb e; omega⟩
        replace hF6' := Kp.mk hF6'
        replace hRd6 := Kp.mk hRd6
        replace hO6 := Kp.mk hO6
        clear hF6 hd6
        go_wp2_with fail
        go_roundg g'
        case measure => omega
        case rel => exact ⟨⟨j + 1, n + 1, (o2 ++ [⟨5, false, []⟩]) ++ [⟨3, false, []⟩], bd, by go_num, by go_num, hRd6.out, hO6.out, fun h0 => (by have := hab1.out h0; (try simp); omega), (by (try simp); omega), by omega, by omega, hT4.out⟩, hF6'.out⟩
    · have hjl := isB_some e2
      rw [e1] at is1
      rw [e2] at is2
      rw [e3] at is3
      obtain ⟨hro, hri⟩ := repOps_k e4 (by decide) n o2
      have hT3 := hT2.out
      rw [hro, hri] at hT3
      replace hT3 := Kp.mk hT3
      replace is1 := Kp.mk is1
      replace is2 := Kp.mk is2
      replace is3 := Kp.mk is3
      replace e1 := Kp.mk e1
      replace e2 := Kp.mk e2
      replace e3 := Kp.mk e3
      replace hro := Kp.mk hro
      replace hri := Kp.mk hri
      replace e4 := Kp.mk e4
      go_wp2_with fail
      refine ret_mono is1.out ?_
      rintro v wi ⟨rfl, rfl⟩
      go_wp2_with fail
      refine ret_mono is2.out ?_
      rintro v wi ⟨rfl, rfl⟩
      go_wp2_with fail
      refine ret_mono is3.out ?_
      rintro v wi ⟨rfl, rfl⟩
      go_wp2_with (at_builtin; refine pause ?_; intro K hK)
      refine hK.out _ _ ?_
      refine wpl_append1 (w := w3) (v := .slice va o2.length vc) (y := ⟨6, false, []⟩) ty_rOp rfl rfl rfl hO3.out rfl (opK _ _ 6 (by unfold i64ok; omega)) (heap_alloc_new _ _) ((Fr.refl _ _).alloc _) (by omega) (fun j hj => by omega) ?_
      intro v' w4 hO4 hF4 hd4
      have hF4' : Fr (fun k => k = rb) W w4 := hF3'.out.trans (M' := fun k => W.heap.size ≤ k) (hF4.mono fun k _ e => hO3.out.1 k e) fun k hk e => by omega
      have hRd4 : RdE rb (.slice sa s.length sc) bd w4 := by
        obtain ⟨p2, hp2⟩ := hRd3.out
        exact ⟨p2, hF4.obj hp2 fun e => by have : W.heap.size ≤ rb := hO3.out.1 rb e; omega⟩
      have hz4 := hF4'.size
      obtain ⟨vb, vd, rfl⟩ := hO4.form (n := o2.length + 1) (by simp)
      replace hF4' := Kp.mk hF4'
      replace hRd4 := Kp.mk hRd4
      replace hO4 := Kp.mk hO4
      clear hF4 hd4
      by_cases hn0 : n = 0
      · subst hn0
        have hT4 := hT3.out
        rw [pieceOps, if_pos rfl] at hT4
        replace hT4 := Kp.mk hT4
        go_wp2_with fail
        go_roundg g'
        case measure => omega
        case rel => exact ⟨⟨j + 1, 0 + 1, (o2 ++ [⟨6, false, []⟩]), bd, by go_num, by go_num, hRd4.out, hO4.out, fun h0 => (by have := hab1.out h0; (try simp); omega), (by (try simp); omega), by omega, by omega, hT4.out⟩, hF4'.out⟩
      · have hnb : decide (0 < n) = true := by simp; omega
        have hT4 := hT3.out
        rw [pieceOps, if_neg hn0] at hT4
        replace hT4 := Kp.mk hT4
        go_wp2_with (at_builtin; refine pause ?_; intro K hK)
        refine hK.out _ _ ?_
        refine wpl_append1 (w := w4) (v := .slice vb (o2.length + 1) vd) (y := ⟨3, false, []⟩) ty_rOp rfl rfl rfl hO4.out rfl (opK _ _ 3 (by unfold i64ok; omega)) (heap_alloc_new _ _) ((Fr.refl _ _).alloc _) (by (try simp); omega) (fun j hj => by omega) ?_
        intro v' w6 hO6 hF6 hd6
        have hF6' : Fr (fun k => k = rb) W w6 := hF4'.out.trans (M' := fun k => W.heap.size ≤ k) (hF6.mono fun k _ e => hO4.out.1 k e) fun k hk e => by omega
        have hRd6 : RdE rb (.slice sa s.length sc) bd w6 := by
          obtain ⟨p2, hp2⟩ := hRd4.out
          exact ⟨p2, hF6.obj hp2 fun e => by have : W.heap.size ≤ rb := hO4.out.1 rb e; omega⟩
        replace hF6' := Kp.mk hF6'
        replace hRd6 := Kp.mk hRd6
        replace hO6 := Kp.mk hO6
        clear hF6 hd6
        go_wp2_with fail
        go_roundg g'
        case measure => omega
        case rel => exact ⟨⟨j + 1, n + 1, (o2 ++ [⟨6, false, []⟩]) ++ [⟨3, false, []⟩], bd, by go_num, by go_num, hRd6.out, hO6.out, fun h0 => (by have := hab1.out h0; (try simp); omega), (by (try simp); omega), by omega, by omega, hT4.out⟩, hF6'.out⟩
    · have hjl := isB_some e3
      rw [e1] at is1
      rw [e2] at is2
      rw [e3] at is3
      obtain ⟨hro, hri⟩ := repOps_k e4 (by decide) n o2
      have hT3 := hT2.out
      rw [hro, hri] at hT3
      replace hT3 := Kp.mk hT3
      replace is1 := Kp.mk is1
      replace is2 := Kp.mk is2
      replace is3 := Kp.mk is3
      replace e1 := Kp.mk e1
      replace e2 := Kp.mk e2
      replace e3 := Kp.mk e3
      replace hro := Kp.mk hro
      replace hri := Kp.mk hri
      replace e4 := Kp.mk e4
      go_wp2_with fail
      refine ret_mono is1.out ?_
      rintro v wi ⟨rfl, rfl⟩
      go_wp2_with fail
      refine ret_mono is2.out ?_
      rintro v wi ⟨rfl, rfl⟩
      go_wp2_with fail
      refine ret_mono is3.out ?_
      rintro v wi ⟨rfl, rfl⟩
      go_wp2_with (at_builtin; refine pause ?_; intro K hK)
      refine hK.out _ _ ?_
      refine wpl_append1 (w := w3) (v := .slice va o2.length vc) (y := ⟨7, false, []⟩) ty_rOp rfl rfl rfl hO3.out rfl (opK _ _ 7 (by unfold i64ok; omega)) (heap_alloc_new _ _) ((Fr.refl _ _).alloc _) (by omega) (fun j hj => by omega) ?_
      intro v' w4 hO4 hF4 hd4
      have hF4' : Fr (fun k => k = rb) W w4 := hF3'.out.trans (M' := fun k => W.heap.size ≤ k) (hF4.mono fun k _ e => hO3.out.1 k e) fun k hk e => by omega
      have hRd4 : RdE rb (.slice sa s.length sc) bd w4 := by
        obtain ⟨p2, hp2⟩ := hRd3.out
        exact ⟨p2, hF4.obj hp2 fun e => by have : W.heap.size ≤ rb := hO3.out.1 rb e; omega⟩
      have hz4 := hF4'.size
      obtain ⟨vb, vd, rfl⟩ := hO4.form (n := o2.length + 1) (by simp)
      replace hF4' := Kp.mk hF4'
      replace hRd4 := Kp.mk hRd4
      replace hO4 := Kp.mk hO4
      clear hF4 hd4
      by_cases hn0 : n = 0
      · subst hn0
        have hT4 := hT3.out
        rw [pieceOps, if_pos rfl] at hT4
        replace hT4 := Kp.mk hT4
        go_wp2_with fail
        go_roundg g'
        case measure => omega
        case rel => exact ⟨⟨j + 1, 0 + 1, (o2 ++ [⟨7, false, []⟩]), bd, by go_num, by go_num, hRd4.out, hO4.out, fun h0 => (by have := hab1.out h0; (try simp); omega), (by (try simp); omega), by omega, by omega, hT4.out⟩, hF4'.out⟩
      · have hnb : decide (0 < n) = true := by simp; omega
        have hT4 := hT3.out
        rw [pieceOps, if_neg hn0] at hT4
        replace hT4 := Kp.mk hT4
        go_wp2_with (at_builtin; refine pause ?_; intro K hK)
        refine hK.out _ _ ?_
        refine wpl_append1 (w := w4) (v := .slice vb (o2.length + 1) vd) (y := ⟨3, false, []⟩) ty_rOp rfl rfl rfl hO4.out rfl (opK _ _ 3 (by unfold i64ok; omega)) (heap_alloc_new _ _) ((Fr.refl _ _).alloc _) (by (try simp); omega) (fun j hj => by omega) ?_
        intro v' w6 hO6 hF6 hd6
        have hF6' : Fr (fun k => k = rb) W w6 := hF4'.out.trans (M' := fun k => W.heap.size ≤ k) (hF6.mono fun k _ e => hO4.out.1 k e) fun k hk e => by omega
        have hRd6 : RdE rb (.slice sa s.length sc) bd w6 := by
          obtain ⟨p2, hp2⟩ := hRd4.out
          exact ⟨p2, hF6.obj hp2 fun e => by have : W.heap.size ≤ rb := hO4.out.1 rb e; omega⟩
        replace hF6' := Kp.mk hF6'
        replace hRd6 := Kp.mk hRd6
        replace hO6 := Kp.mk hO6
        clear hF6 hd6
        go_wp2_with fail
        go_roundg g'
        case measure => omega
        case rel => exact ⟨⟨j + 1, n + 1, (o2 ++ [⟨7, false, []⟩]) ++ [⟨3, false, []⟩], bd, by go_num, by go_num, hRd6.out, hO6.out, fun h0 => (by have := hab1.out h0; (try simp); omega), (by (try simp); omega), by omega, by omega, hT4.out⟩, hF6'.out⟩
    · rw [e1] at is1
      rw [e2] at is2
      rw [e3] at is3
      obtain ⟨hro, hri⟩ := repOps_0 e4 n o2
      have hT3 := hT2.out
      rw [hro, hri] at hT3
      replace hT3 := Kp.mk hT3
      replace is1 := Kp.mk is1
      replace is2 := Kp.mk is2
      replace is3 := Kp.mk is3
      replace e1 := Kp.mk e1
      replace e2 := Kp.mk e2
      replace e3 := Kp.mk e3
      replace hro := Kp.mk hro
      replace hri := Kp.mk hri
      replace e4 := Kp.mk e4
      go_wp2_with fail
      refine ret_mono is1.out ?_
      rintro v wi ⟨rfl, rfl⟩
      go_wp2_with fail
      refine ret_mono is2.out ?_
      rintro v wi ⟨rfl, rfl⟩
      go_wp2_with fail
      refine ret_mono is3.out ?_
      rintro v wi ⟨rfl, rfl⟩
      by_cases hn0 : n = 0
      · subst hn0
        have hT4 := hT3.out
        rw [pieceOps, if_pos rfl] at hT4
        replace hT4 := Kp.mk hT4
        go_wp2_with fail
        go_roundg g'
        case measure => omega
        case rel => exact ⟨⟨j, 0 + 1, o2, bd, by go_num, by go_num, hRd3.out, hO3.out, fun h0 => (by have := hab1.out h0; (try simp); omega), (by (try simp); omega), by omega, by omega, hT4.out⟩, hF3'.out⟩
      · have hnb : decide (0 < n) = true := by simp; omega
        have hT4 := hT3.out
        rw [pieceOps, if_neg hn0] at hT4
        replace hT4 := Kp.mk hT4
        go_wp2_with (at_builtin; refine pause ?_; intro K hK)
        refine hK.out _ _ ?_
        refine wpl_append1 (w := w3) (v := .slice va o2.length vc) (y := ⟨3, false, []⟩) ty_rOp rfl rfl rfl hO3.out rfl (opK _ _ 3 (by unfold i64ok; omega)) (heap_alloc_new _ _) ((Fr.refl _ _).alloc _) (by (try simp); omega) (fun j hj => by omega) ?_
        intro v' w6 hO6 hF6 hd6
        have hF6' : Fr (fun k => k = rb) W w6 := hF3'.out.trans (M' := fun k => W.heap.size ≤ k) (hF6.mono fun k _ e => hO3.out.1 k e) fun k hk e => by omega
        have hRd6 : RdE rb (.slice sa s.length sc) bd w6 := by
          obtain ⟨p2, hp2⟩ := hRd3.out
          exact ⟨p2, hF6.obj hp2 fun e => by have : W.heap.size ≤ rb := hO3.out.1 rb e; omega⟩
        replace hF6' := Kp.mk hF6'
        replace hRd6 := Kp.mk hRd6
        replace hO6 := Kp.mk hO6
        clear hF6 hd6
        go_wp2_with fail
        go_roundg g'
        case measure => omega
        case rel => exact ⟨⟨j, n + 1, o2 ++ [⟨3, false, []⟩], bd, by go_num, by go_num, hRd6.out, hO6.out, fun h0 => (by have := hab1.out h0; (try simp); omega), (by (try simp); omega), by omega, by omega, hT4.out⟩, hF6'.out⟩
end Go.Proofs.Ytbcifjjnnbefkaa
