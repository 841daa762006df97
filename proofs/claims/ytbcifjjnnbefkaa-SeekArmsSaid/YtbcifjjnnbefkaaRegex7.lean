/-
  More of package regex: step. Conditions: the reader's block holds its fields, the pattern's bytes can be read, and there is one at the reader's place.
-/
import Derived.Test.YtbcifjjnnbefkaaRegex6
namespace Go.Proofs.Ytbcifjjnnbefkaa
open Go.RowKit

/-- What a reader holds: the place, the ops, the open levels. -/
structure PS where
  i : Nat
  out : List Op
  opn : List (Nat × Nat)
def PS.top (p : PS) : Nat × Nat := p.opn.getLastD (0, 0)
def PS.rest (p : PS) : List (Nat × Nat) := p.opn.dropLast
def PS.branch (p : PS) : PS := ⟨p.i, branchOps p.top.1 p.top.2 p.out, p.rest ++ [(p.top.1 + 1, 0)]⟩
def PS.pop (p : PS) : PS := ⟨p.i, p.out, p.rest⟩
def PS.rep (s : List UInt8) (p : PS) : PS := ⟨repI s p.i, repOps s p.i p.top.2 p.out, p.rest ++ [(p.top.1, p.top.2 + 1)]⟩
def PS.next (p : PS) : PS := ⟨p.i + 1, p.out, p.opn⟩

/-- One step: the error's number, and what the reader then holds. -/
def stepM (s : List UInt8) (p : PS) (c : UInt8) : Nat × PS :=
  if c = 40 then (if 8 < p.opn.length then (5, p) else (0, ⟨p.i + 1, p.out, p.opn ++ [(0, 0)]⟩))
  else if c = 124 then (0, p.branch.next)
  else if c = 41 then (if p.opn.length = 1 then (2, p) else (0, p.branch.pop.next.rep s))
  else if (bytesM s p.i c).1.2 = false then (2, ⟨(bytesM s p.i c).2, p.out, p.opn⟩)
  else (0, PS.rep s ⟨(bytesM s p.i c).2, p.out ++ [(bytesM s p.i c).1.1], p.opn⟩)

structure StepP (W : World) (B b : Nat) (c0 : Value) (r : Nat × PS) (v : Value) (w : World) : Prop where
  v : v = .int .i64 r.1
  st : ∃ pv, RdP B b c0 r.2.i r.2.out pv r.2.opn w
  fr : Below B W w

theorem setL_ok (s : List UInt8) (neg : Bool) : ∀ (f i : Nat) (sp : List Span), (setL s neg f i sp).1.2 = true → i < (setL s neg f i sp).2 ∧ (setL s neg f i sp).2 ≤ s.length
  | 0, i, _ => by unfold setL; simp
  | f + 1, i, sp => by
    have ha := oneM_le s i
    have hb := oneM_le s ((oneM s i).2 + 1)
    unfold setL
    split
    · rename_i h; have := (List.getElem?_eq_some_iff.1 h.2).1; intro _; simp; omega
    · split
      · simp
      · rename_i he
        simp only [Bool.not_eq_false] at he
        have ha2 := ha.2.2 he
        split
        · split
          · simp
          · rename_i he2
            simp only [Bool.not_eq_false] at he2
            have hb2 := hb.2.2 he2
            split
            · simp
            · intro h; have := setL_ok s neg f _ _ h; omega
        · intro h; have := setL_ok s neg f _ _ h; omega
theorem setM_ok (s : List UInt8) (i : Nat) (h : (setM s i).1.2 = true) : i < (setM s i).2 ∧ (setM s i).2 ≤ s.length := by
  unfold setM at *
  split at h
  · rename_i h1; rw [if_pos h1]; have := setL_ok s true _ _ _ h; omega
  · rename_i h1; rw [if_neg h1]; exact setL_ok s false _ _ _ h
theorem bytesM_ok (s : List UInt8) (i : Nat) (c : UInt8) (hi : s[i]? = some c) : (bytesM s i c).1.2 = true → i < (bytesM s i c).2 ∧ (bytesM s i c).2 ≤ s.length := by
  have hlt := (List.getElem?_eq_some_iff.1 hi).1
  have he := escM_le s (i + 1)
  unfold bytesM
  split
  · simp
  · split
    · intro h; have := setM_ok s (i + 1) h; omega
    · split
      · intro _; simp; omega
      · split
        · split
          · intro h; have := he.2.2 h; simp; omega
          · rename_i h1
            have := (List.getElem?_eq_some_iff.1 h1).1
            split
            · intro h; have := he.2.2 h; simp; omega
            · intro _; simp; omega
        · intro _; simp; omega
/-- The levels' pile has taken one more. -/
theorem RdP.put {B b : Nat} {c0 : Value} {i : Nat} {out : List Op} {ov pv : Value} {opn : List (Nat × Nat)} {e : Nat × Nat} {W w1 : World} {v : Value} (hB : B ≤ b) (hz : B ≤ W.heap.size)
    (hO : Ow 79 sOp W (fun k => B ≤ k ∧ k ≠ b ∧ pv.ownBlock ≠ some k) ov out) (hP : Ow 71 sLev W (fun k => B ≤ k ∧ k ≠ b ∧ ov.ownBlock ≠ some k) pv opn)
    (h : PutPost W b c0 (.int .i64 i) ov pv (fun k => B ≤ k ∧ k ≠ b ∧ ov.ownBlock ≠ some k) (opn ++ [e]) v w1) : (∃ pv', RdP B b c0 i out pv' (opn ++ [e]) w1) ∧ Below B W w1 := by
  obtain ⟨pv', hb1, hP1, hd1⟩ := h.st
  have hF := h.fr
  refine ⟨⟨pv', hB, Nat.le_trans hz hF.size, ov, hb1, hO.mono fun k hk hl => ⟨⟨hk.1, hk.2.1, own_ne hd1 hl hk.2.2⟩, hF.block k hl fun e => e.elim hk.2.1 hk.2.2⟩, hP1⟩, hF.below hz fun k hk e => ?_⟩
  rcases e with e | e
  · omega
  · have := (hP.1 k e).1; omega

set_option maxRecDepth 100000 in
set_option maxHeartbeats 8000000 in
theorem step_calls (s : List UInt8) (B b : Nat) (sa : Option Addr) (sc i : Nat) (out : List Op) (c : UInt8) (pv : Value) (l : List (Nat × Nat)) (br pc : Nat) (W : World) (h : RdP B b (.slice sa s.length sc) i out pv (l ++ [(br, pc)]) W) (hs : Sl sByte W (fun k => k < B) sa sc s) (hls : s.length ≤ 100)
    (hi : s[i]? = some c) (hl : out.length ≤ 9000) (hn : l.length ≤ 100) (hall : ∀ e ∈ l ++ [(br, pc)], e.1 ≤ 1000 ∧ e.2 ≤ 1000) :
    Calls Try.prog 23 #[.pointer (some ⟨b, 0, none⟩)] W (Ret (StepP W B b (.slice sa s.length sc) (stepM s ⟨i, out, l ++ [(br, pc)]⟩ c))) := by
  have h' := h
  obtain ⟨hB, hz, ov, hbb, hO, hP⟩ := h'
  have hlt : i < s.length := (List.getElem?_eq_some_iff.1 hi).1
  obtain ⟨b2, off, rfl, hb2, hbn, hc⟩ := byte_at hs hlt
  have hi' := Kp.mk hi
  rw [List.getElem?_eq_getElem hlt, Option.some.injEq] at hi
  rw [hi] at hc
  obtain ⟨va, vc, rfl⟩ := hP.form (n := l.length + 1) (by simp)
  have hbc := blkC hbb
  have hbf := blkF hbb
  have hbl := blkL hbb
  have hbr := hall (br, pc) (by simp)
  dsimp only at hbr
  replace hbb := Kp.mk hbb
  replace hO := Kp.mk hO
  replace hP := Kp.mk hP
  replace h := Kp.mk h
  replace hs := Kp.mk hs
  replace hall := Kp.mk hall
  replace hi := Kp.mk hi
  by_cases h1 : c = 40
  · subst h1
    by_cases h8 : 8 < l.length + 1
    · have hd : decide ((8 : Int) < (l.length : Int) + 1) = true := by simp; omega
      have hE : stepM s ⟨i, out, l ++ [(br, pc)]⟩ 40 = (5, ⟨i, out, l ++ [(br, pc)]⟩) := by unfold stepM; rw [if_pos rfl, if_pos (by simpa using h8)]
      replace hE := Kp.mk hE
      go_enter Try.func23, Try.ntmps23
      go_wp2
      refine wp_lex (by kernel_rfl) ⟨fun _ _ _ h => h.2, fun _ _ h => h⟩ (by kernel_rfl) ?_
      go_wp2
      refine fin_end (by kernel_rfl) ?_
      go_wp2_with fail
      go_ret
      rw [hE.out]
      exact ⟨rfl, ⟨_, h.out.keep (Below.refl _ _).drew⟩, (Below.refl _ _).drew⟩
    · have hd : decide ((8 : Int) < (l.length : Int) + 1) = false := by simp; omega
      have hE : stepM s ⟨i, out, l ++ [(br, pc)]⟩ 40 = (0, ⟨i + 1, out, l ++ [(br, pc)] ++ [(0, 0)]⟩) := by unfold stepM; rw [if_pos rfl, if_neg (by simpa using h8)]
      replace hE := Kp.mk hE
      go_enter Try.func23, Try.ntmps23
      go_wp2
      refine wp_lex (by kernel_rfl) ⟨fun _ _ _ h => h.2, fun _ _ h => h⟩ (by kernel_rfl) ?_
      go_wp2
      refine fin_end (by kernel_rfl) ?_
      go_wp2_with fail
      refine ret_mono (put_calls b _ _ _ _ (fun k => B ≤ k ∧ k ≠ b ∧ ov.ownBlock ≠ some k) (l ++ [(br, pc)]) 0 0 _ hbb.out hP.out.drew (fun e => e.2.1 rfl) (fun k hk => ⟨Nat.le_trans hz hk, by have : W.heap.size ≤ k := hk; omega, fun e => by have := hO.out.lt e; have : W.heap.size ≤ k := hk; omega⟩) (by simp; omega)) ?_
      intro v w1 hQ
      obtain rfl := hQ.v
      obtain ⟨⟨pv', hR⟩, hB1⟩ := RdP.put (W := W.drew) hB hz hO.out.drew hP.out.drew hQ
      have hR' := hR
      obtain ⟨_, _, ov1, hb1, _, _⟩ := hR'
      have hbc1 := blkC hb1
      have hbf1 := blkF hb1
      clear hb1 hQ
      have hR2 := Kp.mk (hR.step (i + 1))
      clear hR
      replace hB1 := Kp.mk hB1
      go_wp2_with fail
      go_ret
      rw [hE.out]
      exact ⟨rfl, ⟨_, hR2.out⟩, ((Below.refl _ _).drew.trans hB1.out).setCell hB _⟩
  · by_cases h2 : c = 124
    · subst h2
      have hE : stepM s ⟨i, out, l ++ [(br, pc)]⟩ 124 = (0, ⟨i + 1, branchOps br pc out, l ++ [(br + 1, 0)]⟩) := by unfold stepM PS.branch PS.next PS.top PS.rest; simp
      replace hE := Kp.mk hE
      go_enter Try.func23, Try.ntmps23
      go_wp2
      refine wp_lex (by kernel_rfl) ⟨fun _ _ _ h => h.2, fun _ _ h => h⟩ (by kernel_rfl) ?_
      go_wp2
      refine fin_end (by kernel_rfl) ?_
      go_wp2_with fail
      refine ret_mono (branch_calls B b _ i out _ l br pc _ (h.out.keep (Below.refl _ _).drew) (by omega) hn (by omega)) ?_
      intro v w1 hQ
      obtain rfl := hQ.v
      have hR' := hQ.p
      obtain ⟨_, _, ov1, hb1, _, _⟩ := hR'
      have hbc1 := blkC hb1
      have hbf1 := blkF hb1
      clear hb1
      have hR2 := Kp.mk (hQ.p.step (i + 1))
      have hB1 := Kp.mk hQ.fr
      clear hQ
      go_wp2_with fail
      go_ret
      rw [hE.out]
      exact ⟨rfl, ⟨_, hR2.out⟩, ((Below.refl _ _).drew.trans hB1.out).setCell hB _⟩
    · by_cases h3 : c = 41
      · subst h3
        by_cases h8 : l = []
        · have hd : ((l.length : Int) + 1 == 1) = true := by simp [h8]
          have hE : stepM s ⟨i, out, l ++ [(br, pc)]⟩ 41 = (2, ⟨i, out, l ++ [(br, pc)]⟩) := by unfold stepM; simp [h8]
          replace hE := Kp.mk hE
          clear h8
          go_enter Try.func23, Try.ntmps23
          go_wp2
          refine wp_lex (by kernel_rfl) ⟨fun _ _ _ h => h.2, fun _ _ h => h⟩ (by kernel_rfl) ?_
          go_wp2
          refine fin_end (by kernel_rfl) ?_
          go_wp2_with fail
          go_ret
          rw [hE.out]
          exact ⟨rfl, ⟨_, h.out.keep (Below.refl _ _).drew⟩, (Below.refl _ _).drew⟩
        · have hd : ((l.length : Int) + 1 == 1) = false := by
            have : l.length ≠ 0 := by simpa using h8
            simp; omega
          obtain ⟨l', ⟨br', pc'⟩, rfl⟩ : ∃ l' e, l = l' ++ [e] := ⟨l.dropLast, l.getLast h8, (List.dropLast_concat_getLast h8).symm⟩
          have hall' := hall.out (br', pc') (by simp)
          dsimp only at hall'
          have hn' : l'.length ≤ 99 := by simp at hn; omega
          have hE : stepM s ⟨i, out, l' ++ [(br', pc')] ++ [(br, pc)]⟩ 41 = (0, ⟨repI s (i + 1), repOps s (i + 1) pc' (branchOps br pc out), l' ++ [(br', pc' + 1)]⟩) := by
            unfold stepM PS.branch PS.pop PS.next PS.rep PS.top PS.rest; simp
          replace hE := Kp.mk hE
          clear h8
          go_enter Try.func23, Try.ntmps23
          go_wp2
          refine wp_lex (by kernel_rfl) ⟨fun _ _ _ h => h.2, fun _ _ h => h⟩ (by kernel_rfl) ?_
          go_wp2
          refine fin_end (by kernel_rfl) ?_
          go_wp2_with fail
          refine ret_mono (branch_calls B b _ i out _ (l' ++ [(br', pc')]) br pc _ (h.out.keep (Below.refl _ _).drew) (by omega) hn (by omega)) ?_
          intro v w1 hQ
          obtain rfl := hQ.v
          have hR1 := Kp.mk hQ.p
          have hB1 := Kp.mk hQ.fr
          clear hQ
          go_wp2_with fail
          refine ret_mono (pop_calls B b _ i _ _ (l' ++ [(br', pc')]) (br + 1, 0) _ hR1.out hn) ?_
          intro v w2 hQ
          obtain rfl := hQ.v
          obtain ⟨pv2, hR2⟩ := hQ.st
          have hR' := hR2
          obtain ⟨_, _, ov1, hb1, _, _⟩ := hR'
          have hbc1 := blkC hb1
          have hbf1 := blkF hb1
          clear hb1
          have hR3 := Kp.mk (hR2.step (i + 1))
          have hB2 := Kp.mk (((Below.refl B W).drew.trans hB1.out).trans hQ.fr)
          clear hQ hR2
          go_wp2_with fail
          refine ret_mono (repeat_calls s B b _ sc (i + 1) _ pv2 l' br' pc' _ hR3.out (hs.out.mono fun k hk hl => ⟨hk, ((hB2.out.setCell hB _).block k hk)⟩) hls (by omega) (by unfold branchOps; split <;> split <;> simp <;> omega) (by omega) (by omega)) ?_
          intro v w3 hQ
          obtain rfl := hQ.v
          replace hQ := Kp.mk hQ
          go_wp2_with fail
          go_ret
          rw [hE.out]
          exact ⟨rfl, ⟨_, hQ.out.p⟩, (hB2.out.setCell hB _).trans hQ.out.fr⟩
      · have hne : ∀ k : UInt8, c ≠ k → ((c.toNat : Int) == (k.toNat : Int)) = false := fun k h => (u8_cases c k).trans (beq_eq_false_iff_ne.2 h)
        have e1 : ((c.toNat : Int) == 40) = false := hne 40 h1
        have e2 : ((c.toNat : Int) == 124) = false := hne 124 h2
        have e3 : ((c.toNat : Int) == 41) = false := hne 41 h3
        have hE : stepM s ⟨i, out, l ++ [(br, pc)]⟩ c = if (bytesM s i c).1.2 = false then (2, ⟨(bytesM s i c).2, out, l ++ [(br, pc)]⟩) else (0, ⟨repI s (bytesM s i c).2, repOps s (bytesM s i c).2 pc (out ++ [(bytesM s i c).1.1]), l ++ [(br, pc + 1)]⟩) := by
          unfold stepM PS.rep PS.top PS.rest; simp [h1, h2, h3]
        clear hne h1 h2 h3
        replace hE := Kp.mk hE
        go_enter Try.func23, Try.ntmps23
        go_wp2
        refine wp_lex (by kernel_rfl) ⟨fun _ _ _ h => h.2, fun _ _ h => h⟩ (by kernel_rfl) ?_
        go_wp2
        refine fin_end (by kernel_rfl) ?_
        go_wp2_with fail
        refine ret_mono (bytes_calls s b _ sc i c _ _ _ hbb.out (hs.out.mono (w := W) fun k hk hl => ⟨⟨by omega, by have : W.drew.heap.size = W.heap.size := rfl; omega⟩, rfl⟩) hls hi'.out) ?_
        intro v w1 hQ
        have hO' := hQ.v
        obtain ⟨cs, rfl, a', cap', hcs, hkok, hSl⟩ := hO'
        have hbi := hQ.blk
        have hFr : Fr (fun k => k = b) W w1 := (Fr.refl _ W).drew.trans hQ.fr fun _ _ e => e
        clear hQ
        have hi1 := bytesM_ok s i c hi'.out
        generalize bytesM s i c = q at *
        obtain ⟨⟨x, ok⟩, i1⟩ := q
        replace hi1 := Kp.mk (show ok = true → i < i1 ∧ i1 ≤ s.length from hi1)
        dsimp only at hcs hkok hSl hbi
        obtain rfl : cs = #[.int .i64 x.kind, .bool x.neg, .slice a' x.spans.length cap'] := Array.toList_inj.1 hcs
        have hbc1 := blkC hbi
        have hbf1 := blkF hbi
        have hbl1 := blkL hbi
        have hO1 := Kp.mk (hO.out.mono (w' := w1) fun k hk hl => ⟨hk, hFr.block k hl hk.2.1⟩)
        have hP1 := Kp.mk (hP.out.mono (w' := w1) fun k hk hl => ⟨hk, hFr.block k hl hk.2.1⟩)
        clear hcs
        have hz1 : B ≤ w1.heap.size := Nat.le_trans hz hFr.size
        have hR1 : RdP B b (.slice (some ⟨b2, off, none⟩) s.length sc) i1 out (.slice va (l.length + 1) vc) (l ++ [(br, pc)]) w1 := ⟨hB, hz1, ov, hbi, hO1.out, hP1.out⟩
        have hB1 : Below B W w1 := hFr.below hz fun k hk e => by omega
        replace hbi := Kp.mk hbi
        replace hSl := Kp.mk hSl
        replace hFr := Kp.mk hFr
        replace hR1 := Kp.mk hR1
        replace hB1 := Kp.mk hB1
        cases ok
        · go_wp2_with fail
          go_ret
          rw [hE.out, if_pos trivial]
          exact ⟨rfl, ⟨_, hR1.out.keep ((Below.refl _ _).alloc (Nat.le_refl _) _)⟩, hB1.out.alloc hz1 _⟩
        · obtain ⟨oa, oc, rfl⟩ := hO.out.form (n := out.length) rfl
          go_wp2_with fail
          refine wp_lex (by kernel_rfl) ⟨fun _ _ _ h => h.2, fun _ _ h => h⟩ (by kernel_rfl) ?_
          go_wp2_with (at_builtin; refine pause ?_; intro K hK)
          refine hK.out _ _ ?_
          have hWn : W.heap.size ≤ w1.heap.size := hFr.out.size
          have hEx : ∀ k, W.heap.size ≤ k → B ≤ k ∧ k ≠ b ∧ (Value.slice va (l.length + 1) vc).ownBlock ≠ some k ∧ (Value.slice oa out.length oc).ownBlock ≠ some k := fun k hk =>
            ⟨by omega, by omega, fun e => by have := hP.out.lt e; omega, fun e => by have := hO.out.lt e; omega⟩
          replace hEx := Kp.mk hEx
          refine wpl_append1 (w := w1) (y := x) ty_op rfl rfl rfl hO1.out rfl ⟨a', cap', rfl, hkok, hSl.out.mono fun k hk hl => ⟨⟨⟨(hEx.out k hk).1, (hEx.out k hk).2.1, (hEx.out k hk).2.2.1⟩, (hEx.out k hk).2.2.2⟩, rfl⟩⟩ (heap_alloc2_new _ _ _) (((Fr.refl _ _).alloc _).alloc _).drew (by omega) (fun k hk => ⟨(hEx.out k (by omega)).1, (hEx.out k (by omega)).2.1, (hEx.out k (by omega)).2.2.1⟩) ?_
          intro v' w2 hO2 hF hd
          have h2 := hF.obj hbi.out fun e => (hO1.out.1 _ e).2.1 rfl
          have h2c := blkC h2
          have h2f := blkF h2
          have h2l := blkL h2
          obtain ⟨va2, vc2, rfl⟩ := hO2.form (n := out.length + 1) (by simp)
          have hR2 : RdP B b (.slice (some ⟨b2, off, none⟩) s.length sc) i1 (out ++ [x]) (.slice va (l.length + 1) vc) (l ++ [(br, pc)]) (w2.setCell ⟨b, 2, none⟩ (.slice va2 (out.length + 1) vc2)) := by
            refine ⟨hB, by simpa using Nat.le_trans hz1 hF.size, _, blkSet h2 _, hO2.mono fun k hk hl => ⟨hk, Below.heap_setCell _ _ _ _ hk.2.1⟩, hP1.out.mono fun k hk hl => ⟨⟨hk.1, hk.2.1, own_ne hd hl hk.2.2⟩, ?_⟩⟩
            rw [Below.heap_setCell _ _ _ _ hk.2.1]; exact hF.block k hl hk.2.2
          have hB2 : Below B W w2 := hB1.out.trans (hF.below hz1 fun k hk e => by have := (hO1.out.1 k e).1; omega)
          have hi1 := (hi1.out (by trivial)).2
          replace hR2 := Kp.mk hR2
          replace hB2 := Kp.mk hB2
          clear hO2 hF hd
          replace h2 := Kp.mk h2
          go_wp2
          refine fin_end (by kernel_rfl) ?_
          go_wp2_with fail
          refine ret_mono (repeat_calls s B b _ sc i1 _ _ l br pc _ hR2.out (hs.out.mono fun k hk hl => ⟨hk, (hB2.out.setCell hB _).block k hk⟩) hls hi1 (by simp; omega) hn (by omega)) ?_
          intro v w3 hQ
          obtain rfl := hQ.v
          replace hQ := Kp.mk hQ
          go_wp2_with fail
          go_ret
          rw [hE.out, if_neg (by simp)]
          exact ⟨rfl, ⟨_, hQ.out.p⟩, (hB2.out.setCell hB _).trans hQ.out.fr⟩
end Go.Proofs.Ytbcifjjnnbefkaa
