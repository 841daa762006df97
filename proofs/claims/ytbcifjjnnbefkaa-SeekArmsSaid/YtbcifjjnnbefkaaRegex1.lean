/-
  The small functions of package regex: what each answers and does to the reader. Conditions: the reader's block holds its fields, the pattern's bytes can be read.
-/
import Derived.Test.YtbcifjjnnbefkaaNfa
import Derived.Test.YtbcifjjnnbefkaaDraw
namespace Go.Proofs.Ytbcifjjnnbefkaa
open Go.RowKit

def plainB (c : UInt8) : Bool := !(48 ≤ c && c ≤ 57 || 65 ≤ c && c ≤ 90 || 97 ≤ c && c ≤ 122)
/-- What the reader holds: its place, the ops, and for each bracket that is open how many branches and pieces there were. -/
structure RS where
  at_ : Nat
  out : List Op
  opn : List (Nat × Nat)
  deriving DecidableEq

def sLev : Shape (Nat × Nat) where
  n := 2
  R := fun _ _ cs x => cs = [.int .i64 x.1, .int .i64 x.2]
  len := fun h => by rw [h]; rfl
  one := fun h u hu => by rw [h] at hu; simp at hu; rcases hu with rfl | rfl <;> rfl
  mono := fun _ h => h
theorem ty_lev : SlTy Try.prog 65 71 sLev 16 := mkTy Try.underlying65 (by kernel_rfl) (by decide) (by decide)
theorem ty_pile : SlTy Try.prog 66 71 sLev 16 := mkTy Try.underlying66 (by kernel_rfl) (by decide) (by decide)
theorem ty_op : SlTy Try.prog 35 79 sOp 40 := mkTy Try.underlying35 (by kernel_rfl) (by decide) (by decide)
theorem ty_span : SlTy Try.prog 22 62 sSpan 2 := mkTy Try.underlying22 (by kernel_rfl) (by decide) (by decide)

theorem u8_cases (c k : UInt8) : ((c.toNat : Int) == (k.toNat : Int)) = (c == k) := by
  by_cases h : c = k
  · subst h; simp
  · have : ¬ ((c.toNat : Int) = (k.toNat : Int)) := fun e => h (UInt8.toNat_inj.1 (by omega))
    rw [beq_eq_false_iff_ne.2 this, beq_eq_false_iff_ne.2 h]

theorem plain_calls (c : UInt8) (w : World) : Calls Try.prog 62 #[.int .u8 c.toNat] w (Ret fun v w' => v = .bool (plainB c) ∧ w = w') := by
  have H : plainB c = !((48 ≤ c.toNat && c.toNat ≤ 57) || (65 ≤ c.toNat && c.toNat ≤ 90) || (97 ≤ c.toNat && c.toNat ≤ 122)) := by
    unfold plainB
    rfl
  replace H := Kp.mk H
  by_cases h1 : 48 ≤ c.toNat <;> by_cases h2 : c.toNat ≤ 57 <;> by_cases h3 : 65 ≤ c.toNat <;> by_cases h4 : c.toNat ≤ 90 <;> by_cases h5 : 97 ≤ c.toNat <;> by_cases h6 : c.toNat ≤ 122 <;> (try omega)
  all_goals
    go_enter Try.func62, Try.ntmps62
    go_wp2
    go_ret
    exact ⟨congrArg Value.bool (by rw [H.out]; simp [h1, h2, h3, h4, h5, h6] <;> omega), rfl⟩

theorem top_calls (g n cap : Nat) (w : World) (h0 : 1 ≤ n) (hn : n ≤ 1000) : Calls Try.prog 38 #[.slice (some ⟨g, 0, none⟩) n cap] w (Ret fun v w' => v = .pointer (some ⟨g, (n - 1) * 2, none⟩) ∧ w = w') := by
  go_enter Try.func38, Try.ntmps38
  go_wp2
  go_ret
  exact ⟨rfl, rfl⟩

/-- What 'put' does: the pile in the block's last cell is one longer. -/
structure PutPost (W : World) (b : Nat) (c0 c1 c2 opv : Value) (A : Nat → Prop) (l : List (Nat × Nat)) (v : Value) (w : World) : Prop where
  v : v = .tuple #[]
  st : ∃ opv', w.heap[b]? = some (.cells #[c0, c1, c2, opv'] 68) ∧ Ow 71 sLev w A opv' l ∧ (opv'.ownBlock = opv.ownBlock ∨ ∃ g, opv'.ownBlock = some g ∧ W.heap.size ≤ g)
  fr : Fr (fun k => k = b ∨ opv.ownBlock = some k) W w

set_option maxHeartbeats 1000000 in
theorem put_calls (b : Nat) (c0 c1 c2 opv : Value) (A : Nat → Prop) (l : List (Nat × Nat)) (br pc : Nat) (w : World) (hb : w.heap[b]? = some (.cells #[c0, c1, c2, opv] 68)) (hO : Ow 71 sLev w A opv l) (hAb : ¬ A b) (hA : ∀ k, w.heap.size ≤ k → A k) (hl : l.length ≤ 1000) :
    Calls Try.prog 22 #[.pointer (some ⟨b, 3, none⟩), .agg #[.int .i64 br, .int .i64 pc]] w (Ret (PutPost w b c0 c1 c2 opv A (l ++ [(br, pc)]))) := by
  have hbc := blkC hb
  have hbl := blkL hb
  replace hb := Kp.mk hb
  go_enter Try.func22, Try.ntmps22
  go_wp2
  refine wp_lex (by kernel_rfl) ⟨fun _ _ _ h => h.2, fun _ _ h => h⟩ (by kernel_rfl) ?_
  go_wp2_with (at_builtin; refine pause ?_; intro K hK)
  refine hK.out _ _ ?_
  have hW : Fr (fun _ => False) w (w.alloc (.cells #[.int .i64 br, .int .i64 pc] 71)) := (Fr.refl _ _).alloc _
  refine wpl_append1 (w := w) (y := (br, pc)) ty_pile rfl rfl rfl hO rfl rfl (heap_alloc2_new _ _ _) (((Fr.refl _ _).alloc _).alloc _).drew (by omega) hA ?_
  intro v' w2 hO2 hF hd
  have h2 := hF.obj hb.out fun e => hAb (hO.1 _ e)
  have h2c := blkC h2
  have h2f := blkF h2
  have h2l := blkL h2
  replace h2 := Kp.mk h2
  obtain ⟨va, vc, rfl⟩ := hO2.form (n := l.length + 1) (by simp)
  go_wp2
  refine fin_end (by kernel_rfl) ?_
  go_wp2
  go_end0
  refine ⟨rfl, ⟨_, blkSet h2.out _, hO2.mono fun k hk hl => ⟨hk, Below.heap_setCell _ _ _ _ fun e => hAb ((show k = b from e) ▸ hk)⟩, hd⟩, ?_⟩
  exact (hF.mono fun k _ e => .inr e).setCell (fun _ => .inl rfl) _

/-- The reader at b, above B: its fields, the ops and the levels (the levels' slice is pv). -/
structure RdP (B b : Nat) (c0 : Value) (i : Nat) (out : List Op) (pv : Value) (opn : List (Nat × Nat)) (w : World) : Prop where
  hB : B ≤ b
  hz : B ≤ w.heap.size
  st : ∃ ov, w.heap[b]? = some (.cells #[c0, .int .i64 i, ov, pv] 68) ∧ Ow 79 sOp w (fun k => B ≤ k ∧ k ≠ b ∧ pv.ownBlock ≠ some k) ov out ∧ Ow 71 sLev w (fun k => B ≤ k ∧ k ≠ b ∧ ov.ownBlock ≠ some k) pv opn
/-- A method without a result: the reader turns so, below B nothing turns. -/
structure MP (W : World) (B : Nat) (p : World → Prop) (v : Value) (w : World) : Prop where
  v : v = .tuple #[]
  p : p w
  fr : Below B W w

theorem own_ne {v v' : Value} {k n : Nat} (hd : v'.ownBlock = v.ownBlock ∨ ∃ g, v'.ownBlock = some g ∧ n ≤ g) (hk : k < n) (h : v.ownBlock ≠ some k) : v'.ownBlock ≠ some k := fun e => by
  rcases hd with h1 | ⟨g, h1, hg⟩
  · exact h (h1 ▸ e)
  · rw [h1] at e; cases e; omega

set_option maxHeartbeats 1000000 in
theorem op_calls (B b : Nat) (c0 : Value) (i : Nat) (out : List Op) (pv : Value) (opn : List (Nat × Nat)) (kind : Int) (w : World) (h : RdP B b c0 i out pv opn w) (hl : out.length ≤ 100000) (hk : i64ok kind) :
    Calls Try.prog 39 #[.pointer (some ⟨b, 0, none⟩), .int .i64 kind] w (Ret (MP w B (RdP B b c0 i (out ++ [⟨kind, false, []⟩]) pv opn))) := by
  obtain ⟨hB, hz, ov, hb, hO, hP⟩ := h
  have hbc := blkC hb
  have hbl := blkL hb
  replace hb := Kp.mk hb
  go_enter Try.func39, Try.ntmps39
  go_wp2_with (at_builtin; refine pause ?_; intro K hK)
  refine hK.out _ _ ?_
  refine wpl_append1 (w := w) (y := ⟨kind, false, []⟩) ty_op rfl rfl rfl hO rfl ⟨none, 0, rfl, hk, Sl.nil_ _ _ _⟩ (heap_alloc_new _ _) ((Fr.refl _ _).alloc _) (by omega) (fun k hk => ⟨by omega, by omega, fun e => by have := hP.lt e; omega⟩) ?_
  intro v' w2 hO2 hF hd
  have h2 := hF.obj hb.out fun e => (hO.1 _ e).2.1 rfl
  have h2c := blkC h2
  have h2f := blkF h2
  have h2l := blkL h2
  replace h2 := Kp.mk h2
  obtain ⟨va, vc, rfl⟩ := hO2.form (n := out.length + 1) (by simp)
  go_wp2
  go_end0
  refine ⟨rfl, ⟨hB, by simpa using Nat.le_trans hz hF.size, _, blkSet h2.out _, hO2.mono fun k hk hl => ⟨hk, Below.heap_setCell _ _ _ _ hk.2.1⟩, hP.mono fun k hk hl => ⟨⟨hk.1, hk.2.1, own_ne hd hl hk.2.2⟩, ?_⟩⟩, ?_⟩
  · rw [Below.heap_setCell _ _ _ _ hk.2.1]; exact hF.block k hl hk.2.2
  · exact (hF.below hz fun k hk e => by have := (hO.1 k e).1; omega).setCell hB _

theorem lev_top {w : World} {A : Nat → Prop} {pv : Value} {l : List (Nat × Nat)} {e : Nat × Nat} (h : Ow 71 sLev w A pv (l ++ [e])) :
    ∃ g cap, pv = .slice (some ⟨g, 0, none⟩) (l.length + 1) cap ∧ A g ∧ g < w.heap.size ∧ w.cell? ⟨g, l.length * 2, none⟩ = some (.int .i64 e.1) ∧ w.cell? ⟨g, l.length * 2 + 1, none⟩ = some (.int .i64 e.2) ∧ (∀ j, w.frozen? ⟨g, j, none⟩ = false) := by
  have h0 := h
  obtain ⟨a, cap, rfl, hS, hg⟩ := h0.val
  obtain ⟨b, off, rfl, hA, hb⟩ := hS.at_ (by simp)
  obtain ⟨g, hg⟩ : ∃ g, some (⟨b, off, none⟩ : Addr) = some ⟨g, 0, none⟩ := hg.resolve_left (by simp)
  obtain ⟨rfl, rfl⟩ : b = g ∧ off = 0 := by simpa using hg
  obtain ⟨cs, hcs, hc⟩ := hS.get b 0 rfl l.length (by simp)
  have hel : (l ++ [e])[l.length]'(by simp) = e := by simp
  rw [hel] at hcs
  cases (hcs : cs = _)
  have c0 := hc 0 (by decide)
  have c1 := hc 1 (by decide)
  simp only [Nat.zero_add, Nat.add_zero] at c0 c1
  refine ⟨b, cap, by simp, hA, hb, c0, c1, fun j => ?_⟩
  obtain ⟨_, xs, hrow, _⟩ := h
  exact hrow.frozenAt (by simpa using j)

theorem RdP.put1 {B b : Nat} {c0 : Value} {i : Nat} {out : List Op} {l : List (Nat × Nat)} {e e' : Nat × Nat} {g cap : Nat} {j : Nat} {u : Value} {w : World} (h : RdP B b c0 i out (.slice (some ⟨g, 0, none⟩) (l.length + 1) cap) (l ++ [e]) w)
    (hj : j < 2) (hu : [Value.int .i64 e.1, .int .i64 e.2].set j u = [.int .i64 e'.1, .int .i64 e'.2]) : RdP B b c0 i out (.slice (some ⟨g, 0, none⟩) (l.length + 1) cap) (l ++ [e']) (w.setCell ⟨g, l.length * 2 + j, none⟩ u) := by
  obtain ⟨hB, hz, ov, hb, hO, hP⟩ := h
  have hgA := hP.1 g rfl
  refine ⟨hB, by simpa using hz, ov, by rw [Below.heap_setCell _ _ _ _ (fun e => hgA.2.1 (show g = b from e.symm))]; exact hb, hO.mono fun k hk hl => ⟨hk, Below.heap_setCell _ _ _ _ fun e => hk.2.2 (by rw [show k = g from e]; rfl)⟩, ?_⟩
  have h1 : (l ++ [e]).length = l.length + 1 := by simp
  rw [← h1] at hP
  have h2 := hP.store (k := l.length) (j := j) (y := e') (u := u) (by simp) hj (fun c w' A' hc => by
    have hel : (l ++ [e])[l.length]'(by simp) = e := by simp
    rw [hel] at hc
    cases (hc : c = _)
    exact hu)
  have h3 : (l ++ [e]).set l.length e' = l ++ [e'] := by simp
  rw [h3, h1] at h2
  exact h2

/-- One byte on, or so. -/
theorem RdP.step {B b : Nat} {c0 : Value} {i : Nat} {out : List Op} {pv : Value} {opn : List (Nat × Nat)} {w : World} (h : RdP B b c0 i out pv opn w) (i' : Nat) : RdP B b c0 i' out pv opn (w.setCell ⟨b, 1, none⟩ (.int .i64 i')) := by
  obtain ⟨hB, hz, ov, hb, hO, hP⟩ := h
  exact ⟨hB, by simpa using hz, ov, blkSet hb _, hO.mono fun k hk hl => ⟨hk, Below.heap_setCell _ _ _ _ hk.2.1⟩, hP.mono fun k hk hl => ⟨hk, Below.heap_setCell _ _ _ _ hk.2.1⟩⟩
theorem RdP.keep {B b : Nat} {c0 : Value} {i : Nat} {out : List Op} {pv : Value} {opn : List (Nat × Nat)} {w w' : World} (h : RdP B b c0 i out pv opn w) (hb : Below w.heap.size w w') : RdP B b c0 i out pv opn w' := by
  obtain ⟨hB, hz, ov, h1, hO, hP⟩ := h
  exact ⟨hB, Nat.le_trans hz hb.size, ov, (hb.block b (blkL h1)).trans h1, hO.mono fun k hk hl => ⟨hk, hb.block k hl⟩, hP.mono fun k hk hl => ⟨hk, hb.block k hl⟩⟩

def pieceOps (pc : Nat) (out : List Op) : List Op := if pc = 0 then out else out ++ [⟨3, false, []⟩]
set_option maxHeartbeats 1000000 in
theorem piece_calls (B b : Nat) (c0 : Value) (i : Nat) (out : List Op) (pv : Value) (l : List (Nat × Nat)) (br pc : Nat) (w : World) (h : RdP B b c0 i out pv (l ++ [(br, pc)]) w) (hl : out.length ≤ 100000) (hn : l.length ≤ 100) (hpc : pc ≤ 100000) :
    Calls Try.prog 52 #[.pointer (some ⟨b, 0, none⟩)] w (Ret (MP w B (RdP B b c0 i (pieceOps pc out) pv (l ++ [(br, pc + 1)])))) := by
  have h' := h
  obtain ⟨_, hz, ov, hbb, _, hPP⟩ := h'
  obtain ⟨g, cap, rfl, hgA, hgl, hg0, hg1, hgf⟩ := lev_top hPP
  clear hPP
  have hbc := blkC hbb
  have hbl := blkL hbb
  clear hbb
  have hgf1 := hgf (l.length * 2 + 1)
  clear hgf
  replace h := Kp.mk h
  have h2 := h.out.put1 (e' := (br, pc + 1)) (j := 1) (u := .int .i64 ((pc : Int) + 1)) (by decide) (by simp)
  replace h2 := Kp.mk h2
  have hge : B ≤ g := hgA.1
  have hgb : g ≠ b := hgA.2.1
  clear hgA
  go_enter Try.func52, Try.ntmps52
  by_cases h0 : pc = 0
  · have hd : decide ((1 : Int) < (pc : Int) + 1) = false := by simp; omega
    replace h0 := Kp.mk h0
    go_wp2_with (go_at_call 38; refine ret_mono (top_calls g (l.length + 1) cap _ (by omega) (by omega)) ?_; rintro v w' ⟨rfl, rfl⟩)
    go_end0
    exact ⟨rfl, by rw [pieceOps, if_pos h0.out]; exact h2.out, (Below.refl _ _).setCell hge _⟩
  · have hd : decide ((1 : Int) < (pc : Int) + 1) = true := by simp; omega
    replace h0 := Kp.mk h0
    go_wp2_with (go_at_call 38; refine ret_mono (top_calls g (l.length + 1) cap _ (by omega) (by omega)) ?_; rintro v w' ⟨rfl, rfl⟩)
    refine ret_mono (op_calls B b c0 i out _ _ 3 _ h2.out hl (by unfold i64ok; omega)) ?_
    rintro v w' ⟨rfl, hR, hB⟩
    replace hR := Kp.mk hR
    go_wp2
    go_end0
    exact ⟨rfl, by rw [pieceOps, if_neg h0.out]; exact hR.out, ((Below.refl _ _).setCell hge _).trans hB⟩

def branchOps (br pc : Nat) (out : List Op) : List Op := out ++ (if pc = 0 then [⟨2, false, []⟩] else []) ++ (if br = 0 then [] else [⟨4, false, []⟩])
set_option maxHeartbeats 2000000 in
theorem branch_calls (B b : Nat) (c0 : Value) (i : Nat) (out : List Op) (pv : Value) (l : List (Nat × Nat)) (br pc : Nat) (w : World) (h : RdP B b c0 i out pv (l ++ [(br, pc)]) w) (hl : out.length ≤ 99999) (hn : l.length ≤ 100) (hpc : br ≤ 100000) :
    Calls Try.prog 24 #[.pointer (some ⟨b, 0, none⟩)] w (Ret (MP w B (RdP B b c0 i (branchOps br pc out) pv (l ++ [(br + 1, 0)])))) := by
  have h' := h
  obtain ⟨_, hz, ov, hbb, _, hPP⟩ := h'
  obtain ⟨g, cap, rfl, hgA, hgl, hg0, hg1, hgf⟩ := lev_top hPP
  clear hPP
  have hbc := blkC hbb
  have hbl := blkL hbb
  clear hbb
  replace h := Kp.mk h
  have hge : B ≤ g := hgA.1
  have hgb : g ≠ b := hgA.2.1
  clear hgA hgf
  -- behind the calls of op
  have two : ∀ (o : List Op) (w1 : World), RdP B b c0 i o (.slice (some ⟨g, 0, none⟩) (l.length + 1) cap) (l ++ [(br, pc)]) w1 → (w1.cell? ⟨g, l.length * 2, none⟩ = some (.int .i64 br) ∧ w1.cell? ⟨g, l.length * 2 + 1, none⟩ = some (.int .i64 pc) ∧ (w1.frozen? ⟨g, l.length * 2, none⟩ = false) ∧ (w1.frozen? ⟨g, l.length * 2 + 1, none⟩ = false)) ∧
      Kp (RdP B b c0 i o (.slice (some ⟨g, 0, none⟩) (l.length + 1) cap) (l ++ [(br + 1, 0)]) ((w1.setCell ⟨g, l.length * 2, none⟩ (.int .i64 ((br : Int) + 1))).setCell ⟨g, l.length * 2 + 1, none⟩ (.int .i64 0))) := fun o w1 h1 => by
    have h1' := h1
    obtain ⟨_, _, _, _, _, hPP⟩ := h1'
    obtain ⟨g', cap', e, _, _, c0, c1, cf⟩ := lev_top hPP
    cases e
    refine ⟨⟨c0, c1, cf _, cf _⟩, ⟨?_⟩⟩
    have := h1.put1 (e' := (br + 1, pc)) (j := 0) (u := .int .i64 ((br : Int) + 1)) (by decide) (by simp)
    exact this.put1 (e' := (br + 1, 0)) (j := 1) (u := .int .i64 0) (by decide) (by simp)
  replace two := Kp.mk two
  have fin : ∀ (w1 : World), Below B w w1 → Below B w ((w1.setCell ⟨g, l.length * 2, none⟩ (.int .i64 ((br : Int) + 1))).setCell ⟨g, l.length * 2 + 1, none⟩ (.int .i64 0)) := fun w1 h1 => (h1.setCell hge _).setCell hge _
  replace fin := Kp.mk fin
  by_cases h0 : pc = 0 <;> by_cases h1 : br = 0
  · have hd : ((pc : Int) == 0) = true := by simp [h0]
    have hd2 : ¬ 0 < br := by omega
    have hE : branchOps br pc out = out ++ [⟨2, false, []⟩] := by simp [branchOps, h0, h1]
    clear h0 h1
    replace hE := Kp.mk hE
    go_enter Try.func24, Try.ntmps24
    go_wp2_with (go_at_call 38; refine ret_mono (top_calls g (l.length + 1) cap _ (by omega) (by omega)) ?_; rintro v w' ⟨rfl, rfl⟩)
    refine ret_mono (op_calls B b c0 i out _ _ 2 _ h.out (by omega) (by unfold i64ok; omega)) ?_
    rintro v w1 ⟨rfl, hR, hB⟩
    obtain ⟨⟨e0, e1, e2, e3⟩, hT⟩ := two.out _ _ hR
    clear hR
    go_wp2
    go_end0
    exact ⟨rfl, by rw [hE.out]; exact hT.out, fin.out _ hB⟩
  · have hd : ((pc : Int) == 0) = true := by simp [h0]
    have hd2 : 0 < br := by omega
    have hE : branchOps br pc out = out ++ [⟨2, false, []⟩] ++ [⟨4, false, []⟩] := by simp [branchOps, h0, h1]
    clear h0 h1
    replace hE := Kp.mk hE
    go_enter Try.func24, Try.ntmps24
    go_wp2_with (go_at_call 38; refine ret_mono (top_calls g (l.length + 1) cap _ (by omega) (by omega)) ?_; rintro v w' ⟨rfl, rfl⟩)
    refine ret_mono (op_calls B b c0 i out _ _ 2 _ h.out (by omega) (by unfold i64ok; omega)) ?_
    rintro v w1 ⟨rfl, hR, hB⟩
    obtain ⟨⟨e0, e1, e2, e3⟩, hT⟩ := two.out _ _ hR
    replace hR := Kp.mk hR
    clear hT
    go_wp2_with fail
    refine ret_mono (op_calls B b c0 i _ _ _ 4 _ hR.out (by simp; omega) (by unfold i64ok; omega)) ?_
    rintro v w2 ⟨rfl, hR2, hB2⟩
    obtain ⟨⟨f0, f1, f2, f3⟩, hT⟩ := two.out _ _ hR2
    clear hR2
    go_wp2
    go_end0
    exact ⟨rfl, by rw [hE.out]; exact hT.out, fin.out _ (hB.trans hB2)⟩
  · have hd : ((pc : Int) == 0) = false := by simp [h0]
    have hd2 : ¬ 0 < br := by omega
    have hE : branchOps br pc out = out := by simp [branchOps, h0, h1]
    clear h0 h1
    replace hE := Kp.mk hE
    obtain ⟨⟨e0, e1, e2, e3⟩, hT⟩ := two.out _ _ h.out
    go_enter Try.func24, Try.ntmps24
    go_wp2_with (go_at_call 38; refine ret_mono (top_calls g (l.length + 1) cap _ (by omega) (by omega)) ?_; rintro v w' ⟨rfl, rfl⟩)
    go_end0
    exact ⟨rfl, by rw [hE.out]; exact hT.out, fin.out _ (Below.refl _ _)⟩
  · have hd : ((pc : Int) == 0) = false := by simp [h0]
    have hd2 : 0 < br := by omega
    have hE : branchOps br pc out = out ++ [⟨4, false, []⟩] := by simp [branchOps, h0, h1]
    clear h0 h1
    replace hE := Kp.mk hE
    go_enter Try.func24, Try.ntmps24
    go_wp2_with (go_at_call 38; refine ret_mono (top_calls g (l.length + 1) cap _ (by omega) (by omega)) ?_; rintro v w' ⟨rfl, rfl⟩)
    refine ret_mono (op_calls B b c0 i _ _ _ 4 _ h.out (by omega) (by unfold i64ok; omega)) ?_
    rintro v w2 ⟨rfl, hR2, hB2⟩
    obtain ⟨⟨f0, f1, f2, f3⟩, hT⟩ := two.out _ _ hR2
    clear hR2
    go_wp2
    go_end0
    exact ⟨rfl, by rw [hE.out]; exact hT.out, fin.out _ hB2⟩
end Go.Proofs.Ytbcifjjnnbefkaa
