/-
  The reference of layer 10 (davitref10): a runner's come, take and done. Conditions: the runner's blocks hold its fields, the instructions can be read.
-/
import Derived.Test.YtbcifjjnnbefkaaKnows10
namespace Go.Proofs.Ytbcifjjnnbefkaa
open Go.RowKit

def bls (l : List Bool) : List Value := l.map fun b => .bool b
/-- How many places nobody has come to. -/
def freeB : List Bool → Nat
  | [] => 0
  | x :: l => (if x then 0 else 1) + freeB l
/-- come: an instruction, and those that one comes to without a byte. -/
def comeM (p : List Inst) : Nat → List Bool → Int → List Bool
  | 0, ms, _ => ms
  | f + 1, ms, at_ =>
    if at_ < 0 ∨ (p.length : Int) ≤ at_ then ms else
    if ms.getD at_.toNat false = true then ms else
    if (p.getD at_.toNat default).kind = 2 then comeM p f (comeM p f (ms.set at_.toNat true) (wrap64 (at_ + (p.getD at_.toNat default).x))) (wrap64 (at_ + (p.getD at_.toNat default).y))
    else if (p.getD at_.toNat default).kind = 3 then comeM p f (ms.set at_.toNat true) (wrap64 (at_ + (p.getD at_.toNat default).x))
    else ms.set at_.toNat true
theorem comeM_len (p : List Inst) : ∀ (f : Nat) (ms : List Bool) (at_ : Int), (comeM p f ms at_).length = ms.length
  | 0, _, _ => rfl
  | f + 1, ms, at_ => by
    unfold comeM
    split
    · rfl
    · split
      · rfl
      · split
        · rw [comeM_len p f, comeM_len p f, List.length_set]
        · split
          · rw [comeM_len p f, List.length_set]
          · rw [List.length_set]
theorem freeB_set {ms : List Bool} {k : Nat} (hk : k < ms.length) (h : ¬ ms.getD k false = true) : freeB (ms.set k true) + 1 = freeB ms := by
  induction ms generalizing k with
  | nil => simp at hk
  | cons x l ih =>
    cases k with
    | zero => cases x <;> simp [freeB] at h ⊢; omega
    | succ k =>
      have := ih (k := k) (by simpa using hk) (by simpa using h)
      simp only [List.set_cons_succ, freeB]
      omega
theorem freeB_set_le {ms : List Bool} {k : Nat} : freeB (ms.set k true) ≤ freeB ms := by
  induction ms generalizing k with
  | nil => simp
  | cons x l ih =>
    cases k with
    | zero => cases x <;> simp [freeB]
    | succ k =>
      have := ih (k := k)
      simp only [List.set_cons_succ, freeB]
      omega
theorem freeB_le : ∀ (l : List Bool), freeB l ≤ l.length
  | [] => Nat.le_refl _
  | x :: l => by have := freeB_le l; simp only [freeB, List.length_cons]; split <;> omega
theorem freeB_come (p : List Inst) : ∀ (f : Nat) (ms : List Bool) (at_ : Int), freeB (comeM p f ms at_) ≤ freeB ms
  | 0, _, _ => Nat.le_refl _
  | f + 1, ms, at_ => by
    unfold comeM
    split
    · exact Nat.le_refl _
    · split
      · exact Nat.le_refl _
      · split
        · exact Nat.le_trans (freeB_come p f _ _) (Nat.le_trans (freeB_come p f _ _) freeB_set_le)
        · split
          · exact Nat.le_trans (freeB_come p f _ _) freeB_set_le
          · exact freeB_set_le

/-- A runner at rb, above B. -/
structure RunR (B rb : Nat) (pv : Value) (ms : List Bool) (w : World) : Prop where
  hB : B ≤ rb
  hz : B ≤ w.heap.size
  st : ∃ mb mc, w.heap[rb]? = some (.cells #[pv, .slice (some ⟨mb, 0, none⟩) ms.length mc] 99) ∧ w.heap[mb]? = some (.cells (bls ms).toArray 4) ∧ mb ≠ rb ∧ B ≤ mb ∧ ms.length ≤ mc
/-- A method without a result. -/
theorem RunR.set {B rb : Nat} {pv : Value} {ms : List Bool} {w : World} {mb mc : Nat} (hB : B ≤ rb) (hz : B ≤ w.heap.size) (h1 : w.heap[rb]? = some (.cells #[pv, .slice (some ⟨mb, 0, none⟩) ms.length mc] 99)) (h2 : w.heap[mb]? = some (.cells (bls ms).toArray 4)) (h3 : mb ≠ rb) (h4 : B ≤ mb) (h5 : ms.length ≤ mc) (k : Nat) (x : Bool) :
    RunR B rb pv (ms.set k x) (w.setCell ⟨mb, k, none⟩ (.bool x)) := by
  refine ⟨hB, by simpa using hz, mb, mc, ?_, ?_, h3, h4, by simpa using h5⟩
  · rw [Below.heap_setCell _ _ _ _ (fun e => h3 e.symm), List.length_set]; exact h1
  · rw [blkSet h2]
    congr 2
    apply Array.toList_inj.1
    simp [bls, List.map_set]
theorem RunR.keep {B rb : Nat} {pv : Value} {ms : List Bool} {w w' : World} (h : RunR B rb pv ms w) (hb : Below w.heap.size w w') : RunR B rb pv ms w' := by
  obtain ⟨hB, hz, mb, mc, h1, h2, h3⟩ := h
  exact ⟨hB, Nat.le_trans hz hb.size, mb, mc, (hb.block _ (blkL h1)).trans h1, (hb.block _ (blkL h2)).trans h2, h3⟩
theorem bl_cell {w : World} {g : Nat} {ms : List Bool} {t : TypeId} {fr : Nat × Nat} (h : w.heap[g]? = some (.cells (bls ms).toArray t fr)) {k : Nat} (hk : k < ms.length) : w.cell? ⟨g, k, none⟩ = some (.bool ms[k]) := by
  rw [blkC h]; simp [bls, hk]

structure ComeP (W : World) (mb : Nat) (ms : List Bool) (v : Value) (w : World) : Prop where
  v : v = .tuple #[]
  st : w.heap[mb]? = some (.cells (bls ms).toArray 4)
  fr : Fr (fun k => k = mb) W w
theorem RunR.of {B rb : Nat} {pv : Value} {n : Nat} {ms : List Bool} {W w : World} {mb mc : Nat} (hB : B ≤ rb) (hz : B ≤ W.heap.size) (h1 : W.heap[rb]? = some (.cells #[pv, .slice (some ⟨mb, 0, none⟩) n mc] 99)) (h3 : mb ≠ rb) (h4 : B ≤ mb) (h5 : n ≤ mc)
    (hn : ms.length = n) (h2 : w.heap[mb]? = some (.cells (bls ms).toArray 4)) (hF : Fr (fun k => k = mb) W w) : RunR B rb pv ms w ∧ Below B W w := by
  subst hn
  exact ⟨⟨hB, Nat.le_trans hz hF.size, mb, mc, hF.obj h1 (fun e => h3 e.symm), h2, h3, h4, h5⟩, hF.below hz fun k hk e => by omega⟩

set_option maxRecDepth 100000 in
set_option maxHeartbeats 8000000 in
theorem come_calls (p : List Inst) (pa : Option Addr) (pc rb mb mc n : Nat) (h3 : mb ≠ rb) : ∀ (f : Nat) (ms : List Bool) (at_ : Int) (W : World),
    W.heap[rb]? = some (.cells #[.slice pa p.length pc, .slice (some ⟨mb, 0, none⟩) n mc] 99) → W.heap[mb]? = some (.cells (bls ms).toArray 4) → n = p.length → Sl sInst W (fun k => k ≠ mb) pa pc p → ms.length = p.length → freeB ms < f → i64ok at_ →
    Calls Try.prog 32 #[.pointer (some ⟨rb, 0, none⟩), .int .i64 at_] W (Ret (ComeP W mb (comeM p f ms at_))) := by
  intro f
  induction f with
  | zero => intro ms at_ W _ _ _ _ _ hf; omega
  | succ f ih =>
  intro ms at_ W h1 h2 hnp hs hml hf hat
  subst hnp
  replace ih := Kp.mk ih
  have h1c := blkC h1
  have h1l := blkL h1
  have h2l := blkL h2
  have h2f := blkF h2
  have hpl : p.length ≤ 9223372036854775807 := by have := hs.le; have := hs.max; unfold maxLen at this; omega
  have hE : comeM p (f + 1) ms at_ = if at_ < 0 ∨ (p.length : Int) ≤ at_ then ms else
    if ms.getD at_.toNat false = true then ms else
    if (p.getD at_.toNat default).kind = 2 then comeM p f (comeM p f (ms.set at_.toNat true) (wrap64 (at_ + (p.getD at_.toNat default).x))) (wrap64 (at_ + (p.getD at_.toNat default).y))
    else if (p.getD at_.toNat default).kind = 3 then comeM p f (ms.set at_.toNat true) (wrap64 (at_ + (p.getD at_.toNat default).x))
    else ms.set at_.toNat true := rfl
  by_cases a1 : at_ < 0
  · rw [if_pos (.inl a1)] at hE
    replace hE := Kp.mk hE
    replace h1 := Kp.mk h1
    replace h2 := Kp.mk h2
    have hd : decide (at_ < 0) = true := by simpa using a1
    replace hat := Kp.mk hat
    clear hs hml hf
    go_enter Try.func32, Try.ntmps32
    go_wp2_with fail
    go_end0
    rw [hE.out]
    exact ⟨rfl, h2.out, Fr.refl _ _⟩
  · obtain ⟨k, rfl⟩ : ∃ k : Nat, at_ = k := ⟨at_.toNat, by omega⟩
    have hd1 : decide ((k : Int) < 0) = false := by simp
    by_cases a2 : p.length ≤ k
    · rw [if_pos (.inr (by omega))] at hE
      replace hE := Kp.mk hE
      replace h1 := Kp.mk h1
      replace h2 := Kp.mk h2
      have hd : decide (p.length ≤ k) = true := by simpa using a2
      replace hat := Kp.mk hat
      clear hs hml hf
      go_enter Try.func32, Try.ntmps32
      go_wp2_with fail
      go_end0
      rw [hE.out]
      exact ⟨rfl, h2.out, Fr.refl _ _⟩
    · have hd2 : decide (p.length ≤ k) = false := by simp; omega
      have hk3 : k < p.length := by omega
      have hkm : k < ms.length := by omega
      rw [if_neg (by omega), show ((k : Int)).toNat = k from rfl, getD_of hkm, getD_of hk3] at hE
      have hck := bl_cell h2 hkm
      have hSet : (W.setCell ⟨mb, k, none⟩ (.bool true)).heap[mb]? = some (.cells (bls (ms.set k true)).toArray 4) := by
        rw [blkSet h2]
        congr 2
        apply Array.toList_inj.1
        simp [bls, List.map_set]
      have hfr : ¬ ms[k] = true → freeB (ms.set k true) + 1 = freeB ms := fun h => freeB_set hkm (by rw [getD_of hkm]; exact h)
      replace h1 := Kp.mk h1
      replace h2 := Kp.mk h2
      replace hSet := Kp.mk hSet
      cases hmk : ms[k] with
      | true =>
        rw [hmk] at hck hE
        rw [if_pos rfl] at hE
        replace hE := Kp.mk hE
        replace hmk := Kp.mk hmk
        replace hat := Kp.mk hat
        replace hml := Kp.mk hml
        replace hfr := Kp.mk hfr
        clear hs hf
        go_enter Try.func32, Try.ntmps32
        go_wp2_with fail
        go_end0
        rw [hE.out]
        exact ⟨rfl, h2.out, Fr.refl _ _⟩
      | false =>
        rw [hmk] at hck hE
        rw [if_neg (by simp)] at hE
        have hfr2 := hfr (by rw [hmk]; simp)
        clear hfr
        obtain ⟨pb, off, sa, sc, rfl, hpb, hpn, i1, i2, i3, hsp, c0, c1, c2, c3, c4⟩ := inst_at hs hk3
        have hpm : pb ≠ mb := hpn
        have hrm : rb ≠ mb := fun e => h3 e.symm
        have h2f1 := h2f k
        have hB1 : Fr (fun k => k = mb) W (W.setCell ⟨mb, k, none⟩ (.bool true)) := (Fr.refl (fun k => k = mb) W).setCell (p := ⟨mb, k, none⟩) (fun _ => rfl) _
        have hz1 : (W.setCell ⟨mb, k, none⟩ (.bool true)).heap.size = W.heap.size := by simp
        generalize p[k] = x at *
        have hBA : ∀ o, Kp (Fr (fun k => k = mb) W ((W.setCell ⟨mb, k, none⟩ (.bool true)).alloc o)) := fun o => ⟨hB1.alloc _⟩
        have hRA : ∀ o, Kp (((W.setCell ⟨mb, k, none⟩ (.bool true)).alloc o).heap[rb]? = some (.cells #[.slice (some ⟨pb, off, none⟩) p.length pc, .slice (some ⟨mb, 0, none⟩) p.length mc] 99)) := fun o => ⟨(hBA o).out.obj h1.out hrm⟩
        have hMA : ∀ o, Kp (((W.setCell ⟨mb, k, none⟩ (.bool true)).alloc o).heap[mb]? = some (.cells (bls (ms.set k true)).toArray 4)) := fun o => ⟨(Below.heap_alloc _ _ _ (by rw [hz1]; exact h2l)).trans hSet.out⟩
        have hsA : ∀ o, Kp (Sl sInst ((W.setCell ⟨mb, k, none⟩ (.bool true)).alloc o) (fun k => k ≠ mb) (some ⟨pb, off, none⟩) pc p) := fun o => ⟨hs.mono fun j hj hl => ⟨hj, (hBA o).out.block j hl hj⟩⟩
        have hbx : ∀ o, Kp (((W.setCell ⟨mb, k, none⟩ (.bool true)).alloc o).heap[W.heap.size]? = some o) := fun o => ⟨by have := heap_alloc_new (W.setCell ⟨mb, k, none⟩ (.bool true)) o; rw [hz1] at this; exact this⟩
        replace hz1 := Kp.mk hz1
        replace hB1 := Kp.mk hB1
        replace hs := Kp.mk hs
        replace hml := Kp.mk hml
        replace hfr2 := Kp.mk hfr2
        replace hmk := Kp.mk hmk
        replace hat := Kp.mk hat
        clear hsp h2f
        by_cases k2 : x.kind = 2
        · rw [if_pos k2] at hE
          have e2 : (x.kind == 2) = true := by simpa using k2
          replace k2 := Kp.mk k2
          replace hE := Kp.mk hE
          go_enter Try.func32, Try.ntmps32
          go_wp2_with fail
          refine ret_mono (ih.out _ _ _ (hRA _).out (hMA _).out trivial (hsA _).out (by rw [List.length_set]; exact hml.out) (by have := hfr2.out; omega) (wrap_ok _)) ?_
          rintro v w1 ⟨rfl, hg2, hF2⟩
          have hb2 := hF2.obj (hbx _).out (by omega)
          have hb2c := blkC hb2
          have hr2 := Kp.mk (hF2.obj (hRA _).out hrm)
          have hs2 : Kp (Sl sInst w1 (fun k => k ≠ mb) (some ⟨pb, off, none⟩) pc p) := ⟨(hsA _).out.mono fun j hj hl => ⟨hj, hF2.block j hl hj⟩⟩
          replace hg2 := Kp.mk hg2
          replace hF2 := Kp.mk hF2
          clear hb2
          go_wp2_with fail
          refine ret_mono (ih.out _ _ _ hr2.out hg2.out trivial hs2.out (by rw [comeM_len, List.length_set]; exact hml.out) (by have := hfr2.out; have := freeB_come p f (ms.set k true) (wrap64 (k + x.x)); omega) (wrap_ok _)) ?_
          rintro v w2 ⟨rfl, hg3, hF3⟩
          replace hg3 := Kp.mk hg3
          replace hF3 := Kp.mk hF3
          go_wp2_with fail
          go_end0
          rw [hE.out]
          exact ⟨rfl, hg3.out, ((hBA _).out.trans hF2.out fun _ _ e => e).trans hF3.out fun _ _ e => e⟩
        · rw [if_neg k2] at hE
          have e2 : (x.kind == 2) = false := by simpa using k2
          replace k2 := Kp.mk k2
          by_cases k3 : x.kind = 3
          · rw [if_pos k3] at hE
            have e3 : (x.kind == 3) = true := by simpa using k3
            replace k3 := Kp.mk k3
            replace hE := Kp.mk hE
            go_enter Try.func32, Try.ntmps32
            go_wp2_with fail
            refine ret_mono (ih.out _ _ _ (hRA _).out (hMA _).out trivial (hsA _).out (by rw [List.length_set]; exact hml.out) (by have := hfr2.out; omega) (wrap_ok _)) ?_
            rintro v w1 ⟨rfl, hg2, hF2⟩
            have hb2 := hF2.obj (hbx _).out (by omega)
            have hb2c := blkC hb2
            replace hg2 := Kp.mk hg2
            replace hF2 := Kp.mk hF2
            clear hb2
            go_wp2_with fail
            go_end0
            rw [hE.out]
            exact ⟨rfl, hg2.out, (hBA _).out.trans hF2.out fun _ _ e => e⟩
          · rw [if_neg k3] at hE
            have e3 : (x.kind == 3) = false := by simpa using k3
            replace k3 := Kp.mk k3
            replace hE := Kp.mk hE
            go_enter Try.func32, Try.ntmps32
            go_wp2_with fail
            go_end0
            rw [hE.out]
            exact ⟨rfl, (hMA _).out, (hBA _).out⟩
end Go.Proofs.Ytbcifjjnnbefkaa
