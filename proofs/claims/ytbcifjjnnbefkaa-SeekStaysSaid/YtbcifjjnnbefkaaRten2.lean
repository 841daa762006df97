/-
  The reference of layer 10 (davitref10): a runner's done and take. Conditions: the runner's blocks hold its fields, the instructions can be read.
-/
import Derived.Test.YtbcifjjnnbefkaaRten1
namespace Go.Proofs.Ytbcifjjnnbefkaa
open Go.RowKit

def doneB (p : List Inst) (ms : List Bool) : Bool := (List.range p.length).any fun i => ms.getD i false && decide ((p.getD i default).kind = 4)
structure RDoneI (p : List Inst) (ms : List Bool) (vi : Value) : Prop where
  k : ∃ k : Nat, k ≤ p.length ∧ vi = .int .i64 k ∧ ∀ j, j < k → (ms.getD j false && decide ((p.getD j default).kind = 4)) = false

set_option maxRecDepth 100000 in
set_option maxHeartbeats 8000000 in
theorem rdone_calls (p : List Inst) (pa : Option Addr) (pc B rb : Nat) (ms : List Bool) (W : World) (hR : RunR B rb (.slice pa p.length pc) ms W) (hs : Sl sInst W (fun k => k < B) pa pc p) (hml : ms.length = p.length) :
    Calls Try.prog 34 #[.pointer (some ⟨rb, 0, none⟩)] W (Ret fun v w => v = .bool (doneB p ms) ∧ W = w) := by
  obtain ⟨hBr, hBz, mb, mc, h1, h2, h3, h4, h5⟩ := hR
  have h1c := blkC h1
  have h1l := blkL h1
  have hpl : p.length ≤ 9223372036854775807 := by have := hs.le; have := hs.max; unfold maxLen at this; omega
  have hpcl := hs.le
  rw [hml] at h1c
  replace h1 := Kp.mk h1
  replace h2 := Kp.mk h2
  replace hs := Kp.mk hs
  replace hml := Kp.mk hml
  go_enter Try.func34, Try.ntmps34
  go_wp2_with fail
  go_loop [3] (fun i => RDoneI p ms i) (fun i => p.length - (intOf i).toNat)
  case atStart => exact ⟨0, Nat.zero_le _, rfl, fun j hj => by omega⟩
  case round =>
    obtain ⟨k, hk, rfl, hall⟩ := hrel
    by_cases hlt : k < p.length
    · have hkm : k < ms.length := by rw [hml.out]; exact hlt
      obtain ⟨pb, off, sa, sc, rfl, hpb, hpn, i1, i2, i3, hsp, c0, c1, c2, c3, c4⟩ := inst_at hs.out hlt
      have hck := bl_cell h2.out hkm
      have hd : decide (k < p.length) = true := by simpa using hlt
      have hkm2 : k < p.length := hlt
      have hE : (ms.getD k false && decide ((p.getD k default).kind = 4)) = (ms[k] && decide (p[k].kind = 4)) := by rw [getD_of hkm, getD_of hlt]
      generalize ms[k] = x at hck hE
      generalize p[k] = y at *
      by_cases a : x = true ∧ y.kind = 4
      · obtain ⟨rfl, a2⟩ := a
        have e : (y.kind == 4) = true := by simpa using a2
        have hfin : doneB p ms = true := List.any_eq_true.2 ⟨k, List.mem_range.2 hlt, by rw [hE]; simp [a2]⟩
        replace hfin := Kp.mk hfin
        replace hE := Kp.mk hE
        replace a2 := Kp.mk a2
        replace hall := Kp.mk hall
        go_wp2_with fail
        go_ret
        exact ⟨by rw [hfin.out]; rfl, rfl⟩
      · have hf : (ms.getD k false && decide ((p.getD k default).kind = 4)) = false := by
          rw [hE]; cases x
          · rfl
          · simp at a ⊢; exact a
        have hall2 : ∀ j, j < k + 1 → (ms.getD j false && decide ((p.getD j default).kind = 4)) = false := fun j hj => by
          by_cases e : j = k
          · subst e; exact hf
          · exact hall j (by omega)
        replace hall2 := Kp.mk hall2
        replace hall := Kp.mk hall
        replace hf := Kp.mk hf
        replace hE := Kp.mk hE
        cases x with
        | false =>
          clear a
          go_wp2_with fail
          go_round
          case rel => exact ⟨k + 1, hlt, by go_num, hall2.out⟩
          case measure => simp [intOf]; omega
        | true =>
          have e : (y.kind == 4) = false := by simpa using a
          replace a := Kp.mk a
          go_wp2_with fail
          go_round
          case rel => exact ⟨k + 1, hlt, by go_num, hall2.out⟩
          case measure => simp [intOf]; omega
    · obtain rfl : k = p.length := by omega
      have hfin : doneB p ms = false := by
        unfold doneB
        rw [List.any_eq_false]
        intro j hj
        rw [hall j (List.mem_range.1 hj)]; simp
      replace hfin := Kp.mk hfin
      replace hall := Kp.mk hall
      go_wp2_with fail
      go_ret
      exact ⟨by rw [hfin.out]; rfl, rfl⟩

/-- What the first k instructions bring. -/
def rtakeF (p : List Inst) (old : List Bool) (c : UInt8) : Nat → List Bool
  | 0 => List.replicate p.length false
  | k + 1 => if old.getD k false = true ∧ (p.getD k default).kind = 1 ∧ has (p.getD k default) c = true then comeM p (p.length + 1) (rtakeF p old c k) ((k : Int) + 1) else rtakeF p old c k
def rtakeM (p : List Inst) (old : List Bool) (c : UInt8) : List Bool := rtakeF p old c p.length
theorem rtakeF_len (p : List Inst) (old : List Bool) (c : UInt8) : ∀ k, (rtakeF p old c k).length = p.length
  | 0 => by simp [rtakeF]
  | k + 1 => by
    unfold rtakeF
    split
    · rw [comeM_len, rtakeF_len p old c k]
    · exact rtakeF_len p old c k
theorem mk_bools : MkTy Try.prog 95 4 [.bool false] 1 := ⟨Try.underlying95, by kernel_rfl, by decide⟩
theorem bls_made (n : Nat) : Array.replicate n (Value.bool false) = (bls (List.replicate n false)).toArray := by simp [bls]

structure RTakeI (W : World) (B rb m2 : Nat) (pv : Value) (p : List Inst) (old : List Bool) (c : UInt8) (vi : Value) (w : World) : Prop where
  k : ∃ k : Nat, k ≤ p.length ∧ vi = .int .i64 k ∧ w.heap[rb]? = some (.cells #[pv, .slice (some ⟨m2, 0, none⟩) p.length p.length] 99) ∧ w.heap[m2]? = some (.cells (bls (rtakeF p old c k)).toArray 4)
  fr : Fr (fun k => k = rb ∨ k = m2) W w

set_option maxRecDepth 100000 in
set_option maxHeartbeats 8000000 in
theorem rtake_calls (p : List Inst) (pa : Option Addr) (pc B rb : Nat) (ms : List Bool) (c : UInt8) (W : World) (hR : RunR B rb (.slice pa p.length pc) ms W) (hs : Sl sInst W (fun k => k < B) pa pc p) (hml : ms.length = p.length) (hp : p.length ≤ 100000) :
    Calls Try.prog 33 #[.pointer (some ⟨rb, 0, none⟩), .int .u8 c.toNat] W (Ret (MP W B (RunR B rb (.slice pa p.length pc) (rtakeM p ms c)))) := by
  obtain ⟨hBr, hBz, mb, mc, h1, h2, h3, h4, h5⟩ := hR
  have hmk := run_make1 mk_bools p.length (by omega) (by omega)
  have h1c := blkC h1
  have h1f := blkF h1
  have h1l := blkL h1
  have h2l := blkL h2
  rw [hml] at h1c
  have hrne : rb ≠ W.heap.size := by omega
  have hmne : mb ≠ W.heap.size := by omega
  replace h1 := Kp.mk h1
  replace h2 := Kp.mk h2
  replace hs := Kp.mk hs
  replace hml := Kp.mk hml
  have h0 : ((W.setCell ⟨rb, 1, none⟩ (.slice (some ⟨W.heap.size, 0, none⟩) p.length p.length)).alloc (.cells (Array.replicate p.length (Value.bool false)) 4)).heap[rb]? = some (.cells #[.slice pa p.length pc, .slice (some ⟨W.heap.size, 0, none⟩) p.length p.length] 99) :=
    (Below.heap_alloc _ _ _ (by simpa using h1l)).trans (blkSet h1.out _)
  have h00 : ((W.setCell ⟨rb, 1, none⟩ (.slice (some ⟨W.heap.size, 0, none⟩) p.length p.length)).alloc (.cells (Array.replicate p.length (Value.bool false)) 4)).heap[W.heap.size]? = some (.cells (bls (List.replicate p.length false)).toArray 4) := by
    have h := heap_alloc_new (W.setCell ⟨rb, 1, none⟩ (.slice (some ⟨W.heap.size, 0, none⟩) p.length p.length)) (.cells (Array.replicate p.length (Value.bool false)) 4)
    rw [show (W.setCell ⟨rb, 1, none⟩ (.slice (some ⟨W.heap.size, 0, none⟩) p.length p.length)).heap.size = W.heap.size by simp] at h
    rw [h, bls_made]
  have hF0 : Fr (fun k => k = rb ∨ k = W.heap.size) W ((W.setCell ⟨rb, 1, none⟩ (.slice (some ⟨W.heap.size, 0, none⟩) p.length p.length)).alloc (.cells (Array.replicate p.length (Value.bool false)) 4)) :=
    ((Fr.refl (fun k => k = rb ∨ k = W.heap.size) W).setCell (p := ⟨rb, 1, none⟩) (fun _ => .inl rfl) _).alloc _
  replace h0 := Kp.mk h0
  replace h00 := Kp.mk h00
  replace hF0 := Kp.mk hF0
  go_enter Try.func33, Try.ntmps33
  go_wp2_with fail
  go_loopw [5] (fun i wr => RTakeI W B rb W.heap.size (.slice pa p.length pc) p ms c i wr) (fun i _ => p.length - (intOf i).toNat)
  case atStart => exact ⟨⟨0, Nat.zero_le _, rfl, h0.out, h00.out⟩, hF0.out⟩
  case round =>
    obtain ⟨⟨k, hk, rfl, hr, hm⟩, hF⟩ := hrel
    have hrc := blkC hr
    have hB : Below B W wr := hF.below hBz fun k hk e => by omega
    by_cases hlt : k < p.length
    · have hkm : k < ms.length := by rw [hml.out]; exact hlt
      have hsr := hs.out.mono (A' := fun k => k < B) fun j hj _ => ⟨hj, hB.block j hj⟩
      obtain ⟨pb, off, sa, sc, rfl, hpb, hpn, i1, i2, i3, hsp, c0, c1, c2, c3, c4⟩ := inst_at hsr hlt
      have hck := bl_cell (hF.obj h2.out (by omega)) hkm
      have hE : rtakeF p ms c (k + 1) = if ms[k] = true ∧ p[k].kind = 1 ∧ has p[k] c = true then comeM p (p.length + 1) (rtakeF p ms c k) ((k : Int) + 1) else rtakeF p ms c k := by
        simp only [rtakeF]; rw [getD_of hkm, getD_of hlt]
      have hnl := rtakeF_len p ms c k
      generalize rtakeF p ms c k = nk at hE hm hnl
      generalize ms[k] = x at hck hE
      generalize p[k] = y at *
      have hspA : Kp (Sl sSpan wr (fun b => b < wr.heap.size) sa sc y.spans) := ⟨hsp.mono fun j _ hl => ⟨hl, rfl⟩⟩
      replace hE := Kp.mk hE
      replace hnl := Kp.mk hnl
      replace hr := Kp.mk hr
      replace hm := Kp.mk hm
      replace hF := Kp.mk hF
      replace hB := Kp.mk hB
      replace hsr := Kp.mk hsr
      replace hsp := Kp.mk hsp
      cases x with
      | false =>
        go_wp2_with fail
        go_roundw
        case rel => exact ⟨⟨k + 1, hlt, by go_num, hr.out, by rw [hE.out, if_neg (by simp)]; exact hm.out⟩, hF.out⟩
        case measure => simp [intOf]; omega
      | true =>
        by_cases a2 : y.kind = 1
        · have d2 : (y.kind == 1) = true := by simpa using a2
          replace a2 := Kp.mk a2
          go_wp2_with fail
          refine ret_mono (rhas_calls y c sa sc _ hspA.out) ?_
          rintro v w2 ⟨rfl, hB2⟩
          have hF2 := Kp.mk (hF.out.trans (M' := fun _ => False) (Fr.of_below hB2) fun _ _ e => e.elim)
          have hr2 := Kp.mk ((Fr.of_below hB2).obj hr.out (fun e => e))
          have hm2 := Kp.mk ((Fr.of_below hB2).obj hm.out (fun e => e))
          have hs2 := Kp.mk (hsr.out.mono (A' := fun k => k ≠ W.heap.size) fun j hj hl => ⟨by omega, hB2.block j hl⟩)
          have hrc2 := blkC hr2.out
          clear hB2
          cases a3 : has y c with
          | true =>
            replace a3 := Kp.mk a3
            go_wp2_with fail
            refine ret_mono (come_calls p _ pc rb W.heap.size p.length p.length (fun e => hrne e.symm) (p.length + 1) nk ((k : Int) + 1) _ hr2.out hm2.out rfl hs2.out hnl.out (by have := freeB_le nk; rw [hnl.out] at this; omega) (by unfold i64ok; omega)) ?_
            rintro v w4 ⟨rfl, hg4, hF4⟩
            have hr4 := hF4.obj hr2.out hrne
            have hrc4 := blkC hr4
            have hF5 := hF2.out.trans hF4 fun _ _ e => .inr e
            replace hr4 := Kp.mk hr4
            replace hF4 := Kp.mk hF4
            replace hF5 := Kp.mk hF5
            replace hg4 := Kp.mk hg4
            go_wp2_with fail
            go_roundw
            case rel => exact ⟨⟨k + 1, hlt, by go_num, hr4.out, by rw [hE.out, if_pos ⟨trivial, a2.out, a3.out⟩]; exact hg4.out⟩, hF5.out⟩
            case measure => simp [intOf]; omega
          | false =>
            replace a3 := Kp.mk a3
            go_wp2_with fail
            go_roundw
            case rel => exact ⟨⟨k + 1, hlt, by go_num, hr2.out, by rw [hE.out, if_neg (fun h => by rw [a3.out] at h; cases h.2.2)]; exact hm2.out⟩, hF2.out⟩
            case measure => simp [intOf]; omega
        · have d2 : (y.kind == 1) = false := by simpa using a2
          replace a2 := Kp.mk a2
          go_wp2_with fail
          go_roundw
          case rel => exact ⟨⟨k + 1, hlt, by go_num, hr.out, by rw [hE.out, if_neg (fun h => a2.out h.2.1)]; exact hm.out⟩, hF.out⟩
          case measure => simp [intOf]; omega
    · obtain rfl : k = p.length := by omega
      replace hr := Kp.mk hr
      replace hm := Kp.mk hm
      replace hF := Kp.mk hF
      replace hB := Kp.mk hB
      go_wp2_with fail
      go_end0
      exact ⟨rfl, ⟨hBr, Nat.le_trans hBz hB.out.size, W.heap.size, p.length, by rw [show (rtakeM p ms c).length = p.length from rtakeF_len _ _ _ _]; exact hr.out, hm.out, fun e => hrne e.symm, hBz, Nat.le_of_eq (rtakeF_len _ _ _ _)⟩, hB.out⟩
end Go.Proofs.Ytbcifjjnnbefkaa
