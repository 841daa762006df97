/-
  More of package regex: repeat. Conditions: the reader's block holds its fields, the pattern's bytes can be read.
-/
import Derived.Test.YtbcifjjnnbefkaaRegex5
namespace Go.Proofs.Ytbcifjjnnbefkaa
open Go.RowKit

def repK (c : UInt8) : Nat := if c = 42 then 5 else if c = 43 then 6 else if c = 63 then 7 else 0
theorem rep_ins (W : World) :
    (Instr.mapUpdate 118 (.map (some W.heap.size)) (.int .u8 42) (.int .i64 5)).run Try.prog (W.alloc (.map #[] 0)).drew.drew = .ok () (W.alloc (.map #[⟨.int .u8 42, .int .i64 5, 0⟩] 1)).drew.drew ∧
    (Instr.mapUpdate 118 (.map (some W.heap.size)) (.int .u8 43) (.int .i64 6)).run Try.prog (W.alloc (.map #[] 0)).drew.drew = .ok () (W.alloc (.map #[⟨.int .u8 43, .int .i64 6, 0⟩] 1)).drew.drew ∧
    (Instr.mapUpdate 118 (.map (some W.heap.size)) (.int .u8 63) (.int .i64 7)).run Try.prog (W.alloc (.map #[] 0)).drew.drew = .ok () (W.alloc (.map #[⟨.int .u8 63, .int .i64 7, 0⟩] 1)).drew.drew ∧
    (Instr.mapUpdate 118 (.map (some W.heap.size)) (.int .u8 43) (.int .i64 6)).run Try.prog (W.alloc (.map #[⟨.int .u8 42, .int .i64 5, 0⟩] 1)).drew.drew = .ok () (W.alloc (.map #[⟨.int .u8 42, .int .i64 5, 0⟩, ⟨.int .u8 43, .int .i64 6, 1⟩] 2)).drew.drew ∧
    (Instr.mapUpdate 118 (.map (some W.heap.size)) (.int .u8 63) (.int .i64 7)).run Try.prog (W.alloc (.map #[⟨.int .u8 42, .int .i64 5, 0⟩] 1)).drew.drew = .ok () (W.alloc (.map #[⟨.int .u8 42, .int .i64 5, 0⟩, ⟨.int .u8 63, .int .i64 7, 1⟩] 2)).drew.drew ∧
    (Instr.mapUpdate 118 (.map (some W.heap.size)) (.int .u8 42) (.int .i64 5)).run Try.prog (W.alloc (.map #[⟨.int .u8 43, .int .i64 6, 0⟩] 1)).drew.drew = .ok () (W.alloc (.map #[⟨.int .u8 43, .int .i64 6, 0⟩, ⟨.int .u8 42, .int .i64 5, 1⟩] 2)).drew.drew ∧
    (Instr.mapUpdate 118 (.map (some W.heap.size)) (.int .u8 63) (.int .i64 7)).run Try.prog (W.alloc (.map #[⟨.int .u8 43, .int .i64 6, 0⟩] 1)).drew.drew = .ok () (W.alloc (.map #[⟨.int .u8 43, .int .i64 6, 0⟩, ⟨.int .u8 63, .int .i64 7, 1⟩] 2)).drew.drew ∧
    (Instr.mapUpdate 118 (.map (some W.heap.size)) (.int .u8 42) (.int .i64 5)).run Try.prog (W.alloc (.map #[⟨.int .u8 63, .int .i64 7, 0⟩] 1)).drew.drew = .ok () (W.alloc (.map #[⟨.int .u8 63, .int .i64 7, 0⟩, ⟨.int .u8 42, .int .i64 5, 1⟩] 2)).drew.drew ∧
    (Instr.mapUpdate 118 (.map (some W.heap.size)) (.int .u8 43) (.int .i64 6)).run Try.prog (W.alloc (.map #[⟨.int .u8 63, .int .i64 7, 0⟩] 1)).drew.drew = .ok () (W.alloc (.map #[⟨.int .u8 63, .int .i64 7, 0⟩, ⟨.int .u8 43, .int .i64 6, 1⟩] 2)).drew.drew ∧
    (Instr.mapUpdate 118 (.map (some W.heap.size)) (.int .u8 63) (.int .i64 7)).run Try.prog (W.alloc (.map #[⟨.int .u8 42, .int .i64 5, 0⟩, ⟨.int .u8 43, .int .i64 6, 1⟩] 2)).drew.drew = .ok () (W.alloc (.map #[⟨.int .u8 42, .int .i64 5, 0⟩, ⟨.int .u8 43, .int .i64 6, 1⟩, ⟨.int .u8 63, .int .i64 7, 2⟩] 3)).drew.drew ∧
    (Instr.mapUpdate 118 (.map (some W.heap.size)) (.int .u8 43) (.int .i64 6)).run Try.prog (W.alloc (.map #[⟨.int .u8 42, .int .i64 5, 0⟩, ⟨.int .u8 63, .int .i64 7, 1⟩] 2)).drew.drew = .ok () (W.alloc (.map #[⟨.int .u8 42, .int .i64 5, 0⟩, ⟨.int .u8 63, .int .i64 7, 1⟩, ⟨.int .u8 43, .int .i64 6, 2⟩] 3)).drew.drew ∧
    (Instr.mapUpdate 118 (.map (some W.heap.size)) (.int .u8 63) (.int .i64 7)).run Try.prog (W.alloc (.map #[⟨.int .u8 43, .int .i64 6, 0⟩, ⟨.int .u8 42, .int .i64 5, 1⟩] 2)).drew.drew = .ok () (W.alloc (.map #[⟨.int .u8 43, .int .i64 6, 0⟩, ⟨.int .u8 42, .int .i64 5, 1⟩, ⟨.int .u8 63, .int .i64 7, 2⟩] 3)).drew.drew ∧
    (Instr.mapUpdate 118 (.map (some W.heap.size)) (.int .u8 42) (.int .i64 5)).run Try.prog (W.alloc (.map #[⟨.int .u8 43, .int .i64 6, 0⟩, ⟨.int .u8 63, .int .i64 7, 1⟩] 2)).drew.drew = .ok () (W.alloc (.map #[⟨.int .u8 43, .int .i64 6, 0⟩, ⟨.int .u8 63, .int .i64 7, 1⟩, ⟨.int .u8 42, .int .i64 5, 2⟩] 3)).drew.drew ∧
    (Instr.mapUpdate 118 (.map (some W.heap.size)) (.int .u8 43) (.int .i64 6)).run Try.prog (W.alloc (.map #[⟨.int .u8 63, .int .i64 7, 0⟩, ⟨.int .u8 42, .int .i64 5, 1⟩] 2)).drew.drew = .ok () (W.alloc (.map #[⟨.int .u8 63, .int .i64 7, 0⟩, ⟨.int .u8 42, .int .i64 5, 1⟩, ⟨.int .u8 43, .int .i64 6, 2⟩] 3)).drew.drew ∧
    (Instr.mapUpdate 118 (.map (some W.heap.size)) (.int .u8 42) (.int .i64 5)).run Try.prog (W.alloc (.map #[⟨.int .u8 63, .int .i64 7, 0⟩, ⟨.int .u8 43, .int .i64 6, 1⟩] 2)).drew.drew = .ok () (W.alloc (.map #[⟨.int .u8 63, .int .i64 7, 0⟩, ⟨.int .u8 43, .int .i64 6, 1⟩, ⟨.int .u8 42, .int .i64 5, 2⟩] 3)).drew.drew := by
  have ht : Try.prog.underlying 118 = some (.map 5 3) := Try.underlying118
  have hK : Try.prog.underlying 5 = some (.int .u8) := Try.underlying5
  have k1 := @intKeys_cons .u8
  exact ⟨run_ins_new ht hK (intKeys_nil _) rfl _, run_ins_new ht hK (intKeys_nil _) rfl _, run_ins_new ht hK (intKeys_nil _) rfl _, run_ins_new ht hK (k1 (intKeys_nil _)) rfl _, run_ins_new ht hK (k1 (intKeys_nil _)) rfl _, run_ins_new ht hK (k1 (intKeys_nil _)) rfl _, run_ins_new ht hK (k1 (intKeys_nil _)) rfl _, run_ins_new ht hK (k1 (intKeys_nil _)) rfl _, run_ins_new ht hK (k1 (intKeys_nil _)) rfl _, run_ins_new ht hK (k1 (k1 (intKeys_nil _))) rfl _, run_ins_new ht hK (k1 (k1 (intKeys_nil _))) rfl _, run_ins_new ht hK (k1 (k1 (intKeys_nil _))) rfl _, run_ins_new ht hK (k1 (k1 (intKeys_nil _))) rfl _, run_ins_new ht hK (k1 (k1 (intKeys_nil _))) rfl _, run_ins_new ht hK (k1 (k1 (intKeys_nil _))) rfl _⟩
theorem rep_look (W : World) (c : UInt8) :
    (Instr.lookup 118 (.map (some W.heap.size)) (.int .u8 c.toNat) false).run Try.prog (W.alloc (.map #[⟨.int .u8 42, .int .i64 5, 0⟩, ⟨.int .u8 43, .int .i64 6, 1⟩, ⟨.int .u8 63, .int .i64 7, 2⟩] 3)).drew.drew = .ok (.int .i64 (repK c)) (W.alloc (.map #[⟨.int .u8 42, .int .i64 5, 0⟩, ⟨.int .u8 43, .int .i64 6, 1⟩, ⟨.int .u8 63, .int .i64 7, 2⟩] 3)).drew.drew ∧
    (Instr.lookup 118 (.map (some W.heap.size)) (.int .u8 c.toNat) false).run Try.prog (W.alloc (.map #[⟨.int .u8 42, .int .i64 5, 0⟩, ⟨.int .u8 63, .int .i64 7, 1⟩, ⟨.int .u8 43, .int .i64 6, 2⟩] 3)).drew.drew = .ok (.int .i64 (repK c)) (W.alloc (.map #[⟨.int .u8 42, .int .i64 5, 0⟩, ⟨.int .u8 63, .int .i64 7, 1⟩, ⟨.int .u8 43, .int .i64 6, 2⟩] 3)).drew.drew ∧
    (Instr.lookup 118 (.map (some W.heap.size)) (.int .u8 c.toNat) false).run Try.prog (W.alloc (.map #[⟨.int .u8 43, .int .i64 6, 0⟩, ⟨.int .u8 42, .int .i64 5, 1⟩, ⟨.int .u8 63, .int .i64 7, 2⟩] 3)).drew.drew = .ok (.int .i64 (repK c)) (W.alloc (.map #[⟨.int .u8 43, .int .i64 6, 0⟩, ⟨.int .u8 42, .int .i64 5, 1⟩, ⟨.int .u8 63, .int .i64 7, 2⟩] 3)).drew.drew ∧
    (Instr.lookup 118 (.map (some W.heap.size)) (.int .u8 c.toNat) false).run Try.prog (W.alloc (.map #[⟨.int .u8 43, .int .i64 6, 0⟩, ⟨.int .u8 63, .int .i64 7, 1⟩, ⟨.int .u8 42, .int .i64 5, 2⟩] 3)).drew.drew = .ok (.int .i64 (repK c)) (W.alloc (.map #[⟨.int .u8 43, .int .i64 6, 0⟩, ⟨.int .u8 63, .int .i64 7, 1⟩, ⟨.int .u8 42, .int .i64 5, 2⟩] 3)).drew.drew ∧
    (Instr.lookup 118 (.map (some W.heap.size)) (.int .u8 c.toNat) false).run Try.prog (W.alloc (.map #[⟨.int .u8 63, .int .i64 7, 0⟩, ⟨.int .u8 42, .int .i64 5, 1⟩, ⟨.int .u8 43, .int .i64 6, 2⟩] 3)).drew.drew = .ok (.int .i64 (repK c)) (W.alloc (.map #[⟨.int .u8 63, .int .i64 7, 0⟩, ⟨.int .u8 42, .int .i64 5, 1⟩, ⟨.int .u8 43, .int .i64 6, 2⟩] 3)).drew.drew ∧
    (Instr.lookup 118 (.map (some W.heap.size)) (.int .u8 c.toNat) false).run Try.prog (W.alloc (.map #[⟨.int .u8 63, .int .i64 7, 0⟩, ⟨.int .u8 43, .int .i64 6, 1⟩, ⟨.int .u8 42, .int .i64 5, 2⟩] 3)).drew.drew = .ok (.int .i64 (repK c)) (W.alloc (.map #[⟨.int .u8 63, .int .i64 7, 0⟩, ⟨.int .u8 43, .int .i64 6, 1⟩, ⟨.int .u8 42, .int .i64 5, 2⟩] 3)).drew.drew := by
  have ht : Try.prog.underlying 118 = some (.map 5 3) := Try.underlying118
  have hK : Try.prog.underlying 5 = some (.int .u8) := Try.underlying5
  have k1 := @intKeys_cons .u8
  have hz : ∀ w, (zeroValue 3).run Try.prog w = .ok (.int .i64 0) w := fun w => by kernel_rfl
  have e0 : ((c.toNat : Int) = 42) ↔ c = 42 := ⟨fun h => UInt8.toNat_inj.1 (by show c.toNat = 42; omega), fun h => by subst h; rfl⟩
  have e1 : ((c.toNat : Int) = 43) ↔ c = 43 := ⟨fun h => UInt8.toNat_inj.1 (by show c.toNat = 43; omega), fun h => by subst h; rfl⟩
  have e2 : ((c.toNat : Int) = 63) ↔ c = 63 := ⟨fun h => UInt8.toNat_inj.1 (by show c.toNat = 63; omega), fun h => by subst h; rfl⟩
  unfold repK
  refine ⟨?_, ?_, ?_, ?_, ?_, ?_⟩
  all_goals
    refine (run_look_new ht hK hz false (k1 (k1 (k1 (intKeys_nil _)))) _).trans ?_
    by_cases h0 : c = 42
    · subst h0; rfl
    · by_cases h1 : c = 43
      · subst h1; rfl
      · by_cases h2 : c = 63
        · subst h2; rfl
        · simp [findE, e0, h0, e1, h1, e2, h2]
          rfl

/-- The kind of a repeat at a place, 0 where there is none. -/
def repAt (s : List UInt8) (i : Nat) : Nat := match s[i]? with | none => 0 | some c => repK c
def repI (s : List UInt8) (i : Nat) : Nat := if repAt s i = 0 then i else i + 1
def repOps (s : List UInt8) (i pc : Nat) (out : List Op) : List Op := pieceOps pc (if repAt s i = 0 then out else out ++ [⟨repAt s i, false, []⟩])

/-- Behind the look-up. -/
structure RepR (W : World) (k : Nat) (t : Value) (w : World) : Prop where
  t : t = .int .i64 k
  fr : Fr (fun _ => False) W w

set_option maxRecDepth 100000 in
set_option maxHeartbeats 8000000 in
theorem repeat_calls (s : List UInt8) (B b : Nat) (sa : Option Addr) (sc i : Nat) (out : List Op) (pv : Value) (l : List (Nat × Nat)) (br pc : Nat) (W : World) (h : RdP B b (.slice sa s.length sc) i out pv (l ++ [(br, pc)]) W) (hs : Sl sByte W (fun k => k < B) sa sc s) (hls : s.length ≤ 100) (hi : i ≤ s.length) (hl : out.length ≤ 99999) (hn : l.length ≤ 100) (hpc : pc ≤ 100000) :
    Calls Try.prog 36 #[.pointer (some ⟨b, 0, none⟩)] W (Ret (MP W B (RdP B b (.slice sa s.length sc) (repI s i) (repOps s i pc out) pv (l ++ [(br, pc + 1)])))) := by
  have h' := h
  obtain ⟨hB, hz, ov, hbb, _, _⟩ := h'
  have hbc := blkC hbb
  have hbf := blkF hbb
  have hbl := blkL hbb
  clear hbb
  replace h := Kp.mk h
  by_cases hlt : i < s.length
  · obtain ⟨b2, off, rfl, hb2, hbn, hc⟩ := byte_at hs hlt
    have hR : repAt s i = repK s[i] := by unfold repAt; rw [List.getElem?_eq_getElem hlt]
    generalize s[i] = c at hc hR
    have hd : decide (i < s.length) = true := by simp; omega
    obtain ⟨m1, m2, m3, m4, m5, m6, m7, m8, m9, m10, m11, m12, m13, m14, m15⟩ := rep_ins W
    have hlook := rep_look W c
    have hmm := @run_makeMap Try.prog
    have hne : b2 ≠ W.heap.size ∧ b ≠ W.heap.size ∧ b2 ≠ b := by omega
    replace hs := Kp.mk hs
    have hk7 : Kp (repK c ≤ 7) := ⟨by unfold repK; split <;> (try split) <;> (try split) <;> decide⟩
    generalize repK c = k at hR hlook hk7
    obtain ⟨l1, l2, l3, l4, l5, l6⟩ := hlook
    replace hR := Kp.mk hR
    go_enter Try.func36, Try.ntmps36
    go_wp2
    refine wp_lex (by kernel_rfl) ⟨fun _ _ _ h => h.2, fun _ _ h => h⟩ (by kernel_rfl) ?_
    go_wp2
    refine fin_end (by kernel_rfl) ?_
    go_upto_region 1 with fail
    go_cut [2] (fun t wc => RepR W k t wc)
    case first =>
      go_region_held3 (fun w' => w'.cell? ⟨b, 0, none⟩ = some (.slice (some ⟨b2, off, none⟩) s.length sc) ∧ w'.cell? ⟨b, 1, none⟩ = some (.int .i64 i) ∧ w'.cell? ⟨b2, off + i, none⟩ = some (.int .u8 c.toNat)) (go_keep) (fail)
      all_goals
        go_wp2
        go_meet
        case rel => exact ⟨rfl, ((Fr.refl _ _).alloc _).drew.drew⟩
    case rest =>
      obtain ⟨rfl, hF⟩ := hcut
      clear m1 m2 m3 m4 m5 m6 m7 m8 m9 m10 m11 m12 m13 m14 m15 l1 l2 l3 l4 l5 l6 hmm hc
      have hB1 := hF.below hz (fun _ _ e => e)
      replace h := Kp.mk (h.out.keep hF.below0)
      by_cases h0 : k = 0
      · subst h0
        have hE : RdP B b (.slice (some ⟨b2, off, none⟩) s.length sc) (repI s i) (repOps s i pc out) pv (l ++ [(br, pc + 1)]) = RdP B b (.slice (some ⟨b2, off, none⟩) s.length sc) i (pieceOps pc out) pv (l ++ [(br, pc + 1)]) := by
          unfold repI repOps; rw [if_pos hR.out, if_pos hR.out]
        replace hE := Kp.mk hE
        replace hB1 := Kp.mk hB1
        go_wp2_with fail
        refine ret_mono (piece_calls B b _ i out pv l br pc _ h.out (by omega) hn hpc) ?_
        intro v w2 hP
        obtain rfl := hP.v
        replace hP := Kp.mk hP
        go_wp2
        go_end0
        rw [hE.out]
        exact ⟨rfl, hP.out.p, hB1.out.trans hP.out.fr⟩
      · have hk : 0 < k := by omega
        have hE : RdP B b (.slice (some ⟨b2, off, none⟩) s.length sc) (repI s i) (repOps s i pc out) pv (l ++ [(br, pc + 1)]) = RdP B b (.slice (some ⟨b2, off, none⟩) s.length sc) (i + 1) (pieceOps pc (out ++ [⟨k, false, []⟩])) pv (l ++ [(br, pc + 1)]) := by
          unfold repI repOps; rw [hR.out, if_neg h0, if_neg h0]
        have hk7 : k ≤ 7 := hk7.out
        replace hE := Kp.mk hE
        replace h0 := Kp.mk h0
        replace hB1 := Kp.mk hB1
        go_wp2_with fail
        refine ret_mono (op_calls B b _ i out pv _ k _ h.out (by omega) (by unfold i64ok; omega)) ?_
        intro v w2 hP
        obtain rfl := hP.v
        have hp := hP.p
        obtain ⟨_, _, ov2, hb2c, _, _⟩ := hp
        have hbc2 := blkC hb2c
        have hbf2 := blkF hb2c
        have hbl2 := blkL hb2c
        clear hb2c
        have hp2 := Kp.mk (hP.p.step (i + 1))
        have hB2 := Kp.mk (hB1.out.trans hP.fr)
        clear hP
        go_wp2_with fail
        refine ret_mono (piece_calls B b _ (i + 1) _ pv l br pc _ hp2.out (by simp; omega) hn hpc) ?_
        intro v w3 hP
        obtain rfl := hP.v
        replace hP := Kp.mk hP
        go_wp2
        go_end0
        rw [hE.out]
        exact ⟨rfl, hP.out.p, (hB2.out.setCell hB _).trans hP.out.fr⟩
  · have hR : repAt s i = 0 := by unfold repAt; rw [List.getElem?_eq_none (by omega)]
    have hE : RdP B b (.slice sa s.length sc) (repI s i) (repOps s i pc out) pv (l ++ [(br, pc + 1)]) = RdP B b (.slice sa s.length sc) i (pieceOps pc out) pv (l ++ [(br, pc + 1)]) := by
      unfold repI repOps; rw [if_pos hR, if_pos hR]
    have hd : decide (i < s.length) = false := by simp; omega
    replace hE := Kp.mk hE
    replace hR := Kp.mk hR
    clear hs
    go_enter Try.func36, Try.ntmps36
    go_wp2
    refine wp_lex (by kernel_rfl) ⟨fun _ _ _ h => h.2, fun _ _ h => h⟩ (by kernel_rfl) ?_
    go_wp2
    refine fin_end (by kernel_rfl) ?_
    go_wp2_with fail
    refine ret_mono (piece_calls B b _ i out pv l br pc _ (h.out.keep (Below.refl _ _).drew) (by omega) hn hpc) ?_
    intro v w2 hP
    obtain rfl := hP.v
    replace hP := Kp.mk hP
    go_wp2
    go_end0
    rw [hE.out]
    exact ⟨rfl, hP.out.p, (Below.refl _ _).drew.trans hP.out.fr⟩
end Go.Proofs.Ytbcifjjnnbefkaa
