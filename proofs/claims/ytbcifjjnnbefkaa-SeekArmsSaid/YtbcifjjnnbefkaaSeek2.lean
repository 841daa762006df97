/-
  Package seek: the runner's done and take. Conditions: the runner's block holds its fields, the instructions can be read.
-/
import Derived.Test.YtbcifjjnnbefkaaSeek1
namespace Go.Proofs.Ytbcifjjnnbefkaa
open Go.RowKit

/-- What the first k instructions say of 'done'. -/
def doneF (p : List Inst) (ts : List Nat) : Nat → Nat
  | 0 => 0
  | k + 1 => if (p.getD k default).kind = 4 ∧ 0 < ts.getD k 0 ∧ (doneF p ts k = 0 ∨ ts.getD k 0 < doneF p ts k) then ts.getD k 0 else doneF p ts k
def doneM (p : List Inst) (ts : List Nat) : Nat := doneF p ts (p.length)

structure DoneI (W : World) (p : List Inst) (ts : List Nat) (vi vb : Value) (w : World) : Prop where
  k : ∃ k : Nat, k ≤ p.length ∧ vi = .int .i64 k ∧ vb = .int .i64 (doneF p ts k)
  fr : Below W.heap.size W w

set_option maxRecDepth 100000 in
set_option maxHeartbeats 8000000 in
theorem done_calls (p : List Inst) (pa : Option Addr) (pc g o : Nat) (L R : List Value) (ho : L[o]? = some (.slice pa p.length pc)) (hL : L.length = o + 1) (ts : List Nat) (W : World)
    (hg : W.heap[g]? = some (.cells (L ++ nts ts ++ R).toArray 90)) (hs : Sl sInst W (fun k => k ≠ g) pa pc p) (hts : ts.length = 200) (hp : p.length ≤ 200) :
    Calls Try.prog 29 #[.pointer (some ⟨g, o, none⟩)] W (Ret fun v w => v = .int .i64 (doneM p ts) ∧ Below W.heap.size W w) := by
  have hco : W.cell? ⟨g, o, none⟩ = some (.slice pa p.length pc) := by rw [List.append_assoc] at hg; exact mid_left hg ho
  have hgl := blkL hg
  have hpl : p.length ≤ 9223372036854775807 := by have := hs.le; have := hs.max; unfold maxLen at this; omega
  have hpc := hs.le
  replace hs := Kp.mk hs
  replace hg := Kp.mk hg
  replace ho := Kp.mk ho
  replace hL := Kp.mk hL
  replace hts := Kp.mk hts
  go_enter Try.func29, Try.ntmps29
  go_wp2_with fail
  refine wp_lex (by kernel_rfl) ⟨fun _ _ _ h => h.2, fun _ _ h => h⟩ (by kernel_rfl) ?_
  go_wp2_with fail
  refine fin_end (by kernel_rfl) ?_
  go_wp2_with fail
  go_loopw [19, 3] (fun i v wr => DoneI W p ts i v wr) (fun i _ _ => p.length - (intOf i).toNat)
  case atStart => exact ⟨⟨0, Nat.zero_le _, rfl, rfl⟩, (Below.refl _ _).drew⟩
  case round =>
    obtain ⟨⟨k, hk, rfl, rfl⟩, hB⟩ := hrel
    by_cases hlt : k < p.length
    · obtain ⟨pb, off, sa, sc, rfl, hpb, hpn, i1, i2, i3, hsp, c0, c1, c2, c3, c4⟩ := inst_at (hs.out.mono (A' := fun k => k ≠ g) fun j hj hl => ⟨hj, hB.block j hl⟩) hlt
      have hgw := (hB.block g hgl).trans hg.out
      have hck := mid_cell hgw (k := k) (by rw [hts.out]; omega)
      rw [hL.out] at hck
      have hE : doneF p ts (k + 1) = if p[k].kind = 4 ∧ 0 < ts[k]'(by rw [hts.out]; omega) ∧ (doneF p ts k = 0 ∨ ts[k]'(by rw [hts.out]; omega) < doneF p ts k) then ts[k]'(by rw [hts.out]; omega) else doneF p ts k := by
        simp only [doneF]; rw [getD_of hlt, getD_of (by rw [hts.out]; omega)]
      generalize ts[k]'(by rw [hts.out]; omega) = b at hck hE
      generalize p[k] = x at *
      generalize doneF p ts k = d at hE ⊢
      have hgl2 := blkL hgw
      replace hgw := Kp.mk hgw
      by_cases a : x.kind = 4 ∧ 0 < b ∧ (d = 0 ∨ b < d)
      · rw [if_pos a] at hE
        replace hE := Kp.mk hE
        obtain ⟨a1, a2, a3⟩ := a
        have e1 : (x.kind == 4) = true := by simpa using a1
        have e2 : decide (0 < b) = true := by simpa using a2
        have e3 : (((d : Int) == 0) = true ∧ 0 = 0) ∨ (((d : Int) == 0) = false ∧ decide (b < d) = true) := by
          by_cases h : d = 0
          · exact .inl ⟨by simpa using h, rfl⟩
          · exact .inr ⟨by simpa using h, by simp; omega⟩
        replace a1 := Kp.mk a1
        clear a3
        rcases e3 with ⟨e3, e4⟩ | ⟨e3, e4⟩
        all_goals
          go_wp2_with fail
          go_roundw
          case rel => exact ⟨⟨k + 1, hlt, by go_num, by rw [hE.out]⟩, hB.alloc hB.size _⟩
          case measure => simp [intOf]; omega
      · rw [if_neg a] at hE
        replace hE := Kp.mk hE
        have e1 : ((x.kind == 4) = false ∧ 0 = 0 ∧ 0 = 0) ∨ ((x.kind == 4) = true ∧ decide (0 < b) = false ∧ 0 = 0) ∨ ((x.kind == 4) = true ∧ decide (0 < b) = true ∧ ((d : Int) == 0) = false ∧ decide (b < d) = false) := by
          by_cases h1 : x.kind = 4
          · by_cases h2 : 0 < b
            · have h3 : ¬ d = 0 := fun h => a ⟨h1, h2, .inl h⟩
              have h4 : ¬ b < d := fun h => a ⟨h1, h2, .inr h⟩
              exact .inr (.inr ⟨by simpa using h1, by simpa using h2, by simpa using h3, by simpa using h4⟩)
            · exact .inr (.inl ⟨by simpa using h1, by simpa using h2, rfl⟩)
          · exact .inl ⟨by simpa using h1, rfl, rfl⟩
        replace a := Kp.mk a
        rcases e1 with ⟨e1, e2, e3⟩ | ⟨e1, e2, e3⟩ | ⟨e1, e2, e3, e4⟩
        all_goals
          go_wp2_with fail
          go_roundw
          case rel => exact ⟨⟨k + 1, hlt, by go_num, by rw [hE.out]⟩, hB.alloc hB.size _⟩
          case measure => simp [intOf]; omega
    · obtain rfl : k = p.length := by omega
      go_wp2_with fail
      go_ret
      exact ⟨rfl, hB⟩
end Go.Proofs.Ytbcifjjnnbefkaa
