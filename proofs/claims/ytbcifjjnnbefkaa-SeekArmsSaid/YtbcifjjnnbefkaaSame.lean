/-
  The reference of layer 9 (davitref09): Same, at instructions that are alike. Conditions: both slices can be read.
-/
import Derived.Test.YtbcifjjnnbefkaaKnows10
import Derived.Deep.QuietTactic
import Derived.BigQuiet
namespace Go.Proofs.Ytbcifjjnnbefkaa
open Go.RowKit

structure SmI (W : World) (n : Nat) (vi : Value) (w : World) : Prop where
  k : ∃ k : Nat, k ≤ n ∧ vi = .int .i64 k
  d : ∃ m, w = W.drewN m
set_option maxRecDepth 100000 in
set_option maxHeartbeats 16000000 in
theorem same_calls (l : List Inst) (a : Option Addr) (cap : Nat) (b : Option Addr) (bc : Nat) (W : World) (ha : Sl sInst W (fun k => k < W.heap.size) a cap l) (hb : Sl sInst W (fun k => k < W.heap.size) b bc l) :
    Calls Try.prog 18 #[.slice a l.length cap, .slice b l.length bc] W (Ret fun v w => v = .bool true ∧ ∃ m, w = W.drewN m) := by
  have q1 := ha.max
  have q2 := ha.le
  unfold maxLen at q1
  replace ha := Kp.mk ha
  replace hb := Kp.mk hb
  go_enter Try.func18, Try.ntmps18
  go_wp2_with fail
  go_loopw [5] (fun i wr => SmI W l.length i wr) (fun i _ => l.length - (intOf i).toNat)
  case atStart => exact ⟨⟨0, Nat.zero_le _, rfl⟩, 0, rfl⟩
  case round =>
    obtain ⟨⟨k, hk, rfl⟩, m, rfl⟩ := hrel
    by_cases hlt : k < l.length
    · obtain ⟨b1, o1, sa, sc, rfl, hb1, _, i1, i2, i3, hsp1, c0, c1, c2, c3, c4⟩ := inst_at ha.out hlt
      obtain ⟨b2, o2, ta, tc, rfl, hb2, _, _, _, _, hsp2, d0, d1, d2, d3, d4⟩ := inst_at hb.out hlt
      have hm := hsp1.max
      have hm2 := hsp1.le
      unfold maxLen at hm
      generalize l[k] = x at *
      obtain ⟨xk, xx, xy, xn, xs⟩ := x
      dsimp only at *
      replace hsp1 := Kp.mk hsp1
      replace hsp2 := Kp.mk hsp2
      go_wp2_with fail
      have g1 : (xk != xk) = false := by simp
      have g2 : (xx != xx) = false := by simp
      have g3 : (xy != xy) = false := by simp
      have g4 : (xn != xn) = false := by simp
      have g5 : ((xs.length : Int) != (xs.length : Int)) = false := by simp
      go_quiet (fail)
      go_wp2_with fail
      go_loopw [6] (fun j w2 => SmI W xs.length j w2) (fun j _ => xs.length - (intOf j).toNat)
      case atStart => exact ⟨⟨0, Nat.zero_le _, rfl⟩, _, World.drewN_drewN _ _ _⟩
      case round =>
        obtain ⟨⟨j, hj, rfl⟩, m2, rfl⟩ := hrel
        by_cases hjl : j < xs.length
        · obtain ⟨b3, o3, rfl, hb3, _, g0, g1⟩ := span_at hsp1.out hjl
          obtain ⟨b4, o4, rfl, hb4, _, h0, h1⟩ := span_at hsp2.out hjl
          go_wp2_with fail
          go_quiet (fail)
          go_wp2_with fail
          go_roundw
          case rel => exact ⟨⟨j + 1, hjl, by go_num⟩, _, rfl⟩
          case measure => simp [intOf]; omega
        · obtain rfl : j = xs.length := by omega
          go_wp2_with fail
          go_roundw
          case rel => exact ⟨⟨k + 1, hlt, by go_num⟩, _, rfl⟩
          case measure => simp [intOf]; omega
    · obtain rfl : k = l.length := by omega
      go_wp2_with fail
      go_ret
      exact ⟨rfl, _, rfl⟩
end Go.Proofs.Ytbcifjjnnbefkaa
