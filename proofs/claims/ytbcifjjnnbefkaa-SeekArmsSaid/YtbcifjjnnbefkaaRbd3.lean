/-
  The reference of layer 9 (davitref09): Build. Conditions: the ops can be read; they make a tree.
-/
import Derived.Test.YtbcifjjnnbefkaaRbd2
import Derived.Test.YtbcifjjnnbefkaaNfa8
namespace Go.Proofs.Ytbcifjjnnbefkaa
open Go.RowKit

structure RBuildP (N : Nat) (W : World) (r : List Inst × Nat) (v : Value) (w : World) : Prop where
  v : ∃ a cap, v = .tuple #[.slice a r.1.length cap, .int .i64 r.2] ∧ Sl sInst w (N ≤ ·) a cap r.1
  fr : Below W.heap.size W w
set_option maxRecDepth 100000 in
set_option maxHeartbeats 8000000 in
theorem rbuild_calls (N : Nat) (l : List Op) (a : Option Addr) (cap : Nat) (W : World) (hN : N ≤ W.heap.size) (hl : Sl sOp W (fun k => k < W.heap.size ∧ N ≤ k) a cap l) (hn : l.length ≤ 10000) (hd : dRun 0 l = some 1) (tot : Nat × List (List Inst)) (ht : bRun 0 [] l = some tot) :
    Calls Try.prog 27 #[.slice a l.length cap] W (Ret (RBuildP N W (bEnd tot))) := by
  obtain ⟨s, e, e1, e2⟩ := bRun_dep l 0 [] 1 hd
  rw [ht] at e
  cases e
  obtain ⟨m, R⟩ := tot
  dsimp only at e1 e2
  obtain ⟨x, rfl⟩ : ∃ x, R = [x] := by
    match R, e1 with
    | [x], _ => exact ⟨x, rfl⟩
  have hmay := rmay_calls l a cap W (hl.mono fun j _ _ => ⟨trivial, rfl⟩) (by omega) hd
  have hmany := rmany_calls l a cap W (hl.mono fun j _ _ => ⟨trivial, rfl⟩) (by omega) hd
  rw [show ((1 + wOps l : Nat) : Int) = ((m + 1 : Nat) : Int) by omega] at hmany
  have hE : bEnd (m, [x]) = if 200 < m + 1 then ([], 3) else (x ++ [doneI], 0) := rfl
  by_cases h2 : 200 < m + 1
  · rw [if_pos h2] at hE
    have hd1 : decide ((200 : Int) < ((m + 1 : Nat) : Int)) = true := by simp; omega
    rw [hE]
    generalize ((m + 1 : Nat) : Int) = mi at hmany hd1
    replace hmay := Kp.mk hmay
    replace hmany := Kp.mk hmany
    clear hE ht hd e1 e2 hl
    go_enter Try.func27, Try.ntmps27
    go_wp2_with fail
    refine ret_mono hmay.out ?_
    rintro v w ⟨rfl, rfl⟩
    go_wp2_with fail
    refine ret_mono hmany.out ?_
    rintro v w ⟨rfl, rfl⟩
    go_wp2_with fail
    go_ret2
    exact ⟨⟨none, 0, rfl, Sl.nil_ _ _ _⟩, Below.refl _ _⟩
  · rw [if_neg h2] at hE
    have hd1 : decide ((200 : Int) < ((m + 1 : Nat) : Int)) = false := by simp; omega
    rw [hE]
    have hT := tree_of ht (by omega)
    have hle := hT.le
    have hlast := last_calls N l a cap hn hT W hN hl
    have hsz : x.length ≤ 100000 := by omega
    generalize ((m + 1 : Nat) : Int) = mi at hmany hd1
    generalize hL : ((0 : Nat) : Int) - 1 = L at hlast
    replace hmay := Kp.mk hmay
    replace hmany := Kp.mk hmany
    replace hlast := Kp.mk hlast
    replace hsz := Kp.mk hsz
    clear hE ht hd e1 e2 hl hT hL h2
    go_enter Try.func27, Try.ntmps27
    go_wp2_with fail
    refine ret_mono hmay.out ?_
    rintro v w ⟨rfl, rfl⟩
    go_wp2_with fail
    refine ret_mono hmany.out ?_
    rintro v w ⟨rfl, rfl⟩
    go_wp2_with fail
    refine ret_mono hlast.out ?_
    rintro v w1 ⟨v1, rfl, hAc⟩
    obtain ⟨_, _, rfl, _⟩ := hAc.sl
    replace hAc := Kp.mk hAc
    go_wp2_with (at_builtin; refine pause ?_; intro K hK)
    refine hK.out _ _ ?_
    refine wpl_acc1 rfl rfl hAc.out rfl rfl (by unfold i64ok; omega) (by unfold i64ok; omega) (by unfold i64ok; omega) hsz.out ?_
    intro v' w2 hA2
    obtain ⟨aa, ac, rfl, hS⟩ := hA2.sl
    replace hS := Kp.mk hS
    replace hA2 := Kp.mk hA2
    go_wp2_with fail
    go_ret2
    refine ⟨⟨aa, ac, by simp [doneI], ?_⟩, hA2.out.fr⟩
    exact hS.out.mono fun j hj _ => ⟨hj.2, rfl⟩
end Go.Proofs.Ytbcifjjnnbefkaa
