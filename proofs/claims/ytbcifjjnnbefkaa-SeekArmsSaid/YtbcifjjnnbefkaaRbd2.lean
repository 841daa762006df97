/-
  The reference of layer 9 (davitref09): last. Conditions: the ops can be read; they make a tree.
-/
import Derived.Test.YtbcifjjnnbefkaaRbd1
namespace Go.Proofs.Ytbcifjjnnbefkaa
open Go.RowKit

/-- What is put together behind a world: instructions in a slice of its own. -/
structure Acc (N : Nat) (W : World) (v : Value) (acc : List Inst) (w : World) : Prop where
  ow : Ow 33 sInst w (N ≤ ·) v acc
  own : ∀ k, v.ownBlock = some k → W.heap.size ≤ k
  fr : Below W.heap.size W w
  le : N ≤ W.heap.size
theorem Acc.nil (N : Nat) (W : World) (h : N ≤ W.heap.size) : Acc N W (.slice none 0 0) [] W := ⟨Ow.nil _ _ _ _, fun k e => (by cases e), Below.refl _ _, h⟩
theorem instK (w : World) (A : Nat → Prop) (k x y : Int) (hk : i64ok k) (hx : i64ok x) (hy : i64ok y) : sInst.R w A (#[.int .i64 k, .int .i64 x, .int .i64 y, .bool false, .slice none 0 0] : Array Value).toList ⟨k, x, y, false, []⟩ := ⟨none, 0, rfl, hk, hx, hy, Sl.nil_ _ _ _⟩
theorem wpl_acc1 {N : Nat} {W w : World} {ops : Array Oper} {rest : List Oper} {o : Oper} {a : Act} {Q : Exit → Act → World → Prop} {sx x : Operand} (hgd : o.guard = none)
    (ho : o.op = .call { callee := .builtin .append, args := #[sx, x], argTypes := #[26, 26] })
    {v : Value} {l : List Inst} (hA : Acc N W v l w) (hs : a.eval sx = v) {k kx ky : Int} (hx : a.eval x = .slice (some ⟨w.heap.size, 0, none⟩) 1 1) (hk : i64ok k) (hkx : i64ok kx) (hky : i64ok ky) (hb : l.length ≤ 100000)
    (h : ∀ v' w', Acc N W v' (l ++ [⟨k, kx, ky, false, []⟩]) w' → wpList Try.prog ops Q rest (a.put o.dst v') w') : wpList Try.prog ops Q (o :: rest) a (w.alloc (.cells #[.int .i64 k, .int .i64 kx, .int .i64 ky, .bool false, .slice none 0 0] 33)) :=
  wpl_append1 (w := w) (y := ⟨k, kx, ky, false, []⟩) ty_rInst hgd ho hs hA.ow hx (instK _ _ k kx ky hk hkx hky) (heap_alloc_new _ _) ((Fr.refl _ _).alloc _) (by omega) (fun _ hk => Nat.le_trans hA.le (Nat.le_trans hA.fr.size hk)) fun v' w' hO hF hd =>
    h v' w' ⟨hO, fun k e => by
      rcases hd with e' | ⟨g, e', hg⟩
      · exact hA.own k (e' ▸ e)
      · rw [e'] at e; cases e; exact Nat.le_trans hA.fr.size hg, hA.fr.trans (hF.below hA.fr.size fun k hk e => by have := hA.own k e; omega), hA.le⟩
theorem wpl_accS {N : Nat} {W w : World} {ops : Array Oper} {rest : List Oper} {o : Oper} {a : Act} {Q : Exit → Act → World → Prop} {sx x : Operand} (hgd : o.guard = none)
    (ho : o.op = .call { callee := .builtin .append, args := #[sx, x], argTypes := #[26, 26] })
    {v : Value} {l l2 : List Inst} (hA : Acc N W v l w) (hs : a.eval sx = v) {sa : Option Addr} {c : Nat} (hx : a.eval x = .slice sa l2.length c) (hS : Sl sInst W (fun k => k < W.heap.size ∧ N ≤ k) sa c l2) (hb : l.length + l2.length ≤ 100000)
    (h : ∀ v' w', Acc N W v' (l ++ l2) w' → wpList Try.prog ops Q rest (a.put o.dst v') w') : wpList Try.prog ops Q (o :: rest) a w :=
  wpl_appendS ty_rInst hgd ho hs hA.ow hx (hS.mono fun j hj _ => ⟨⟨hj.2, fun e => by have := hA.own j e; have := hj.1; omega⟩, hA.fr.block j hj.1⟩) (by omega) (fun _ hk => Nat.le_trans hA.le (Nat.le_trans hA.fr.size hk)) fun v' w' hO hF hd =>
    h v' w' ⟨hO, fun k e => by
      rcases hd with e' | ⟨g, e', hg⟩
      · exact hA.own k (e' ▸ e)
      · rw [e'] at e; cases e; exact Nat.le_trans hA.fr.size hg, hA.fr.trans (hF.below hA.fr.size fun k hk e => by have := hA.own k e; omega), hA.le⟩

theorem Acc.fin {N : Nat} {W : World} {v v' : Value} {l l' : List Inst} {w : World} (h : Acc N W v l w) (hv : v = v') (hl : l = l') : Acc N W v' l' w := hv ▸ hl ▸ h
theorem Acc.up {N : Nat} {W W1 : World} {v : Value} {l : List Inst} {w : World} (h : Acc N W1 v l w) (hn : N ≤ W.heap.size) (hB : Below W.heap.size W W1) : Acc N W v l w := ⟨h.ow, fun k e => Nat.le_trans hB.size (h.own k e), hB.trans (h.fr.mono hB.size), hn⟩
structure LastP (N : Nat) (W : World) (x : List Inst) (ahead : Int) (v : Value) (w : World) : Prop where
  v : ∃ v1, v = .tuple #[v1, .int .i64 ahead] ∧ Acc N W v1 x w
theorem Acc.sl {N : Nat} {W : World} {v : Value} {x : List Inst} {w : World} (h : Acc N W v x w) : ∃ a c, v = .slice a x.length c ∧ Sl sInst w (fun k => k < w.heap.size ∧ N ≤ k) a c x := by
  obtain ⟨a, c, e, hS, _⟩ := h.ow.val
  exact ⟨a, c, e, hS.mono fun j hj hl => ⟨⟨hl, hj⟩, rfl⟩⟩

set_option maxRecDepth 100000 in
set_option maxHeartbeats 32000000 in
theorem last_calls (N : Nat) (l : List Op) (a : Option Addr) (cap : Nat) (hn : l.length ≤ 10000) {lo hi : Nat} {x : List Inst} (ht : Tree l lo hi x) : ∀ (W : World), N ≤ W.heap.size → Sl sOp W (fun k => k < W.heap.size ∧ N ≤ k) a cap l →
    Calls Try.prog 51 #[.slice a l.length cap, .int .i64 ((hi : Int) - 1)] W (Ret (LastP N W x ((lo : Int) - 1))) := by
  induction ht with
  | @one i o ho hk =>
    intro W hN hl
    have hlt := (List.getElem?_eq_some_iff.1 ho).1
    have he : l[i] = o := (List.getElem?_eq_some_iff.1 ho).2
    obtain ⟨b, off, va, vc, rfl, hb, hA, c0, c1, c2, hS⟩ := op_at hl hlt
    rw [he] at c0 c1 c2 hS
    rw [hk] at c0
    rw [show ((i + 1 : Nat) : Int) - 1 = (i : Int) by omega]
    have hz : (W.alloc (.cells #[.int .i64 1, .bool o.neg, .slice va o.spans.length vc] 126)).heap.size = W.heap.size + 1 := by simp
    have hAcc : Acc N W (.slice (some ⟨W.heap.size + 1, 0, none⟩) 1 1) [oneI o.neg o.spans] ((W.alloc (.cells #[.int .i64 1, .bool o.neg, .slice va o.spans.length vc] 126)).alloc (.cells #[.int .i64 1, .int .i64 0, .int .i64 0, .bool o.neg, .slice va o.spans.length vc] 33)) := by
      refine ⟨?_, fun k e => by have e' : W.heap.size + 1 = k := (by simpa [Value.ownBlock] using e); omega, ((Below.refl _ _).alloc (Nat.le_refl _) _).alloc (by simp) _, hN⟩
      have h := Ow.made (E := 33) (s := sInst) (w := W.alloc (.cells #[.int .i64 1, .bool o.neg, .slice va o.spans.length vc] 126)) (A := (N ≤ ·)) (by simp; omega) (c := #[.int .i64 1, .int .i64 0, .int .i64 0, .bool o.neg, .slice va o.spans.length vc]) (l := [oneI o.neg o.spans])
        (Rows.one ⟨va, vc, rfl, by simp [oneI, i64ok], by simp [oneI, i64ok], by simp [oneI, i64ok], hS.mono fun j hj hl => ⟨⟨hj.2, by have := hj.1; simp; omega⟩, Below.heap_alloc _ _ _ hl⟩⟩) (show 1 ≤ maxLen by decide)
      rw [hz] at h
      exact h
    replace hAcc := Kp.mk hAcc
    replace hz := Kp.mk hz
    replace hS := Kp.mk hS
    replace hl := Kp.mk hl
    replace ho := Kp.mk ho
    replace he := Kp.mk he
    replace hk := Kp.mk hk
    go_enter Try.func51, Try.ntmps51
    go_wp2_with fail
    go_ret2
    exact ⟨_, rfl, hAcc.out⟩
  | @none i o ho hk =>
    intro W hN hl
    have hlt := (List.getElem?_eq_some_iff.1 ho).1
    have he : l[i] = o := (List.getElem?_eq_some_iff.1 ho).2
    obtain ⟨b, off, va, vc, rfl, hb, hA, c0, c1, c2, hS⟩ := op_at hl hlt
    rw [he] at c0 c1 c2 hS
    rw [hk] at c0
    rw [show ((i + 1 : Nat) : Int) - 1 = (i : Int) by omega]
    replace hS := Kp.mk hS
    replace hl := Kp.mk hl
    replace ho := Kp.mk ho
    replace he := Kp.mk he
    replace hk := Kp.mk hk
    go_enter Try.func51, Try.ntmps51
    go_wp2_with fail
    go_ret2
    exact ⟨_, rfl, Ow.nil _ _ _ _, fun k e => (by cases e), (Below.refl _ _).alloc (Nat.le_refl _) _, hN⟩
  | @star lo i o bb htb ho hk ih =>
    intro W hN hl
    have hlt := (List.getElem?_eq_some_iff.1 ho).1
    have he : l[i] = o := (List.getElem?_eq_some_iff.1 ho).2
    have hle := htb.le
    obtain ⟨b, off, va, vc, rfl, hb, hA, c0, c1, c2, hS⟩ := op_at hl hlt
    rw [he] at c0 c1 c2 hS
    rw [hk] at c0
    rw [show ((i + 1 : Nat) : Int) - 1 = (i : Int) by omega]
    have hBa : Below W.heap.size W (W.alloc (.cells #[.int .i64 5, .bool o.neg, .slice va o.spans.length vc] 126)) := (Below.refl _ _).alloc (Nat.le_refl _) _
    have hbx := heap_alloc_new W (.cells #[.int .i64 5, .bool o.neg, .slice va o.spans.length vc] 126)
    have hcall := ih (W.alloc (.cells #[.int .i64 5, .bool o.neg, .slice va o.spans.length vc] 126)) (by simp; omega) (hl.mono fun j hj _ => ⟨⟨by have := hj.1; simp; omega, hj.2⟩, hBa.block j hj.1⟩)
    replace hcall := Kp.mk hcall
    replace hBa := Kp.mk hBa
    replace hbx := Kp.mk hbx
    replace hS := Kp.mk hS
    replace hl := Kp.mk hl
    replace ho := Kp.mk ho
    replace he := Kp.mk he
    replace hk := Kp.mk hk
    replace ih := Kp.mk ih
    go_enter Try.func51, Try.ntmps51
    go_wp2_with fail
    refine ret_mono hcall.out ?_
    rintro v w1 ⟨v1, rfl, hAc⟩
    obtain ⟨sa, sc, rfl, hSb⟩ := hAc.sl
    have hbx1 := (hAc.fr.block _ (by simp)).trans hbx.out
    have hbc := blkC hbx1
    have hBb := hBa.out.trans (hAc.fr.mono (by simp))
    have hA0 := Acc.nil N w1 (Nat.le_trans hN hBb.size)
    replace hSb := Kp.mk hSb
    replace hBb := Kp.mk hBb
    replace hA0 := Kp.mk hA0
    clear hAc hbx1
    go_wp2_with (at_builtin; refine pause ?_; intro K hK)
    refine hK.out _ _ ?_
    refine wpl_acc1 rfl rfl hA0.out rfl rfl (by unfold i64ok; omega) (by unfold i64ok; omega) (by unfold i64ok; omega) (by (try simp); (try omega)) ?_
    intro v' w11 hA1
    obtain ⟨_, _, rfl, _⟩ := hA1.sl
    replace hA1 := Kp.mk hA1
    go_wp2_with (at_builtin; refine pause ?_; intro K hK)
    refine hK.out _ _ ?_
    refine wpl_accS rfl rfl hA1.out (by first | rfl | (simp; rfl)) rfl hSb.out (by (try simp); (try omega)) ?_
    intro v' w12 hA2
    obtain ⟨_, _, rfl, _⟩ := hA2.sl
    replace hA2 := Kp.mk hA2
    go_wp2_with (at_builtin; refine pause ?_; intro K hK)
    refine hK.out _ _ ?_
    refine wpl_acc1 rfl rfl hA2.out rfl rfl (by unfold i64ok; omega) (by unfold i64ok; omega) (by unfold i64ok; omega) (by (try simp); (try omega)) ?_
    intro v' w13 hA3
    obtain ⟨_, _, rfl, _⟩ := hA3.sl
    replace hA3 := Kp.mk hA3
    go_wp2_with fail
    go_ret2
    refine ⟨_, rfl, ?_⟩
    exact (hA3.out.up hN hBb.out).fin (by simp) (by (try simp [twoI, goI]); (try omega))
  | @plus lo i o bb htb ho hk ih =>
    intro W hN hl
    have hlt := (List.getElem?_eq_some_iff.1 ho).1
    have he : l[i] = o := (List.getElem?_eq_some_iff.1 ho).2
    have hle := htb.le
    obtain ⟨b, off, va, vc, rfl, hb, hA, c0, c1, c2, hS⟩ := op_at hl hlt
    rw [he] at c0 c1 c2 hS
    rw [hk] at c0
    rw [show ((i + 1 : Nat) : Int) - 1 = (i : Int) by omega]
    have hBa : Below W.heap.size W (W.alloc (.cells #[.int .i64 6, .bool o.neg, .slice va o.spans.length vc] 126)) := (Below.refl _ _).alloc (Nat.le_refl _) _
    have hbx := heap_alloc_new W (.cells #[.int .i64 6, .bool o.neg, .slice va o.spans.length vc] 126)
    have hcall := ih (W.alloc (.cells #[.int .i64 6, .bool o.neg, .slice va o.spans.length vc] 126)) (by simp; omega) (hl.mono fun j hj _ => ⟨⟨by have := hj.1; simp; omega, hj.2⟩, hBa.block j hj.1⟩)
    replace hcall := Kp.mk hcall
    replace hBa := Kp.mk hBa
    replace hbx := Kp.mk hbx
    replace hS := Kp.mk hS
    replace hl := Kp.mk hl
    replace ho := Kp.mk ho
    replace he := Kp.mk he
    replace hk := Kp.mk hk
    replace ih := Kp.mk ih
    go_enter Try.func51, Try.ntmps51
    go_wp2_with fail
    refine ret_mono hcall.out ?_
    rintro v w1 ⟨v1, rfl, hAc⟩
    obtain ⟨sa, sc, rfl, hSb⟩ := hAc.sl
    have hbx1 := (hAc.fr.block _ (by simp)).trans hbx.out
    have hbc := blkC hbx1
    have hBb := hBa.out.trans (hAc.fr.mono (by simp))
    have hA0 := Acc.nil N w1 (Nat.le_trans hN hBb.size)
    replace hSb := Kp.mk hSb
    replace hBb := Kp.mk hBb
    replace hA0 := Kp.mk hA0
    clear hAc hbx1
    go_wp2_with (at_builtin; refine pause ?_; intro K hK)
    refine hK.out _ _ ?_
    refine wpl_accS rfl rfl hA0.out (by first | rfl | (simp; rfl)) rfl hSb.out (by (try simp); (try omega)) ?_
    intro v' w11 hA1
    obtain ⟨_, _, rfl, _⟩ := hA1.sl
    replace hA1 := Kp.mk hA1
    go_wp2_with (at_builtin; refine pause ?_; intro K hK)
    refine hK.out _ _ ?_
    refine wpl_acc1 rfl rfl hA1.out rfl rfl (by unfold i64ok; omega) (by unfold i64ok; omega) (by unfold i64ok; omega) (by (try simp); (try omega)) ?_
    intro v' w12 hA2
    obtain ⟨_, _, rfl, _⟩ := hA2.sl
    replace hA2 := Kp.mk hA2
    go_wp2_with fail
    go_ret2
    refine ⟨_, rfl, ?_⟩
    exact (hA2.out.up hN hBb.out).fin (by simp) (by (try simp [twoI]); (try omega))
  | @opt lo i o bb htb ho hk ih =>
    intro W hN hl
    have hlt := (List.getElem?_eq_some_iff.1 ho).1
    have he : l[i] = o := (List.getElem?_eq_some_iff.1 ho).2
    have hle := htb.le
    obtain ⟨b, off, va, vc, rfl, hb, hA, c0, c1, c2, hS⟩ := op_at hl hlt
    rw [he] at c0 c1 c2 hS
    rw [hk] at c0
    rw [show ((i + 1 : Nat) : Int) - 1 = (i : Int) by omega]
    have hBa : Below W.heap.size W (W.alloc (.cells #[.int .i64 7, .bool o.neg, .slice va o.spans.length vc] 126)) := (Below.refl _ _).alloc (Nat.le_refl _) _
    have hbx := heap_alloc_new W (.cells #[.int .i64 7, .bool o.neg, .slice va o.spans.length vc] 126)
    have hcall := ih (W.alloc (.cells #[.int .i64 7, .bool o.neg, .slice va o.spans.length vc] 126)) (by simp; omega) (hl.mono fun j hj _ => ⟨⟨by have := hj.1; simp; omega, hj.2⟩, hBa.block j hj.1⟩)
    replace hcall := Kp.mk hcall
    replace hBa := Kp.mk hBa
    replace hbx := Kp.mk hbx
    replace hS := Kp.mk hS
    replace hl := Kp.mk hl
    replace ho := Kp.mk ho
    replace he := Kp.mk he
    replace hk := Kp.mk hk
    replace ih := Kp.mk ih
    go_enter Try.func51, Try.ntmps51
    go_wp2_with fail
    refine ret_mono hcall.out ?_
    rintro v w1 ⟨v1, rfl, hAc⟩
    obtain ⟨sa, sc, rfl, hSb⟩ := hAc.sl
    have hbx1 := (hAc.fr.block _ (by simp)).trans hbx.out
    have hbc := blkC hbx1
    have hBb := hBa.out.trans (hAc.fr.mono (by simp))
    have hA0 := Acc.nil N w1 (Nat.le_trans hN hBb.size)
    replace hSb := Kp.mk hSb
    replace hBb := Kp.mk hBb
    replace hA0 := Kp.mk hA0
    clear hAc hbx1
    go_wp2_with (at_builtin; refine pause ?_; intro K hK)
    refine hK.out _ _ ?_
    refine wpl_acc1 rfl rfl hA0.out rfl rfl (by unfold i64ok; omega) (by unfold i64ok; omega) (by unfold i64ok; omega) (by (try simp); (try omega)) ?_
    intro v' w11 hA1
    obtain ⟨_, _, rfl, _⟩ := hA1.sl
    replace hA1 := Kp.mk hA1
    go_wp2_with (at_builtin; refine pause ?_; intro K hK)
    refine hK.out _ _ ?_
    refine wpl_accS rfl rfl hA1.out (by first | rfl | (simp; rfl)) rfl hSb.out (by (try simp); (try omega)) ?_
    intro v' w12 hA2
    obtain ⟨_, _, rfl, _⟩ := hA2.sl
    replace hA2 := Kp.mk hA2
    go_wp2_with fail
    go_ret2
    refine ⟨_, rfl, ?_⟩
    exact (hA2.out.up hN hBb.out).fin (by simp) (by (try simp [twoI]); (try omega))
  | @cat lo m i o aa bb hta htb ho hk ih2 ih =>
    have hle2 := hta.le
    intro W hN hl
    have hlt := (List.getElem?_eq_some_iff.1 ho).1
    have he : l[i] = o := (List.getElem?_eq_some_iff.1 ho).2
    have hle := htb.le
    obtain ⟨b, off, va, vc, rfl, hb, hA, c0, c1, c2, hS⟩ := op_at hl hlt
    rw [he] at c0 c1 c2 hS
    rw [hk] at c0
    rw [show ((i + 1 : Nat) : Int) - 1 = (i : Int) by omega]
    have hBa : Below W.heap.size W (W.alloc (.cells #[.int .i64 3, .bool o.neg, .slice va o.spans.length vc] 126)) := (Below.refl _ _).alloc (Nat.le_refl _) _
    have hbx := heap_alloc_new W (.cells #[.int .i64 3, .bool o.neg, .slice va o.spans.length vc] 126)
    have hcall := ih (W.alloc (.cells #[.int .i64 3, .bool o.neg, .slice va o.spans.length vc] 126)) (by simp; omega) (hl.mono fun j hj _ => ⟨⟨by have := hj.1; simp; omega, hj.2⟩, hBa.block j hj.1⟩)
    replace hcall := Kp.mk hcall
    replace hBa := Kp.mk hBa
    replace hbx := Kp.mk hbx
    replace hS := Kp.mk hS
    replace hl := Kp.mk hl
    replace ho := Kp.mk ho
    replace he := Kp.mk he
    replace hk := Kp.mk hk
    replace ih := Kp.mk ih
    go_enter Try.func51, Try.ntmps51
    go_wp2_with fail
    refine ret_mono hcall.out ?_
    rintro v w1 ⟨v1, rfl, hAc⟩
    obtain ⟨sa, sc, rfl, hSb⟩ := hAc.sl
    have hbx1 := (hAc.fr.block _ (by simp)).trans hbx.out
    have hbc := blkC hbx1
    have hBb := hBa.out.trans (hAc.fr.mono (by simp))
    have hz1 : W.heap.size < w1.heap.size := by have := hAc.fr.size; simp at this; omega
    have hcall2 := ih2 w1 (Nat.le_trans hN hBb.size) (hl.out.mono fun j hj _ => ⟨⟨by have := hj.1; omega, hj.2⟩, hBb.block j hj.1⟩)
    replace hcall2 := Kp.mk hcall2
    replace hBb := Kp.mk hBb
    replace hSb := Kp.mk hSb
    replace ih2 := Kp.mk ih2
    replace hbx1 := Kp.mk hbx1
    clear hAc
    go_wp2_with fail
    refine ret_mono hcall2.out ?_
    rintro v w2 ⟨v2, rfl, hAc2⟩
    obtain ⟨ta, tc, rfl, hSa⟩ := hAc2.sl
    have hz2 := hAc2.fr.size
    have hbx2 := (hAc2.fr.block _ hz1).trans hbx1.out
    have hbc2 := blkC hbx2
    have hBb2 := hBb.out.trans (hAc2.fr.mono (by omega))
    have hSb2 : Sl sInst w2 (fun k => k < w2.heap.size ∧ N ≤ k) sa sc bb := hSb.out.mono fun j hj _ => ⟨⟨by have := hj.1; omega, hj.2⟩, hAc2.fr.block j hj.1⟩
    have hA0 := Acc.nil N w2 (Nat.le_trans hN hBb2.size)
    replace hSa := Kp.mk hSa
    replace hSb2 := Kp.mk hSb2
    replace hBb2 := Kp.mk hBb2
    replace hA0 := Kp.mk hA0
    replace hbx2 := Kp.mk hbx2
    clear hAc2 hbc
    go_wp2_with (at_builtin; refine pause ?_; intro K hK)
    refine hK.out _ _ ?_
    refine wpl_accS rfl rfl hA0.out (by first | rfl | (simp; rfl)) rfl hSa.out (by (try simp); (try omega)) ?_
    intro v' w11 hA1
    obtain ⟨_, _, rfl, _⟩ := hA1.sl
    replace hA1 := Kp.mk hA1
    go_wp2_with (at_builtin; refine pause ?_; intro K hK)
    refine hK.out _ _ ?_
    refine wpl_accS rfl rfl hA1.out (by first | rfl | (simp; rfl)) rfl hSb2.out (by (try simp); (try omega)) ?_
    intro v' w12 hA2
    obtain ⟨_, _, rfl, _⟩ := hA2.sl
    replace hA2 := Kp.mk hA2
    go_wp2_with fail
    go_ret2
    refine ⟨_, rfl, ?_⟩
    exact (hA2.out.up hN hBb2.out).fin (by simp) (by (try simp); (try omega))
  | @alt lo m i o aa bb hta htb ho hk ih2 ih =>
    have hle2 := hta.le
    intro W hN hl
    have hlt := (List.getElem?_eq_some_iff.1 ho).1
    have he : l[i] = o := (List.getElem?_eq_some_iff.1 ho).2
    have hle := htb.le
    obtain ⟨b, off, va, vc, rfl, hb, hA, c0, c1, c2, hS⟩ := op_at hl hlt
    rw [he] at c0 c1 c2 hS
    rw [hk] at c0
    rw [show ((i + 1 : Nat) : Int) - 1 = (i : Int) by omega]
    have hBa : Below W.heap.size W (W.alloc (.cells #[.int .i64 4, .bool o.neg, .slice va o.spans.length vc] 126)) := (Below.refl _ _).alloc (Nat.le_refl _) _
    have hbx := heap_alloc_new W (.cells #[.int .i64 4, .bool o.neg, .slice va o.spans.length vc] 126)
    have hcall := ih (W.alloc (.cells #[.int .i64 4, .bool o.neg, .slice va o.spans.length vc] 126)) (by simp; omega) (hl.mono fun j hj _ => ⟨⟨by have := hj.1; simp; omega, hj.2⟩, hBa.block j hj.1⟩)
    replace hcall := Kp.mk hcall
    replace hBa := Kp.mk hBa
    replace hbx := Kp.mk hbx
    replace hS := Kp.mk hS
    replace hl := Kp.mk hl
    replace ho := Kp.mk ho
    replace he := Kp.mk he
    replace hk := Kp.mk hk
    replace ih := Kp.mk ih
    go_enter Try.func51, Try.ntmps51
    go_wp2_with fail
    refine ret_mono hcall.out ?_
    rintro v w1 ⟨v1, rfl, hAc⟩
    obtain ⟨sa, sc, rfl, hSb⟩ := hAc.sl
    have hbx1 := (hAc.fr.block _ (by simp)).trans hbx.out
    have hbc := blkC hbx1
    have hBb := hBa.out.trans (hAc.fr.mono (by simp))
    have hz1 : W.heap.size < w1.heap.size := by have := hAc.fr.size; simp at this; omega
    have hcall2 := ih2 w1 (Nat.le_trans hN hBb.size) (hl.out.mono fun j hj _ => ⟨⟨by have := hj.1; omega, hj.2⟩, hBb.block j hj.1⟩)
    replace hcall2 := Kp.mk hcall2
    replace hBb := Kp.mk hBb
    replace hSb := Kp.mk hSb
    replace ih2 := Kp.mk ih2
    replace hbx1 := Kp.mk hbx1
    clear hAc
    go_wp2_with fail
    refine ret_mono hcall2.out ?_
    rintro v w2 ⟨v2, rfl, hAc2⟩
    obtain ⟨ta, tc, rfl, hSa⟩ := hAc2.sl
    have hz2 := hAc2.fr.size
    have hbx2 := (hAc2.fr.block _ hz1).trans hbx1.out
    have hbc2 := blkC hbx2
    have hBb2 := hBb.out.trans (hAc2.fr.mono (by omega))
    have hSb2 : Sl sInst w2 (fun k => k < w2.heap.size ∧ N ≤ k) sa sc bb := hSb.out.mono fun j hj _ => ⟨⟨by have := hj.1; omega, hj.2⟩, hAc2.fr.block j hj.1⟩
    have hA0 := Acc.nil N w2 (Nat.le_trans hN hBb2.size)
    replace hSa := Kp.mk hSa
    replace hSb2 := Kp.mk hSb2
    replace hBb2 := Kp.mk hBb2
    replace hA0 := Kp.mk hA0
    replace hbx2 := Kp.mk hbx2
    clear hAc2 hbc
    go_wp2_with (at_builtin; refine pause ?_; intro K hK)
    refine hK.out _ _ ?_
    refine wpl_acc1 rfl rfl hA0.out rfl rfl (by unfold i64ok; omega) (by unfold i64ok; omega) (by unfold i64ok; omega) (by (try simp); (try omega)) ?_
    intro v' w11 hA1
    obtain ⟨_, _, rfl, _⟩ := hA1.sl
    replace hA1 := Kp.mk hA1
    go_wp2_with (at_builtin; refine pause ?_; intro K hK)
    refine hK.out _ _ ?_
    refine wpl_accS rfl rfl hA1.out (by first | rfl | (simp; rfl)) rfl hSa.out (by (try simp); (try omega)) ?_
    intro v' w12 hA2
    obtain ⟨_, _, rfl, _⟩ := hA2.sl
    replace hA2 := Kp.mk hA2
    go_wp2_with (at_builtin; refine pause ?_; intro K hK)
    refine hK.out _ _ ?_
    refine wpl_acc1 rfl rfl hA2.out rfl rfl (by unfold i64ok; omega) (by unfold i64ok; omega) (by unfold i64ok; omega) (by (try simp); (try omega)) ?_
    intro v' w13 hA3
    obtain ⟨_, _, rfl, _⟩ := hA3.sl
    replace hA3 := Kp.mk hA3
    go_wp2_with (at_builtin; refine pause ?_; intro K hK)
    refine hK.out _ _ ?_
    refine wpl_accS rfl rfl hA3.out (by first | rfl | (simp; rfl)) rfl hSb2.out (by (try simp); (try omega)) ?_
    intro v' w14 hA4
    obtain ⟨_, _, rfl, _⟩ := hA4.sl
    replace hA4 := Kp.mk hA4
    go_wp2_with fail
    go_ret2
    refine ⟨_, rfl, ?_⟩
    exact (hA4.out.up hN hBb2.out).fin (by simp) (by (try simp [twoI, goI]); (try omega))
end Go.Proofs.Ytbcifjjnnbefkaa
