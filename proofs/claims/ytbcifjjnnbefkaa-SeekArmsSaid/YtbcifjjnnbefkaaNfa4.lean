/-
  Package nfa, the maker's methods: cat, star, plus, opt, alt. Conditions: the maker's block holds its fields; the pile holds what is taken.
-/
import Derived.Test.YtbcifjjnnbefkaaNfa3
namespace Go.Proofs.Ytbcifjjnnbefkaa
open Go.RowKit

set_option maxHeartbeats 2000000 in
theorem mcat_calls (B m many : Nat) (P : List (List Inst)) (x y : List Inst) (pv : Value) (c0 c1 c2 : Value) (W : World) (h : MkP B m many (P ++ [x] ++ [y]) pv W) (hm : many ≤ 100000) (hn : P.length ≤ 10000) (hx : x.length ≤ 100000) (hy : y.length ≤ 100000) :
    Calls Try.prog 42 #[.pointer (some ⟨m, 0, none⟩), .agg #[c0, c1, c2]] W (Ret (MkQ W B m many (P ++ [putM many (x ++ y)]))) := by
  replace h := Kp.mk h
  go_enter Try.func42, Try.ntmps42
  go_wp2_with fail
  have hA : Below W.heap.size W (W.alloc (Obj.cells #[c0, c1, c2] 79)) := (Below.refl _ _).alloc (Nat.le_refl _) _
  have hz := h.out.hz
  have h1 := Kp.mk (h.out.keep hA)
  replace hA := Kp.mk ((Fr.refl (MM B m) W).alloc (Obj.cells #[c0, c1, c2] 79))
  refine ret_mono (mtake_calls B m many (P ++ [x]) y pv _ h1.out (by simp; omega)) ?_
  intro rv1 w1 hQ
  obtain ⟨hr1, ⟨pv1, hM1, ho1⟩, hF1⟩ := hQ
  obtain ⟨ya, yc, rfl⟩ := hr1.form (n := y.length) rfl
  replace hr1 := Kp.mk hr1
  replace hM1 := Kp.mk hM1
  replace hF1 := Kp.mk hF1
  go_wp2_with fail
  refine ret_mono (mtake_calls B m many P x pv1 _ hM1.out (by omega)) ?_
  intro rv2 w2 hQ
  obtain ⟨hr2, ⟨pv2, hM2, ho2⟩, hF2⟩ := hQ
  obtain ⟨xa, xc, rfl⟩ := hr2.form (n := x.length) rfl
  have hrx := Kp.mk (hr2.pv ho2)
  have hry := Kp.mk ((hr1.out.fr hF2).pv (ho2.trans ho1))
  have hB2 : Fr (MM B m) W w2 := (hA.out.trans hF1.out fun _ _ e => .inl e).trans hF2 fun _ _ e => .inl e
  replace hB2 := Kp.mk hB2
  replace hM2 := Kp.mk hM2
  clear hr2 hr1 hF1 hF2 h1 hM1
  go_wp2_with (at_builtin; refine pause ?_; intro K hK)
  refine hK.out _ _ ?_
  refine wpl_bldS rfl rfl hM2.out (hM2.out.lit (c := #[]) (l := []) rfl (by decide)) hrx.out rfl rfl (by simp; omega) ?_
  intro v3 w3 hb3
  obtain ⟨va3, vc3, rfl⟩ := hb3.row.form (n := x.length) (by simp)
  replace hb3 := Kp.mk hb3
  go_wp2_with (at_builtin; refine pause ?_; intro K hK)
  refine hK.out _ _ ?_
  refine wpl_bldS rfl rfl hM2.out hb3.out hry.out rfl rfl (by simp; omega) ?_
  intro v4 w4 hb4
  obtain ⟨va4, vc4, rfl⟩ := hb4.row.form (n := x.length + y.length) (by simp)
  replace hb4 := Kp.mk hb4
  go_wp2_with fail
  refine ret_mono (mput_calls B m many P pv2 _ (x ++ y) _ (hM2.out.keep hb4.out.fr) (by simpa using hb4.out.row) hm (by omega)) ?_
  intro v w5 hQ
  obtain rfl := hQ.v
  replace hQ := Kp.mk hQ
  go_wp2_with fail
  go_end0
  exact ⟨rfl, hQ.out.st, (hB2.out.trans (Fr.of_below hb4.out.fr) fun _ _ e => e.elim).trans hQ.out.fr fun _ _ e => e⟩
end Go.Proofs.Ytbcifjjnnbefkaa
