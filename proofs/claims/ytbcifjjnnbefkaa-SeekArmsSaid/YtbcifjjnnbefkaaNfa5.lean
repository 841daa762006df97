/-
  Package nfa, the maker's methods: star, plus, opt, alt. Conditions: the maker's block holds its fields; the pile holds what is taken.
-/
import Derived.Test.YtbcifjjnnbefkaaNfa4
namespace Go.Proofs.Ytbcifjjnnbefkaa
open Go.RowKit

set_option maxHeartbeats 2000000 in
theorem mstar_calls (B m many : Nat) (P : List (List Inst)) (x : List Inst) (pv : Value) (c0 c1 c2 : Value) (W : World) (h : MkP B m many (P ++ [x]) pv W) (hm : many ≤ 90000) (hn : P.length ≤ 10000) (hx : x.length ≤ 100000) :
    Calls Try.prog 44 #[.pointer (some ⟨m, 0, none⟩), .agg #[c0, c1, c2]] W (Ret (MkQ W B m (many + 2) (P ++ [putM (many + 2) ([twoI 1 (x.length + 2)] ++ x ++ [goI (-(x.length : Int) - 1)])]))) := by
  replace h := Kp.mk h
  go_enter Try.func44, Try.ntmps44
  go_wp2_with fail
  have hA : Below W.heap.size W (W.alloc (Obj.cells #[c0, c1, c2] 79)) := (Below.refl _ _).alloc (Nat.le_refl _) _
  have hz := h.out.hz
  have h1 := Kp.mk (h.out.keep hA)
  replace hA := Kp.mk ((Fr.refl (MM B m) W).alloc (Obj.cells #[c0, c1, c2] 79))
  refine ret_mono (mtake_calls B m many P x pv _ h1.out (by omega)) ?_
  intro rv1 w1 hQ
  obtain ⟨hr1, ⟨pv1, hM1, ho1⟩, hF1⟩ := hQ
  obtain ⟨xa, xc, rfl⟩ := hr1.form (n := x.length) rfl
  have hrx1 := hr1.pv ho1
  have hB1 : Fr (MM B m) W w1 := hA.out.trans hF1 fun _ _ e => .inl e
  have hbc := blkC hM1.hb
  have hbf := blkF hM1.hb
  have hbl := blkL hM1.hb
  have hM2 := Kp.mk (hM1.add (many' := many + 2) (n := (many : Int) + 2) (by simp))
  have hrx := Kp.mk (hrx1.fr (w' := w1.setCell ⟨m, 1, none⟩ (.int .i64 ((many : Int) + 2))) ((Fr.refl (fun k => k = m) w1).setCell (p := ⟨m, 1, none⟩) (fun _ => rfl) _))
  have hB2 := Kp.mk (hB1.setCell (p := ⟨m, 1, none⟩) (fun _ => .inl rfl) (.int .i64 ((many : Int) + 2)))
  clear hr1 hrx1 hB1 hF1 hM1 h1
  go_wp2_with (at_builtin; refine pause ?_; intro K hK)
  refine hK.out _ _ ?_
  refine wpl_bldS rfl rfl hM2.out (hM2.out.lit2 (n := 1) (g := w1.heap.size) (by simp) rfl (c := #[.int .i64 2, .int .i64 1, .int .i64 (x.length + 2), .bool false, .slice none 0 0]) (l := [⟨2, 1, (x.length + 2), false, []⟩]) (Rows.one (rows_inst _ 2 1 (x.length + 2) (by unfold i64ok; omega) (by unfold i64ok; omega) (by unfold i64ok; omega))) (show 1 ≤ maxLen by decide)) hrx.out rfl rfl (by simp; omega) ?_
  intro v3 w3 hb3
  obtain ⟨va3, vc3, rfl⟩ := hb3.row.form (n := x.length + 1) (by simp; try omega)
  replace hb3 := Kp.mk hb3
  go_wp2_with (at_builtin; refine pause ?_; intro K hK)
  refine hK.out _ _ ?_
  refine wpl_bld1 (y := goI (-(x.length : Int) - 1)) rfl rfl hM2.out hb3.out rfl rfl (rows_inst _ 3 (-(x.length : Int) - 1) 0 (by unfold i64ok; omega) (by unfold i64ok; omega) (by unfold i64ok; omega)) (heap_alloc_new _ _) ((Fr.refl _ _).alloc _) (by simp; omega) ?_
  intro v4 w4 hb4
  obtain ⟨va4, vc4, rfl⟩ := hb4.row.form (n := x.length + 2) (by simp; try omega)
  replace hb4 := Kp.mk hb4
  go_wp2_with fail
  refine ret_mono (mput_calls B m (many + 2) P pv1 _ ([twoI 1 (x.length + 2)] ++ x ++ [goI (-(x.length : Int) - 1)]) _ (hM2.out.keep hb4.out.fr) (by simpa [twoI, goI] using hb4.out.row) (by omega) (by omega)) ?_
  intro v w5 hQ
  obtain rfl := hQ.v
  replace hQ := Kp.mk hQ
  go_wp2_with fail
  go_end0
  exact ⟨rfl, hQ.out.st, (hB2.out.trans (Fr.of_below hb4.out.fr) fun _ _ e => e.elim).trans hQ.out.fr fun _ _ e => e⟩

set_option maxHeartbeats 2000000 in
theorem mplus_calls (B m many : Nat) (P : List (List Inst)) (x : List Inst) (pv : Value) (c0 c1 c2 : Value) (W : World) (h : MkP B m many (P ++ [x]) pv W) (hm : many ≤ 90000) (hn : P.length ≤ 10000) (hx : x.length ≤ 100000) :
    Calls Try.prog 45 #[.pointer (some ⟨m, 0, none⟩), .agg #[c0, c1, c2]] W (Ret (MkQ W B m (many + 1) (P ++ [putM (many + 1) (x ++ [twoI (-(x.length : Int)) 1])]))) := by
  replace h := Kp.mk h
  go_enter Try.func45, Try.ntmps45
  go_wp2_with fail
  have hA : Below W.heap.size W (W.alloc (Obj.cells #[c0, c1, c2] 79)) := (Below.refl _ _).alloc (Nat.le_refl _) _
  have hz := h.out.hz
  have h1 := Kp.mk (h.out.keep hA)
  replace hA := Kp.mk ((Fr.refl (MM B m) W).alloc (Obj.cells #[c0, c1, c2] 79))
  refine ret_mono (mtake_calls B m many P x pv _ h1.out (by omega)) ?_
  intro rv1 w1 hQ
  obtain ⟨hr1, ⟨pv1, hM1, ho1⟩, hF1⟩ := hQ
  obtain ⟨xa, xc, rfl⟩ := hr1.form (n := x.length) rfl
  have hrx1 := hr1.pv ho1
  have hB1 : Fr (MM B m) W w1 := hA.out.trans hF1 fun _ _ e => .inl e
  have hbc := blkC hM1.hb
  have hbf := blkF hM1.hb
  have hbl := blkL hM1.hb
  have hM2 := Kp.mk (hM1.add (many' := many + 1) (n := (many : Int) + 1) (by simp))
  have hrx := Kp.mk (hrx1.fr (w' := w1.setCell ⟨m, 1, none⟩ (.int .i64 ((many : Int) + 1))) ((Fr.refl (fun k => k = m) w1).setCell (p := ⟨m, 1, none⟩) (fun _ => rfl) _))
  have hB2 := Kp.mk (hB1.setCell (p := ⟨m, 1, none⟩) (fun _ => .inl rfl) (.int .i64 ((many : Int) + 1)))
  clear hr1 hrx1 hB1 hF1 hM1 h1
  go_wp2_with (at_builtin; refine pause ?_; intro K hK)
  refine hK.out _ _ ?_
  refine wpl_bldS rfl rfl hM2.out (hM2.out.lit2 (n := 0) (g := w1.heap.size) (by simp) rfl (c := #[]) (l := []) rfl (by decide)) hrx.out rfl rfl (by simp; omega) ?_
  intro v3 w3 hb3
  obtain ⟨va3, vc3, rfl⟩ := hb3.row.form (n := x.length) (by simp; try omega)
  replace hb3 := Kp.mk hb3
  go_wp2_with (at_builtin; refine pause ?_; intro K hK)
  refine hK.out _ _ ?_
  refine wpl_bld1 (y := twoI (-(x.length : Int)) 1) rfl rfl hM2.out hb3.out rfl rfl (rows_inst _ 2 (-(x.length : Int)) 1 (by unfold i64ok; omega) (by unfold i64ok; omega) (by unfold i64ok; omega)) (heap_alloc_new _ _) ((Fr.refl _ _).alloc _) (by simp; omega) ?_
  intro v4 w4 hb4
  obtain ⟨va4, vc4, rfl⟩ := hb4.row.form (n := x.length + 1) (by simp; try omega)
  replace hb4 := Kp.mk hb4
  go_wp2_with fail
  refine ret_mono (mput_calls B m (many + 1) P pv1 _ (x ++ [twoI (-(x.length : Int)) 1]) _ (hM2.out.keep hb4.out.fr) (by simpa [twoI, goI] using hb4.out.row) (by omega) (by omega)) ?_
  intro v w5 hQ
  obtain rfl := hQ.v
  replace hQ := Kp.mk hQ
  go_wp2_with fail
  go_end0
  exact ⟨rfl, hQ.out.st, (hB2.out.trans (Fr.of_below hb4.out.fr) fun _ _ e => e.elim).trans hQ.out.fr fun _ _ e => e⟩

set_option maxHeartbeats 2000000 in
theorem mopt_calls (B m many : Nat) (P : List (List Inst)) (x : List Inst) (pv : Value) (c0 c1 c2 : Value) (W : World) (h : MkP B m many (P ++ [x]) pv W) (hm : many ≤ 90000) (hn : P.length ≤ 10000) (hx : x.length ≤ 100000) :
    Calls Try.prog 46 #[.pointer (some ⟨m, 0, none⟩), .agg #[c0, c1, c2]] W (Ret (MkQ W B m (many + 1) (P ++ [putM (many + 1) ([twoI 1 (x.length + 1)] ++ x)]))) := by
  replace h := Kp.mk h
  go_enter Try.func46, Try.ntmps46
  go_wp2_with fail
  have hA : Below W.heap.size W (W.alloc (Obj.cells #[c0, c1, c2] 79)) := (Below.refl _ _).alloc (Nat.le_refl _) _
  have hz := h.out.hz
  have h1 := Kp.mk (h.out.keep hA)
  replace hA := Kp.mk ((Fr.refl (MM B m) W).alloc (Obj.cells #[c0, c1, c2] 79))
  refine ret_mono (mtake_calls B m many P x pv _ h1.out (by omega)) ?_
  intro rv1 w1 hQ
  obtain ⟨hr1, ⟨pv1, hM1, ho1⟩, hF1⟩ := hQ
  obtain ⟨xa, xc, rfl⟩ := hr1.form (n := x.length) rfl
  have hrx1 := hr1.pv ho1
  have hB1 : Fr (MM B m) W w1 := hA.out.trans hF1 fun _ _ e => .inl e
  have hbc := blkC hM1.hb
  have hbf := blkF hM1.hb
  have hbl := blkL hM1.hb
  have hM2 := Kp.mk (hM1.add (many' := many + 1) (n := (many : Int) + 1) (by simp))
  have hrx := Kp.mk (hrx1.fr (w' := w1.setCell ⟨m, 1, none⟩ (.int .i64 ((many : Int) + 1))) ((Fr.refl (fun k => k = m) w1).setCell (p := ⟨m, 1, none⟩) (fun _ => rfl) _))
  have hB2 := Kp.mk (hB1.setCell (p := ⟨m, 1, none⟩) (fun _ => .inl rfl) (.int .i64 ((many : Int) + 1)))
  clear hr1 hrx1 hB1 hF1 hM1 h1
  go_wp2_with (at_builtin; refine pause ?_; intro K hK)
  refine hK.out _ _ ?_
  refine wpl_bldS rfl rfl hM2.out (hM2.out.lit2 (n := 1) (g := w1.heap.size) (by simp) rfl (c := #[.int .i64 2, .int .i64 1, .int .i64 (x.length + 1), .bool false, .slice none 0 0]) (l := [⟨2, 1, (x.length + 1), false, []⟩]) (Rows.one (rows_inst _ 2 1 (x.length + 1) (by unfold i64ok; omega) (by unfold i64ok; omega) (by unfold i64ok; omega))) (show 1 ≤ maxLen by decide)) hrx.out rfl rfl (by simp; omega) ?_
  intro v3 w3 hb3
  obtain ⟨va3, vc3, rfl⟩ := hb3.row.form (n := x.length + 1) (by simp; try omega)
  replace hb3 := Kp.mk hb3
  go_wp2_with fail
  refine ret_mono (mput_calls B m (many + 1) P pv1 _ ([twoI 1 (x.length + 1)] ++ x) _ (hM2.out.keep hb3.out.fr) (by simpa [twoI, goI] using hb3.out.row) (by omega) (by omega)) ?_
  intro v w5 hQ
  obtain rfl := hQ.v
  replace hQ := Kp.mk hQ
  go_wp2_with fail
  go_end0
  exact ⟨rfl, hQ.out.st, (hB2.out.trans (Fr.of_below hb3.out.fr) fun _ _ e => e.elim).trans hQ.out.fr fun _ _ e => e⟩

set_option maxHeartbeats 2000000 in
theorem malt_calls (B m many : Nat) (P : List (List Inst)) (x y : List Inst) (pv : Value) (c0 c1 c2 : Value) (W : World) (h : MkP B m many (P ++ [x] ++ [y]) pv W) (hm : many ≤ 90000) (hn : P.length ≤ 10000) (hx : x.length ≤ 100000) (hy : y.length ≤ 100000) :
    Calls Try.prog 43 #[.pointer (some ⟨m, 0, none⟩), .agg #[c0, c1, c2]] W (Ret (MkQ W B m (many + 2) (P ++ [putM (many + 2) ([twoI 1 (x.length + 2)] ++ x ++ [goI (y.length + 1)] ++ y)]))) := by
  replace h := Kp.mk h
  go_enter Try.func43, Try.ntmps43
  go_wp2_with fail
  have hA : Below W.heap.size W (W.alloc (Obj.cells #[c0, c1, c2] 79)) := (Below.refl _ _).alloc (Nat.le_refl _) _
  have hz := h.out.hz
  have h1 := Kp.mk (h.out.keep hA)
  replace hA := Kp.mk ((Fr.refl (MM B m) W).alloc (Obj.cells #[c0, c1, c2] 79))
  refine ret_mono (mtake_calls B m many (P ++ [x]) y pv _ h1.out (by simp; omega)) ?_
  intro rv1 w1 hQ
  obtain ⟨hr1, ⟨pv1, hM1, ho1⟩, hF1⟩ := hQ
  obtain ⟨ya, yc, rfl⟩ := hr1.form (n := y.length) rfl
  replace hr1 := Kp.mk hr1
  replace hM1 := Kp.mk hM1
  replace hF1 := Kp.mk hF1
  go_wp2_with fail
  refine ret_mono (mtake_calls B m many P x pv1 _ hM1.out (by omega)) ?_
  intro rv2 w2 hQ
  obtain ⟨hr2, ⟨pv2, hM3, ho2⟩, hF2⟩ := hQ
  obtain ⟨xa, xc, rfl⟩ := hr2.form (n := x.length) rfl
  have hrx1 := hr2.pv ho2
  have hry1 := (hr1.out.fr hF2).pv (ho2.trans ho1)
  have hB3 : Fr (MM B m) W w2 := (hA.out.trans hF1.out fun _ _ e => .inl e).trans hF2 fun _ _ e => .inl e
  have hbc := blkC hM3.hb
  have hbf := blkF hM3.hb
  have hbl := blkL hM3.hb
  have hM2 := Kp.mk (hM3.add (many' := many + 2) (n := (many : Int) + 2) (by simp))
  have hrx := Kp.mk (hrx1.fr (w' := w2.setCell ⟨m, 1, none⟩ (.int .i64 ((many : Int) + 2))) ((Fr.refl (fun k => k = m) w2).setCell (p := ⟨m, 1, none⟩) (fun _ => rfl) _))
  have hry := Kp.mk (hry1.fr (w' := w2.setCell ⟨m, 1, none⟩ (.int .i64 ((many : Int) + 2))) ((Fr.refl (fun k => k = m) w2).setCell (p := ⟨m, 1, none⟩) (fun _ => rfl) _))
  have hB2 := Kp.mk (hB3.setCell (p := ⟨m, 1, none⟩) (fun _ => .inl rfl) (.int .i64 ((many : Int) + 2)))
  clear hr2 hr1 hrx1 hry1 hB3 hF1 hF2 hM1 hM3 h1
  go_wp2_with (at_builtin; refine pause ?_; intro K hK)
  refine hK.out _ _ ?_
  refine wpl_bldS rfl rfl hM2.out (hM2.out.lit2 (n := 1) (g := w2.heap.size) (by simp) rfl (c := #[.int .i64 2, .int .i64 1, .int .i64 (x.length + 2), .bool false, .slice none 0 0]) (l := [⟨2, 1, (x.length + 2), false, []⟩]) (Rows.one (rows_inst _ 2 1 (x.length + 2) (by unfold i64ok; omega) (by unfold i64ok; omega) (by unfold i64ok; omega))) (show 1 ≤ maxLen by decide)) hrx.out rfl rfl (by simp; omega) ?_
  intro v3 w3 hb3
  obtain ⟨va3, vc3, rfl⟩ := hb3.row.form (n := x.length + 1) (by simp; try omega)
  replace hb3 := Kp.mk hb3
  go_wp2_with (at_builtin; refine pause ?_; intro K hK)
  refine hK.out _ _ ?_
  refine wpl_bld1 (y := goI (y.length + 1)) rfl rfl hM2.out hb3.out rfl rfl (rows_inst _ 3 (y.length + 1) 0 (by unfold i64ok; omega) (by unfold i64ok; omega) (by unfold i64ok; omega)) (heap_alloc_new _ _) ((Fr.refl _ _).alloc _) (by simp; omega) ?_
  intro v4 w4 hb4
  obtain ⟨va4, vc4, rfl⟩ := hb4.row.form (n := x.length + 2) (by simp; try omega)
  replace hb4 := Kp.mk hb4
  go_wp2_with (at_builtin; refine pause ?_; intro K hK)
  refine hK.out _ _ ?_
  refine wpl_bldS rfl rfl hM2.out hb4.out hry.out rfl rfl (by simp; omega) ?_
  intro v5 w5 hb5
  obtain ⟨va5, vc5, rfl⟩ := hb5.row.form (n := x.length + 2 + y.length) (by simp; try omega)
  replace hb5 := Kp.mk hb5
  go_wp2_with fail
  refine ret_mono (mput_calls B m (many + 2) P pv2 _ ([twoI 1 (x.length + 2)] ++ x ++ [goI (y.length + 1)] ++ y) _ (hM2.out.keep hb5.out.fr) (by simpa [twoI, goI] using hb5.out.row) (by omega) (by omega)) ?_
  intro v w6 hQ
  obtain rfl := hQ.v
  replace hQ := Kp.mk hQ
  go_wp2_with fail
  go_end0
  exact ⟨rfl, hQ.out.st, (hB2.out.trans (Fr.of_below hb5.out.fr) fun _ _ e => e.elim).trans hQ.out.fr fun _ _ e => e⟩

end Go.Proofs.Ytbcifjjnnbefkaa
