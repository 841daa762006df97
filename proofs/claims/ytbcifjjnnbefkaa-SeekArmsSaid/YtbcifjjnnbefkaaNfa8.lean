/-
  Package nfa: Build. Conditions: the ops can be read; each op finds on the pile what it takes.
-/
import Derived.Test.YtbcifjjnnbefkaaNfa7
namespace Go.Proofs.Ytbcifjjnnbefkaa
open Go.RowKit

theorem op_at {w : World} {A : Nat → Prop} {a : Option Addr} {cap : Nat} {l : List Op} (h : Sl sOp w A a cap l) {k : Nat} (hk : k < l.length) :
    ∃ b off va vc, a = some ⟨b, off, none⟩ ∧ b < w.heap.size ∧ A b ∧ w.cell? ⟨b, off + k * 3, none⟩ = some (.int .i64 l[k].kind) ∧ w.cell? ⟨b, off + k * 3 + 1, none⟩ = some (.bool l[k].neg) ∧ w.cell? ⟨b, off + k * 3 + 2, none⟩ = some (.slice va l[k].spans.length vc) ∧ Sl sSpan w A va vc l[k].spans := by
  obtain ⟨b, off, e, hA, hb⟩ := h.at_ (by omega)
  obtain ⟨cs, ⟨va, vc, rfl, _, hS⟩, hc⟩ := h.get b off e k hk
  exact ⟨b, off, va, vc, e, hb, hA, hc 0 (by decide), hc 1 (by decide), hc 2 (by decide), hS⟩

/-- One op, done with the pile (its top stands first). -/
def bStep (many : Nat) (R : List (List Inst)) (o : Op) : Option (Nat × List (List Inst)) :=
  if o.kind = 1 then some (many + 1, putM (many + 1) [oneI o.neg o.spans] :: R)
  else if o.kind = 2 then some (many, [] :: R)
  else if o.kind = 3 then match R with | y :: x :: R => some (many, putM many (x ++ y) :: R) | _ => none
  else if o.kind = 4 then match R with | y :: x :: R => some (many + 2, putM (many + 2) ([twoI 1 (x.length + 2)] ++ x ++ [goI (y.length + 1)] ++ y) :: R) | _ => none
  else if o.kind = 5 then match R with | x :: R => some (many + 2, putM (many + 2) ([twoI 1 (x.length + 2)] ++ x ++ [goI (-(x.length : Int) - 1)]) :: R) | _ => none
  else if o.kind = 6 then match R with | x :: R => some (many + 1, putM (many + 1) (x ++ [twoI (-(x.length : Int)) 1]) :: R) | _ => none
  else if o.kind = 7 then match R with | x :: R => some (many + 1, putM (many + 1) ([twoI 1 (x.length + 1)] ++ x) :: R) | _ => none
  else none
def bRun : Nat → List (List Inst) → List Op → Option (Nat × List (List Inst))
  | many, R, [] => some (many, R)
  | many, R, o :: l => match bStep many R o with
    | none => none
    | some s => bRun s.1 s.2 l
def doneI : Inst := ⟨4, 0, 0, false, []⟩
theorem eqIn_nilFunc (d : Nat) (f : Fn) (w : World) : (Op.equalIn (d + 1) 80 (.func f #[] #[]) Value.nilFunc).run Try.prog w = .ok false w := by
  simp [Op.equalIn, run_underlying Try.underlying80]
theorem equal_nilFunc (f : Fn) (w : World) : (Op.equal 80 (.func f #[] #[]) Value.nilFunc).run Try.prog w = .ok false w := eqIn_nilFunc 9999 f w
theorem eq_nilFunc (f : Fn) (w : World) : (binOp .eql 80 (.func f #[] #[]) Value.nilFunc).run Try.prog w = .ok (.bool false) w := by
  simp only [binOp]
  simp [equal_nilFunc]
theorem mk_look {w : World} {g : Nat} {n : Nat} {f : Value} (hg : w.heap[g]? = some (.map mkEs 7)) (h : findE .i64 n mkEs.toList = some f) :
    (Instr.lookup 76 (.map (some g)) (.int .i64 n) false).run Try.prog w = .ok f w := by
  have ht : Try.prog.underlying 76 = some (.map 3 80) := Try.underlying76
  have hK : Try.prog.underlying 3 = some (.int .i64) := Try.underlying3
  have hz : ∀ w, (zeroValue 80).run Try.prog w = .ok Value.nilFunc w := fun w => by kernel_rfl
  refine (run_look ht hK hz hg false mk_keys).trans ?_
  rw [h]
  rfl
/-- What Build answers of what the ops come to. -/
def bEnd (s : Nat × List (List Inst)) : List Inst × Nat :=
  match s.2 with
  | [x] => if 200 < s.1 + 1 then ([], 3) else (x ++ [doneI], 0)
  | _ => ([], 1)

/-- The sizes behind k ops. -/
structure BInv (k many : Nat) (R : List (List Inst)) : Prop where
  le : many ≤ 2 * k
  len : R.length ≤ k
  rows : (R.map List.length).sum ≤ many
theorem putM_len (many : Nat) (l : List Inst) : (putM many l).length ≤ l.length := by unfold putM; split <;> simp
theorem bStep_inv {k many : Nat} {R : List (List Inst)} {o : Op} {s : Nat × List (List Inst)} (h : BInv k many R) (hs : bStep many R o = some s) : BInv (k + 1) s.1 s.2 := by
  obtain ⟨h1, h2, h3⟩ := h
  unfold bStep at hs
  repeat' split at hs
  all_goals first | (cases hs; done) | skip
  all_goals (try (cases hs))
  all_goals (refine ⟨by dsimp only; omega, by simp at h2 ⊢; omega, ?_⟩)
  all_goals (simp at h3 ⊢)
  all_goals (first | omega | (have hp := putM_len; refine Nat.le_trans (Nat.add_le_add_right (putM_len _ _) _) ?_; simp; omega) | skip)

structure BuildP (W : World) (r : List Inst × Nat) (v : Value) (w : World) : Prop where
  v : ∃ a cap, v = .tuple #[.slice a r.1.length cap, .int .i64 r.2] ∧ Sl sInst w (W.heap.size ≤ ·) a cap r.1
  fr : Below W.heap.size W w

/-- The loop of Build. -/
structure BuildI (W : World) (m : Nat) (l : List Op) (tot : Nat × List (List Inst)) (n : Nat) (iv : Value) (w : World) : Prop where
  st : ∃ (k many : Nat) (R : List (List Inst)) (pv : Value), iv = .int .i64 k ∧ k ≤ l.length ∧ l.length - k ≤ n ∧ MkP (m + 2) m many R.reverse pv w ∧ BInv k many R ∧ bRun many R (l.drop k) = some tot ∧ w.heap[m + 1]? = some (.map mkEs 7)
  fr : Below W.heap.size W w

set_option maxRecDepth 100000 in
set_option maxHeartbeats 8000000 in
theorem build_calls (l : List Op) (la : Option Addr) (lc : Nat) (tot : Nat × List (List Inst)) (W : World) (hl : Sl sOp W (fun _ => True) la lc l) (hlen : l.length ≤ 2000) (hsp : ∀ o ∈ l, o.spans.length ≤ 100000) (htot : bRun 0 [] l = some tot) :
    Calls Try.prog 13 #[.slice la l.length lc] W (Ret (BuildP W (bEnd tot))) := by
  replace hl := Kp.mk hl
  replace htot := Kp.mk htot
  replace hsp := Kp.mk hsp
  have hB0 : Below W.heap.size W ((W.alloc (Obj.cells #[.slice none 0 0, .int .i64 0, .bool false] 75)).alloc (.map mkEs 7)) := ((Below.refl _ _).alloc (Nat.le_refl _) _).alloc (by simp) _
  have hM0 : MkP (W.heap.size + 2) W.heap.size 0 [] (.slice none 0 0) ((W.alloc (Obj.cells #[.slice none 0 0, .int .i64 0, .bool false] 75)).alloc (.map mkEs 7)) :=
    ⟨by simp, (Below.heap_alloc _ _ _ (by simp)).trans (heap_alloc_new _ _), Ow.nil _ _ _ _⟩
  have hm0 : ((W.alloc (Obj.cells #[.slice none 0 0, .int .i64 0, .bool false] 75)).alloc (.map mkEs 7)).heap[W.heap.size + 1]? = some (.map mkEs 7) := heap_alloc2_new _ _ _
  have hI0 : BuildI W W.heap.size l tot l.length (.int .i64 0) ((W.alloc (Obj.cells #[.slice none 0 0, .int .i64 0, .bool false] 75)).alloc (.map mkEs 7)) :=
    ⟨⟨0, 0, [], _, rfl, Nat.zero_le _, by omega, hM0, ⟨by omega, by simp, by simp⟩, by simpa using htot.out, hm0⟩, hB0⟩
  replace hI0 := Kp.mk hI0
  clear hB0 hM0 hm0
  go_enter Try.func13, Try.ntmps13
  go_wp2_with fail
  refine ret_mono (makers_calls _) ?_
  rintro v w1 ⟨hv, rfl⟩
  obtain rfl : v = .map (some (W.heap.size + 1)) := hv.trans (by simp)
  clear hv
  go_wp2_with fail
  go_loopg [14] l.length (fun k iv w => BuildI W W.heap.size l tot k iv w)
  case atStart => exact hI0.out
  case round =>
    obtain ⟨⟨k, many, R, pv, rfl, hkl, hkn, hM, hI, hR, hmap⟩, hB⟩ := hrel
    replace hM := Kp.mk hM
    replace hI := Kp.mk hI
    replace hR := Kp.mk hR
    replace hmap := Kp.mk hmap
    replace hB := Kp.mk hB
    by_cases hlt : k < l.length
    · have hd : decide (k < l.length) = true := by simp; omega
      obtain ⟨b, off, va, vc, rfl, hb2, _, d0, d1, d2, hSs⟩ := op_at hl.out hlt
      have hdrop : l.drop k = l[k] :: l.drop (k + 1) := List.drop_eq_getElem_cons hlt
      have hspo := hsp.out l[k] (List.getElem_mem hlt)
      have hRk := hR.out
      rw [hdrop, bRun] at hRk
      clear hdrop
      generalize l[k] = o at *
      obtain ⟨kind, neg, spans⟩ := o
      dsimp only at d0 d1 d2 hSs hspo
      have e0 := (World.cell?_of_block (a := ⟨b, off + k * 3, none⟩) (hB.out.block b hb2)).trans d0
      have e1 := (World.cell?_of_block (a := ⟨b, off + k * 3 + 1, none⟩) (hB.out.block b hb2)).trans d1
      have e2 := (World.cell?_of_block (a := ⟨b, off + k * 3 + 2, none⟩) (hB.out.block b hb2)).trans d2
      clear d0 d1 d2
      have hSr : Sl sSpan (wr.alloc (Obj.cells #[.int .i64 kind, .bool neg, .slice va spans.length vc] 79)) (fun k => k < W.heap.size + 2 ∧ k ≠ W.heap.size) va vc spans :=
        hSs.mono (w := W) (A := fun _ => True) fun k _ hk => ⟨⟨by omega, by omega⟩, (Below.heap_alloc _ _ _ (by have := hB.out.size; omega)).trans (hB.out.block k hk)⟩
      clear hSs
      have hmap1 : (wr.alloc (Obj.cells #[.int .i64 kind, .bool neg, .slice va spans.length vc] 79)).heap[W.heap.size + 1]? = some (.map mkEs 7) := (Below.heap_alloc _ _ _ (blkL hmap.out)).trans hmap.out
      have hM1 := hM.out.keep ((Below.refl _ _).alloc (Nat.le_refl _) (Obj.cells #[.int .i64 kind, .bool neg, .slice va spans.length vc] 79))
      have hB1 : Below W.heap.size W (wr.alloc (Obj.cells #[.int .i64 kind, .bool neg, .slice va spans.length vc] 79)) := hB.out.alloc hB.out.size _
      cases hst : bStep many R ⟨kind, neg, spans⟩ with
      | none => rw [hst] at hRk; cases hRk
      | some s =>
        rw [hst] at hRk
        have hI1 := bStep_inv hI.out hst
        have hmany := hI.out.le
        have hRlen := hI.out.len
        have hrows := hI.out.rows
        -- what is left of the round, behind a maker's method
        have hfin : ∀ w2, MkQ (wr.alloc (Obj.cells #[.int .i64 kind, .bool neg, .slice va spans.length vc] 79)) (W.heap.size + 2) W.heap.size s.1 s.2.reverse (.tuple #[]) w2 → BuildI W W.heap.size l tot (gk - 1) (.int .i64 ((k : Int) + 1)) w2 ∧ (∃ pv', w2.heap[W.heap.size]? = some (.cells #[pv', .int .i64 s.1, .bool false] 75)) := fun w2 hQ => by
          obtain ⟨pv', hM2⟩ := hQ.st
          refine ⟨⟨⟨k + 1, s.1, s.2, pv', by simp, by omega, by omega, hM2, hI1, hRk, hQ.fr.obj hmap1 (by unfold MM; omega)⟩, hB1.trans (hQ.fr.below hB1.size fun k hk => by unfold MM; omega)⟩, pv', hM2.hb⟩
        replace hfin := Kp.mk hfin
        replace hSr := Kp.mk hSr
        replace hmap1 := Kp.mk hmap1
        replace hM1 := Kp.mk hM1
        replace hI1 := Kp.mk hI1
        replace hRk := Kp.mk hRk
        replace hB1 := Kp.mk hB1
        replace hspo := Kp.mk hspo
        replace hmany := Kp.mk hmany
        replace hRlen := Kp.mk hRlen
        replace hrows := Kp.mk hrows
        have hgk : 1 ≤ gk := by omega
        unfold bStep at hst
        dsimp only at hst
        by_cases hk1 : kind = 1
        · subst hk1
          simp at hst
          subst hst
          have hfn := eq_nilFunc
          have hlook : (Instr.lookup 76 (.map (some (W.heap.size + 1))) (.int .i64 1) false).run Try.prog (wr.alloc (Obj.cells #[.int .i64 1, .bool neg, .slice va spans.length vc] 79)) = .ok (.func (.func 40) #[] #[]) (wr.alloc (Obj.cells #[.int .i64 1, .bool neg, .slice va spans.length vc] 79)) := mk_look (n := 1) hmap1.out rfl
          have hlen := hRlen.out
          have hma := hmany.out
          go_wp2_with fail
          refine ret_mono (mset_calls (W.heap.size + 2) (m := W.heap.size) many R.reverse pv 1 neg spans va vc _ hM1.out hSr.out (by omega) (by simp; omega) hspo.out) ?_
          intro v w2 hQ
          obtain rfl := hQ.v
          obtain ⟨hend, pv', hb'⟩ := hfin.out w2 (by simpa using hQ)
          clear hQ
          have hbc' := blkC hb'
          clear hb' hlook hfn
          replace hend := Kp.mk hend
          go_wp2_with fail
          go_roundg (gk - 1)
          case measure => omega
          case rel => exact hend.out
        · by_cases hk2 : kind = 2
          · subst hk2
            simp at hst
            subst hst
            have hfn := eq_nilFunc
            have hlook : (Instr.lookup 76 (.map (some (W.heap.size + 1))) (.int .i64 2) false).run Try.prog (wr.alloc (Obj.cells #[.int .i64 2, .bool neg, .slice va spans.length vc] 79)) = .ok (.func (.func 41) #[] #[]) (wr.alloc (Obj.cells #[.int .i64 2, .bool neg, .slice va spans.length vc] 79)) := mk_look (n := 2) hmap1.out rfl
            have hlen := hRlen.out
            have hma := hmany.out
            go_wp2_with fail
            refine ret_mono (mnone_calls (W.heap.size + 2) (m := W.heap.size) many R.reverse pv #[.int .i64 2, .bool neg, .slice va spans.length vc] _ hM1.out (by omega) (by simp; omega) rfl) ?_
            intro v w2 hQ
            obtain rfl := hQ.v
            obtain ⟨hend, pv', hb'⟩ := hfin.out w2 (by simpa using hQ)
            clear hQ
            have hbc' := blkC hb'
            clear hb' hlook hfn
            replace hend := Kp.mk hend
            go_wp2_with fail
            go_roundg (gk - 1)
            case measure => omega
            case rel => exact hend.out
          · by_cases hk3 : kind = 3
            · subst hk3
              simp at hst
              cases R with
              | nil => simp at hst
              | cons y R =>
              cases R with
              | nil => simp at hst
              | cons x R =>
              simp at hst
              subst hst
              have hfn := eq_nilFunc
              have hlook : (Instr.lookup 76 (.map (some (W.heap.size + 1))) (.int .i64 3) false).run Try.prog (wr.alloc (Obj.cells #[.int .i64 3, .bool neg, .slice va spans.length vc] 79)) = .ok (.func (.func 42) #[] #[]) (wr.alloc (Obj.cells #[.int .i64 3, .bool neg, .slice va spans.length vc] 79)) := mk_look (n := 3) hmap1.out rfl
              have hlen := hRlen.out
              have hma := hmany.out
              have hrw := hrows.out
              simp at hrw hlen
              go_wp2_with fail
              refine ret_mono (mcat_calls (W.heap.size + 2) (m := W.heap.size) many R.reverse x y pv _ _ _ _ (by simpa using hM1.out) (by omega) (by simp; omega) (by omega) (by omega)) ?_
              intro v w2 hQ
              obtain rfl := hQ.v
              obtain ⟨hend, pv', hb'⟩ := hfin.out w2 (by simpa using hQ)
              clear hQ
              have hbc' := blkC hb'
              clear hb' hlook hfn
              replace hend := Kp.mk hend
              go_wp2_with fail
              go_roundg (gk - 1)
              case measure => omega
              case rel => exact hend.out
            · by_cases hk4 : kind = 4
              · subst hk4
                simp at hst
                cases R with
                | nil => simp at hst
                | cons y R =>
                cases R with
                | nil => simp at hst
                | cons x R =>
                simp at hst
                subst hst
                have hfn := eq_nilFunc
                have hlook : (Instr.lookup 76 (.map (some (W.heap.size + 1))) (.int .i64 4) false).run Try.prog (wr.alloc (Obj.cells #[.int .i64 4, .bool neg, .slice va spans.length vc] 79)) = .ok (.func (.func 43) #[] #[]) (wr.alloc (Obj.cells #[.int .i64 4, .bool neg, .slice va spans.length vc] 79)) := mk_look (n := 4) hmap1.out rfl
                have hlen := hRlen.out
                have hma := hmany.out
                have hrw := hrows.out
                simp at hrw hlen
                go_wp2_with fail
                refine ret_mono (malt_calls (W.heap.size + 2) (m := W.heap.size) many R.reverse x y pv _ _ _ _ (by simpa using hM1.out) (by omega) (by simp; omega) (by omega) (by omega)) ?_
                intro v w2 hQ
                obtain rfl := hQ.v
                obtain ⟨hend, pv', hb'⟩ := hfin.out w2 (by simpa using hQ)
                clear hQ
                have hbc' := blkC hb'
                clear hb' hlook hfn
                replace hend := Kp.mk hend
                go_wp2_with fail
                go_roundg (gk - 1)
                case measure => omega
                case rel => exact hend.out
              · by_cases hk5 : kind = 5
                · subst hk5
                  simp at hst
                  cases R with
                  | nil => simp at hst
                  | cons x R =>
                  simp at hst
                  subst hst
                  have hfn := eq_nilFunc
                  have hlook : (Instr.lookup 76 (.map (some (W.heap.size + 1))) (.int .i64 5) false).run Try.prog (wr.alloc (Obj.cells #[.int .i64 5, .bool neg, .slice va spans.length vc] 79)) = .ok (.func (.func 44) #[] #[]) (wr.alloc (Obj.cells #[.int .i64 5, .bool neg, .slice va spans.length vc] 79)) := mk_look (n := 5) hmap1.out rfl
                  have hlen := hRlen.out
                  have hma := hmany.out
                  have hrw := hrows.out
                  simp at hrw hlen
                  go_wp2_with fail
                  refine ret_mono (mstar_calls (W.heap.size + 2) (m := W.heap.size) many R.reverse x pv _ _ _ _ (by simpa using hM1.out) (by omega) (by simp; omega) (by omega)) ?_
                  intro v w2 hQ
                  obtain rfl := hQ.v
                  obtain ⟨hend, pv', hb'⟩ := hfin.out w2 (by simpa using hQ)
                  clear hQ
                  have hbc' := blkC hb'
                  clear hb' hlook hfn
                  replace hend := Kp.mk hend
                  go_wp2_with fail
                  go_roundg (gk - 1)
                  case measure => omega
                  case rel => exact hend.out
                · by_cases hk6 : kind = 6
                  · subst hk6
                    simp at hst
                    cases R with
                    | nil => simp at hst
                    | cons x R =>
                    simp at hst
                    subst hst
                    have hfn := eq_nilFunc
                    have hlook : (Instr.lookup 76 (.map (some (W.heap.size + 1))) (.int .i64 6) false).run Try.prog (wr.alloc (Obj.cells #[.int .i64 6, .bool neg, .slice va spans.length vc] 79)) = .ok (.func (.func 45) #[] #[]) (wr.alloc (Obj.cells #[.int .i64 6, .bool neg, .slice va spans.length vc] 79)) := mk_look (n := 6) hmap1.out rfl
                    have hlen := hRlen.out
                    have hma := hmany.out
                    have hrw := hrows.out
                    simp at hrw hlen
                    go_wp2_with fail
                    refine ret_mono (mplus_calls (W.heap.size + 2) (m := W.heap.size) many R.reverse x pv _ _ _ _ (by simpa using hM1.out) (by omega) (by simp; omega) (by omega)) ?_
                    intro v w2 hQ
                    obtain rfl := hQ.v
                    obtain ⟨hend, pv', hb'⟩ := hfin.out w2 (by simpa using hQ)
                    clear hQ
                    have hbc' := blkC hb'
                    clear hb' hlook hfn
                    replace hend := Kp.mk hend
                    go_wp2_with fail
                    go_roundg (gk - 1)
                    case measure => omega
                    case rel => exact hend.out
                  · by_cases hk7 : kind = 7
                    · subst hk7
                      simp at hst
                      cases R with
                      | nil => simp at hst
                      | cons x R =>
                      simp at hst
                      subst hst
                      have hfn := eq_nilFunc
                      have hlook : (Instr.lookup 76 (.map (some (W.heap.size + 1))) (.int .i64 7) false).run Try.prog (wr.alloc (Obj.cells #[.int .i64 7, .bool neg, .slice va spans.length vc] 79)) = .ok (.func (.func 46) #[] #[]) (wr.alloc (Obj.cells #[.int .i64 7, .bool neg, .slice va spans.length vc] 79)) := mk_look (n := 7) hmap1.out rfl
                      have hlen := hRlen.out
                      have hma := hmany.out
                      have hrw := hrows.out
                      simp at hrw hlen
                      go_wp2_with fail
                      refine ret_mono (mopt_calls (W.heap.size + 2) (m := W.heap.size) many R.reverse x pv _ _ _ _ (by simpa using hM1.out) (by omega) (by simp; omega) (by omega)) ?_
                      intro v w2 hQ
                      obtain rfl := hQ.v
                      obtain ⟨hend, pv', hb'⟩ := hfin.out w2 (by simpa using hQ)
                      clear hQ
                      have hbc' := blkC hb'
                      clear hb' hlook hfn
                      replace hend := Kp.mk hend
                      go_wp2_with fail
                      go_roundg (gk - 1)
                      case measure => omega
                      case rel => exact hend.out
                    · simp [hk1, hk2, hk3, hk4, hk5, hk6, hk7] at hst
    · have hd : decide (k < l.length) = false := by simp; omega
      have htt : tot = (many, R) := by
        have h1 := hR.out
        rw [List.drop_eq_nil_of_le (by omega)] at h1
        simpa [bRun] using h1.symm
      subst htt
      have hbc := blkC hM.out.hb
      obtain ⟨pa, pc, rfl⟩ := hM.out.ow.form (n := R.length) (by simp)
      have hma := hI.out.le
      by_cases h1 : R.length = 1
      · obtain ⟨x, rfl⟩ : ∃ x, R = [x] := by
          match R, h1 with
          | [x], _ => exact ⟨x, rfl⟩
        have hOw := hM.out.ow
        obtain ⟨g, cap, c, e, hcap, hgA, hgl, ⟨rv, rfl, hrv⟩, hcell⟩ := Ow.last (l := []) (x := x) (by simpa using hOw)
        cases e
        have hc0 : wr.cell? ⟨g, 0, none⟩ = some rv := by simpa [sOw] using hcell 0 (by decide)
        obtain ⟨ra, rc, rfl⟩ := hrv.form (n := x.length) rfl
        have hrows := hI.out.rows
        simp at hrows
        clear hOw hcell
        by_cases h2 : 200 < many + 1
        · have hd2 : decide ((200 : Int) < (many : Int) + 1) = true := by simp; omega
          have hE : bEnd (many, [x]) = ([], 3) := by unfold bEnd; simp [h2]
          go_wp2_with fail
          go_ret2
          rw [hE]
          exact ⟨⟨none, 0, rfl, Sl.nil_ _ _ _⟩, hB.out⟩
        · have hd2 : decide ((200 : Int) < (many : Int) + 1) = false := by simp; omega
          have hE : bEnd (many, [x]) = (x ++ [doneI], 0) := by unfold bEnd; simp [h2]
          replace hrv := Kp.mk hrv
          replace hE := Kp.mk hE
          have hab := hM.out.above
          replace hab := Kp.mk hab
          go_wp2_with (at_builtin; refine pause ?_; intro K hK)
          refine hK.out _ _ ?_
          refine wpl_append1 (w := wr) (y := doneI) ty_inst rfl rfl rfl hrv.out rfl ⟨none, 0, rfl, by simp [i64ok, doneI], by simp [i64ok, doneI], by simp [i64ok, doneI], Sl.nil_ _ _ _⟩ (heap_alloc_new _ _) ((Fr.refl _ _).alloc _) (by omega) (fun k hk => hab.out k hk) ?_
          intro v' w2 hO2 hF hd
          obtain ⟨va, vc, e, hS, _⟩ := hO2.val
          have hB2 : Below W.heap.size W w2 := hB.out.trans (hF.below hB.out.size fun k hk e => by have := (hrv.out.1 k e).1.1; omega)
          subst e
          clear hO2 hF hd
          replace hS := Kp.mk hS
          replace hB2 := Kp.mk hB2
          go_wp2
          go_ret2
          rw [hE.out]
          exact ⟨⟨va, vc, by rw [List.length_append]; rfl, hS.out.mono fun k hk _ => ⟨by omega, rfl⟩⟩, hB2.out⟩
      · have hd2 : ((R.length : Int) == 1) = false := by simp; omega
        have hd3 : ((R.length : Int) != 1) = true := by simp; omega
        have hE : bEnd (many, R) = ([], 1) := by
          unfold bEnd
          match R, h1 with
          | [], _ => rfl
          | _ :: _ :: _, _ => rfl
          | [_], h => simp at h
        go_wp2_with fail
        go_ret2
        rw [hE]
        exact ⟨⟨none, 0, rfl, Sl.nil_ _ _ _⟩, hB.out⟩
end Go.Proofs.Ytbcifjjnnbefkaa
