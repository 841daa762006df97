/-
  More of package regex: set, a set behind its bracket. Conditions: the reader's block holds its fields, the pattern's bytes can be read.
-/
import Derived.Test.YtbcifjjnnbefkaaRegex3
import Derived.Deep.LoopGhost
import Derived.Deep.DeepCutAuto
namespace Go.Proofs.Ytbcifjjnnbefkaa
open Go.RowKit

/-- A method that answers an op, and moves the reader's place. -/
structure OpP (W : World) (b : Nat) (c0 c2 c3 : Value) (r : (Op × Bool) × Nat) (v : Value) (w : World) : Prop where
  v : ∃ cs : Array Value, v = .tuple #[.agg cs, .bool r.1.2] ∧ sOp.R w (fun k => W.heap.size ≤ k) cs.toList r.1.1
  blk : w.heap[b]? = some (.cells #[c0, .int .i64 r.2, c2, c3] 68)
  fr : Fr (fun k => k = b) W w

theorem setL_more (s : List UInt8) (neg : Bool) (i : Nat) (sp : List Span) (h1 : 1 ≤ i) (h : i ≤ s.length) : setL s neg s.length i sp = setL s neg (s.length + 1) i sp :=
  setL_fuel s neg _ _ i sp (by omega) (by omega) h
theorem setL_end (s : List UInt8) (neg : Bool) (i f : Nat) (sp : List Span) (h : sp ≠ [] ∧ s[i]? = some 93) : setL s neg (f + 1) i sp = ((⟨1, neg, sp⟩, true), i + 1) := by
  unfold setL; rw [if_pos h]
theorem setL_no (s : List UInt8) (neg : Bool) (i f : Nat) (sp : List Span) (h : ¬ (sp ≠ [] ∧ s[i]? = some 93)) (h1 : (oneM s i).1.2 = false) : setL s neg (f + 1) i sp = ((⟨0, false, []⟩, false), (oneM s i).2) := by
  unfold setL; rw [if_neg h, if_pos h1]
theorem setL_one (s : List UInt8) (neg : Bool) (i : Nat) (sp : List Span) (h : ¬ (sp ≠ [] ∧ s[i]? = some 93)) (h1 : (oneM s i).1.2 = true) (h2 : s[(oneM s i).2]? ≠ some 45) :
    setL s neg (s.length + 1) i sp = setL s neg (s.length + 1) (oneM s i).2 (sp ++ [⟨(oneM s i).1.1, (oneM s i).1.1⟩]) := by
  have ha := (oneM_le s i).2.2 h1
  rw [setL, if_neg h, if_neg (by simp [h1]), if_neg h2]
  exact setL_more s neg _ _ (by omega) ha.2
theorem setL_no2 (s : List UInt8) (neg : Bool) (i f : Nat) (sp : List Span) (h : ¬ (sp ≠ [] ∧ s[i]? = some 93)) (h1 : (oneM s i).1.2 = true) (h2 : s[(oneM s i).2]? = some 45) (h3 : (oneM s ((oneM s i).2 + 1)).1.2 = false) :
    setL s neg (f + 1) i sp = ((⟨0, false, []⟩, false), (oneM s ((oneM s i).2 + 1)).2) := by
  rw [setL, if_neg h, if_neg (by simp [h1]), if_pos h2, if_pos h3]
theorem setL_less (s : List UInt8) (neg : Bool) (i f : Nat) (sp : List Span) (h : ¬ (sp ≠ [] ∧ s[i]? = some 93)) (h1 : (oneM s i).1.2 = true) (h2 : s[(oneM s i).2]? = some 45) (h3 : (oneM s ((oneM s i).2 + 1)).1.2 = true)
    (h4 : (oneM s ((oneM s i).2 + 1)).1.1 < (oneM s i).1.1) : setL s neg (f + 1) i sp = ((⟨0, false, []⟩, false), (oneM s ((oneM s i).2 + 1)).2 - 1) := by
  rw [setL, if_neg h, if_neg (by simp [h1]), if_pos h2, if_neg (by simp [h3]), if_pos h4]
theorem setL_two (s : List UInt8) (neg : Bool) (i : Nat) (sp : List Span) (h : ¬ (sp ≠ [] ∧ s[i]? = some 93)) (h1 : (oneM s i).1.2 = true) (h2 : s[(oneM s i).2]? = some 45) (h3 : (oneM s ((oneM s i).2 + 1)).1.2 = true)
    (h4 : ¬ (oneM s ((oneM s i).2 + 1)).1.1 < (oneM s i).1.1) : setL s neg (s.length + 1) i sp = setL s neg (s.length + 1) (oneM s ((oneM s i).2 + 1)).2 (sp ++ [⟨(oneM s i).1.1, (oneM s ((oneM s i).2 + 1)).1.1⟩]) := by
  have ha := (oneM_le s ((oneM s i).2 + 1)).2.2 h3
  rw [setL, if_neg h, if_neg (by simp [h1]), if_pos h2, if_neg (by simp [h3]), if_neg h4]
  exact setL_more s neg _ _ (by omega) ha.2

/-- A set that is read: the reader's place is i; gr holds the zero op, gx the op that is made. -/
structure SetC (W : World) (b : Nat) (c0 c2 c3 : Value) (neg : Bool) (gr gx i : Nat) (sp : List Span) (sv : Value) (w : World) : Prop where
  hb : w.heap[b]? = some (.cells #[c0, .int .i64 i, c2, c3] 68)
  hr : w.heap[gr]? = some (.cells #[.int .i64 0, .bool false, .slice none 0 0] 79)
  hx : w.heap[gx]? = some (.cells #[.int .i64 1, .bool neg, sv] 79)
  ow : Ow 62 sSpan w (fun k => W.heap.size ≤ k ∧ k ≠ gr ∧ k ≠ gx) sv sp
  gs : b < W.heap.size ∧ W.heap.size ≤ gr ∧ W.heap.size ≤ gx ∧ gr ≠ gx
  fr : Fr (fun k => k = b) W w
theorem SetC.step {W : World} {b : Nat} {c0 c2 c3 : Value} {neg : Bool} {gr gx i i' : Nat} {sp : List Span} {sv : Value} {w w' : World} (h : SetC W b c0 c2 c3 neg gr gx i sp sv w) (hF : Fr (fun k => k = b) w w')
    (hb : w'.heap[b]? = some (.cells #[c0, .int .i64 i', c2, c3] 68)) : SetC W b c0 c2 c3 neg gr gx i' sp sv w' where
  hb := hb
  hr := hF.obj h.hr (by have := h.gs; omega)
  hx := hF.obj h.hx (by have := h.gs; omega)
  ow := h.ow.mono (hF.keep fun k _ hk => by have := h.gs; omega)
  gs := h.gs
  fr := h.fr.trans hF fun _ _ e => e
theorem SetC.drew {W : World} {b : Nat} {c0 c2 c3 : Value} {neg : Bool} {gr gx i : Nat} {sp : List Span} {sv : Value} {w : World} (h : SetC W b c0 c2 c3 neg gr gx i sp sv w) : SetC W b c0 c2 c3 neg gr gx i sp sv w.drew :=
  h.step (Fr.refl _ _).drew h.hb
theorem SetC.at {W : World} {b : Nat} {c0 c2 c3 : Value} {neg : Bool} {gr gx i : Nat} {sp : List Span} {sv : Value} {w : World} (h : SetC W b c0 c2 c3 neg gr gx i sp sv w) (i' : Nat) {n : Int} (hn : n = i') : SetC W b c0 c2 c3 neg gr gx i' sp sv (w.setCell ⟨b, 1, none⟩ (.int .i64 n)) := by
  subst hn
  exact h.step ((Fr.refl (fun k => k = b) w).setCell (p := ⟨b, 1, none⟩) (fun _ => rfl) _) (blkSet h.hb _)
theorem SetC.neg {W : World} {b : Nat} {c0 c2 c3 : Value} {neg : Bool} {gr gx i : Nat} {sp : List Span} {sv : Value} {w : World} (h : SetC W b c0 c2 c3 neg gr gx i sp sv w) : SetC W b c0 c2 c3 true gr gx i sp sv (w.setCell ⟨gx, 1, none⟩ (.bool true)) := by
  have hg := h.gs
  have hF : Fr (fun k => k = gx) w (w.setCell ⟨gx, 1, none⟩ (.bool true)) := (Fr.refl (fun k => k = gx) w).setCell (p := ⟨gx, 1, none⟩) (fun _ => rfl) _
  exact ⟨hF.obj h.hb (by omega), hF.obj h.hr (by omega), blkSet h.hx _, h.ow.mono (hF.keep fun k _ hk => by omega), hg, h.fr.trans hF fun k hk e => by omega⟩
theorem SetC.same {W : World} {b : Nat} {c0 c2 c3 : Value} {neg : Bool} {gr gx i : Nat} {sp : List Span} {sv : Value} {w w3 : World} (h : SetC W b c0 c2 c3 neg gr gx i sp sv w) (hF : Fr (fun k => sv.ownBlock = some k) w w3) :
    w3.heap[b]? = some (.cells #[c0, .int .i64 i, c2, c3] 68) ∧ w3.heap[gr]? = some (.cells #[.int .i64 0, .bool false, .slice none 0 0] 79) ∧ w3.heap[gx]? = some (.cells #[.int .i64 1, .bool neg, sv] 79) := by
  have hg := h.gs
  exact ⟨hF.obj h.hb fun e => by have := h.ow.1 b e; omega, hF.obj h.hr fun e => by have := h.ow.1 gr e; omega, hF.obj h.hx fun e => by have := h.ow.1 gx e; omega⟩
theorem SetC.app {W : World} {b : Nat} {c0 c2 c3 : Value} {neg : Bool} {gr gx i : Nat} {sp sp' : List Span} {sv v' : Value} {w w3 : World} (h : SetC W b c0 c2 c3 neg gr gx i sp sv w) (hF : Fr (fun k => sv.ownBlock = some k) w w3)
    (hO : Ow 62 sSpan w3 (fun k => W.heap.size ≤ k ∧ k ≠ gr ∧ k ≠ gx) v' sp') : SetC W b c0 c2 c3 neg gr gx i sp' v' (w3.setCell ⟨gx, 2, none⟩ v') := by
  have hg := h.gs
  obtain ⟨h1, h2, h3⟩ := h.same hF
  have hF2 : Fr (fun k => k = gx) w3 (w3.setCell ⟨gx, 2, none⟩ v') := (Fr.refl (fun k => k = gx) w3).setCell (p := ⟨gx, 2, none⟩) (fun _ => rfl) _
  have hF3 : Fr (fun k => k = b) W w3 := h.fr.trans hF fun k hk e => by have := h.ow.1 k e; omega
  exact ⟨hF2.obj h1 (by omega), hF2.obj h2 (by omega), blkSet h3 _, hO.mono (hF2.keep fun k _ hk => by omega), hg, hF3.trans hF2 fun k hk e => by omega⟩
theorem OpP.drew {W : World} {b : Nat} {c0 c2 c3 v : Value} {r : (Op × Bool) × Nat} {w : World} (h : OpP W b c0 c2 c3 r v w) : OpP W b c0 c2 c3 r v w.drew :=
  ⟨let ⟨cs, e, h1⟩ := h.v; ⟨cs, e, Shape.drew _ h1⟩, h.blk, h.fr.drew⟩
theorem SetC.done {W : World} {b : Nat} {c0 c2 c3 : Value} {neg : Bool} {gr gx i n : Nat} {sp : List Span} {va : Option Addr} {vc : Nat} {w : World} (h : SetC W b c0 c2 c3 neg gr gx i sp (.slice va n vc) w) (hn : n = sp.length) :
    OpP W b c0 c2 c3 ((⟨1, neg, sp⟩, true), i) (.tuple #[.agg #[.int .i64 1, .bool neg, .slice va n vc], .bool true]) (((w.setCell ⟨gr, 0, none⟩ (.int .i64 1)).setCell ⟨gr, 1, none⟩ (.bool neg)).setCell ⟨gr, 2, none⟩ (.slice va n vc)) := by
  have hg := h.gs
  have hF : Fr (fun k => k = gr) w (((w.setCell ⟨gr, 0, none⟩ (.int .i64 1)).setCell ⟨gr, 1, none⟩ (.bool neg)).setCell ⟨gr, 2, none⟩ (.slice va n vc)) :=
      (((Fr.refl (fun k => k = gr) w).setCell (p := ⟨gr, 0, none⟩) (fun _ => rfl) _).setCell (p := ⟨gr, 1, none⟩) (fun _ => rfl) _).setCell (p := ⟨gr, 2, none⟩) (fun _ => rfl) _
  obtain ⟨a, cap, e, hS, _⟩ := h.ow.val
  cases e
  refine ⟨⟨_, rfl, _, _, by rw [hn], by simp [i64ok], hS.mono fun k hk hl => ⟨hk.1, hF.block k hl fun e => hk.2.1 e⟩⟩, hF.obj h.hb (by omega), h.fr.trans hF fun k hk e => by omega⟩

/-- It fails: the zero op is answered. -/
theorem SetC.fail {W : World} {b : Nat} {c0 c2 c3 : Value} {neg : Bool} {gr gx i : Nat} {sp : List Span} {sv : Value} {w : World} (h : SetC W b c0 c2 c3 neg gr gx i sp sv w) :
    OpP W b c0 c2 c3 ((⟨0, false, []⟩, false), i) (.tuple #[.agg #[.int .i64 0, .bool false, .slice none 0 0], .bool false]) (((w.setCell ⟨gr, 0, none⟩ (.int .i64 0)).setCell ⟨gr, 1, none⟩ (.bool false)).setCell ⟨gr, 2, none⟩ (.slice none 0 0)) where
  v := ⟨_, rfl, none, 0, rfl, by simp [i64ok], Sl.nil_ _ _ _⟩
  blk := by
    have hg := h.gs
    have hF : Fr (fun k => k = gr) w (((w.setCell ⟨gr, 0, none⟩ (.int .i64 0)).setCell ⟨gr, 1, none⟩ (.bool false)).setCell ⟨gr, 2, none⟩ (.slice none 0 0)) :=
      (((Fr.refl (fun k => k = gr) w).setCell (p := ⟨gr, 0, none⟩) (fun _ => rfl) _).setCell (p := ⟨gr, 1, none⟩) (fun _ => rfl) _).setCell (p := ⟨gr, 2, none⟩) (fun _ => rfl) _
    exact hF.obj h.hb (by omega)
  fr := by
    have hg := h.gs
    have hF : Fr (fun k => k = gr) w (((w.setCell ⟨gr, 0, none⟩ (.int .i64 0)).setCell ⟨gr, 1, none⟩ (.bool false)).setCell ⟨gr, 2, none⟩ (.slice none 0 0)) :=
      (((Fr.refl (fun k => k = gr) w).setCell (p := ⟨gr, 0, none⟩) (fun _ => rfl) _).setCell (p := ⟨gr, 1, none⟩) (fun _ => rfl) _).setCell (p := ⟨gr, 2, none⟩) (fun _ => rfl) _
    exact (h.fr.mono (M' := fun k => k = b) fun _ _ e => e).trans hF fun k hk e => by omega

/-- The loop of 'set'. -/
structure SetI (W : World) (b : Nat) (c0 c2 c3 : Value) (s : List UInt8) (neg : Bool) (tot : (Op × Bool) × Nat) (gr gx n : Nat) (w : World) : Prop where
  st : ∃ (i : Nat) (sp : List Span) (sv : Value), i ≤ s.length ∧ s.length - i ≤ n ∧ sp.length ≤ i ∧ SetC W b c0 c2 c3 neg gr gx i sp sv w ∧ tot = setL s neg (s.length + 1) i sp
/-- The test at the head of the loop. -/
structure HeadR (hd : Bool) (wr : World) (t : Value) (w : World) : Prop where
  t : t = .bool hd
  w : w = wr.drew

set_option maxRecDepth 100000 in
set_option maxHeartbeats 8000000 in
theorem set_calls (s : List UInt8) (b : Nat) (sa : Option Addr) (sc i : Nat) (c2 c3 : Value) (W : World) (hb : W.heap[b]? = some (.cells #[.slice sa s.length sc, .int .i64 i, c2, c3] 68)) (hs : Sl sByte W (fun k => k ≠ b ∧ k < W.heap.size) sa sc s) (hl : s.length ≤ 100) (hi : i ≤ s.length) :
    Calls Try.prog 53 #[.pointer (some ⟨b, 0, none⟩)] W (Ret (OpP W b (.slice sa s.length sc) c2 c3 (setM s i))) := by
  have hbc := blkC hb
  have hbf := blkF hb
  have hbl := blkL hb
  replace hb := Kp.mk hb
  have hS0 := Kp.mk hs
  -- the test for '^'
  have start : ∃ neg : Bool, setM s i = setL s neg (s.length + 1) (if neg then i + 1 else i) [] ∧ (s[i]? = some 94 ↔ neg = true) := by
    by_cases h : s[i]? = some 94
    · exact ⟨true, by unfold setM; rw [if_pos h]; rfl, by simp [h]⟩
    · exact ⟨false, by unfold setM; rw [if_neg h]; rfl, by simp [h]⟩
  obtain ⟨neg, htot, hneg⟩ := start
  have hile : (if neg then i + 1 else i) ≤ s.length := by
    cases neg
    · exact hi
    · have := (List.getElem?_eq_some_iff.1 (hneg.2 rfl)).1
      simp; omega
  replace hneg := Kp.mk hneg
  replace htot := Kp.mk htot
  replace hile := Kp.mk hile
  replace hs := Kp.mk hs
  have hC0 : ∀ (neg : Bool) (W0 : World) (i' : Nat), Fr (fun k => k = b) W W0 → W0.heap.size = W.heap.size → W0.heap[b]? = some (.cells #[.slice sa s.length sc, .int .i64 i', c2, c3] 68) →
      SetC W b (.slice sa s.length sc) c2 c3 neg W.heap.size (W.heap.size + 1) i' [] (.slice none 0 0) ((W0.alloc (Obj.cells #[Value.int IntKind.i64 0, Value.bool false, Value.slice none 0 0] 79)).alloc (Obj.cells #[Value.int IntKind.i64 1, Value.bool neg, Value.slice none 0 0] 79)) := by
    intro neg W0 i' hF hz hb0
    refine ⟨?_, ?_, ?_, Ow.nil _ _ _ _, ⟨hbl, by omega, by omega, by omega⟩, (hF.alloc _).alloc _⟩
    · exact (Below.heap_alloc _ _ _ (by simp; omega)).trans ((Below.heap_alloc _ _ _ (by omega)).trans hb0)
    · rw [← hz]; exact (Below.heap_alloc _ _ _ (by simp)).trans (heap_alloc_new _ _)
    · rw [← hz]; exact heap_alloc2_new _ _ _
  replace hC0 := Kp.mk hC0
  go_enter Try.func53, Try.ntmps53
  go_upto_region 2 with fail
  go_cut [31] (fun t wc => HeadR neg ((W.alloc (Obj.cells #[Value.int IntKind.i64 0, Value.bool false, Value.slice none 0 0] 79)).alloc (Obj.cells #[Value.int IntKind.i64 1, Value.bool false, Value.slice none 0 0] 79)) t wc)
  case first =>
    by_cases hlt : i < s.length
    · obtain ⟨b2, off, rfl, hb2, hbn, hc⟩ := byte_at hs.out hlt
      have hd : decide (i < s.length) = true := by simp; omega
      have hneg := hneg.out
      rw [List.getElem?_eq_getElem hlt, Option.some.injEq] at hneg
      generalize s[i] = c at hc hneg
      have e94 : ((c.toNat : Int) == 94) = neg := by
        rw [show ((c.toNat : Int) == 94) = (c == 94) from u8_cases c 94, Bool.eq_iff_iff, beq_iff_eq]; exact hneg
      have hbb : b2 ≠ W.heap.size ∧ b2 ≠ W.heap.size + 1 := by omega
      clear hneg
      refine wp_lex (by kernel_rfl) ⟨fun _ _ _ h => h.2, fun _ _ h => h⟩ (by kernel_rfl) ?_
      go_wp2
      refine fin_end (by kernel_rfl) ?_
      go_wp2
      go_meet
      case rel => exact ⟨rfl, rfl⟩
    · have hd : decide (i < s.length) = false := by simp; omega
      have hneg : neg = false := by
        have h := hneg.out
        rw [List.getElem?_eq_none (by omega)] at h
        cases neg
        · rfl
        · exact absurd (h.2 rfl) (by simp)
      subst hneg
      refine wp_lex (by kernel_rfl) ⟨fun _ _ _ h => h.2, fun _ _ h => h⟩ (by kernel_rfl) ?_
      go_wp2
      refine fin_end (by kernel_rfl) ?_
      go_wp2
      go_meet
      case rel => exact ⟨rfl, rfl⟩
  case rest =>
    obtain ⟨rfl, rfl⟩ := hcut
    go_upto_if 31 with fail
    go_cut [] (fun wc => SetI W b (.slice sa s.length sc) c2 c3 s neg (setM s i) W.heap.size (W.heap.size + 1) s.length wc)
    case first =>
      cases neg
      · go_wp2
        go_meet
        case rel => exact ⟨_, [], .slice none 0 0, hi, by omega, by simp, (hC0.out false W i (Fr.refl _ _) rfl hb.out).drew, htot.out⟩
      · go_wp2
        go_meet
        case rel => exact ⟨_, [], .slice none 0 0, hile.out, by omega, by simp, (hC0.out true _ (i + 1) ((Fr.refl (fun k => k = b) W).setCell (p := ⟨b, 1, none⟩) (fun _ => rfl) _) (by simp) (blkSet hb.out _)).drew, htot.out⟩
    case rest =>
      go_wp2_with fail
      go_loopg [] s.length (fun k w => SetI W b (.slice sa s.length sc) c2 c3 s neg (setM s i) W.heap.size (W.heap.size + 1) k w)
      case atStart => exact hcut
      case round =>
        obtain ⟨j, sp, sv, hjl, hjk, hspl, hC, hT⟩ := hrel
        obtain ⟨va, vc, rfl⟩ := hC.ow.form (n := sp.length) rfl
        have hbc1 := blkC hC.hb
        have hbf1 := blkF hC.hb
        have hbl1 := blkL hC.hb
        have hrc1 := blkC hC.hr
        have hrf1 := blkF hC.hr
        have hxc1 := blkC hC.hx
        have hxf1 := blkF hC.hx
        replace hC := Kp.mk hC
        replace hT := Kp.mk hT
        have hsr := Kp.mk (hs.out.mono (A' := fun k => k ≠ b) (w' := wr.drew) fun k hk hl => ⟨hk.1, hC.out.fr.block k hl hk.1⟩)
        have head : ∃ hd : Bool, hd = true ↔ ¬ (sp ≠ [] ∧ s[j]? = some 93) := ⟨decide (¬ (sp ≠ [] ∧ s[j]? = some 93)), decide_eq_true_iff⟩
        obtain ⟨hd, hhd⟩ := head
        replace hhd := Kp.mk hhd
        go_upto_region 5 with fail
        go_cut [68] (fun t wc => HeadR hd wr t wc)
        case first =>
          by_cases h0 : sp = []
          · obtain rfl : hd = true := hhd.out.2 (by simp [h0])
            have hn : ((sp.length : Int) == 0) = true := by simp [h0]
            clear h0
            refine wp_lex (by kernel_rfl) ⟨fun _ _ _ h => h.2, fun _ _ h => h⟩ (by kernel_rfl) ?_
            go_wp2
            refine fin_end (by kernel_rfl) ?_
            go_wp2
            go_meet
            case rel => exact ⟨rfl, rfl⟩
          · have hn : ((sp.length : Int) == 0) = false := by simp [h0]
            by_cases h1 : s.length ≤ j
            · obtain rfl : hd = true := hhd.out.2 (by rw [List.getElem?_eq_none h1]; simp)
              have hd : decide (s.length ≤ j) = true := by simp; omega
              clear h0 h1
              refine wp_lex (by kernel_rfl) ⟨fun _ _ _ h => h.2, fun _ _ h => h⟩ (by kernel_rfl) ?_
              go_wp2
              refine fin_end (by kernel_rfl) ?_
              go_wp2
              go_meet
              case rel => exact ⟨rfl, rfl⟩
            · have hlt : j < s.length := by omega
              obtain ⟨b2, off, rfl, hb2, hbn, hc⟩ := byte_at hsr.out hlt
              have hdd : decide (s.length ≤ j) = false := by simp; omega
              have hh := hhd.out
              rw [List.getElem?_eq_getElem hlt, Option.some.injEq] at hh
              generalize s[j] = c at hc hh
              have e93 : ((c.toNat : Int) == 93) = !hd := by
                rw [show ((c.toNat : Int) == 93) = (c == 93) from u8_cases c 93, Bool.eq_iff_iff, beq_iff_eq]
                cases hd <;> simp [h0] at hh ⊢ <;> exact hh
              clear hh h0 h1
              refine wp_lex (by kernel_rfl) ⟨fun _ _ _ h => h.2, fun _ _ h => h⟩ (by kernel_rfl) ?_
              go_wp2
              refine fin_end (by kernel_rfl) ?_
              go_wp2
              go_meet
              case rel => exact ⟨by simp [bne, e93], rfl⟩
        case rest =>
          obtain ⟨rfl, rfl⟩ := hcut
          cases hd
          · go_wp2_with fail
            refine bodyPost_ret (v := .tuple #[.agg #[.int .i64 1, .bool neg, .slice va sp.length vc], .bool true]) (by simp [results, Try.results53, go_sem, hrc1]; done) rfl ?_
            have hE : setM s i = ((⟨1, neg, sp⟩, true), j + 1) := by
              rw [hT.out]; exact setL_end s neg j _ sp (by have := hhd.out; simpa using this)
            rw [hE]
            exact (((hC.out.at (j + 1) (by simp)).done rfl).drew)
          · go_wp2_with fail
            have hhead : ¬ (sp ≠ [] ∧ s[j]? = some 93) := hhd.out.1 (by simp)
            replace hhead := Kp.mk hhead
            refine ret_mono (one_calls s b _ sc j c2 c3 _ hC.out.drew.hb hsr.out hl (by omega)) ?_
            have h1 := oneM_le s j
            generalize hr : oneM s j = r at h1
            obtain ⟨⟨x, ok⟩, j1⟩ := r
            rintro v w1 ⟨rfl, hb1, hF1⟩
            have hC1 := hC.out.drew.step hF1 hb1
            have hbc2 := blkC hC1.hb
            have hbf2 := blkF hC1.hb
            have hbl2 := blkL hC1.hb
            have hrc2 := blkC hC1.hr
            have hrf2 := blkF hC1.hr
            have hrl2 := blkL hC1.hr
            have hxc2 := blkC hC1.hx
            have hxf2 := blkF hC1.hx
            have hxl2 := blkL hC1.hx
            clear hb1 hF1
            have hC1 := Kp.mk hC1
            dsimp only at h1
            have hr := Kp.mk hr
            cases ok
            · go_wp2_with fail
              refine bodyPost_ret (v := .tuple #[.agg #[.int .i64 0, .bool false, .slice none 0 0], .bool false]) (by simp [results, Try.results53, go_sem, hrc2]; done) rfl ?_
              have hE : setM s i = ((⟨0, false, []⟩, false), j1) := by
                rw [hT.out, setL_no s neg j _ sp hhead.out (by rw [hr.out]), hr.out]
              rw [hE]
              exact hC1.out.fail
            · replace h1 := h1.2.2 rfl
              have hsr1 := Kp.mk (hs.out.mono (A' := fun k => k ≠ b) (w' := w1.drew) fun k hk hl => ⟨hk.1, hC1.out.fr.block k hl hk.1⟩)
              have head2 : ∃ dash : Bool, dash = true ↔ s[j1]? = some 45 := ⟨decide (s[j1]? = some 45), decide_eq_true_iff⟩
              obtain ⟨dash, hdash⟩ := head2
              replace hdash := Kp.mk hdash
              go_upto_region 10 with fail
              go_cut [100] (fun t wc => HeadR dash w1 t wc)
              case first =>
                by_cases h2 : s.length ≤ j1
                · have hdd : dash = false := by
                    have h := hdash.out
                    rw [List.getElem?_eq_none h2] at h
                    cases dash
                    · rfl
                    · exact absurd (h.1 rfl) (by simp)
                  subst hdd
                  have hd : decide (j1 < s.length) = false := by simp; omega
                  refine wp_lex (by kernel_rfl) ⟨fun _ _ _ h => h.2, fun _ _ h => h⟩ (by kernel_rfl) ?_
                  go_wp2
                  refine fin_end (by kernel_rfl) ?_
                  go_wp2
                  go_meet
                  case rel => exact ⟨rfl, rfl⟩
                · have hlt : j1 < s.length := by omega
                  obtain ⟨b2, off, rfl, hb2, hbn, hc⟩ := byte_at hsr1.out hlt
                  have hd : decide (j1 < s.length) = true := by simp; omega
                  have hh := hdash.out
                  rw [List.getElem?_eq_getElem hlt, Option.some.injEq] at hh
                  generalize s[j1] = c at hc hh
                  have e45 : ((c.toNat : Int) == 45) = dash := by
                    rw [show ((c.toNat : Int) == 45) = (c == 45) from u8_cases c 45, Bool.eq_iff_iff, beq_iff_eq]; exact hh.symm
                  clear hh
                  refine wp_lex (by kernel_rfl) ⟨fun _ _ _ h => h.2, fun _ _ h => h⟩ (by kernel_rfl) ?_
                  go_wp2
                  refine fin_end (by kernel_rfl) ?_
                  go_wp2
                  go_meet
                  case rel => exact ⟨rfl, rfl⟩
              case rest =>
                obtain ⟨rfl, rfl⟩ := hcut
                have hC2 := Kp.mk hC1.out.drew
                cases dash
                · have hnd : s[j1]? ≠ some 45 := fun e => by have := hdash.out.2 e; simp at this
                  have hE : setM s i = setL s neg (s.length + 1) j1 (sp ++ [⟨x, x⟩]) := by
                    rw [hT.out, setL_one s neg j sp hhead.out (by rw [hr.out]) (by rw [hr.out]; exact hnd), hr.out]
                  replace hE := Kp.mk hE
                  clear hnd
                  go_wp2_with (at_builtin; refine pause ?_; intro K hK)
                  refine hK.out _ _ ?_
                  have hhb := hC2.out
                  refine wpl_append1 (w := w1.drew) (y := ⟨x, x⟩) ty_span rfl rfl rfl hhb.ow rfl rfl (heap_alloc_new _ _) ((Fr.refl _ _).alloc _) (by omega) (fun k hk => by have := hhb.gs; have h1 := blkL hhb.hr; have h2 := blkL hhb.hx; omega) ?_
                  intro v' w3 hO2 hF _
                  obtain ⟨k1, k2, k3⟩ := hhb.same hF
                  have hbc3 := blkC k1
                  have hbf3 := blkF k1
                  have hxc3 := blkC k3
                  have hxf3 := blkF k3
                  obtain ⟨va', vc', rfl⟩ := hO2.form (n := sp.length + 1) (by simp)
                  have hfin := Kp.mk (hhb.app hF hO2)
                  clear k1 k2 k3 hO2 hF hhb
                  go_wp2
                  go_roundg (gk - 1)
                  case measure => omega
                  case rel => exact ⟨j1, _, _, by omega, by omega, by simp; omega, hfin.out, hE.out⟩
                · have hlt : j1 < s.length := (List.getElem?_eq_some_iff.1 (hdash.out.1 (by simp))).1
                  have hC3 := hC1.out.at (j1 + 1) (n := (j1 : Int) + 1) (by simp)
                  have hsr2 := Kp.mk (hs.out.mono (A' := fun k => k ≠ b) (w' := (w1.setCell ⟨b, 1, none⟩ (.int .i64 ((j1 : Int) + 1))).drew) fun k hk hl => ⟨hk.1, hC3.fr.block k hl hk.1⟩)
                  replace hC3 := Kp.mk hC3
                  go_wp2_with fail
                  refine ret_mono (one_calls s b _ sc (j1 + 1) c2 c3 _ hC3.out.drew.hb hsr2.out hl (by omega)) ?_
                  have h2 := oneM_le s (j1 + 1)
                  generalize hr2 : oneM s (j1 + 1) = r at h2
                  obtain ⟨⟨y, ok⟩, j2⟩ := r
                  rintro v w4 ⟨rfl, hb4, hF4⟩
                  have hC4 := hC3.out.drew.step hF4 hb4
                  have hbc4 := blkC hC4.hb
                  have hbf4 := blkF hC4.hb
                  have hbl4 := blkL hC4.hb
                  have hrc4 := blkC hC4.hr
                  have hrf4 := blkF hC4.hr
                  have hrl4 := blkL hC4.hr
                  have hxc4 := blkC hC4.hx
                  have hxf4 := blkF hC4.hx
                  have hxl4 := blkL hC4.hx
                  clear hb4 hF4
                  have hC4 := Kp.mk hC4
                  dsimp only at h2
                  have hr2 := Kp.mk hr2
                  have q1 : (oneM s j).1.2 = true := by rw [hr.out]
                  have q2 : s[(oneM s j).2]? = some 45 := by rw [hr.out]; exact hdash.out.1 (by simp)
                  have q3 : oneM s ((oneM s j).2 + 1) = ((y, ok), j2) := by rw [hr.out]; exact hr2.out
                  replace q1 := Kp.mk q1
                  replace q2 := Kp.mk q2
                  replace q3 := Kp.mk q3
                  cases ok
                  · go_wp2_with fail
                    refine bodyPost_ret (v := .tuple #[.agg #[.int .i64 0, .bool false, .slice none 0 0], .bool false]) (by simp [results, Try.results53, go_sem, hrc4]; done) rfl ?_
                    have hE : setM s i = ((⟨0, false, []⟩, false), j2) := by
                      rw [hT.out, setL_no2 s neg j _ sp hhead.out q1.out q2.out (by rw [q3.out]), q3.out]
                    rw [hE]
                    exact hC4.out.fail
                  · replace h2 := h2.2.2 rfl
                    by_cases hlt2 : y < x
                    · have hdl : decide ((y.toNat : Int) < (x.toNat : Int)) = true := by
                        simp only [decide_eq_true_eq]; have := UInt8.lt_iff_toNat_lt.1 hlt2; omega
                      have hE : setM s i = ((⟨0, false, []⟩, false), j2 - 1) := by
                        rw [hT.out, setL_less s neg j _ sp hhead.out q1.out q2.out (by rw [q3.out]) (by rw [q3.out, hr.out]; exact hlt2), q3.out]
                      replace hE := Kp.mk hE
                      have hn : y.toNat < x.toNat := UInt8.lt_iff_toNat_lt.1 hlt2
                      clear hlt2
                      have hC5 := Kp.mk (hC4.out.at (j2 - 1) (n := (j2 : Int) - 1) (by omega))
                      go_wp2_with fail
                      refine bodyPost_ret (v := .tuple #[.agg #[.int .i64 0, .bool false, .slice none 0 0], .bool false]) (by simp [results, Try.results53, go_sem, hrc4]; done) rfl ?_
                      rw [hE.out]
                      exact hC5.out.fail
                    · have hdl : decide ((y.toNat : Int) < (x.toNat : Int)) = false := by
                        simp only [decide_eq_false_iff_not]; intro h; exact hlt2 (UInt8.lt_iff_toNat_lt.2 (by omega))
                      have hE : setM s i = setL s neg (s.length + 1) j2 (sp ++ [⟨x, y⟩]) := by
                        rw [hT.out, setL_two s neg j sp hhead.out q1.out q2.out (by rw [q3.out]) (by rw [q3.out, hr.out]; exact hlt2), q3.out, hr.out]
                      replace hE := Kp.mk hE
                      have hn : ¬ y.toNat < x.toNat := fun h => hlt2 (UInt8.lt_iff_toNat_lt.2 h)
                      clear hlt2
                      go_wp2_with (at_builtin; refine pause ?_; intro K hK)
                      refine hK.out _ _ ?_
                      have hhb := hC4.out
                      refine wpl_append1 (w := w4) (y := ⟨x, y⟩) ty_span rfl rfl rfl hhb.ow rfl rfl (heap_alloc_new _ _) ((Fr.refl _ _).alloc _) (by omega) (fun k hk => by have := hhb.gs; have h1 := blkL hhb.hr; have h2 := blkL hhb.hx; omega) ?_
                      intro v' w3 hO2 hF _
                      obtain ⟨k1, k2, k3⟩ := hhb.same hF
                      have hbc5 := blkC k1
                      have hbf5 := blkF k1
                      have hxc5 := blkC k3
                      have hxf5 := blkF k3
                      obtain ⟨va', vc', rfl⟩ := hO2.form (n := sp.length + 1) (by simp)
                      have hfin := Kp.mk (hhb.app hF hO2)
                      clear k1 k2 k3 hO2 hF hhb
                      go_wp2
                      go_roundg (gk - 1)
                      case measure => omega
                      case rel => exact ⟨j2, _, _, by omega, by omega, by simp; omega, hfin.out, hE.out⟩
end Go.Proofs.Ytbcifjjnnbefkaa
