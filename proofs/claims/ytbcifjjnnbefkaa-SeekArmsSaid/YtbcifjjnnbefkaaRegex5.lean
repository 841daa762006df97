/-
  More of package regex: bytes, an atom of bytes. Conditions: the reader's block holds its fields, the pattern's bytes can be read, and there is one at the reader's place.
-/
import Derived.Test.YtbcifjjnnbefkaaRegex4
import Derived.Laws.Cover3
namespace Go.Proofs.Ytbcifjjnnbefkaa
open Go.RowKit

def bytesM (s : List UInt8) (i : Nat) (c : UInt8) : (Op × Bool) × Nat :=
  if c = 42 ∨ c = 43 ∨ c = 63 ∨ c = 93 then ((⟨0, false, []⟩, false), i)
  else if c = 91 then setM s (i + 1)
  else if c = 46 then ((⟨1, true, [⟨10, 10⟩]⟩, true), i + 1)
  else if c = 92 then
    match s[i + 1]? with
    | none => ((⟨1, false, [⟨(escM s (i + 1)).1.1, (escM s (i + 1)).1.1⟩]⟩, (escM s (i + 1)).1.2), (escM s (i + 1)).2)
    | some d => if classM d = [] then ((⟨1, false, [⟨(escM s (i + 1)).1.1, (escM s (i + 1)).1.1⟩]⟩, (escM s (i + 1)).1.2), (escM s (i + 1)).2) else ((⟨1, false, classM d⟩, true), i + 2)
  else ((⟨1, false, [⟨c, c⟩]⟩, true), i + 1)

/-- An op of one span, which lies in a fresh block. -/
theorem OpP.lit {W w : World} {b i g : Nat} {c0 c2 c3 : Value} {neg is : Bool} {x : Span} (hF : Fr (fun k => k = b) W w) (hb : w.heap[b]? = some (.cells #[c0, .int .i64 i, c2, c3] 68))
    (hg : w.heap[g]? = some (.cells #[.int .u8 x.lo.toNat, .int .u8 x.hi.toNat] 62)) (hge : W.heap.size ≤ g) :
    OpP W b c0 c2 c3 ((⟨1, neg, [x]⟩, is), i) (.tuple #[.agg #[.int .i64 1, .bool neg, .slice (some ⟨g, 0, none⟩) 1 1], .bool is]) w := by
  refine ⟨⟨_, rfl, some ⟨g, 0, none⟩, 1, rfl, by simp [i64ok], ⟨Nat.le_refl 1, by decide, fun e => (by cases e), fun _ => ⟨g, 0, rfl, hge, blkL hg⟩, fun b' off e k hk => ?_⟩⟩, hb, hF⟩
  obtain ⟨rfl, rfl⟩ : g = b' ∧ 0 = off := by simpa using e
  obtain rfl : k = 0 := by simpa using hk
  refine ⟨_, rfl, fun j hj => ?_⟩
  have hj : j < 2 := hj
  rw [show 0 + 0 * sSpan.n + j = j by simp, blkC hg]
  simp

theorem OpP.lit2 {W Wx : World} {b i : Nat} {c0 c2 c3 : Value} {neg is : Bool} {x : Span} {o : Obj} (hF : Fr (fun k => k = b) W Wx) (hz : Wx.heap.size = W.heap.size) (hbl : b < W.heap.size) (hb : Wx.heap[b]? = some (.cells #[c0, .int .i64 i, c2, c3] 68)) :
    OpP W b c0 c2 c3 ((⟨1, neg, [x]⟩, is), i) (.tuple #[.agg #[.int .i64 1, .bool neg, .slice (some ⟨W.heap.size + 1, 0, none⟩) 1 1], .bool is]) ((Wx.alloc o).alloc (.cells #[.int .u8 x.lo.toNat, .int .u8 x.hi.toNat] 62)).drew := by
  refine OpP.lit ((hF.alloc _).alloc _).drew ?_ ?_ (by omega)
  · exact (Below.heap_alloc _ _ _ (by simp; omega)).trans ((Below.heap_alloc _ _ _ (by omega)).trans hb)
  · rw [← hz]; exact heap_alloc2_new _ _ _
/-- The answer of a call, laid into a block that was made ahead of the call. -/
theorem OpP.store {W Wx w1 w2 : World} {b gr : Nat} {c0 c2 c3 v : Value} {r : (Op × Bool) × Nat} (h : OpP Wx b c0 c2 c3 r v w1) (hF : Fr (fun k => k = b) W Wx) (hg : W.heap.size ≤ gr ∧ gr < Wx.heap.size) (hbl : b < W.heap.size)
    (hF2 : Fr (fun k => k = gr) w1 w2) : OpP W b c0 c2 c3 r v w2 := by
  obtain ⟨cs, e, h1⟩ := h.v
  refine ⟨⟨cs, e, sOp.mono (fun k hk hl => ⟨by have := hF.size; omega, hF2.block k hl (by omega)⟩) h1⟩, hF2.obj h.blk (by omega), (hF.trans h.fr fun _ _ e => e).trans hF2 fun k hk e => by omega⟩

set_option maxRecDepth 100000 in
set_option maxHeartbeats 8000000 in
theorem bytes_calls (s : List UInt8) (b : Nat) (sa : Option Addr) (sc i : Nat) (c : UInt8) (c2 c3 : Value) (W : World) (hb : W.heap[b]? = some (.cells #[.slice sa s.length sc, .int .i64 i, c2, c3] 68)) (hs : Sl sByte W (fun k => k ≠ b ∧ k < W.heap.size) sa sc s) (hl : s.length ≤ 100) (hi : s[i]? = some c) :
    Calls Try.prog 37 #[.pointer (some ⟨b, 0, none⟩)] W (Ret (OpP W b (.slice sa s.length sc) c2 c3 (bytesM s i c))) := by
  have hbc := blkC hb
  have hbf := blkF hb
  have hbl := blkL hb
  replace hb := Kp.mk hb
  have hlt : i < s.length := (List.getElem?_eq_some_iff.1 hi).1
  obtain ⟨b2, off, rfl, hb2, hbn, hc⟩ := byte_at hs hlt
  rw [List.getElem?_eq_getElem hlt, Option.some.injEq] at hi
  rw [hi] at hc
  replace hs := Kp.mk hs
  have hsn : ∀ a l c w, (binOp .neq 22 (.slice a l c) (.slice none 0 0)).run Try.prog w = .ok (.bool (!a.isNone)) w := fun a l c w => run_neq_slice_nil w _ _ a l c Try.underlying22
  have hbb : b2 ≠ W.heap.size ∧ b ≠ W.heap.size := by omega
  by_cases h1 : c = 42 ∨ c = 43 ∨ c = 63 ∨ c = 93
  · have hE : bytesM s i c = ((⟨0, false, []⟩, false), i) := by unfold bytesM; rw [if_pos h1]
    replace hE := Kp.mk hE
    rcases h1 with rfl | rfl | rfl | rfl
    all_goals
      go_enter Try.func37, Try.ntmps37
      go_wp2
      refine wp_lex (by kernel_rfl) ⟨fun _ _ _ h => h.2, fun _ _ h => h⟩ (by kernel_rfl) ?_
      go_wp2
      refine fin_end (by kernel_rfl) ?_
      go_wp2_with fail
      refine bodyPost_ret (v := .tuple #[.agg #[.int .i64 0, .bool false, .slice none 0 0], .bool false]) (by simp [results, Try.results37, go_sem]; done) rfl ?_
      rw [hE.out]
      exact ⟨⟨_, rfl, none, 0, rfl, by simp [i64ok], Sl.nil_ _ _ _⟩, (Below.heap_alloc _ _ _ hbl).trans hb.out, ((Fr.refl _ _).alloc _).drew⟩
  · simp only [not_or] at h1
    by_cases h2 : c = 91
    · subst h2
      have hE : bytesM s i 91 = setM s (i + 1) := by unfold bytesM; simp
      replace hE := Kp.mk hE
      clear h1
      have hF0 : Fr (fun k => k = b) W ((W.setCell ⟨b, 1, none⟩ (.int .i64 ((i : Int) + 1))).alloc (Obj.cells #[Value.int IntKind.i64 0, Value.bool false, Value.slice none 0 0] 79)).drew :=
        (((Fr.refl (fun k => k = b) W).setCell (p := ⟨b, 1, none⟩) (fun _ => rfl) _).alloc _).drew
      have hb0 := Kp.mk ((Below.heap_alloc (W.setCell ⟨b, 1, none⟩ (.int .i64 ((i : Int) + 1))) (Obj.cells #[Value.int IntKind.i64 0, Value.bool false, Value.slice none 0 0] 79) b (by simp; omega)).trans (blkSet hb.out _))
      have hg0 := Kp.mk (heap_alloc_new (W.setCell ⟨b, 1, none⟩ (.int .i64 ((i : Int) + 1))) (Obj.cells #[Value.int IntKind.i64 0, Value.bool false, Value.slice none 0 0] 79))
      replace hF0 := Kp.mk hF0
      go_enter Try.func37, Try.ntmps37
      go_wp2
      refine wp_lex (by kernel_rfl) ⟨fun _ _ _ h => h.2, fun _ _ h => h⟩ (by kernel_rfl) ?_
      go_wp2
      refine fin_end (by kernel_rfl) ?_
      go_wp2_with fail
      refine ret_mono (set_calls s b _ sc (i + 1) c2 c3 _ hb0.out (hs.out.mono fun k hk hl => ⟨⟨hk.1, by simp; omega⟩, hF0.out.block k hl hk.1⟩) hl (by omega)) ?_
      intro v w1 hP
      have hO := hP.v
      obtain ⟨cs, rfl, a', cap', hcs, _, _⟩ := hO
      obtain rfl : cs = #[.int .i64 (setM s (i + 1)).1.1.kind, .bool (setM s (i + 1)).1.1.neg, .slice a' (setM s (i + 1)).1.1.spans.length cap'] := Array.toList_inj.1 hcs
      have hg1 := hP.fr.obj hg0.out (by simp; omega)
      have hgz : (W.setCell ⟨b, 1, none⟩ (.int .i64 ((i : Int) + 1))).heap.size = W.heap.size := by simp
      rw [hgz] at hg1
      have hgc := blkC hg1
      have hgf := blkF hg1
      have hgl := blkL hg1
      clear hgz hg1 hcs
      replace hP := Kp.mk hP
      generalize hq : setM s (i + 1) = q at *
      replace hq := Kp.mk hq
      go_wp2_with fail
      refine bodyPost_ret (v := .tuple #[.agg #[.int .i64 q.1.1.kind, .bool q.1.1.neg, .slice a' q.1.1.spans.length cap'], .bool q.1.2]) (by simp [results, Try.results37, go_sem, hgc]; done) rfl ?_
      rw [hE.out]
      exact hP.out.store hF0.out (gr := W.heap.size) (by simp) hbl ((((Fr.refl (fun k => k = W.heap.size) w1).setCell (p := ⟨W.heap.size, 0, none⟩) (fun _ => rfl) _).setCell (p := ⟨W.heap.size, 1, none⟩) (fun _ => rfl) _).setCell (p := ⟨W.heap.size, 2, none⟩) (fun _ => rfl) _)
    · by_cases h3 : c = 46
      · subst h3
        have hE : bytesM s i 46 = ((⟨1, true, [⟨10, 10⟩]⟩, true), i + 1) := by unfold bytesM; simp
        replace hE := Kp.mk hE
        go_enter Try.func37, Try.ntmps37
        go_wp2
        refine wp_lex (by kernel_rfl) ⟨fun _ _ _ h => h.2, fun _ _ h => h⟩ (by kernel_rfl) ?_
        go_wp2
        refine fin_end (by kernel_rfl) ?_
        go_wp2_with fail
        refine bodyPost_ret (v := .tuple #[.agg #[.int .i64 1, .bool true, .slice (some ⟨W.heap.size + 1, 0, none⟩) 1 1], .bool true]) (by simp [results, Try.results37, go_sem]; done) rfl ?_
        rw [hE.out]
        exact OpP.lit2 ((Fr.refl (fun k => k = b) W).setCell (p := ⟨b, 1, none⟩) (fun _ => rfl) _) (by simp) hbl (blkSet hb.out _)
      · by_cases h4 : c = 92
        · subst h4
          have hF0 : Fr (fun k => k = b) W ((W.setCell ⟨b, 1, none⟩ (.int .i64 ((i : Int) + 1))).alloc (Obj.cells #[Value.int IntKind.i64 0, Value.bool false, Value.slice none 0 0] 79)).drew.drew :=
            (((Fr.refl (fun k => k = b) W).setCell (p := ⟨b, 1, none⟩) (fun _ => rfl) _).alloc _).drew.drew
          have hb0 := ((Below.heap_alloc (W.setCell ⟨b, 1, none⟩ (.int .i64 ((i : Int) + 1))) (Obj.cells #[Value.int IntKind.i64 0, Value.bool false, Value.slice none 0 0] 79) b (by simp; omega)).trans (blkSet hb.out _))
          have hg0 := (heap_alloc_new (W.setCell ⟨b, 1, none⟩ (.int .i64 ((i : Int) + 1))) (Obj.cells #[Value.int IntKind.i64 0, Value.bool false, Value.slice none 0 0] 79))
          have hgz : (W.setCell ⟨b, 1, none⟩ (.int .i64 ((i : Int) + 1))).heap.size = W.heap.size := by simp
          rw [hgz] at hg0
          have hFw := Kp.mk hF0
          have hbw := Kp.mk hb0
          have hgw := Kp.mk hg0
          clear hF0 hb0 hg0 hgz h1 h2 h3
          by_cases hlt2 : i + 1 < s.length
          · obtain ⟨_, _, e0, _, _, hc'⟩ := byte_at hs.out hlt2
            cases e0
            generalize hd2 : s[i + 1] = d at hc'
            have hd2' : s[i + 1]? = some d := by rw [List.getElem?_eq_getElem hlt2, hd2]
            have hd : decide ((i : Int) + 1 < s.length) = true := by simp; omega
            replace hd2' := Kp.mk hd2'
            clear hd2
            by_cases hcl : classM d = []
            · have hE : bytesM s i 92 = ((⟨1, false, [⟨(escM s (i + 1)).1.1, (escM s (i + 1)).1.1⟩]⟩, (escM s (i + 1)).1.2), (escM s (i + 1)).2) := by
                unfold bytesM; simp [hd2'.out, hcl]
              replace hE := Kp.mk hE
              replace hcl := Kp.mk hcl
              go_enter Try.func37, Try.ntmps37
              go_wp2
              refine wp_lex (by kernel_rfl) ⟨fun _ _ _ h => h.2, fun _ _ h => h⟩ (by kernel_rfl) ?_
              go_wp2
              refine fin_end (by kernel_rfl) ?_
              go_wp2
              refine wp_lex (by kernel_rfl) ⟨fun _ _ _ h => h.2, fun _ _ h => h⟩ (by kernel_rfl) ?_
              go_wp2
              refine fin_end (by kernel_rfl) ?_
              go_wp2
              refine wp_lex (by kernel_rfl) ⟨fun _ _ _ h => h.2, fun _ _ h => h⟩ (by kernel_rfl) ?_
              go_wp2_with fail
              refine ret_mono (class_calls d _) ?_
              rintro v w1 ⟨a1, cap1, rfl, hS1, hn1, hB1⟩
              obtain ⟨rfl, rfl⟩ := hn1 hcl.out
              have hl0 : (classM d).length = 0 := by rw [hcl.out]; rfl
              replace hFw := Kp.mk (hFw.out.drew.trans (Fr.of_below hB1) fun _ _ e => e.elim)
              replace hgw := Kp.mk ((Fr.of_below hB1).obj hgw.out fun e => e)
              replace hbw := Kp.mk ((Fr.of_below hB1).obj hbw.out fun e => e)
              clear hS1 hn1 hB1
              rw [hl0]
              clear hl0
              go_wp2
              refine fin_end (by kernel_rfl) ?_
              go_wp2_with fail
              refine ret_mono (esc_calls s b _ sc (i + 1) c2 c3 _ hbw.out (hs.out.mono fun k hk hl => ⟨hk.1, hFw.out.block k hl hk.1⟩) (by omega) (by omega)) ?_
              generalize hq : escM s (i + 1) = q at *
              obtain ⟨⟨e, is⟩, i2⟩ := q
              rintro v w4 ⟨rfl, hb4, hF4⟩
              have hg4 := hF4.obj hgw.out (by omega)
              have hgc := blkC hg4
              have hgf := blkF hg4
              have hgl := blkL hg4
              have hne := Nat.ne_of_lt hgl
              have hF5 : Fr (fun k => k = b) W w4 := hFw.out.trans hF4 fun _ _ e => e
              clear hg4 hF4
              replace hb4 := Kp.mk hb4
              replace hF5 := Kp.mk hF5
              replace hq := Kp.mk hq
              go_wp2_with fail
              refine bodyPost_ret (v := .tuple #[.agg #[.int .i64 1, .bool false, .slice (some ⟨w4.heap.size, 0, none⟩) 1 1], .bool is]) (by simp [results, Try.results37, go_sem, hgc, hgl]; done) rfl ?_
              rw [hE.out]
              have hF6 : Fr (fun k => k = W.heap.size) w4 (((w4.setCell ⟨W.heap.size, 0, none⟩ (.int .i64 1)).setCell ⟨W.heap.size, 1, none⟩ (.bool false)).setCell ⟨W.heap.size, 2, none⟩ (.slice (some ⟨w4.heap.size, 0, none⟩) 1 1)) :=
                (((Fr.refl (fun k => k = W.heap.size) w4).setCell (p := ⟨W.heap.size, 0, none⟩) (fun _ => rfl) _).setCell (p := ⟨W.heap.size, 1, none⟩) (fun _ => rfl) _).setCell (p := ⟨W.heap.size, 2, none⟩) (fun _ => rfl) _
              have hb6 := hF6.obj hb4.out (by omega)
              refine OpP.lit (((hF5.out.trans hF6 fun k hk e => by omega).alloc _)) ?_ ?_ (Nat.le_of_lt hgl)
              · exact (Below.heap_alloc _ _ _ (blkL hb6)).trans hb6
              · have hz : (((w4.setCell ⟨W.heap.size, 0, none⟩ (.int .i64 1)).setCell ⟨W.heap.size, 1, none⟩ (.bool false)).setCell ⟨W.heap.size, 2, none⟩ (.slice (some ⟨w4.heap.size, 0, none⟩) 1 1)).heap.size = w4.heap.size := by simp
                have h := heap_alloc_new (((w4.setCell ⟨W.heap.size, 0, none⟩ (.int .i64 1)).setCell ⟨W.heap.size, 1, none⟩ (.bool false)).setCell ⟨W.heap.size, 2, none⟩ (.slice (some ⟨w4.heap.size, 0, none⟩) 1 1)) (.cells #[.int .u8 e.toNat, .int .u8 e.toNat] 62)
                rw [hz] at h
                exact h
            · have hE : bytesM s i 92 = ((⟨1, false, classM d⟩, true), i + 2) := by
                unfold bytesM; simp [hd2'.out, hcl]
              replace hE := Kp.mk hE
              replace hcl := Kp.mk hcl
              go_enter Try.func37, Try.ntmps37
              go_wp2
              refine wp_lex (by kernel_rfl) ⟨fun _ _ _ h => h.2, fun _ _ h => h⟩ (by kernel_rfl) ?_
              go_wp2
              refine fin_end (by kernel_rfl) ?_
              go_wp2
              refine wp_lex (by kernel_rfl) ⟨fun _ _ _ h => h.2, fun _ _ h => h⟩ (by kernel_rfl) ?_
              go_wp2
              refine fin_end (by kernel_rfl) ?_
              go_wp2
              refine wp_lex (by kernel_rfl) ⟨fun _ _ _ h => h.2, fun _ _ h => h⟩ (by kernel_rfl) ?_
              go_wp2_with fail
              refine ret_mono (class_calls d _) ?_
              rintro v w1 ⟨a1, cap1, rfl, hS1, _, hB1⟩
              obtain ⟨g1, o1, rfl, _, _⟩ := hS1.at_ (List.length_pos_iff.2 hcl.out)
              replace hFw := Kp.mk (hFw.out.drew.trans (Fr.of_below hB1) fun _ _ e => e.elim)
              replace hgw := Kp.mk ((Fr.of_below hB1).obj hgw.out fun e => e)
              replace hbw := Kp.mk ((Fr.of_below hB1).obj hbw.out fun e => e)
              have hS2 := Kp.mk (hS1.mono (A' := fun k => W.heap.size < k) fun k hk hl => ⟨by simp at hk; omega, rfl⟩)
              have hgc := blkC hgw.out
              have hgf := blkF hgw.out
              have hgl := blkL hgw.out
              have hbc1 := blkC hbw.out
              have hbf1 := blkF hbw.out
              clear hS1 hB1
              generalize hl0 : (classM d).length = n at *
              replace hl0 := Kp.mk hl0
              go_wp2
              refine fin_end (by kernel_rfl) ?_
              go_wp2_with fail
              refine bodyPost_ret (v := .tuple #[.agg #[.int .i64 1, .bool false, .slice (some ⟨g1, o1, none⟩) n cap1], .bool true]) (by simp [results, Try.results37, go_sem, hgc]; done) rfl ?_
              rw [hE.out]
              have hb5 := blkSet (i := 1) hbw.out (.int .i64 ((i : Int) + 1 + 1))
              have hF5 : Fr (fun k => k = b) W (w1.setCell ⟨b, 1, none⟩ (.int .i64 ((i : Int) + 1 + 1))) := hFw.out.setCell (p := ⟨b, 1, none⟩) (fun _ => rfl) _
              have hF6 : Fr (fun k => k = W.heap.size) (w1.setCell ⟨b, 1, none⟩ (.int .i64 ((i : Int) + 1 + 1))) ((((w1.setCell ⟨b, 1, none⟩ (.int .i64 ((i : Int) + 1 + 1))).setCell ⟨W.heap.size, 0, none⟩ (.int .i64 1)).setCell ⟨W.heap.size, 1, none⟩ (.bool false)).setCell ⟨W.heap.size, 2, none⟩ (.slice (some ⟨g1, o1, none⟩) n cap1)) :=
                (((Fr.refl (fun k => k = W.heap.size) _).setCell (p := ⟨W.heap.size, 0, none⟩) (fun _ => rfl) _).setCell (p := ⟨W.heap.size, 1, none⟩) (fun _ => rfl) _).setCell (p := ⟨W.heap.size, 2, none⟩) (fun _ => rfl) _
              refine ⟨⟨_, rfl, _, _, by rw [← hl0.out], by simp [i64ok], ?_⟩, hF6.obj hb5 (by omega), hF5.trans hF6 fun k hk e => by omega⟩
              exact hS2.out.mono fun k hk hl => ⟨by omega, (hF6.block k (by simpa using hl) (by omega)).trans (Below.heap_setCell _ _ _ _ (show k ≠ b by omega))⟩
          · have hE : bytesM s i 92 = ((⟨1, false, [⟨(escM s (i + 1)).1.1, (escM s (i + 1)).1.1⟩]⟩, (escM s (i + 1)).1.2), (escM s (i + 1)).2) := by
              unfold bytesM; simp [List.getElem?_eq_none (show s.length ≤ i + 1 by omega)]
            have hd : decide ((i : Int) + 1 < s.length) = false := by simp; omega
            replace hE := Kp.mk hE
            go_enter Try.func37, Try.ntmps37
            go_wp2
            refine wp_lex (by kernel_rfl) ⟨fun _ _ _ h => h.2, fun _ _ h => h⟩ (by kernel_rfl) ?_
            go_wp2
            refine fin_end (by kernel_rfl) ?_
            go_wp2
            refine wp_lex (by kernel_rfl) ⟨fun _ _ _ h => h.2, fun _ _ h => h⟩ (by kernel_rfl) ?_
            go_wp2
            refine fin_end (by kernel_rfl) ?_
            go_wp2_with fail
            refine ret_mono (esc_calls s b _ sc (i + 1) c2 c3 _ hbw.out (hs.out.mono fun k hk hl => ⟨hk.1, hFw.out.block k hl hk.1⟩) (by omega) (by omega)) ?_
            generalize hq : escM s (i + 1) = q at *
            obtain ⟨⟨e, is⟩, i2⟩ := q
            rintro v w4 ⟨rfl, hb4, hF4⟩
            have hg4 := hF4.obj hgw.out (by omega)
            have hgc := blkC hg4
            have hgf := blkF hg4
            have hgl := blkL hg4
            have hne := Nat.ne_of_lt hgl
            have hF5 : Fr (fun k => k = b) W w4 := hFw.out.trans hF4 fun _ _ e => e
            clear hg4 hF4
            replace hb4 := Kp.mk hb4
            replace hF5 := Kp.mk hF5
            replace hq := Kp.mk hq
            go_wp2_with fail
            refine bodyPost_ret (v := .tuple #[.agg #[.int .i64 1, .bool false, .slice (some ⟨w4.heap.size, 0, none⟩) 1 1], .bool is]) (by simp [results, Try.results37, go_sem, hgc, hgl]; done) rfl ?_
            rw [hE.out]
            have hF6 : Fr (fun k => k = W.heap.size) w4 (((w4.setCell ⟨W.heap.size, 0, none⟩ (.int .i64 1)).setCell ⟨W.heap.size, 1, none⟩ (.bool false)).setCell ⟨W.heap.size, 2, none⟩ (.slice (some ⟨w4.heap.size, 0, none⟩) 1 1)) :=
              (((Fr.refl (fun k => k = W.heap.size) w4).setCell (p := ⟨W.heap.size, 0, none⟩) (fun _ => rfl) _).setCell (p := ⟨W.heap.size, 1, none⟩) (fun _ => rfl) _).setCell (p := ⟨W.heap.size, 2, none⟩) (fun _ => rfl) _
            have hb6 := hF6.obj hb4.out (by omega)
            refine OpP.lit (((hF5.out.trans hF6 fun k hk e => by omega).alloc _)) ?_ ?_ (Nat.le_of_lt hgl)
            · exact (Below.heap_alloc _ _ _ (blkL hb6)).trans hb6
            · have hz : (((w4.setCell ⟨W.heap.size, 0, none⟩ (.int .i64 1)).setCell ⟨W.heap.size, 1, none⟩ (.bool false)).setCell ⟨W.heap.size, 2, none⟩ (.slice (some ⟨w4.heap.size, 0, none⟩) 1 1)).heap.size = w4.heap.size := by simp
              have h := heap_alloc_new (((w4.setCell ⟨W.heap.size, 0, none⟩ (.int .i64 1)).setCell ⟨W.heap.size, 1, none⟩ (.bool false)).setCell ⟨W.heap.size, 2, none⟩ (.slice (some ⟨w4.heap.size, 0, none⟩) 1 1)) (.cells #[.int .u8 e.toNat, .int .u8 e.toNat] 62)
              rw [hz] at h
              exact h
        · have hE : bytesM s i c = ((⟨1, false, [⟨c, c⟩]⟩, true), i + 1) := by unfold bytesM; simp [h1, h2, h3, h4]
          replace hE := Kp.mk hE
          have hne : ∀ k : UInt8, c ≠ k → ((c.toNat : Int) == (k.toNat : Int)) = false := fun k h => (u8_cases c k).trans (beq_eq_false_iff_ne.2 h)
          have e1 : ((c.toNat : Int) == 42) = false := hne 42 h1.1
          have e2 : ((c.toNat : Int) == 43) = false := hne 43 h1.2.1
          have e3 : ((c.toNat : Int) == 63) = false := hne 63 h1.2.2.1
          have e4 : ((c.toNat : Int) == 93) = false := hne 93 h1.2.2.2
          have e5 : ((c.toNat : Int) == 91) = false := hne 91 h2
          have e6 : ((c.toNat : Int) == 46) = false := hne 46 h3
          have e7 : ((c.toNat : Int) == 92) = false := hne 92 h4
          clear hne h1 h2 h3 h4
          go_enter Try.func37, Try.ntmps37
          go_wp2
          refine wp_lex (by kernel_rfl) ⟨fun _ _ _ h => h.2, fun _ _ h => h⟩ (by kernel_rfl) ?_
          go_wp2
          refine fin_end (by kernel_rfl) ?_
          go_wp2_with fail
          refine bodyPost_ret (v := .tuple #[.agg #[.int .i64 1, .bool false, .slice (some ⟨W.heap.size + 1, 0, none⟩) 1 1], .bool true]) (by simp [results, Try.results37, go_sem]; done) rfl ?_
          rw [hE.out]
          exact OpP.lit2 ((Fr.refl (fun k => k = b) W).setCell (p := ⟨b, 1, none⟩) (fun _ => rfl) _) (by simp) hbl (blkSet hb.out _)
end Go.Proofs.Ytbcifjjnnbefkaa
