/-
  The reference of layer 8 (davitref08): set. Conditions: the reader's block holds its fields, nothing is amiss yet, the pattern's bytes can be read.
-/
import Derived.Test.YtbcifjjnnbefkaaRdr2
namespace Go.Proofs.Ytbcifjjnnbefkaa
open Go.RowKit

/-- The rest of a set: its spans, the place behind it, and what is amiss. -/
def setRL (s : List UInt8) : Nat → Nat → List Span → Nat → (List Span × Nat) × Nat
  | 0, i, sp, bad => ((sp, i), bad)
  | f + 1, i, sp, bad =>
    if bad ≠ 0 then ((sp, i), bad) else
    if sp ≠ [] ∧ isB s i 93 = true then ((sp, i + 1), 0) else
    if (oneR s i).2 = 0 ∧ isB s (oneR s i).1.2 45 = true then
      setRL s f (oneR s ((oneR s i).1.2 + 1)).1.2 (sp ++ [⟨(oneR s i).1.1, (oneR s ((oneR s i).1.2 + 1)).1.1⟩]) (if (oneR s ((oneR s i).1.2 + 1)).2 = 0 ∧ (oneR s ((oneR s i).1.2 + 1)).1.1 < (oneR s i).1.1 then 2 else (oneR s ((oneR s i).1.2 + 1)).2)
    else setRL s f (oneR s i).1.2 (sp ++ [⟨(oneR s i).1.1, (oneR s i).1.1⟩]) (oneR s i).2
def setR (s : List UInt8) (i : Nat) : (Op × Nat) × Nat :=
  ((⟨1, isB s i 94, (setRL s (s.length + 2) (if isB s i 94 then i + 1 else i) [] 0).1.1⟩, (setRL s (s.length + 2) (if isB s i 94 then i + 1 else i) [] 0).1.2), (setRL s (s.length + 2) (if isB s i 94 then i + 1 else i) [] 0).2)
theorem escR_at (s : List UInt8) (i : Nat) : (escR s i).1.2 ≤ i + 1 ∧ ((escR s i).2 = 0 → i < (escR s i).1.2 ∧ (escR s i).1.2 ≤ s.length) := by
  unfold escR
  cases h : s[i]? with
  | none => simp
  | some c =>
    have := (List.getElem?_eq_some_iff.1 h).1
    dsimp only
    repeat' split
    all_goals simp; try omega
theorem oneR_at (s : List UInt8) (i : Nat) : (oneR s i).1.2 ≤ i + 2 ∧ ((oneR s i).2 = 0 → i < (oneR s i).1.2 ∧ (oneR s i).1.2 ≤ s.length) := by
  unfold oneR
  cases h : s[i]? with
  | none => simp
  | some c =>
    have := (List.getElem?_eq_some_iff.1 h).1
    have he := escR_at s (i + 1)
    dsimp only
    split
    · exact ⟨by omega, fun h => by have := he.2 h; omega⟩
    · split <;> simp <;> omega
theorem isB_some {s : List UInt8} {i : Nat} {c : UInt8} (h : isB s i c = true) : i < s.length := by
  by_cases hi : i < s.length
  · exact hi
  · rw [isB_ge (by omega)] at h; cases h

structure HeadF (v : Value) (W w : World) : Prop where
  v : v = .bool false
  w : W = w
structure OpR (W : World) (rb : Nat) (c0 : Value) (r : (Op × Nat) × Nat) (v : Value) (w : World) : Prop where
  v : ∃ a cap, v = .tuple #[.agg #[.int .i64 r.1.1.kind, .bool r.1.1.neg, .slice a r.1.1.spans.length cap], .int .i64 r.1.2] ∧ Sl sSpan w (W.heap.size ≤ ·) a cap r.1.1.spans
  up : UP W rb c0 r.2 w
structure SetK (W : World) (rb : Nat) (c0 : Value) (neg : Bool) (s : List UInt8) (tot : (List Span × Nat) × Nat) (k : Nat) (vi : Value) (w : World) : Prop where
  st : ∃ (i : Nat) (sp : List Span) (bad : Nat) (sv : Value), vi = .int .i64 i ∧ RdE rb c0 bad w ∧ w.heap[W.heap.size + 1]? = some (.cells #[.int .i64 1, .bool neg, sv] 126) ∧ Ow 63 sSpan w (fun j => W.heap.size + 2 ≤ j) sv sp ∧
    (bad = 0 → i ≤ s.length ∧ s.length < i + k ∧ sp.length ≤ i) ∧ i ≤ s.length + 5 ∧ sp.length ≤ s.length + 5 ∧ tot = setRL s k i sp bad
  res : w.heap[W.heap.size]? = some (.cells #[.int .i64 0, .bool false, .slice none 0 0] 126)
  fr : Fr (fun k => k = rb) W w

set_option maxRecDepth 100000 in
set_option maxHeartbeats 8000000 in
theorem rset_calls (s : List UInt8) (sa : Option Addr) (sc rb i0 : Nat) (W : World) (h : RdE rb (.slice sa s.length sc) 0 W) (hs : Sl sByte W (fun k => k ≠ rb ∧ k < W.heap.size) sa sc s) (hi : i0 ≤ s.length) (hl : s.length ≤ 1000) :
    Calls Try.prog 64 #[.pointer (some ⟨rb, 0, none⟩), .int .i64 i0] W (Ret (OpR W rb (.slice sa s.length sc) (setR s i0))) := by
  have h' := h
  obtain ⟨pl, hb⟩ := h'
  have hbl := blkL hb
  have hr0 := heap_alloc_new W (.cells #[.int .i64 0, .bool false, .slice none 0 0] 126)
  have hE : setR s i0 = ((⟨1, isB s i0 94, (setRL s (s.length + 2) (if isB s i0 94 then i0 + 1 else i0) [] 0).1.1⟩, (setRL s (s.length + 2) (if isB s i0 94 then i0 + 1 else i0) [] 0).1.2), (setRL s (s.length + 2) (if isB s i0 94 then i0 + 1 else i0) [] 0).2) := rfl
  have hAw : ∀ o, Kp (UP W rb (.slice sa s.length sc) 0 (W.alloc o)) := fun o => ⟨.of h ((Fr.refl _ _).alloc _)⟩
  have his := is_calls s sa sc rb 0 i0 94 _ (hAw (.cells #[.int .i64 0, .bool false, .slice none 0 0] 126)).out.rd (hs.mono fun j hj hl => ⟨hj.1, Below.heap_alloc _ _ _ hl⟩)
  have hi0 : isB s i0 94 = true → i0 + 1 ≤ s.length := fun h => isB_some h
  generalize isB s i0 94 = neg at hE his hi0
  obtain ⟨tot, htot⟩ : ∃ tot, tot = setRL s (s.length + 2) (if neg then i0 + 1 else i0) [] 0 := ⟨_, rfl⟩
  rw [← htot] at hE
  have hi1 : (if neg then i0 + 1 else i0) ≤ s.length := by cases neg; exact hi; exact hi0 rfl
  -- at the loop's head
  have hI0 : SetK W rb (.slice sa s.length sc) neg s tot (s.length + 2) (.int .i64 (if neg then i0 + 1 else i0 : Nat)) ((W.alloc (.cells #[.int .i64 0, .bool false, .slice none 0 0] 126)).alloc (.cells #[.int .i64 1, .bool neg, .slice none 0 0] 126)) := by
    have hz : (W.alloc (.cells #[.int .i64 0, .bool false, .slice none 0 0] 126)).heap.size = W.heap.size + 1 := by simp
    refine ⟨⟨_, [], 0, .slice none 0 0, rfl, (UP.of h (((Fr.refl _ _).alloc _).alloc _)).rd, ?_, Ow.nil _ _ _ _, fun _ => ⟨?_, ?_, Nat.zero_le _⟩, ?_, Nat.zero_le _, htot⟩, ?_, ((Fr.refl _ _).alloc _).alloc _⟩
    · rw [← hz]; exact heap_alloc_new _ _
    · exact hi1
    · omega
    · omega
    · exact (Below.heap_alloc _ _ _ (by simp)).trans hr0
  replace hI0 := Kp.mk hI0
  replace htot := Kp.mk htot
  replace hE := Kp.mk hE
  replace his := Kp.mk his
  replace hr0 := Kp.mk hr0
  replace hb := Kp.mk hb
  replace h := Kp.mk h
  replace hs := Kp.mk hs
  replace hi0 := Kp.mk hi0
  go_enter Try.func64, Try.ntmps64
  go_wp2_with fail
  refine ret_mono his.out ?_
  rintro v w1 ⟨rfl, rfl⟩
  go_upto_if 17 with fail
  go_cut [1] (fun vi wc => SetK W rb (.slice sa s.length sc) neg s tot (s.length + 2) vi wc)
  case first =>
    cases neg
    · go_wp2_with fail
      go_meet
      case rel => exact hI0.out
    · go_wp2_with fail
      go_meet
      case rel => exact hI0.out
  case rest =>
    go_wp2_with fail
    go_loopg [1] (s.length + 2) (fun k vi w => SetK W rb (.slice sa s.length sc) neg s tot k vi w)
    case atStart => exact hcut
    case round =>
      obtain ⟨⟨i, sp, bad, sv, rfl, hR, hx, hO, hbad, hile, hspl, hT⟩, hres, hF⟩ := hrel
      have hR' := hR
      obtain ⟨pl1, hb1⟩ := hR'
      have hc1 := blkC hb1
      have hxc := blkC hx
      have hxf := blkF hx
      have hxl := blkL hx
      have hrc := blkC hres
      have hrf := blkF hres
      have hrl := blkL hres
      have hrne : rb ≠ W.heap.size := by omega
      have hrne2 : rb ≠ W.heap.size + 1 := by omega
      obtain ⟨va, vc, rfl⟩ := hO.form (n := sp.length) rfl
      have hsr := hs.out.mono (w' := wr) (A' := fun k => k ≠ rb) fun j hj hl => ⟨hj.1, hF.block j hl hj.1⟩
      obtain ⟨_, _, eS, hSl, _⟩ := hO.val
      cases eS
      have hSl' : Sl sSpan wr (W.heap.size ≤ ·) va vc sp := hSl.mono fun j hj _ => ⟨by omega, rfl⟩
      -- how it ends
      have hend : ∀ (i' bd : Nat) (w : World), tot = ((sp, i'), bd) → RdE rb (.slice sa s.length sc) bd wr → w = (((wr.setCell ⟨W.heap.size, 0, none⟩ (.int .i64 1)).setCell ⟨W.heap.size, 1, none⟩ (.bool neg)).setCell ⟨W.heap.size, 2, none⟩ (.slice va sp.length vc)) →
          OpR W rb (.slice sa s.length sc) (setR s i0) (.tuple #[.agg #[.int .i64 1, .bool neg, .slice va sp.length vc], .int .i64 i']) w := fun i' bd w ht hR hw => by
        have hF2 : Fr (fun k => k = W.heap.size) wr w := by
          rw [hw]
          exact (((Fr.refl (fun k => k = W.heap.size) wr).setCell (p := ⟨W.heap.size, 0, none⟩) (fun _ => rfl) _).setCell (p := ⟨W.heap.size, 1, none⟩) (fun _ => rfl) _).setCell (p := ⟨W.heap.size, 2, none⟩) (fun _ => rfl) _
        rw [hE.out, ht]
        obtain ⟨pl2, hb2⟩ := hR
        exact ⟨⟨va, vc, rfl, hSl.mono fun j hj hl => ⟨by omega, hF2.block j hl (by omega)⟩⟩, ⟨pl2, hF2.obj hb2 hrne⟩, hF.trans hF2 fun j hj e => by omega⟩
      replace hend := Kp.mk hend
      replace hR := Kp.mk hR
      replace hF := Kp.mk hF
      replace hT := Kp.mk hT
      replace hO := Kp.mk hO
      replace hSl := Kp.mk hSl
      replace hsr := Kp.mk hsr
      replace hx := Kp.mk hx
      replace hres := Kp.mk hres
      clear hb1 hSl'
      by_cases hb0 : bad = 0
      case neg =>
        have hd : ((bad : Int) == 0) = false := by simpa using hb0
        have hT2 : tot = ((sp, i), bad) := by
          rw [hT.out]
          cases gk with
          | zero => rfl
          | succ gk => unfold setRL; rw [if_pos hb0]
        replace hT2 := Kp.mk hT2
        replace hb0 := Kp.mk hb0
        replace hbad := Kp.mk hbad
        go_wp2_with fail
        exact bodyPost_ret (v := .tuple #[.agg #[.int .i64 1, .bool neg, .slice va sp.length vc], .int .i64 i]) (by simp [results, Try.results64, go_sem, hrc]; done) rfl (hend.out _ _ _ hT2.out hR.out rfl)
      subst hb0
      obtain ⟨q1, q2, q3⟩ := hbad rfl
      -- from here on
      obtain ⟨g', rfl⟩ : ∃ g', gk = g' + 1 := ⟨gk - 1, by omega⟩
      have hT2 := hT.out
      rw [setRL, if_neg (by simp)] at hT2
      by_cases hex : sp ≠ [] ∧ isB s i 93 = true
      · rw [if_pos hex] at hT2
        have hlen : decide (0 < sp.length) = true := by
          have : sp.length ≠ 0 := by simpa using hex.1
          simp; omega
        have h93 := hex.2
        replace hT2 := Kp.mk hT2
        replace h93 := Kp.mk h93
        clear hex
        go_wp2_with fail
        refine ret_mono (is_calls s sa sc rb 0 i 93 _ hR.out hsr.out) ?_
        rintro v w2 ⟨rfl, rfl⟩
        rw [h93.out]
        have hh := hend.out (i + 1) 0 _ hT2.out hR.out rfl
        rw [show ((i + 1 : Nat) : Int) = (i : Int) + 1 from rfl] at hh
        replace hh := Kp.mk hh
        go_wp2_with fail
        exact bodyPost_ret (v := .tuple #[.agg #[.int .i64 1, .bool neg, .slice va sp.length vc], .int .i64 ((i : Int) + 1)]) (by simp [results, Try.results64, go_sem, hrc]; done) rfl hh.out
      rw [if_neg hex] at hT2
      have hq := oneR_at s i
      have hone := rone_calls s sa sc rb i wr hR.out hsr.out (by omega) (by omega)
      generalize oneR s i = q at hT2 hq hone
      obtain ⟨⟨ca, ni⟩, bd⟩ := q
      dsimp only at hT2 hq
      have hhead : (decide (0 < sp.length) = false ∧ 0 = 0) ∨ (decide (0 < sp.length) = true ∧ isB s i 93 = false) := by
        by_cases h0 : sp = []
        · exact .inl ⟨by simp [h0], rfl⟩
        · right
          have h1 : sp.length ≠ 0 := by simpa using h0
          refine ⟨by simp; omega, ?_⟩
          cases h2 : isB s i 93
          · rfl
          · exact absurd ⟨h0, h2⟩ hex
      clear hex
      -- the byte, and where it ends
      have hdash : (bd = 0 ∧ isB s ni 45 = true) ∨ ¬ (bd = 0 ∧ isB s ni 45 = true) := Classical.em _
      replace hone := Kp.mk hone
      replace hdash := Kp.mk hdash
      obtain ⟨hq1, hq2⟩ := hq
      replace hq2 := Kp.mk hq2
      go_upto_region 5 with fail
      go_cut [33] (fun vt wc => HeadF vt wr wc)
      case first =>
        rcases hhead with ⟨h1, h2⟩ | ⟨h1, h2⟩
        · replace hT2 := Kp.mk hT2
          go_wp2_with fail
          go_meet
          case rel => exact ⟨rfl, rfl⟩
        · replace hT2 := Kp.mk hT2
          replace h2 := Kp.mk h2
          go_wp2_with fail
          refine ret_mono (is_calls s sa sc rb 0 i 93 _ hR.out hsr.out) ?_
          rintro v w2 ⟨rfl, rfl⟩
          rw [h2.out]
          go_wp2_with fail
          go_meet
          case rel => exact ⟨rfl, rfl⟩
      case rest =>
      obtain ⟨rfl, rfl⟩ := hcut
      clear hhead
      replace hT2 := Kp.mk hT2
      go_wp2_with fail
      refine ret_mono hone.out ?_
      rintro v w2 ⟨rfl, hU⟩
      have hU' := hU.rd
      obtain ⟨pl2, hr2⟩ := hU'
      have hr2c := blkC hr2
      have hs2 := hsr.out.mono (w' := w2) (A' := fun k => k ≠ rb) fun j hj hl => ⟨hj, hU.fr.block j hl hj⟩
      replace hs2 := Kp.mk hs2
      replace hr2 := Kp.mk hr2
      rcases hdash.out with hda | hda
      case inr =>
        have hTot := hT2.out
        rw [if_neg hda] at hTot
        have hnew : bd = 0 → ni ≤ s.length ∧ s.length < ni + g' ∧ (sp ++ [(⟨ca, ca⟩ : Span)]).length ≤ ni := fun h => by have := hq2.out h; simp; omega
        have hnew2 : ni ≤ s.length + 5 := by omega
        have hc : (((bd : Int) == 0) = false ∧ 0 = 0) ∨ (((bd : Int) == 0) = true ∧ isB s ni 45 = false) := by
          by_cases h0 : bd = 0
          · refine .inr ⟨by simpa using h0, ?_⟩
            cases h2 : isB s ni 45
            · rfl
            · exact absurd ⟨h0, h2⟩ hda
          · exact .inl ⟨by simpa using h0, rfl⟩
        replace hTot := Kp.mk hTot
        replace hnew := Kp.mk hnew
        replace hnew2 := Kp.mk hnew2
        clear hda
        rcases hc with ⟨hc1, hc2⟩ | ⟨hc1, hc2⟩
        · replace hU := hU
          have hUk := Kp.mk hU
          have hrU := hU.rd
          clear hU
          go_upto_region 16 with fail
          have hU := hUk.out
          have hxX := hU.fr.obj hx.out (by omega)
          have hresX := hU.fr.obj hres.out (by omega)
          have hOX := hO.out.mono (w' := w2) (A' := fun j => W.heap.size + 2 ≤ j) fun j hj hl => ⟨hj, hU.fr.block j hl (by omega)⟩
          have hFX : Fr (fun k => k = rb) W w2 := hF.out.trans hU.fr fun _ _ e => e
          have hxXc := blkC hxX
          have hxXf := blkF hxX
          have hxXl := blkL hxX
          have hzX := hU.fr.size
          have hRX := hU.rd
          replace hxX := Kp.mk hxX
          replace hresX := Kp.mk hresX
          replace hOX := Kp.mk hOX
          replace hFX := Kp.mk hFX
          replace hRX := Kp.mk hRX
          clear hU
          go_wp2_with (at_builtin; refine pause ?_; intro K hK)
          refine hK.out _ _ ?_
          refine wpl_append1 (w := w2) (y := ⟨ca, ca⟩) ty_rSpan rfl rfl rfl hOX.out rfl rfl (heap_alloc_new _ _) ((Fr.refl _ _).alloc _) (by omega) (fun j hj => by omega) ?_
          intro v' w5 hO5 hF5 hd5
          have hF5' : Fr (fun k => (Value.slice va sp.length vc).ownBlock = some k) w2 w5 := hF5
          have hown : ∀ j, (Value.slice va sp.length vc).ownBlock = some j → W.heap.size + 2 ≤ j := fun j e => hOX.out.1 j e
          have hx5 := hF5'.obj hxX.out (fun e => by have := hown _ e; omega)
          have hres5 := hF5'.obj hresX.out (fun e => by have := hown _ e; omega)
          obtain ⟨pl5, hr5⟩ := hRX.out
          have hr5' := hF5'.obj hr5 (fun e => by have := hown _ e; omega)
          have hx5c := blkC hx5
          have hx5f := blkF hx5
          have hx5l := blkL hx5
          obtain ⟨va5, vc5, rfl⟩ := hO5.form (n := sp.length + 1) (by simp)
          have hne5 : rb ≠ W.heap.size + 1 := by omega
          replace hx5 := Kp.mk hx5
          replace hres5 := Kp.mk hres5
          replace hr5' := Kp.mk hr5'
          replace hO5 := Kp.mk hO5
          replace hF5' := Kp.mk hF5'
          replace hown := Kp.mk hown
          clear hF5 hd5 hr5
          go_wp2_with fail
          go_roundg g'
          case measure => omega
          case rel =>
            refine ⟨⟨ni, sp ++ [⟨ca, ca⟩], bd, .slice va5 (sp.length + 1) vc5, rfl, ⟨pl5, ?_⟩, blkSet hx5.out _, ?_, hnew.out, hnew2.out, by simp; omega, hTot.out⟩, ?_, ?_⟩
            · rw [Below.heap_setCell _ _ _ _ (show rb ≠ W.heap.size + 1 by omega)]; exact hr5'.out
            · exact hO5.out.mono fun j hj hl => ⟨hj, Below.heap_setCell _ _ _ _ (show j ≠ W.heap.size + 1 by omega)⟩
            · rw [Below.heap_setCell _ _ _ _ (show W.heap.size ≠ W.heap.size + 1 by omega)]; exact hres5.out
            · exact (hFX.out.trans (M' := fun k => W.heap.size ≤ k) (hF5'.out.mono fun k _ e => by have := hown.out k e; omega) fun k hk e => by omega).setCell (p := ⟨W.heap.size + 1, 2, none⟩) (fun hk => by have hk' : W.heap.size + 1 < W.heap.size := hk; omega) _
        · have his2 := is_calls s sa sc rb bd ni 45 w2 hU.rd hs2.out
          rw [hc2] at his2
          replace his2 := Kp.mk his2
          have hUk := Kp.mk hU
          clear hU
          replace hc2 := Kp.mk hc2
          go_wp2_with fail
          refine ret_mono his2.out ?_
          rintro v w3 ⟨rfl, rfl⟩
          go_upto_region 16 with fail
          have hU := hUk.out
          have hxX := hU.fr.obj hx.out (by omega)
          have hresX := hU.fr.obj hres.out (by omega)
          have hOX := hO.out.mono (w' := w2) (A' := fun j => W.heap.size + 2 ≤ j) fun j hj hl => ⟨hj, hU.fr.block j hl (by omega)⟩
          have hFX : Fr (fun k => k = rb) W w2 := hF.out.trans hU.fr fun _ _ e => e
          have hxXc := blkC hxX
          have hxXf := blkF hxX
          have hxXl := blkL hxX
          have hzX := hU.fr.size
          have hRX := hU.rd
          replace hxX := Kp.mk hxX
          replace hresX := Kp.mk hresX
          replace hOX := Kp.mk hOX
          replace hFX := Kp.mk hFX
          replace hRX := Kp.mk hRX
          clear hU
          go_wp2_with (at_builtin; refine pause ?_; intro K hK)
          refine hK.out _ _ ?_
          refine wpl_append1 (w := w2) (y := ⟨ca, ca⟩) ty_rSpan rfl rfl rfl hOX.out rfl rfl (heap_alloc_new _ _) ((Fr.refl _ _).alloc _) (by omega) (fun j hj => by omega) ?_
          intro v' w5 hO5 hF5 hd5
          have hF5' : Fr (fun k => (Value.slice va sp.length vc).ownBlock = some k) w2 w5 := hF5
          have hown : ∀ j, (Value.slice va sp.length vc).ownBlock = some j → W.heap.size + 2 ≤ j := fun j e => hOX.out.1 j e
          have hx5 := hF5'.obj hxX.out (fun e => by have := hown _ e; omega)
          have hres5 := hF5'.obj hresX.out (fun e => by have := hown _ e; omega)
          obtain ⟨pl5, hr5⟩ := hRX.out
          have hr5' := hF5'.obj hr5 (fun e => by have := hown _ e; omega)
          have hx5c := blkC hx5
          have hx5f := blkF hx5
          have hx5l := blkL hx5
          obtain ⟨va5, vc5, rfl⟩ := hO5.form (n := sp.length + 1) (by simp)
          have hne5 : rb ≠ W.heap.size + 1 := by omega
          replace hx5 := Kp.mk hx5
          replace hres5 := Kp.mk hres5
          replace hr5' := Kp.mk hr5'
          replace hO5 := Kp.mk hO5
          replace hF5' := Kp.mk hF5'
          replace hown := Kp.mk hown
          clear hF5 hd5 hr5
          go_wp2_with fail
          go_roundg g'
          case measure => omega
          case rel =>
            refine ⟨⟨ni, sp ++ [⟨ca, ca⟩], bd, .slice va5 (sp.length + 1) vc5, rfl, ⟨pl5, ?_⟩, blkSet hx5.out _, ?_, hnew.out, hnew2.out, by simp; omega, hTot.out⟩, ?_, ?_⟩
            · rw [Below.heap_setCell _ _ _ _ (show rb ≠ W.heap.size + 1 by omega)]; exact hr5'.out
            · exact hO5.out.mono fun j hj hl => ⟨hj, Below.heap_setCell _ _ _ _ (show j ≠ W.heap.size + 1 by omega)⟩
            · rw [Below.heap_setCell _ _ _ _ (show W.heap.size ≠ W.heap.size + 1 by omega)]; exact hres5.out
            · exact (hFX.out.trans (M' := fun k => W.heap.size ≤ k) (hF5'.out.mono fun k _ e => by have := hown.out k e; omega) fun k hk e => by omega).setCell (p := ⟨W.heap.size + 1, 2, none⟩) (fun hk => by have hk' : W.heap.size + 1 < W.heap.size := hk; omega) _
      case inl =>
        obtain ⟨rfl, h45⟩ := hda
        have hTot0 := hT2.out
        rw [if_pos ⟨rfl, h45⟩] at hTot0
        have hr := oneR_at s (ni + 1)
        have hone2 := rone_calls s sa sc rb (ni + 1) w2 hU.rd hs2.out (by omega) (by omega)
        rw [show ((ni + 1 : Nat) : Int) = (ni : Int) + 1 from rfl] at hone2
        generalize oneR s (ni + 1) = q2 at hTot0 hr hone2
        obtain ⟨⟨cb, nj⟩, be⟩ := q2
        dsimp only at hTot0 hr
        have hnil := hq2.out rfl
        have his2 := is_calls s sa sc rb 0 ni 45 w2 hU.rd hs2.out
        rw [h45] at his2
        replace his2 := Kp.mk his2
        replace hone2 := Kp.mk hone2
        replace h45 := Kp.mk h45
        replace hTot0 := Kp.mk hTot0
        obtain ⟨hr1, hr2'⟩ := hr
        replace hr2' := Kp.mk hr2'
        have hUk := Kp.mk hU
        clear hU
        go_wp2_with fail
        refine ret_mono his2.out ?_
        rintro v w3 ⟨rfl, rfl⟩
        go_wp2_with fail
        refine ret_mono hone2.out ?_
        rintro v w3 ⟨rfl, hU3⟩
        have hUk3 := Kp.mk (hUk.out.trans hU3)
        have hU3' := hU3.rd
        obtain ⟨pl3, hr3⟩ := hU3'
        have hr3c := blkC hr3
        have hU3k := Kp.mk hU3.rd
        replace hr3 := Kp.mk hr3
        clear hU3
        have hnew2 : nj ≤ s.length + 5 := by omega
        by_cases hbe : be = 0
        · subst hbe
          have hd0 : ((0 : Int) == 0) = true := rfl
          by_cases hlt : cb < ca
          · have hlt' : decide ((cb.toNat : Int) < (ca.toNat : Int)) = true := by
              have := UInt8.lt_iff_toNat_lt.1 hlt
              simp; omega
            have hlt2 : cb.toNat < ca.toNat := UInt8.lt_iff_toNat_lt.1 hlt
            have hTot := hTot0.out
            rw [if_pos ⟨rfl, hlt⟩] at hTot
            have hnew : (2 : Nat) = 0 → nj ≤ s.length ∧ s.length < nj + g' ∧ (sp ++ [(⟨ca, cb⟩ : Span)]).length ≤ nj := fun h => by omega
            replace hTot := Kp.mk hTot
            replace hnew := Kp.mk hnew
            replace hnew2 := Kp.mk hnew2
            replace hlt := Kp.mk hlt
            clear hd0
            go_wp2_with fail
            refine ret_mono (wrong_calls rb _ 0 2 _ _ hU3k.out) ?_
            rintro v w4 ⟨rfl, hU4⟩
            have hUk4 := Kp.mk (hUk3.out.trans hU4)
            clear hU4
            go_upto_region 16 with fail
            have hU := hUk4.out
            have hxX := hU.fr.obj hx.out (by omega)
            have hresX := hU.fr.obj hres.out (by omega)
            have hOX := hO.out.mono (w' := w4) (A' := fun j => W.heap.size + 2 ≤ j) fun j hj hl => ⟨hj, hU.fr.block j hl (by omega)⟩
            have hFX : Fr (fun k => k = rb) W w4 := hF.out.trans hU.fr fun _ _ e => e
            have hxXc := blkC hxX
            have hxXf := blkF hxX
            have hxXl := blkL hxX
            have hzX := hU.fr.size
            have hRX := hU.rd
            replace hxX := Kp.mk hxX
            replace hresX := Kp.mk hresX
            replace hOX := Kp.mk hOX
            replace hFX := Kp.mk hFX
            replace hRX := Kp.mk hRX
            clear hU
            go_wp2_with (at_builtin; refine pause ?_; intro K hK)
            refine hK.out _ _ ?_
            refine wpl_append1 (w := w4) (y := ⟨ca, cb⟩) ty_rSpan rfl rfl rfl hOX.out rfl rfl (heap_alloc_new _ _) ((Fr.refl _ _).alloc _) (by omega) (fun j hj => by omega) ?_
            intro v' w5 hO5 hF5 hd5
            have hF5' : Fr (fun k => (Value.slice va sp.length vc).ownBlock = some k) w4 w5 := hF5
            have hown : ∀ j, (Value.slice va sp.length vc).ownBlock = some j → W.heap.size + 2 ≤ j := fun j e => hOX.out.1 j e
            have hx5 := hF5'.obj hxX.out (fun e => by have := hown _ e; omega)
            have hres5 := hF5'.obj hresX.out (fun e => by have := hown _ e; omega)
            obtain ⟨pl5, hr5⟩ := hRX.out
            have hr5' := hF5'.obj hr5 (fun e => by have := hown _ e; omega)
            have hx5c := blkC hx5
            have hx5f := blkF hx5
            have hx5l := blkL hx5
            obtain ⟨va5, vc5, rfl⟩ := hO5.form (n := sp.length + 1) (by simp)
            have hne5 : rb ≠ W.heap.size + 1 := by omega
            replace hx5 := Kp.mk hx5
            replace hres5 := Kp.mk hres5
            replace hr5' := Kp.mk hr5'
            replace hO5 := Kp.mk hO5
            replace hF5' := Kp.mk hF5'
            replace hown := Kp.mk hown
            clear hF5 hd5 hr5
            go_wp2_with fail
            go_roundg g'
            case measure => omega
            case rel =>
              refine ⟨⟨nj, sp ++ [⟨ca, cb⟩], 2, .slice va5 (sp.length + 1) vc5, rfl, ⟨pl5, ?_⟩, blkSet hx5.out _, ?_, hnew.out, hnew2.out, by simp; omega, hTot.out⟩, ?_, ?_⟩
              · rw [Below.heap_setCell _ _ _ _ (show rb ≠ W.heap.size + 1 by omega)]; exact hr5'.out
              · exact hO5.out.mono fun j hj hl => ⟨hj, Below.heap_setCell _ _ _ _ (show j ≠ W.heap.size + 1 by omega)⟩
              · rw [Below.heap_setCell _ _ _ _ (show W.heap.size ≠ W.heap.size + 1 by omega)]; exact hres5.out
              · exact (hFX.out.trans (M' := fun k => W.heap.size ≤ k) (hF5'.out.mono fun k _ e => by have := hown.out k e; omega) fun k hk e => by omega).setCell (p := ⟨W.heap.size + 1, 2, none⟩) (fun hk => by have hk' : W.heap.size + 1 < W.heap.size := hk; omega) _
          · have hlt' : decide ((cb.toNat : Int) < (ca.toNat : Int)) = false := by
              have : ¬ cb.toNat < ca.toNat := fun h => hlt (UInt8.lt_iff_toNat_lt.2 h)
              simp; omega
            have hlt2 : ¬ cb.toNat < ca.toNat := fun h => hlt (UInt8.lt_iff_toNat_lt.2 h)
            have hTot := hTot0.out
            rw [if_neg (fun h => hlt h.2)] at hTot
            have hnew : (0 : Nat) = 0 → nj ≤ s.length ∧ s.length < nj + g' ∧ (sp ++ [(⟨ca, cb⟩ : Span)]).length ≤ nj := fun h => by have := hr2'.out rfl; simp; omega
            replace hTot := Kp.mk hTot
            replace hnew := Kp.mk hnew
            replace hnew2 := Kp.mk hnew2
            replace hlt := Kp.mk hlt
            clear hd0
            go_upto_region 16 with fail
            have hU := hUk3.out
            have hxX := hU.fr.obj hx.out (by omega)
            have hresX := hU.fr.obj hres.out (by omega)
            have hOX := hO.out.mono (w' := w3) (A' := fun j => W.heap.size + 2 ≤ j) fun j hj hl => ⟨hj, hU.fr.block j hl (by omega)⟩
            have hFX : Fr (fun k => k = rb) W w3 := hF.out.trans hU.fr fun _ _ e => e
            have hxXc := blkC hxX
            have hxXf := blkF hxX
            have hxXl := blkL hxX
            have hzX := hU.fr.size
            have hRX := hU.rd
            replace hxX := Kp.mk hxX
            replace hresX := Kp.mk hresX
            replace hOX := Kp.mk hOX
            replace hFX := Kp.mk hFX
            replace hRX := Kp.mk hRX
            clear hU
            go_wp2_with (at_builtin; refine pause ?_; intro K hK)
            refine hK.out _ _ ?_
            refine wpl_append1 (w := w3) (y := ⟨ca, cb⟩) ty_rSpan rfl rfl rfl hOX.out rfl rfl (heap_alloc_new _ _) ((Fr.refl _ _).alloc _) (by omega) (fun j hj => by omega) ?_
            intro v' w5 hO5 hF5 hd5
            have hF5' : Fr (fun k => (Value.slice va sp.length vc).ownBlock = some k) w3 w5 := hF5
            have hown : ∀ j, (Value.slice va sp.length vc).ownBlock = some j → W.heap.size + 2 ≤ j := fun j e => hOX.out.1 j e
            have hx5 := hF5'.obj hxX.out (fun e => by have := hown _ e; omega)
            have hres5 := hF5'.obj hresX.out (fun e => by have := hown _ e; omega)
            obtain ⟨pl5, hr5⟩ := hRX.out
            have hr5' := hF5'.obj hr5 (fun e => by have := hown _ e; omega)
            have hx5c := blkC hx5
            have hx5f := blkF hx5
            have hx5l := blkL hx5
            obtain ⟨va5, vc5, rfl⟩ := hO5.form (n := sp.length + 1) (by simp)
            have hne5 : rb ≠ W.heap.size + 1 := by omega
            replace hx5 := Kp.mk hx5
            replace hres5 := Kp.mk hres5
            replace hr5' := Kp.mk hr5'
            replace hO5 := Kp.mk hO5
            replace hF5' := Kp.mk hF5'
            replace hown := Kp.mk hown
            clear hF5 hd5 hr5
            go_wp2_with fail
            go_roundg g'
            case measure => omega
            case rel =>
              refine ⟨⟨nj, sp ++ [⟨ca, cb⟩], 0, .slice va5 (sp.length + 1) vc5, rfl, ⟨pl5, ?_⟩, blkSet hx5.out _, ?_, fun _ => hnew.out trivial, hnew2.out, by simp; omega, hTot.out⟩, ?_, ?_⟩
              · rw [Below.heap_setCell _ _ _ _ (show rb ≠ W.heap.size + 1 by omega)]; exact hr5'.out
              · exact hO5.out.mono fun j hj hl => ⟨hj, Below.heap_setCell _ _ _ _ (show j ≠ W.heap.size + 1 by omega)⟩
              · rw [Below.heap_setCell _ _ _ _ (show W.heap.size ≠ W.heap.size + 1 by omega)]; exact hres5.out
              · exact (hFX.out.trans (M' := fun k => W.heap.size ≤ k) (hF5'.out.mono fun k _ e => by have := hown.out k e; omega) fun k hk e => by omega).setCell (p := ⟨W.heap.size + 1, 2, none⟩) (fun hk => by have hk' : W.heap.size + 1 < W.heap.size := hk; omega) _
        · have hd : ((be : Int) == 0) = false := by simpa using hbe
          have hTot := hTot0.out
          rw [if_neg (fun h => hbe h.1)] at hTot
          have hnew : be = 0 → nj ≤ s.length ∧ s.length < nj + g' ∧ (sp ++ [(⟨ca, cb⟩ : Span)]).length ≤ nj := fun h => absurd h hbe
          replace hTot := Kp.mk hTot
          replace hnew := Kp.mk hnew
          replace hnew2 := Kp.mk hnew2
          replace hbe := Kp.mk hbe
          go_upto_region 16 with fail
          have hU := hUk3.out
          have hxX := hU.fr.obj hx.out (by omega)
          have hresX := hU.fr.obj hres.out (by omega)
          have hOX := hO.out.mono (w' := w3) (A' := fun j => W.heap.size + 2 ≤ j) fun j hj hl => ⟨hj, hU.fr.block j hl (by omega)⟩
          have hFX : Fr (fun k => k = rb) W w3 := hF.out.trans hU.fr fun _ _ e => e
          have hxXc := blkC hxX
          have hxXf := blkF hxX
          have hxXl := blkL hxX
          have hzX := hU.fr.size
          have hRX := hU.rd
          replace hxX := Kp.mk hxX
          replace hresX := Kp.mk hresX
          replace hOX := Kp.mk hOX
          replace hFX := Kp.mk hFX
          replace hRX := Kp.mk hRX
          clear hU
          go_wp2_with (at_builtin; refine pause ?_; intro K hK)
          refine hK.out _ _ ?_
          refine wpl_append1 (w := w3) (y := ⟨ca, cb⟩) ty_rSpan rfl rfl rfl hOX.out rfl rfl (heap_alloc_new _ _) ((Fr.refl _ _).alloc _) (by omega) (fun j hj => by omega) ?_
          intro v' w5 hO5 hF5 hd5
          have hF5' : Fr (fun k => (Value.slice va sp.length vc).ownBlock = some k) w3 w5 := hF5
          have hown : ∀ j, (Value.slice va sp.length vc).ownBlock = some j → W.heap.size + 2 ≤ j := fun j e => hOX.out.1 j e
          have hx5 := hF5'.obj hxX.out (fun e => by have := hown _ e; omega)
          have hres5 := hF5'.obj hresX.out (fun e => by have := hown _ e; omega)
          obtain ⟨pl5, hr5⟩ := hRX.out
          have hr5' := hF5'.obj hr5 (fun e => by have := hown _ e; omega)
          have hx5c := blkC hx5
          have hx5f := blkF hx5
          have hx5l := blkL hx5
          obtain ⟨va5, vc5, rfl⟩ := hO5.form (n := sp.length + 1) (by simp)
          have hne5 : rb ≠ W.heap.size + 1 := by omega
          replace hx5 := Kp.mk hx5
          replace hres5 := Kp.mk hres5
          replace hr5' := Kp.mk hr5'
          replace hO5 := Kp.mk hO5
          replace hF5' := Kp.mk hF5'
          replace hown := Kp.mk hown
          clear hF5 hd5 hr5
          go_wp2_with fail
          go_roundg g'
          case measure => omega
          case rel =>
            refine ⟨⟨nj, sp ++ [⟨ca, cb⟩], be, .slice va5 (sp.length + 1) vc5, rfl, ⟨pl5, ?_⟩, blkSet hx5.out _, ?_, hnew.out, hnew2.out, by simp; omega, hTot.out⟩, ?_, ?_⟩
            · rw [Below.heap_setCell _ _ _ _ (show rb ≠ W.heap.size + 1 by omega)]; exact hr5'.out
            · exact hO5.out.mono fun j hj hl => ⟨hj, Below.heap_setCell _ _ _ _ (show j ≠ W.heap.size + 1 by omega)⟩
            · rw [Below.heap_setCell _ _ _ _ (show W.heap.size ≠ W.heap.size + 1 by omega)]; exact hres5.out
            · exact (hFX.out.trans (M' := fun k => W.heap.size ≤ k) (hF5'.out.mono fun k _ e => by have := hown.out k e; omega) fun k hk e => by omega).setCell (p := ⟨W.heap.size + 1, 2, none⟩) (fun hk => by have hk' : W.heap.size + 1 < W.heap.size := hk; omega) _
end Go.Proofs.Ytbcifjjnnbefkaa
