/-
  The reference of layer 8 (davitref08): atom. Conditions: the reader's block holds its fields, nothing is amiss yet, the pattern's bytes can be read, and there is one at the place.
-/
import Derived.Test.YtbcifjjnnbefkaaRdr3
namespace Go.Proofs.Ytbcifjjnnbefkaa
open Go.RowKit

/-- The atom behind a backslash that is no class. -/
def escOp (s : List UInt8) (i : Nat) : (List Op × Nat) × Nat := (([⟨1, false, [⟨(escR s (i + 1)).1.1, (escR s (i + 1)).1.1⟩]⟩], (escR s (i + 1)).1.2), (escR s (i + 1)).2)
/-- An atom: its ops, the place behind it, what is amiss; 'al' reads what a bracket holds. -/
def atomW (s : List UInt8) (al : Option (Nat → (List Op × Nat) × Nat)) (i : Nat) : (List Op × Nat) × Nat :=
  match s[i]? with
  | none => (([], i), 0)
  | some c =>
    if c = 40 then (match al with
      | none => (([], i), 5)
      | some f => (((f (i + 1)).1.1, (f (i + 1)).1.2 + 1), if (f (i + 1)).2 = 0 ∧ isB s (f (i + 1)).1.2 41 = false then 2 else (f (i + 1)).2))
    else if c = 91 then (([(setR s (i + 1)).1.1], (setR s (i + 1)).1.2), (setR s (i + 1)).2)
    else if c = 46 then (([⟨1, true, [⟨10, 10⟩]⟩], i + 1), 0)
    else if c = 42 ∨ c = 43 ∨ c = 63 ∨ c = 93 then (([⟨1, false, [⟨c, c⟩]⟩], i + 1), 2)
    else if c = 92 then (match s[i + 1]? with
      | none => escOp s i
      | some d => if classM d = [] then escOp s i else (([⟨1, false, classM d⟩], i + 2), 0))
    else (([⟨1, false, [⟨c, c⟩]⟩], i + 1), 0)

structure LP (W : World) (rb : Nat) (c0 : Value) (r : (List Op × Nat) × Nat) (v : Value) (w : World) : Prop where
  v : ∃ a cap, v = .tuple #[.slice a r.1.1.length cap, .int .i64 r.1.2] ∧ Sl sOp w (W.heap.size ≤ ·) a cap r.1.1
  up : UP W rb c0 r.2 w
/-- What a call of a reader's method finds. -/
structure Pre (s : List UInt8) (sa : Option Addr) (sc rb : Nat) (W : World) : Prop where
  rd : RdE rb (.slice sa s.length sc) 0 W
  s : Sl sByte W (fun k => k ≠ rb ∧ k < W.heap.size) sa sc s
theorem Pre.on {s : List UInt8} {sa : Option Addr} {sc rb : Nat} {W w : World} (h : Pre s sa sc rb W) (hU : UP W rb (.slice sa s.length sc) 0 w) : Pre s sa sc rb w :=
  ⟨hU.rd, h.s.mono fun j hj hl => ⟨⟨hj.1, Nat.lt_of_lt_of_le hl hU.fr.size⟩, hU.fr.block j hl hj.1⟩⟩

theorem opS {w : World} {B : Nat} {a : Option Addr} {cap : Nat} {l : List Span} (h : Sl sSpan w (B ≤ ·) a cap l) (hB : B ≤ w.heap.size) (k : Int) (hk : i64ok k) (n : Bool) :
    Sl sOp (w.alloc (.cells #[.int .i64 k, .bool n, .slice a l.length cap] 126)) (B ≤ ·) (some ⟨w.heap.size, 0, none⟩) 1 [⟨k, n, l⟩] :=
  Sl.rowsAt (l := ([⟨k, n, l⟩] : List Op)) (heap_alloc_new _ _) hB ⟨[_, _, _], [], rfl, ⟨a, cap, rfl, hk, h.mono fun j hj hl => ⟨hj, Below.heap_alloc _ _ _ hl⟩⟩, rfl⟩ (show 1 ≤ maxLen by decide)
theorem span1 (w : World) (B : Nat) (hB : B ≤ w.heap.size) (lo hi : UInt8) : Sl sSpan (w.alloc (.cells #[.int .u8 lo.toNat, .int .u8 hi.toNat] 63)) (B ≤ ·) (some ⟨w.heap.size, 0, none⟩) 1 [⟨lo, hi⟩] :=
  Sl.rowsAt (l := ([⟨lo, hi⟩] : List Span)) (heap_alloc_new _ _) hB ⟨[_, _], [], rfl, rfl, rfl⟩ (show 1 ≤ maxLen by decide)
theorem op1 (w : World) (B : Nat) (hB : B ≤ w.heap.size) (lo hi : UInt8) (n : Bool) :
    Sl sOp ((w.alloc (.cells #[.int .u8 lo.toNat, .int .u8 hi.toNat] 63)).alloc (.cells #[.int .i64 1, .bool n, .slice (some ⟨w.heap.size, 0, none⟩) 1 1] 126)) (B ≤ ·) (some ⟨w.heap.size + 1, 0, none⟩) 1 [⟨1, n, [⟨lo, hi⟩]⟩] := by
  have h := opS (span1 w B hB lo hi) (by simp; omega) 1 (by unfold i64ok; omega) n
  rw [show (w.alloc (.cells #[.int .u8 lo.toNat, .int .u8 hi.toNat] 63)).heap.size = w.heap.size + 1 by simp] at h
  exact h

set_option maxRecDepth 100000 in
set_option maxHeartbeats 16000000 in
theorem atom_calls (s : List UInt8) (sa : Option Addr) (sc rb i deep : Nat) (al : Option (Nat → (List Op × Nat) × Nat)) (W : World) (h : Pre s sa sc rb W) (hl : s.length ≤ 1000) (hi : i < s.length) (hdeep : deep ≤ 100)
    (hal : match al with | none => 8 ≤ deep | some f => deep < 8 ∧ (f (i + 1)).1.2 ≤ 100000 ∧ Calls Try.prog 47 #[.pointer (some ⟨rb, 0, none⟩), .int .i64 ((i : Int) + 1), .int .i64 ((deep : Int) + 1)] W (Ret (LP W rb (.slice sa s.length sc) (f (i + 1))))) :
    Calls Try.prog 63 #[.pointer (some ⟨rb, 0, none⟩), .int .i64 i, .int .i64 deep] W (Ret (LP W rb (.slice sa s.length sc) (atomW s al i))) := by
  have hp := h
  obtain ⟨hR, hs⟩ := h
  have hR' := hR
  obtain ⟨pl, hb⟩ := hR'
  have hc := blkC hb
  have hbl := blkL hb
  have hs2 := hs.mono (w' := W) (A' := fun k => k ≠ rb) fun j hj _ => ⟨hj.1, rfl⟩
  obtain ⟨b2, off, rfl, hb2, hbn, hc2⟩ := byte_at hs hi
  have hE : atomW s al i = if s[i] = 40 then (match al with
      | none => (([], i), 5)
      | some f => (((f (i + 1)).1.1, (f (i + 1)).1.2 + 1), if (f (i + 1)).2 = 0 ∧ isB s (f (i + 1)).1.2 41 = false then 2 else (f (i + 1)).2))
    else if s[i] = 91 then (([(setR s (i + 1)).1.1], (setR s (i + 1)).1.2), (setR s (i + 1)).2)
    else if s[i] = 46 then (([⟨1, true, [⟨10, 10⟩]⟩], i + 1), 0)
    else if s[i] = 42 ∨ s[i] = 43 ∨ s[i] = 63 ∨ s[i] = 93 then (([⟨1, false, [⟨s[i], s[i]⟩]⟩], i + 1), 2)
    else if s[i] = 92 then (match s[i + 1]? with
      | none => escOp s i
      | some d => if classM d = [] then escOp s i else (([⟨1, false, classM d⟩], i + 2), 0))
    else (([⟨1, false, [⟨s[i], s[i]⟩]⟩], i + 1), 0) := by
    unfold atomW; rw [List.getElem?_eq_getElem hi]
  generalize s[i] = c at hc2 hE
  replace hb := Kp.mk hb
  replace hs := Kp.mk hs
  replace hs2 := Kp.mk hs2
  replace hR := Kp.mk hR
  replace hp := Kp.mk hp
  by_cases h1 : c = 40
  · subst h1
    rw [if_pos rfl] at hE
    cases al with
    | none =>
      have hd8 : decide ((8 : Int) ≤ (deep : Int)) = true := by
        have : 8 ≤ deep := hal
        simp; omega
      replace hE := Kp.mk hE
      clear hal
      go_enter Try.func63, Try.ntmps63
      go_wp2_with fail
      refine ret_mono (wrong_calls rb _ 0 5 _ _ hR.out) ?_
      rintro v w1 ⟨rfl, hU⟩
      replace hU := Kp.mk hU
      go_wp2_with fail
      go_ret2
      rw [hE.out]
      exact ⟨⟨none, 0, rfl, Sl.nil_ _ _ _⟩, hU.out⟩
    | some f =>
      obtain ⟨hd, hle, hcall⟩ := hal
      have hd8 : decide ((8 : Int) ≤ (deep : Int)) = false := by simp; omega
      dsimp only at hE
      generalize f (i + 1) = q at hE hcall hle
      obtain ⟨⟨ol, j⟩, bd⟩ := q
      dsimp only at hE hle
      replace hE := Kp.mk hE
      replace hcall := Kp.mk hcall
      go_enter Try.func63, Try.ntmps63
      go_wp2_with fail
      refine ret_mono hcall.out ?_
      rintro v w1 ⟨⟨oa, oc, rfl, hS⟩, hU⟩
      dsimp only at hS ⊢
      have hU' := hU.rd
      obtain ⟨pl1, hb1⟩ := hU'
      have hc1 := blkC hb1
      have hUr := hU.rd
      have hs3 := hs2.out.mono (w' := w1) (A' := fun k => k ≠ rb) fun j hj hl => ⟨hj, hU.fr.block j hl hj⟩
      by_cases h0 : bd = 0
      · subst h0
        have his := is_calls s _ sc rb 0 j 41 w1 hUr hs3
        cases h41 : isB s j 41 with
        | true =>
          rw [h41] at his
          have hE2 := hE.out
          rw [if_neg (fun h => by rw [h41] at h; cases h.2)] at hE2
          replace his := Kp.mk his
          replace hE2 := Kp.mk hE2
          replace hU := Kp.mk hU
          replace hS := Kp.mk hS
          replace hb1 := Kp.mk hb1
          replace hs3 := Kp.mk hs3
          replace hUr := Kp.mk hUr
          replace h41 := Kp.mk h41
          go_wp2_with fail
          refine ret_mono his.out ?_
          rintro v w2 ⟨rfl, rfl⟩
          go_wp2_with fail
          go_ret2
          rw [hE2.out]
          exact ⟨⟨oa, oc, rfl, hS.out⟩, hU.out⟩
        | false =>
          rw [h41] at his
          have hE2 := hE.out
          rw [if_pos ⟨rfl, h41⟩] at hE2
          replace his := Kp.mk his
          replace hE2 := Kp.mk hE2
          replace hU := Kp.mk hU
          replace hS := Kp.mk hS
          replace hb1 := Kp.mk hb1
          replace hs3 := Kp.mk hs3
          replace hUr := Kp.mk hUr
          replace h41 := Kp.mk h41
          go_wp2_with fail
          refine ret_mono his.out ?_
          rintro v w2 ⟨rfl, rfl⟩
          go_wp2_with fail
          refine ret_mono (wrong_calls rb _ 0 2 _ _ hUr.out) ?_
          rintro v w3 ⟨rfl, hU3⟩
          have hU4 := Kp.mk (hU.out.trans hU3)
          have hS4 : Kp (Sl sOp w3 (W.heap.size ≤ ·) oa oc ol) := ⟨hS.out.mono fun j hj hl => ⟨hj, hU3.fr.block j hl (by omega)⟩⟩
          clear hU3
          go_wp2_with fail
          go_ret2
          rw [hE2.out]
          exact ⟨⟨oa, oc, rfl, hS4.out⟩, hU4.out⟩
      · have hd0 : ((bd : Int) == 0) = false := by simpa using h0
        have hE2 := hE.out
        rw [if_neg (fun h => h0 h.1)] at hE2
        replace hE2 := Kp.mk hE2
        replace hU := Kp.mk hU
        replace hS := Kp.mk hS
        replace hb1 := Kp.mk hb1
        replace hs3 := Kp.mk hs3
        replace hUr := Kp.mk hUr
        replace h0 := Kp.mk h0
        go_wp2_with fail
        go_ret2
        rw [hE2.out]
        exact ⟨⟨oa, oc, rfl, hS.out⟩, hU.out⟩
  · rw [if_neg h1] at hE
    have f1 : ((c.toNat : Int) == 40) = false := byte_f h1
    replace h1 := Kp.mk h1
    replace hal := Kp.mk hal
    by_cases h2 : c = 91
    · subst h2
      rw [if_pos rfl] at hE
      have hset := rset_calls s _ sc rb (i + 1) W hR.out hs.out (by omega) hl
      rw [show ((i + 1 : Nat) : Int) = (i : Int) + 1 from rfl] at hset
      have hk1 : (setR s (i + 1)).1.1.kind = 1 := rfl
      generalize setR s (i + 1) = q at hE hset hk1
      obtain ⟨⟨⟨k, ng, sp⟩, j⟩, bd⟩ := q
      dsimp only at hE hk1
      subst hk1
      replace hE := Kp.mk hE
      replace hset := Kp.mk hset
      go_enter Try.func63, Try.ntmps63
      go_wp2_with fail
      refine ret_mono hset.out ?_
      rintro v w1 ⟨⟨oa, oc, rfl, hS⟩, hU⟩
      dsimp only at hS ⊢
      have hz := hU.fr.size
      have hO := opS (w := w1.alloc (.cells #[.int .i64 1, .bool ng, .slice oa sp.length oc] 126)) (B := W.heap.size) (hS.mono fun j hj hl => ⟨hj, Below.heap_alloc _ _ _ hl⟩) (by simp; omega) 1 (by unfold i64ok; omega) ng
      rw [show (w1.alloc (.cells #[.int .i64 1, .bool ng, .slice oa sp.length oc] 126)).heap.size = w1.heap.size + 1 by simp] at hO
      have hU2 := hU.trans (UP.of hU.rd (((Fr.refl _ _).alloc (.cells #[.int .i64 1, .bool ng, .slice oa sp.length oc] 126)).alloc (.cells #[.int .i64 1, .bool ng, .slice oa sp.length oc] 126)))
      replace hO := Kp.mk hO
      replace hU2 := Kp.mk hU2
      replace hU := Kp.mk hU
      replace hS := Kp.mk hS
      go_wp2_with fail
      go_ret2
      rw [hE.out]
      exact ⟨⟨_, _, rfl, hO.out⟩, hU2.out⟩
    · rw [if_neg h2] at hE
      have f2 : ((c.toNat : Int) == 91) = false := byte_f h2
      replace h2 := Kp.mk h2
      by_cases h3 : c = 46
      · subst h3
        rw [if_pos rfl] at hE
        replace hE := Kp.mk hE
        go_enter Try.func63, Try.ntmps63
        go_wp2_with fail
        go_ret2
        rw [hE.out]
        exact ⟨⟨_, _, rfl, op1 W W.heap.size (Nat.le_refl _) 10 10 true⟩, .of hR.out (((Fr.refl _ _).alloc _).alloc _)⟩
      · rw [if_neg h3] at hE
        have f3 : ((c.toNat : Int) == 46) = false := byte_f h3
        replace h3 := Kp.mk h3
        by_cases h4 : c = 42 ∨ c = 43 ∨ c = 63 ∨ c = 93
        · rw [if_pos h4] at hE
          replace hE := Kp.mk hE
          rcases h4 with rfl | rfl | rfl | rfl
          all_goals
            go_enter Try.func63, Try.ntmps63
            go_wp2_with fail
            refine ret_mono (wrong_calls rb _ 0 2 _ _ hR.out) ?_
            rintro v w1 ⟨rfl, hU⟩
            have hz := hU.fr.size
            replace hU := Kp.mk hU
            go_wp2_with fail
            go_ret2
            rw [hE.out]
            first | exact ⟨⟨_, _, rfl, op1 w1 W.heap.size hz 42 42 false⟩, hU.out.trans (.of hU.out.rd (((Fr.refl _ _).alloc _).alloc _))⟩ | exact ⟨⟨_, _, rfl, op1 w1 W.heap.size hz 43 43 false⟩, hU.out.trans (.of hU.out.rd (((Fr.refl _ _).alloc _).alloc _))⟩ | exact ⟨⟨_, _, rfl, op1 w1 W.heap.size hz 63 63 false⟩, hU.out.trans (.of hU.out.rd (((Fr.refl _ _).alloc _).alloc _))⟩ | exact ⟨⟨_, _, rfl, op1 w1 W.heap.size hz 93 93 false⟩, hU.out.trans (.of hU.out.rd (((Fr.refl _ _).alloc _).alloc _))⟩
        · rw [if_neg h4] at hE
          simp only [not_or] at h4
          have f4 : ((c.toNat : Int) == 42) = false := byte_f h4.1
          have f5 : ((c.toNat : Int) == 43) = false := byte_f h4.2.1
          have f6 : ((c.toNat : Int) == 63) = false := byte_f h4.2.2.1
          have f7 : ((c.toNat : Int) == 93) = false := byte_f h4.2.2.2
          replace h4 := Kp.mk h4
          by_cases h5 : c = 92
          · subst h5
            rw [if_pos rfl] at hE
            have hesc := resc_calls s _ sc rb (i + 1) W hR.out hs2.out (by omega) (by omega)
            rw [show ((i + 1 : Nat) : Int) = (i : Int) + 1 from rfl] at hesc
            by_cases hlt : i + 1 < s.length
            · obtain ⟨_, _, e0, _, _, hc3⟩ := byte_at hs.out hlt
              cases e0
              rw [List.getElem?_eq_getElem hlt] at hE
              generalize s[i + 1] = d at hE hc3
              dsimp only at hE
              have hcl := rclass_calls d W
              have hd1 : decide ((i : Int) + 1 < (s.length : Int)) = true := by simp; omega
              by_cases hcd : classM d = []
              · rw [if_pos hcd] at hE
                unfold escOp at hE
                have hl0 : (classM d).length = 0 := by rw [hcd]; rfl
                replace hcd := Kp.mk hcd
                replace hcl := Kp.mk hcl
                replace hesc := Kp.mk hesc
                replace hE := Kp.mk hE
                go_enter Try.func63, Try.ntmps63
                go_wp2_with fail
                refine ret_mono hcl.out ?_
                rintro v w1 ⟨ca, cc, rfl, hSc, hBc⟩
                have hU1 : UP W rb (.slice (some ⟨b2, off, none⟩) s.length sc) 0 w1 := .of hR.out (Fr.of_below hBc)
                have hesc2 := resc_calls s _ sc rb (i + 1) w1 hU1.rd (hs2.out.mono fun j hj hl => ⟨hj, hBc.block j hl⟩) (by omega) (by omega)
                rw [show ((i + 1 : Nat) : Int) = (i : Int) + 1 from rfl] at hesc2
                have hE2 := hE.out
                generalize escR s (i + 1) = q at hE2 hesc2
                obtain ⟨⟨e, j⟩, bd⟩ := q
                dsimp only at hE2
                rw [hl0]
                replace hE2 := Kp.mk hE2
                replace hesc2 := Kp.mk hesc2
                replace hU1 := Kp.mk hU1
                clear hSc hBc hl0
                go_wp2_with fail
                refine ret_mono hesc2.out ?_
                rintro v w2 ⟨rfl, hU2⟩
                have hU3 := Kp.mk (hU1.out.trans hU2)
                have hz := hU3.out.fr.size
                clear hU2
                go_wp2_with fail
                go_ret2
                rw [hE2.out]
                exact ⟨⟨_, _, rfl, op1 w2 W.heap.size hz _ _ false⟩, hU3.out.trans (.of hU3.out.rd (((Fr.refl _ _).alloc _).alloc _))⟩
              · rw [if_neg hcd] at hE
                have hl0 : decide (0 < (classM d).length) = true := by
                  have : (classM d).length ≠ 0 := by simpa using hcd
                  simp; omega
                replace hcd := Kp.mk hcd
                replace hcl := Kp.mk hcl
                replace hesc := Kp.mk hesc
                replace hE := Kp.mk hE
                go_enter Try.func63, Try.ntmps63
                go_wp2_with fail
                refine ret_mono hcl.out ?_
                rintro v w1 ⟨ca, cc, rfl, hSc, hBc⟩
                have hU1 : UP W rb (.slice (some ⟨b2, off, none⟩) s.length sc) 0 w1 := .of hR.out (Fr.of_below hBc)
                have hO := opS hSc hBc.size 1 (by unfold i64ok; omega) false
                generalize classM d = cl at *
                replace hU1 := Kp.mk hU1
                replace hO := Kp.mk hO
                clear hSc hBc
                go_wp2_with fail
                go_ret2
                rw [hE.out]
                exact ⟨⟨_, _, rfl, hO.out⟩, hU1.out.trans (.of hU1.out.rd ((Fr.refl _ _).alloc _))⟩
            · rw [List.getElem?_eq_none (by omega)] at hE
              dsimp only at hE
              unfold escOp at hE
              have hd1 : decide ((i : Int) + 1 < (s.length : Int)) = false := by simp; omega
              generalize escR s (i + 1) = q at hE hesc
              obtain ⟨⟨e, j⟩, bd⟩ := q
              dsimp only at hE
              replace hesc := Kp.mk hesc
              replace hE := Kp.mk hE
              go_enter Try.func63, Try.ntmps63
              go_wp2_with fail
              refine ret_mono hesc.out ?_
              rintro v w2 ⟨rfl, hU2⟩
              have hz := hU2.fr.size
              replace hU2 := Kp.mk hU2
              go_wp2_with fail
              go_ret2
              rw [hE.out]
              exact ⟨⟨_, _, rfl, op1 w2 W.heap.size hz _ _ false⟩, hU2.out.trans (.of hU2.out.rd (((Fr.refl _ _).alloc _).alloc _))⟩
          · rw [if_neg h5] at hE
            have f8 : ((c.toNat : Int) == 92) = false := byte_f h5
            replace h5 := Kp.mk h5
            replace hE := Kp.mk hE
            go_enter Try.func63, Try.ntmps63
            go_wp2_with fail
            go_ret2
            rw [hE.out]
            exact ⟨⟨_, _, rfl, op1 W W.heap.size (Nat.le_refl _) c c false⟩, .of hR.out (((Fr.refl _ _).alloc _).alloc _)⟩
end Go.Proofs.Ytbcifjjnnbefkaa
