/-
  The reference of layer 8 (davitref08): escaped and one. Conditions: the reader's block holds its fields, nothing is amiss yet, the pattern's bytes can be read.
-/
import Derived.Test.YtbcifjjnnbefkaaRdr1
namespace Go.Proofs.Ytbcifjjnnbefkaa
open Go.RowKit

/-- A byte, the place behind it, and what is amiss (0: nothing). -/
def escR (s : List UInt8) (i : Nat) : (UInt8 × Nat) × Nat :=
  match s[i]? with
  | none => ((0, i), 2)
  | some c => if c = 110 then ((10, i + 1), 0) else if c = 116 then ((9, i + 1), 0) else if c = 114 then ((13, i + 1), 0) else if plainB c then ((c, i + 1), 0) else ((c, i + 1), 2)
def oneR (s : List UInt8) (i : Nat) : (UInt8 × Nat) × Nat :=
  match s[i]? with
  | none => ((0, i), 2)
  | some c => if c = 92 then escR s (i + 1) else if c = 93 ∨ c = 45 ∨ c = 94 then ((c, i + 1), 2) else ((c, i + 1), 0)
structure BP (W : World) (rb : Nat) (c0 : Value) (r : (UInt8 × Nat) × Nat) (v : Value) (w : World) : Prop where
  v : v = .tuple #[.int .u8 r.1.1.toNat, .int .i64 r.1.2]
  up : UP W rb c0 r.2 w
theorem UP.of {W w : World} {rb : Nat} {c0 : Value} {bad : Nat} (h : RdE rb c0 bad W) (hF : Fr (fun _ => False) W w) : UP W rb c0 bad w := by
  obtain ⟨pl, hb⟩ := h
  exact ⟨⟨pl, hF.obj hb (fun e => e)⟩, hF.mono fun _ _ e => e.elim⟩
theorem UP.trans {W w w' : World} {rb : Nat} {c0 : Value} {b1 b2 : Nat} (h : UP W rb c0 b1 w) (h' : UP w rb c0 b2 w') : UP W rb c0 b2 w' := ⟨h'.rd, h.fr.trans h'.fr fun _ _ e => e⟩

set_option maxHeartbeats 4000000 in
theorem resc_calls (s : List UInt8) (sa : Option Addr) (sc rb i : Nat) (W : World) (h : RdE rb (.slice sa s.length sc) 0 W) (hs : Sl sByte W (fun k => k ≠ rb) sa sc s) (hi : i ≤ 100000) (_hl : s.length ≤ 100000) :
    Calls Try.prog 66 #[.pointer (some ⟨rb, 0, none⟩), .int .i64 i] W (Ret (BP W rb (.slice sa s.length sc) (escR s i))) := by
  have h' := h
  obtain ⟨pl, hb⟩ := h'
  have hc := blkC hb
  replace hb := Kp.mk hb
  replace h := Kp.mk h
  by_cases hlt : i < s.length
  · obtain ⟨b2, off, rfl, hb2, hbn, hc2⟩ := byte_at hs hlt
    have hd : decide (s.length ≤ i) = false := by simp; omega
    have hE : escR s i = if s[i] = 110 then ((10, i + 1), 0) else if s[i] = 116 then ((9, i + 1), 0) else if s[i] = 114 then ((13, i + 1), 0) else if plainB s[i] then ((s[i], i + 1), 0) else ((s[i], i + 1), 2) := by
      unfold escR; rw [List.getElem?_eq_getElem hlt]
    generalize s[i] = c at hc2 hE
    replace hs := Kp.mk hs
    by_cases h1 : c = 110
    · subst h1
      replace hE := Kp.mk hE
      go_enter Try.func66, Try.ntmps66
      go_wp2_with fail
      go_ret2
      rw [hE.out]
      exact ⟨rfl, .of h.out (Fr.refl _ _)⟩
    · have f1 : ((c.toNat : Int) == 110) = false := byte_f h1
      by_cases h2 : c = 116
      · subst h2
        replace hE := Kp.mk hE
        replace h1 := Kp.mk h1
        go_enter Try.func66, Try.ntmps66
        go_wp2_with fail
        go_ret2
        rw [hE.out]
        exact ⟨rfl, .of h.out (Fr.refl _ _)⟩
      · have f2 : ((c.toNat : Int) == 116) = false := byte_f h2
        by_cases h3 : c = 114
        · subst h3
          replace hE := Kp.mk hE
          replace h1 := Kp.mk h1
          replace h2 := Kp.mk h2
          go_enter Try.func66, Try.ntmps66
          go_wp2_with fail
          go_ret2
          rw [hE.out]
          exact ⟨rfl, .of h.out (Fr.refl _ _)⟩
        · have f3 : ((c.toNat : Int) == 114) = false := byte_f h3
          rw [if_neg h1, if_neg h2, if_neg h3] at hE
          replace h1 := Kp.mk h1
          replace h2 := Kp.mk h2
          replace h3 := Kp.mk h3
          cases hp : plainB c with
          | true =>
            rw [hp, if_pos rfl] at hE
            replace hE := Kp.mk hE
            replace hp := Kp.mk hp
            go_enter Try.func66, Try.ntmps66
            go_wp2_with (go_at_call 68; refine ret_mono (named_calls _ _) ?_; rintro v w' ⟨rfl, rfl⟩; rw [hp.out])
            go_ret2
            rw [hE.out]
            exact ⟨rfl, .of h.out (Fr.refl _ _)⟩
          | false =>
            rw [hp, if_neg (by simp)] at hE
            replace hE := Kp.mk hE
            replace hp := Kp.mk hp
            go_enter Try.func66, Try.ntmps66
            go_wp2_with (go_at_call 68; refine ret_mono (named_calls _ _) ?_; rintro v w' ⟨rfl, rfl⟩; rw [hp.out])
            refine ret_mono (wrong_calls rb _ 0 2 _ _ h.out) ?_
            rintro v w1 ⟨rfl, hU⟩
            replace hU := Kp.mk hU
            go_wp2_with fail
            go_ret2
            rw [hE.out]
            exact ⟨rfl, hU.out⟩
  · have hd : decide (s.length ≤ i) = true := by simp; omega
    have hE : escR s i = ((0, i), 2) := by unfold escR; rw [List.getElem?_eq_none (by omega)]
    replace hE := Kp.mk hE
    replace hs := Kp.mk hs
    go_enter Try.func66, Try.ntmps66
    go_wp2_with fail
    refine ret_mono (wrong_calls rb _ 0 2 _ _ h.out) ?_
    rintro v w1 ⟨rfl, hU⟩
    replace hU := Kp.mk hU
    go_wp2_with fail
    go_ret2
    rw [hE.out]
    exact ⟨rfl, hU.out⟩

set_option maxHeartbeats 4000000 in
theorem rone_calls (s : List UInt8) (sa : Option Addr) (sc rb i : Nat) (W : World) (h : RdE rb (.slice sa s.length sc) 0 W) (hs : Sl sByte W (fun k => k ≠ rb) sa sc s) (hi : i ≤ 99999) (hl : s.length ≤ 100000) :
    Calls Try.prog 67 #[.pointer (some ⟨rb, 0, none⟩), .int .i64 i] W (Ret (BP W rb (.slice sa s.length sc) (oneR s i))) := by
  have h' := h
  obtain ⟨pl, hb⟩ := h'
  have hc := blkC hb
  replace hb := Kp.mk hb
  replace h := Kp.mk h
  by_cases hlt : i < s.length
  · have hesc := resc_calls s sa sc rb (i + 1) W h.out hs (by omega) hl
    rw [show ((i + 1 : Nat) : Int) = (i : Int) + 1 from rfl] at hesc
    obtain ⟨b2, off, rfl, hb2, hbn, hc2⟩ := byte_at hs hlt
    have hd : decide (s.length ≤ i) = false := by simp; omega
    have hE : oneR s i = if s[i] = 92 then escR s (i + 1) else if s[i] = 93 ∨ s[i] = 45 ∨ s[i] = 94 then ((s[i], i + 1), 2) else ((s[i], i + 1), 0) := by
      unfold oneR; rw [List.getElem?_eq_getElem hlt]
    generalize s[i] = c at hc2 hE
    replace hs := Kp.mk hs
    by_cases h1 : c = 92
    · subst h1
      rw [if_pos rfl] at hE
      generalize escR s (i + 1) = q at hE hesc
      obtain ⟨⟨e, j⟩, bd⟩ := q
      replace hE := Kp.mk hE
      replace hesc := Kp.mk hesc
      go_enter Try.func67, Try.ntmps67
      go_wp2_with fail
      refine ret_mono hesc.out ?_
      rintro v w1 ⟨rfl, hU⟩
      replace hU := Kp.mk hU
      go_wp2_with fail
      go_ret2
      rw [hE.out]
      exact ⟨rfl, hU.out⟩
    · have f1 : ((c.toNat : Int) == 92) = false := byte_f h1
      rw [if_neg h1] at hE
      replace h1 := Kp.mk h1
      replace hesc := Kp.mk hesc
      by_cases h2 : c = 93 ∨ c = 45 ∨ c = 94
      · rw [if_pos h2] at hE
        replace hE := Kp.mk hE
        rcases h2 with rfl | rfl | rfl
        all_goals
          go_enter Try.func67, Try.ntmps67
          go_wp2_with fail
          refine ret_mono (wrong_calls rb _ 0 2 _ _ h.out) ?_
          rintro v w1 ⟨rfl, hU⟩
          replace hU := Kp.mk hU
          go_wp2_with fail
          go_ret2
          rw [hE.out]
          exact ⟨rfl, hU.out⟩
      · rw [if_neg h2] at hE
        simp only [not_or] at h2
        have f2 : ((c.toNat : Int) == 93) = false := byte_f h2.1
        have f3 : ((c.toNat : Int) == 45) = false := byte_f h2.2.1
        have f4 : ((c.toNat : Int) == 94) = false := byte_f h2.2.2
        replace hE := Kp.mk hE
        replace h2 := Kp.mk h2
        go_enter Try.func67, Try.ntmps67
        go_wp2_with fail
        go_ret2
        rw [hE.out]
        exact ⟨rfl, .of h.out (Fr.refl _ _)⟩
  · have hd : decide (s.length ≤ i) = true := by simp; omega
    have hE : oneR s i = ((0, i), 2) := by unfold oneR; rw [List.getElem?_eq_none (by omega)]
    replace hE := Kp.mk hE
    replace hs := Kp.mk hs
    go_enter Try.func67, Try.ntmps67
    go_wp2_with fail
    refine ret_mono (wrong_calls rb _ 0 2 _ _ h.out) ?_
    rintro v w1 ⟨rfl, hU⟩
    replace hU := Kp.mk hU
    go_wp2_with fail
    go_ret2
    rw [hE.out]
    exact ⟨rfl, hU.out⟩
end Go.Proofs.Ytbcifjjnnbefkaa
