/-
  NfaPlaces: of what is read, each jump goes on at a place that there is, Done is last and nowhere else, and the instructions are few: the call answers true at every input. Conditions: none.
-/
import Derived.Test.YtbcifjjnnbefkaaPlaces
import Derived.Test.YtbcifjjnnbefkaaKnows9
namespace Go.Proofs.Ytbcifjjnnbefkaa
open Go.RowKit

/-- The loop of the law. -/
structure PlI (W : World) (n k : Nat) (l : List Inst) (iv : Value) (A : Nat → Prop) (a : Option Addr) (cap : Nat) (w : World) : Prop where
  st : ∃ i : Nat, iv = .int .i64 i ∧ i ≤ l.length ∧ l.length - i ≤ k
  sl : Sl sInst w A a cap l
  fr : Below W.heap.size W w

set_option maxRecDepth 100000 in
set_option maxHeartbeats 8000000 in
theorem lawPlaces_calls (s : List UInt8) (sa : Option Addr) (sc : Nat) (W : World) (hs : Sl sByte W (fun b => b < W.heap.size) sa sc s) :
    Calls Try.prog 4 #[.slice sa s.length sc] W (Ret (TrueP W)) := by
  by_cases h500 : 500 < s.length
  · have hd : decide ((500 : Int) < (s.length : Int)) = true := by simp; omega
    clear hs
    go_enter Try.func4, Try.ntmps4
    go_wp2_with fail
    refine ret_mono (knows_calls _) ?_
    rintro v w1 ⟨rfl, hB⟩
    replace hB := Kp.mk hB
    go_wp2_with fail
    go_ret
    exact ⟨rfl, hB.out⟩
  · have hd : decide ((500 : Int) < (s.length : Int)) = false := by simp; omega
    have hsm := hs.max
    have hsl := hs.le
    replace hs := Kp.mk hs
    go_enter Try.func4, Try.ntmps4
    go_wp2_with fail
    refine ret_mono (parse_calls s sa sc W (hs.out.mono fun k _ _ => ⟨trivial, rfl⟩)) ?_
    intro v w1 hQ
    obtain ⟨⟨la, lc, rfl, hS1⟩, hB1⟩ := hQ
    have hpl := places s
    have hpf := parse_fit s
    have hpw := parse_few s
    generalize parseM s = r at *
    obtain ⟨l, pl, e⟩ := r
    dsimp only at hS1 hpl hpf hpw
    replace hpw := Kp.mk hpw
    replace hB1 := Kp.mk hB1
    replace hS1 := Kp.mk hS1
    replace hpl := Kp.mk hpl
    replace hpf := Kp.mk hpf
    by_cases h0 : e = 0
    · subst h0
      obtain ⟨tot, htot, hcase⟩ := hpl.out rfl
      obtain ⟨_, _, hll, hs80⟩ := hpf.out rfl
      replace htot := Kp.mk htot
      replace hcase := Kp.mk hcase
      go_wp2_with fail
      refine ret_mono (build_calls l la lc tot w1 (hS1.out.mono fun k _ _ => ⟨trivial, rfl⟩) (by omega) (fun o ho => by have := hpw.out o ho; omega) htot.out) ?_
      intro v w2 hQ
      obtain ⟨⟨pa, pc, rfl, hS2⟩, hB2⟩ := hQ
      have hB2' : Below W.heap.size W w2 := hB1.out.trans (hB2.mono hB1.out.size)
      rcases hcase.out with hE | ⟨x, hE, hgood, hxl⟩
      · rw [hE]
        replace hB2' := Kp.mk hB2'
        clear hS2 hB2 hE
        go_wp2_with fail
        refine ret_mono (knows_calls _) ?_
        rintro v w3 ⟨rfl, hB3⟩
        have hB3' := Kp.mk (hB2'.out.trans (hB3.mono hB2'.out.size))
        clear hB3
        go_wp2_with fail
        go_ret
        exact ⟨rfl, hB3'.out⟩
      · rw [hE] at hS2 ⊢
        dsimp only at hS2 ⊢
        have hlen : (x ++ [doneI]).length = x.length + 1 := by simp
        rw [hlen]
        replace hB2' := Kp.mk hB2'
        replace hgood := Kp.mk hgood
        have hI0 := Kp.mk (show PlI W 0 (x.length + 1) (x ++ [doneI]) (.int .i64 0) (w1.heap.size ≤ ·) pa pc w2 from ⟨⟨0, rfl, by simp, by simp⟩, hS2, hB2'.out⟩)
        clear hS2 hB2 hE
        go_wp2_with fail
        go_loopg [8] (x.length + 1) (fun k iv w => PlI W 0 k (x ++ [doneI]) iv (w1.heap.size ≤ ·) pa pc w)
        case atStart => exact hI0.out
        case round =>
          obtain ⟨⟨i, rfl, hil, hik⟩, hSl, hB⟩ := hrel
          rw [hlen] at hil hik
          by_cases hlt : i < x.length + 1
          · have hd1 : decide (i < x.length + 1) = true := by simp; omega
            have hd1' : decide ((i : Int) < (x.length : Int) + 1) = true := by simp; omega
            obtain ⟨b, off, sa2, sc2, rfl, hb2, _, _, _, _, _, c0, c1, c2, c3, c4⟩ := inst_at hSl (k := i) (by rw [hlen]; exact hlt)
            have hB' : Below W.heap.size W (wr.alloc (Obj.cells #[.int .i64 (x ++ [doneI])[i].kind, .int .i64 (x ++ [doneI])[i].x, .int .i64 (x ++ [doneI])[i].y, .bool (x ++ [doneI])[i].neg, .slice sa2 (x ++ [doneI])[i].spans.length sc2] 24)) := hB.alloc hB.size _
            have hfin := Kp.mk (show PlI W 0 (gk - 1) (x ++ [doneI]) (.int .i64 ((i : Int) + 1)) (w1.heap.size ≤ ·) (some ⟨b, off, none⟩) pc (wr.alloc (Obj.cells #[.int .i64 (x ++ [doneI])[i].kind, .int .i64 (x ++ [doneI])[i].x, .int .i64 (x ++ [doneI])[i].y, .bool (x ++ [doneI])[i].neg, .slice sa2 (x ++ [doneI])[i].spans.length sc2] 24)) from
              ⟨⟨i + 1, by simp, by rw [hlen]; omega, by rw [hlen]; omega⟩, hSl.mono fun k hk hl => ⟨hk, Below.heap_alloc _ _ _ hl⟩, hB'⟩)
            have hy : (i < x.length ∧ okAt x.length i (x ++ [doneI])[i]) ∨ (i = x.length ∧ (x ++ [doneI])[i].kind = 4) := by
              by_cases h : i < x.length
              · exact .inl ⟨h, hgood.out i _ (by rw [List.getElem_append_left h]; exact List.getElem?_eq_getElem h)⟩
              · have : i = x.length := by omega
                subst this
                exact .inr ⟨rfl, by simp [doneI]⟩
            clear hSl hB hB'
            generalize (x ++ [doneI])[i] = y at *
            obtain ⟨kind, xx, yy, neg, sp⟩ := y
            dsimp only at c0 c1 c2 c3 c4 hy hfin
            generalize sp.length = ln at *
            have hgk : 1 ≤ gk := by omega
            rcases hy with ⟨hi, h1, h3, hj, hk2⟩ | ⟨rfl, h4⟩
            · dsimp only at h1 h3 hj hk2
              have e1 : ((i : Int) == (x.length : Int)) = false := by simp; omega
              have e1' : ((i : Int) == (x.length : Int) + 1 - 1) = false := by simp; omega
              have hkk : kind = 1 ∨ kind = 2 ∨ kind = 3 := by omega
              rcases hkk with rfl | rfl | rfl
              · clear hj hk2 h1 h3
                go_wp2_with fail
                go_roundg (gk - 1)
                case measure => omega
                case rel => exact hfin.out
              · obtain ⟨hx1, hx2⟩ := hj (.inl rfl)
                obtain ⟨hy1, hy2⟩ := hk2 rfl
                clear hj hk2 h1 h3
                have f1 : decide ((i : Int) + xx < 0) = false := by simp; omega
                have f2 : decide ((x.length : Int) + 1 ≤ (i : Int) + xx) = false := by simp; omega
                have f3 : decide ((i : Int) + yy < 0) = false := by simp; omega
                have f4 : decide ((x.length : Int) + 1 ≤ (i : Int) + yy) = false := by simp; omega
                go_wp2_with fail
                go_roundg (gk - 1)
                case measure => omega
                case rel => exact hfin.out
              · obtain ⟨hx1, hx2⟩ := hj (.inr rfl)
                clear hj hk2 h1 h3
                have f1 : decide ((i : Int) + xx < 0) = false := by simp; omega
                have f2 : decide ((x.length : Int) + 1 ≤ (i : Int) + xx) = false := by simp; omega
                go_wp2_with fail
                go_roundg (gk - 1)
                case measure => omega
                case rel => exact hfin.out
            · subst h4
              go_wp2_with fail
              go_roundg (gk - 1)
              case measure => omega
              case rel => exact hfin.out
          · obtain rfl : i = x.length + 1 := by omega
            have hd3 : decide ((x.length : Int) + 1 ≤ 3 * (s.length : Int) + 1) = true := by simp; omega
            have hn3 : x.length ≤ 3 * s.length := hxl
            clear hSl
            replace hB := Kp.mk hB
            go_wp2_with fail
            refine ret_mono (knows_calls _) ?_
            rintro v w3 ⟨rfl, hB3⟩
            have hB3' := Kp.mk (hB.out.trans (hB3.mono hB.out.size))
            clear hB3
            go_wp2_with fail
            go_ret
            exact ⟨rfl, hB3'.out⟩
    · have hne : ((e : Int) != 0) = true := by simp; omega
      have hne2 : ((e : Int) == 0) = false := by simp; omega
      clear h0
      go_wp2_with fail
      refine ret_mono (knows_calls _) ?_
      rintro v w3 ⟨rfl, hB3⟩
      have hB3' := Kp.mk (hB1.out.trans (hB3.mono hB1.out.size))
      clear hB3
      go_wp2_with fail
      go_ret
      exact ⟨rfl, hB3'.out⟩
end Go.Proofs.Ytbcifjjnnbefkaa
