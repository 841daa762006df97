/-
  The reference of layer 10 (davitref10): Look. Conditions: the arms and the bytes can be read.
-/
import Derived.Test.YtbcifjjnnbefkaaHits
namespace Go.Proofs.Ytbcifjjnnbefkaa
open Go.RowKit

structure RLookP (W : World) (arms : List (List Inst)) (b : List UInt8) (v : Value) (w : World) : Prop where
  v : ∃ (arm : Int) (bg en : Nat), Best (hit arms (b.take 256)) (b.take 256).length (seen arms.length 0 0) arm bg en ∧ v = .tuple #[.int .i64 (bestR b arm bg en).1.1, .int .i64 (bestR b arm bg en).1.2.1, .int .i64 (bestR b arm bg en).1.2.2, .int .i64 (bestR b arm bg en).2]
  fr : Below W.heap.size W w
structure CutC (ba : Option Addr) (bc n : Nat) (W : World) (v : Value) (w : World) : Prop where
  v : v = .slice ba n bc
  w : W = w
structure RL (W : World) (arms : List (List Inst)) (bb : List UInt8) (va vb ve vi : Value) (w : World) : Prop where
  st : ∃ (arm : Int) (bg en i : Nat), va = .int .i64 arm ∧ vb = .int .i64 bg ∧ ve = .int .i64 en ∧ vi = .int .i64 i ∧ i ≤ arms.length ∧ Best (hit arms bb) bb.length (seen i 0 0) arm bg en
  fr : Below W.heap.size W w
structure RLf (W : World) (arms : List (List Inst)) (bb : List UInt8) (i : Nat) (va vb ve vf : Value) (w : World) : Prop where
  st : ∃ (arm : Int) (bg en f : Nat), va = .int .i64 arm ∧ vb = .int .i64 bg ∧ ve = .int .i64 en ∧ vf = .int .i64 f ∧ f ≤ bb.length + 1 ∧ Best (hit arms bb) bb.length (seen i f 0) arm bg en
  fr : Below W.heap.size W w
structure RLt (W : World) (arms : List (List Inst)) (bb : List UInt8) (i f : Nat) (va vb ve vt : Value) (w : World) : Prop where
  st : ∃ (arm : Int) (bg en t : Nat), va = .int .i64 arm ∧ vb = .int .i64 bg ∧ ve = .int .i64 en ∧ vt = .int .i64 t ∧ f ≤ t ∧ t ≤ bb.length + 1 ∧ Best (hit arms bb) bb.length (seen i f t) arm bg en
theorem endsM_get (p : List Inst) (b : List UInt8) (f t : Nat) (h1 : f ≤ t) (h2 : t < (endsM p b f).length) : (endsM p b f)[t] = doneB p (metAt p b f (t - f)) := by
  have h3 : t < b.length + 1 := by rw [show (endsM p b f).length = b.length + 1 from endsF_len _ _ _ _] at h2; exact h2
  simp [endsM, endsF, h1, h3]
theorem bool_at {w : World} {A : Nat → Prop} {a : Option Addr} {cap : Nat} {l : List Bool} (h : Sl sBool w A a cap l) {k : Nat} (hk : k < l.length) :
    ∃ b off, a = some ⟨b, off, none⟩ ∧ b < w.heap.size ∧ A b ∧ w.cell? ⟨b, off + k, none⟩ = some (.bool l[k]) := by
  obtain ⟨b, off, e, hA, hb⟩ := h.at_ (by omega)
  obtain ⟨cs, ⟨rfl, _⟩, hc⟩ := h.get b off e k hk
  have := hc 0 (by decide)
  exact ⟨b, off, e, hb, hA, by simpa [sBool, flat1] using this⟩

set_option maxRecDepth 100000 in
set_option maxHeartbeats 16000000 in
theorem rlook_calls (arms : List (List Inst)) (a : Option Addr) (cap : Nat) (b : List UInt8) (ba : Option Addr) (bc : Nat) (W : World) (hA : Sl (sSl sInst) W (fun k => k < W.heap.size) a cap arms) (hn : arms.length ≤ 1000) (hp : ∀ p ∈ arms, p.length ≤ 200)
    (hb : Sl sByte W (fun k => k < W.heap.size) ba bc b) (hbl : b.length ≤ 100000) :
    Calls Try.prog 20 #[.slice a arms.length cap, .slice ba b.length bc] W (Ret (RLookP W arms b)) := by
  have hbc := hb.le
  obtain ⟨bb, hbb⟩ : ∃ bb, bb = b.take 256 := ⟨_, rfl⟩
  have hbbl : bb.length = min 256 b.length := by rw [hbb, List.length_take]
  have hbq : bb.length ≤ 256 := by omega
  have hbq2 : bb.length ≤ b.length := by omega
  have hSb : Sl sByte W (fun k => k < W.heap.size) ba bc bb := by
    refine ⟨by omega, hb.max, hb.nil, fun h => hb.at_ (by omega), fun x off e k hk => ?_⟩
    obtain ⟨cs, h1, h2⟩ := hb.get x off e k (by omega)
    exact ⟨cs, by simpa [hbb] using h1, h2⟩
  obtain ⟨ov, hov⟩ : ∃ ov, ov = decide (256 ≤ b.length) := ⟨_, rfl⟩
  have hov' : decide ((256 : Int) ≤ (b.length : Int)) = ov := by rw [hov]; rw [Bool.eq_iff_iff]; simp; omega
  replace hA := Kp.mk hA
  replace hp := Kp.mk hp
  replace hb := Kp.mk hb
  replace hSb := Kp.mk hSb
  replace hbb := Kp.mk hbb
  replace hov := Kp.mk hov
  replace hov' := Kp.mk hov'
  replace hbbl := Kp.mk hbbl
  go_enter Try.func20, Try.ntmps20
  go_upto_if 19 with fail
  rw [hov'.out]
  go_cut [1] (fun v wc => CutC ba bc bb.length W v wc)
  case first =>
    cases ov
    · have h256 : ¬ 256 ≤ b.length := by simpa using hov.out.symm
      have e : bb.length = b.length := by rw [hbbl.out]; omega
      replace e := Kp.mk e
      go_wp2_with fail
      go_meet
      case rel => exact ⟨by rw [e.out], rfl⟩
    · have h256 : 256 ≤ b.length := by simpa using hov.out.symm
      have e : bb.length = 256 := by rw [hbbl.out]; omega
      replace e := Kp.mk e
      go_wp2_with fail
      go_meet
      case rel => exact ⟨by rw [e.out], rfl⟩
  case rest =>
    obtain ⟨rfl, rfl⟩ := hcut
    go_wp2_with fail
    go_loopw [9, 10, 11, 12] (fun va vb ve vi wr => RL W arms bb va vb ve vi wr) (fun _ _ _ i _ => arms.length - (intOf i).toNat)
    case atStart => exact ⟨⟨-1, 0, bb.length + 1, 0, rfl, rfl, by go_num, rfl, Nat.zero_le _, Best.start _ _⟩, Below.refl _ _⟩
    case round =>
      obtain ⟨⟨arm, bg, en, i, rfl, rfl, rfl, rfl, hi, hBest⟩, hB⟩ := hrel
      have hen := hBest.bound
      by_cases hlt : i < arms.length
      · replace hBest := Kp.mk hBest
        replace hB := Kp.mk hB
        obtain ⟨wo, rfl⟩ : ∃ wo : World, wo = wr := ⟨_, rfl⟩
        go_wp2_with fail
        go_loopw [9, 10, 11, 13] (fun va vb ve vf wr => RLf W arms bb i va vb ve vf wr) (fun _ _ _ f _ => bb.length + 1 - (intOf f).toNat)
        case atStart => exact ⟨⟨arm, bg, en, 0, rfl, rfl, rfl, rfl, Nat.zero_le _, hBest.out⟩, hB.out⟩
        case round =>
          clear hen hBest
          obtain ⟨⟨arm, bg, en, f, rfl, rfl, rfl, rfl, hf, hBest⟩, hB2⟩ := hrel
          have hen := hBest.bound
          by_cases hgo : f ≤ bb.length ∧ f ≤ en
          · obtain ⟨g1, g2⟩ := hgo
            have hd1 : decide (f ≤ bb.length) = true := by simpa using g1
            have hd2 : decide (f ≤ en) = true := by simpa using g2
            obtain ⟨b2, off, sa, sc, rfl, hb2, hbA, hc, hSp⟩ := arm_at (hA.out.mono (A' := fun k => k < W.heap.size) fun j hj hl => ⟨hj, hB2.block j hj⟩) hlt
            have hends := ends_calls arms[i] sa sc bb ba bc f wr (hSp.mono fun j _ hl => ⟨hl, rfl⟩) (hSb.out.mono fun j hj _ => ⟨Nat.lt_of_lt_of_le hj hB2.size, hB2.block j hj⟩) (by have := hp.out _ (List.getElem_mem hlt); omega) (by omega) g1
            have hel : (endsM arms[i] bb f).length = bb.length + 1 := endsF_len _ _ _ _
            have hhit : ∀ t (h1 : f ≤ t) (h2 : t < (endsM arms[i] bb f).length), ((endsM arms[i] bb f)[t] = true ↔ hit arms bb i f t) := fun t h1 h2 => by
              rw [endsM_get _ _ _ _ h1 h2]
              unfold hit
              rw [getD_of hlt]
              constructor
              · intro h; exact ⟨hlt, h1, by omega, h⟩
              · intro h; exact h.2.2.2
            generalize endsM arms[i] bb f = es at hends hel hhit
            replace hel := Kp.mk hel
            replace hhit := Kp.mk hhit
            replace hends := Kp.mk hends
            replace hBest := Kp.mk hBest
            replace hB2 := Kp.mk hB2
            replace hB := Kp.mk hB
            clear hSp
            go_wp2_with fail
            refine ret_mono hends.out ?_
            rintro v w2 ⟨ea, ec, rfl, hSe, hB3⟩
            have hB3' := hB2.out.trans (hB3.mono hB2.out.size)
            replace hSe := Kp.mk hSe
            replace hB3' := Kp.mk hB3'
            clear hB3
            rw [hel.out]
            go_wp2_with fail
            go_loop [9, 10, 11, 15] (fun va vb ve vt => RLt W arms bb i f va vb ve vt w2) (fun _ _ _ t => bb.length + 1 - (intOf t).toNat)
            case atStart => exact ⟨arm, bg, en, f, rfl, rfl, rfl, rfl, Nat.le_refl _, by omega, hBest.out.startT⟩
            case round =>
              clear hen hBest hd2 g2
              obtain ⟨arm, bg, en, t, rfl, rfl, rfl, rfl, hft, htn, hBest⟩ := hrel
              have hen := hBest.bound
              by_cases hgo : t ≤ bb.length ∧ t < en
              · obtain ⟨g3, g4⟩ := hgo
                have hd3 : decide (t ≤ bb.length) = true := by simpa using g3
                have hd4 : decide (t < en) = true := by simpa using g4
                have hte : t < es.length := by rw [hel.out]; omega
                obtain ⟨b3, off3, rfl, hb3, hbA3, hc3⟩ := bool_at hSe.out hte
                have hh := hhit.out t hft hte
                generalize es[t] = x at hc3 hh
                cases x with
                | true =>
                  have hBest2 := hBest.won (hh.1 rfl) g4
                  replace hBest := Kp.mk hBest
                  replace hBest2 := Kp.mk hBest2
                  clear hh
                  go_wp2_with fail
                  go_round
                  case rel => exact ⟨i, f, t, t + 1, rfl, rfl, rfl, by go_num, by omega, by omega, hBest2.out⟩
                  case measure => simp [intOf]; omega
                | false =>
                  have hBest2 := hBest.lost (fun h => by have := hh.2 h; cases this)
                  replace hBest := Kp.mk hBest
                  replace hBest2 := Kp.mk hBest2
                  clear hh
                  go_wp2_with fail
                  go_round
                  case rel => exact ⟨arm, bg, en, t + 1, rfl, rfl, rfl, by go_num, by omega, by omega, hBest2.out⟩
                  case measure => simp [intOf]; omega
              · have hBest2 := hBest.nextF (by omega)
                replace hBest := Kp.mk hBest
                replace hBest2 := Kp.mk hBest2
                have hd : (decide (t ≤ bb.length) = false ∧ 0 = 0) ∨ (decide (t ≤ bb.length) = true ∧ decide (t < en) = false) := by
                  by_cases h : t ≤ bb.length
                  · exact .inr ⟨by simpa using h, by simpa using fun h2 => hgo ⟨h, h2⟩⟩
                  · exact .inl ⟨by simpa using h, rfl⟩
                clear hgo
                rcases hd with ⟨hd, hd2⟩ | ⟨hd, hd2⟩
                all_goals
                  go_wp2_with fail
                  go_roundw
                  case rel => exact ⟨⟨arm, bg, en, f + 1, rfl, rfl, rfl, by go_num, by omega, hBest2.out⟩, hB3'.out⟩
                  case measure => simp [intOf]; omega
          · have hBest2 := hBest.nextI (by omega)
            replace hBest := Kp.mk hBest
            replace hBest2 := Kp.mk hBest2
            replace hB2 := Kp.mk hB2
            have hd : (decide (f ≤ bb.length) = false ∧ 0 = 0) ∨ (decide (f ≤ bb.length) = true ∧ decide (f ≤ en) = false) := by
              by_cases h : f ≤ bb.length
              · exact .inr ⟨by simpa using h, by simpa using fun h2 => hgo ⟨h, h2⟩⟩
              · exact .inl ⟨by simpa using h, rfl⟩
            clear hgo
            rcases hd with ⟨hd, hd2⟩ | ⟨hd, hd2⟩
            all_goals
              go_wp2_with fail
              go_roundw
              case rel => exact ⟨⟨arm, bg, en, i + 1, rfl, rfl, rfl, by go_num, hlt, hBest2.out⟩, hB2.out⟩
              case measure => simp [intOf]; omega
      · obtain rfl : i = arms.length := by omega
        have hfin : RLookP W arms b (.tuple #[.int .i64 (bestR b arm bg en).1.1, .int .i64 (bestR b arm bg en).1.2.1, .int .i64 (bestR b arm bg en).1.2.2, .int .i64 (bestR b arm bg en).2]) wr := ⟨⟨arm, bg, en, by rw [← hbb.out]; exact hBest, rfl⟩, hB⟩
        have hcase := hBest.st
        replace hBest := Kp.mk hBest
        replace hB := Kp.mk hB
        have hovo := hov.out
        by_cases h0 : 0 ≤ arm
        · have hE : bestR b arm bg en = ((arm.toNat, bg, en), 0) := by unfold bestR; rw [if_pos h0]
          rw [hE] at hfin
          dsimp only at hfin
          rw [show ((arm.toNat : Nat) : Int) = arm by omega] at hfin
          replace hfin := Kp.mk hfin
          replace hE := Kp.mk hE
          have hd : decide (0 ≤ arm) = true := by simpa using h0
          clear hcase hovo
          go_wp2_with fail
          exact bodyPost_ret (v := .tuple #[.int .i64 arm, .int .i64 bg, .int .i64 en, .int .i64 0]) (by simp [results, Try.results20, go_sem]; done) rfl hfin.out
        · have hE : bestR b arm bg en = ((0, 0, 0), if 256 ≤ b.length then 2 else 1) := by unfold bestR; rw [if_neg h0]
          rw [hE] at hfin
          dsimp only at hfin
          have hd : decide (0 ≤ arm) = false := by simpa using h0
          replace hE := Kp.mk hE
          clear hcase
          cases ov
          · have h256 : ¬ 256 ≤ b.length := by simpa using hovo.symm
            rw [if_neg h256] at hfin
            replace hfin := Kp.mk hfin
            clear hovo h256
            go_wp2_with fail
            exact bodyPost_ret (v := .tuple #[.int .i64 0, .int .i64 0, .int .i64 0, .int .i64 1]) (by simp [results, Try.results20, go_sem]; done) rfl hfin.out
          · have h256 : 256 ≤ b.length := by simpa using hovo.symm
            rw [if_pos h256] at hfin
            replace hfin := Kp.mk hfin
            clear hovo h256
            go_wp2_with fail
            exact bodyPost_ret (v := .tuple #[.int .i64 0, .int .i64 0, .int .i64 0, .int .i64 2]) (by simp [results, Try.results20, go_sem]; done) rfl hfin.out
end Go.Proofs.Ytbcifjjnnbefkaa
