/-
  SeekStays: of patterns that are read: the bytes that are found match; nothing ahead of them does; and what is found is found, too, when more comes behind: the call answers true at every input. Conditions: none.
-/
import Derived.Test.YtbcifjjnnbefkaaStay1
import Derived.Test.YtbcifjjnnbefkaaStay2
import Derived.Test.YtbcifjjnnbefkaaLawLooks
import Derived.Test.YtbcifjjnnbefkaaCut
import Derived.Deep.RegionHeld3
namespace Go.Proofs.Ytbcifjjnnbefkaa
open Go.RowKit

theorem ty_bytes : SlTy Try.prog 34 5 sByte 1 := mkTy Try.underlying34 (by kernel_rfl) (by decide) (by decide)
def getDArm (arms : List (List Inst)) (i : Nat) : List Inst := arms.getD i []
theorem bools_ne (n : Nat) (h : n ≠ 0) : ((n : Int) == 0) = false ∧ ((n : Int) != 0) = true := ⟨by simpa using h, by simpa using h⟩

set_option maxRecDepth 100000 in
set_option maxHeartbeats 16000000 in
theorem lawStays_calls (l : List (List UInt8)) (a : Option Addr) (cap : Nat) (b : List UInt8) (ba : Option Addr) (bc : Nat) (more : List UInt8) (ma : Option Addr) (mc : Nat) (W : World) (hl : Sl (sSl sByte) W (fun k => k < W.heap.size) a cap l) (hb : Sl sByte W (fun k => k < W.heap.size) ba bc b) (hm : Sl sByte W (fun k => k < W.heap.size) ma mc more) :
    Calls Try.prog 7 #[.slice a l.length cap, .slice ba b.length bc, .slice ma more.length mc] W (Ret (TrueP W)) := by
  have q1 := hl.max
  have q2 := hl.le
  have q3 := hb.max
  have q4 := hb.le
  have q5 := hm.max
  have q6 := hm.le
  unfold maxLen at q1 q3 q5
  by_cases hg : 4 < l.length ∨ 60 < b.length ∨ 60 < more.length
  · have hd : (decide ((4 : Int) < (l.length : Int)) = true ∧ 0 = 0 ∧ 0 = 0) ∨ (decide ((4 : Int) < (l.length : Int)) = false ∧ decide ((60 : Int) < (b.length : Int)) = true ∧ 0 = 0) ∨ (decide ((4 : Int) < (l.length : Int)) = false ∧ decide ((60 : Int) < (b.length : Int)) = false ∧ decide ((60 : Int) < (more.length : Int)) = true) := by
      by_cases h1 : 4 < l.length
      · exact .inl ⟨by simp; omega, rfl, rfl⟩
      · by_cases h2 : 60 < b.length
        · exact .inr (.inl ⟨by simp; omega, by simp; omega, rfl⟩)
        · exact .inr (.inr ⟨by simp; omega, by simp; omega, by simp; omega⟩)
    clear hl hb hm hg
    rcases hd with ⟨hd1, hd2, hd3⟩ | ⟨hd1, hd2, hd3⟩ | ⟨hd1, hd2, hd3⟩
    all_goals
      go_enter Try.func7, Try.ntmps7
      go_wp2_with fail
      refine ret_mono (knows10_calls _) ?_
      rintro v w1 ⟨rfl, hB⟩
      replace hB := Kp.mk hB
      go_wp2_with fail
      go_ret
      exact ⟨rfl, hB.out⟩
  · have hd1 : decide ((4 : Int) < (l.length : Int)) = false := by simp; omega
    have hd2 : decide ((60 : Int) < (b.length : Int)) = false := by simp; omega
    have hd3 : decide ((60 : Int) < (more.length : Int)) = false := by simp; omega
    have n1 : l.length ≤ 4 := by omega
    have n2 : b.length ≤ 60 := by omega
    have n3 : more.length ≤ 60 := by omega
    have hlen := arms_len l
    have hall : (armsM l).2.2 = 0 → ∀ p ∈ (armsM l).1, p.length ≤ 200 ∧ FewI 100 p := fun h => armsL_all l 0 [] h (fun p hp => by cases hp)
    have hcalls := arms_calls l a cap W hl (by omega)
    generalize armsM l = r at hlen hall hcalls
    obtain ⟨arms, pi, e⟩ := r
    dsimp only at hlen hall
    replace hl := Kp.mk hl
    replace hb := Kp.mk hb
    replace hm := Kp.mk hm
    replace hall := Kp.mk hall
    replace hcalls := Kp.mk hcalls
    clear hg
    go_enter Try.func7, Try.ntmps7
    go_wp2_with fail
    refine ret_mono hcalls.out ?_
    rintro v w1 ⟨⟨pa, pc, rfl, hS1⟩, hB1⟩
    dsimp only at hS1 ⊢
    by_cases he : e = 0
    case neg =>
      obtain ⟨d1, d2⟩ := bools_ne e he
      replace hB1 := Kp.mk hB1
      clear hS1
      go_wp2_with fail
      refine ret_mono (knows10_calls _) ?_
      rintro v w2 ⟨rfl, hB2⟩
      have hB2' := Kp.mk (hB1.out.trans (hB2.mono hB1.out.size))
      clear hB2
      go_wp2_with fail
      go_ret
      exact ⟨rfl, hB2'.out⟩
    subst he
    have hfew : ∀ p ∈ arms, p.length ≤ 200 ∧ FewI 100 p := hall.out rfl
    have hfit : Fit arms := fun i hi => by unfold arm; rw [getD_of hi]; exact (hfew _ (List.getElem_mem hi)).1
    have hst := stays hfit n2 n3
    have hA1 : Sl (sSl sInst) w1 (fun k => k < w1.heap.size) pa pc arms := hS1.mono fun j _ hl => ⟨hl, rfl⟩
    have hlk := look_calls arms pa pc b ba bc w1 hA1 (by omega) (fun p hp => (hfew p hp).1) (hb.out.mono fun j hj _ => ⟨Nat.lt_of_lt_of_le hj hB1.size, hB1.block j hj⟩) (by omega)
    generalize hq : lookM arms b = q at hst hlk
    obtain ⟨⟨i, g, t⟩, n⟩ := q
    replace hlk := Kp.mk hlk
    replace hst := Kp.mk hst
    replace hq := Kp.mk hq
    replace hfit := Kp.mk hfit
    replace hfew := Kp.mk hfew
    replace hA1 := Kp.mk hA1
    replace hB1 := Kp.mk hB1
    clear hS1
    go_wp2_with fail
    refine ret_mono hlk.out ?_
    rintro v w2 ⟨rfl, hB2⟩
    dsimp only
    -- the answer's box, and the empty block
    have hz2 : (w2.alloc (.cells #[.int .i64 i, .int .i64 g, .int .i64 t] 53)).heap.size = w2.heap.size + 1 := by simp
    have hO2 : Ow 5 sByte ((w2.alloc (.cells #[.int .i64 i, .int .i64 g, .int .i64 t] 53)).alloc (.cells #[] 5)) (fun _ => True) (.slice (some ⟨w2.heap.size + 1, 0, none⟩) 0 0) ([] : List UInt8) := by
      have h := Ow.made (E := 5) (s := sByte) (w := w2.alloc (.cells #[.int .i64 i, .int .i64 g, .int .i64 t] 53)) (A := fun _ => True) trivial (c := #[]) (l := ([] : List UInt8)) rfl (by decide)
      rw [hz2] at h
      exact h
    have hBa : Below W.heap.size W ((w2.alloc (.cells #[.int .i64 i, .int .i64 g, .int .i64 t] 53)).alloc (.cells #[] 5)) := ((hB1.out.trans (hB2.mono hB1.out.size)).alloc (Nat.le_trans hB1.out.size hB2.size) _).alloc (by rw [hz2]; exact Nat.le_succ_of_le (Nat.le_trans hB1.out.size hB2.size)) _
    have hBb : Below w1.heap.size w1 ((w2.alloc (.cells #[.int .i64 i, .int .i64 g, .int .i64 t] 53)).alloc (.cells #[] 5)) := (hB2.alloc hB2.size _).alloc (by rw [hz2]; exact Nat.le_succ_of_le hB2.size) _
    have hFd : ((w2.alloc (.cells #[.int .i64 i, .int .i64 g, .int .i64 t] 53)).alloc (.cells #[] 5)).heap[w2.heap.size]? = some (.cells #[.int .i64 i, .int .i64 g, .int .i64 t] 53) := (Below.heap_alloc _ _ _ (by simp)).trans (heap_alloc_new _ _)
    have hza : ((w2.alloc (.cells #[.int .i64 i, .int .i64 g, .int .i64 t] 53)).alloc (.cells #[] 5)).heap.size = w2.heap.size + 2 := by simp
    have h21 := hB1.out.size
    have h22 := hB2.size
    generalize hWa : ((w2.alloc (.cells #[.int .i64 i, .int .i64 g, .int .i64 t] 53)).alloc (.cells #[] 5)) = wa at hO2 hBa hBb hFd hza
    replace hO2 := Kp.mk hO2
    replace hBa := Kp.mk hBa
    replace hBb := Kp.mk hBb
    replace hFd := Kp.mk hFd
    replace hza := Kp.mk hza
    replace hWa := Kp.mk hWa
    replace hz2 := Kp.mk hz2
    replace hB2 := Kp.mk hB2
    go_wp2_with (at_builtin; refine pause ?_; intro K hK)
    refine hK.out _ _ ?_
    rw [hWa.out]
    refine wpl_appendS (w := wa) (v := .slice (some ⟨w2.heap.size + 1, 0, none⟩) 0 0) ty_bytes rfl rfl rfl hO2.out rfl (hb.out.mono fun j hj _ => ⟨⟨trivial, fun e => by have e' : w2.heap.size + 1 = j := (by simpa [Value.ownBlock] using e); omega⟩, hBa.out.block j hj⟩) (by simp; omega) (fun _ _ => trivial) ?_
    intro v' w3 hO3 hF3 hd3
    rw [List.nil_append] at hO3
    have hown3 : ∀ j, v'.ownBlock = some j → w2.heap.size + 1 ≤ j := fun j e => by
      rcases hd3 with h | ⟨g', h, hg'⟩
      · rw [h] at e; cases e; exact Nat.le_refl _
      · rw [h] at e; cases e; have := hza.out; omega
    have hB3 : Below (w2.heap.size + 1) wa w3 := hF3.below (by have := hza.out; omega) fun j hj e => by have e' : w2.heap.size + 1 = j := (by simpa [Value.ownBlock] using e); omega
    obtain ⟨va, vc, rfl⟩ := hO3.form (n := b.length) rfl
    replace hO3 := Kp.mk hO3
    replace hB3 := Kp.mk hB3
    replace hown3 := Kp.mk hown3
    clear hF3 hd3
    go_wp2_with (at_builtin; refine pause ?_; intro K hK)
    refine hK.out _ _ ?_
    refine wpl_appendS (w := w3) (v := .slice va b.length vc) ty_bytes rfl rfl rfl hO3.out rfl (hm.out.mono fun j hj _ => ⟨⟨trivial, fun e => by have := hown3.out j e; omega⟩, (hB3.out.block j (by omega)).trans (hBa.out.block j hj)⟩) (by omega) (fun _ _ => trivial) ?_
    intro v'' w4 hO4 hF4 hd4
    have hB4 : Below (w2.heap.size + 1) wa w4 := hB3.out.trans (hF4.below (by have := hB3.out.size; have := hza.out; omega) fun j hj e => by have := hown3.out j e; omega)
    obtain ⟨bm, hbm⟩ : ∃ bm, bm = b ++ more := ⟨_, rfl⟩
    have hbml : bm.length ≤ 120 := by rw [hbm]; simp; omega
    rw [← hbm] at hO4
    obtain ⟨vb, vd, rfl, hS4, _⟩ := hO4.val
    have hBa4 : Below W.heap.size W w4 := hBa.out.trans (hB4.mono (by omega))
    have hA4 : Sl (sSl sInst) w4 (fun k => k < w4.heap.size) pa pc arms := hA1.out.mono fun j hj _ => ⟨by have := hB4.size; have := hza.out; omega, (hB4.block j (by omega)).trans (hBb.out.block j hj)⟩
    have hFd4 := (hB4.block _ (by omega)).trans hFd.out
    have hlk4 := look_calls arms pa pc bm vb vd w4 hA4 (by omega) (fun p hp => (hfew.out p hp).1) (hS4.mono fun j _ hl => ⟨hl, rfl⟩) (by omega)
    generalize hq2 : lookM arms bm = r2 at hlk4
    obtain ⟨⟨i2, g2, t2⟩, m2⟩ := r2
    have hst2 := hst.out
    rw [← hbm, hq2] at hst2
    replace hbm := Kp.mk hbm
    have hz4 := hB4.size
    replace hst2 := Kp.mk hst2
    replace hq2 := Kp.mk hq2
    replace hlk4 := Kp.mk hlk4
    replace hA4 := Kp.mk hA4
    replace hFd4 := Kp.mk hFd4
    replace hBa4 := Kp.mk hBa4
    clear hO4 hF4 hd4 hB4 hS4 hst hq
    go_wp2_with fail
    refine ret_mono hlk4.out ?_
    rintro v w5 ⟨rfl, hB5⟩
    dsimp only
    have hBa5 := hBa4.out.trans (hB5.mono hBa4.out.size)
    have hA5 : Sl (sSl sInst) w5 (fun k => k < w4.heap.size) pa pc arms := hA4.out.mono fun j hj _ => ⟨hj, hB5.block j hj⟩
    have hFd5 := (hB5.block _ (blkL hFd4.out)).trans hFd4.out
    have hfd5l := blkL hFd5
    have hFd5c := blkC hFd5
    have hz5 := hB5.size
    -- the box of the second answer
    have hBa6 : Below W.heap.size W (w5.alloc (.cells #[.int .i64 i2, .int .i64 g2, .int .i64 t2] 53)) := hBa5.alloc hBa5.size _
    have hFd6 : (w5.alloc (.cells #[.int .i64 i2, .int .i64 g2, .int .i64 t2] 53)).heap[w2.heap.size]? = some (.cells #[.int .i64 i, .int .i64 g, .int .i64 t] 53) := (Below.heap_alloc _ _ _ hfd5l).trans hFd5
    have hGd6 := heap_alloc_new w5 (.cells #[.int .i64 i2, .int .i64 g2, .int .i64 t2] 53)
    have hA6 : Sl (sSl sInst) (w5.alloc (.cells #[.int .i64 i2, .int .i64 g2, .int .i64 t2] 53)) (fun k => k < w4.heap.size) pa pc arms := hA5.mono fun j hj hl => ⟨hj, Below.heap_alloc _ _ _ hl⟩
    have hz6 : (w5.alloc (.cells #[.int .i64 i2, .int .i64 g2, .int .i64 t2] 53)).heap.size = w5.heap.size + 1 := by simp
    have hFd6c := blkC hFd6
    have hGd6c := blkC hGd6
    clear hB5 hBa5 hA5 hFd5
    rcases hst2.out with ⟨i', g', t', e1, hi, hgt, htb, hdb, e2⟩ | ⟨e1, e2⟩
    case inr =>
      obtain ⟨⟨rfl, rfl, rfl⟩, rfl⟩ : (i = 0 ∧ g = 0 ∧ t = 0) ∧ n = 1 := by simpa using e1
      have e3 : (m2 = 0 → b.length < t2) := e2
      clear e1 e2
      by_cases hm0 : m2 = 0
      · have e4 := e3 hm0
        subst hm0
        have hdt : decide (b.length < t2) = true := by simpa using e4
        replace hst2 := Kp.mk hst2
        replace hFd6 := Kp.mk hFd6
        replace hGd6 := Kp.mk hGd6
        replace hBa6 := Kp.mk hBa6
        replace hA6 := Kp.mk hA6
        replace hz6 := Kp.mk hz6
        clear e3
        go_wp2_with fail
        refine ret_mono (knows10_calls _) ?_
        rintro v w7 ⟨rfl, hB7⟩
        have hB7' := Kp.mk (hBa6.out.trans (hB7.mono hBa6.out.size))
        clear hB7
        go_wp2_with fail
        go_ret
        exact ⟨rfl, hB7'.out⟩
      · obtain ⟨d1, d2⟩ := bools_ne m2 hm0
        replace hst2 := Kp.mk hst2
        replace hFd6 := Kp.mk hFd6
        replace hGd6 := Kp.mk hGd6
        replace hBa6 := Kp.mk hBa6
        replace hA6 := Kp.mk hA6
        replace hz6 := Kp.mk hz6
        clear e3
        go_wp2_with fail
        refine ret_mono (knows10_calls _) ?_
        rintro v w7 ⟨rfl, hB7⟩
        have hB7' := Kp.mk (hBa6.out.trans (hB7.mono hBa6.out.size))
        clear hB7
        go_wp2_with fail
        go_ret
        exact ⟨rfl, hB7'.out⟩
    case inl =>
      obtain ⟨⟨rfl, rfl, rfl⟩, rfl⟩ : (i = i' ∧ g = g' ∧ t = t') ∧ n = 0 := by simpa using e1
      obtain ⟨⟨rfl, rfl, rfl⟩, rfl⟩ : (i2 = i ∧ g2 = g ∧ t2 = t) ∧ m2 = 0 := by simpa using e2
      clear e1 e2 hst2
      have c1 : decide ((i2 : Int) < 0) = false := by simp
      have c2 : decide (arms.length ≤ i2) = false := by simp; omega
      have c3 : decide ((g2 : Int) < 0) = false := by simp
      have c4 : decide (t2 < g2) = false := by simp; omega
      have c5 : decide (b.length < t2) = false := by simp; omega
      have hdi : getDArm arms i2 = arms[i2] := getD_of hi
      unfold getDArm at hdi
      rw [hdi] at hdb
      have hpf := hfew.out _ (List.getElem_mem hi)
      obtain ⟨ab, aoff, sa, sc, rfl, hab, hab4, hac, hSp⟩ := arm_at hA6 hi
      have hbs : Sl sByte (w5.alloc (.cells #[.int .i64 i2, .int .i64 g2, .int .i64 t2] 53)) (fun k => k < W.heap.size) ba bc b := hb.out.mono fun j hj _ => ⟨hj, hBa6.block j hj⟩
      have hcut := hbs.cut hgt htb
      have hrun := run_cut_lh (P := Try.prog) Try.underlying34 (n := 1) (by kernel_rfl) ba b.length bc g2 t2 hgt (by omega)
      have hn1 : sByte.n = 1 := rfl
      rw [hn1] at hcut
      generalize (if bc = g2 then ba else ba.map (·.add (g2 * 1))) = ca at hcut hrun
      have hcl : ((b.take t2).drop g2).length = t2 - g2 := by simp; omega
      have hmt : ∀ (ra : Option Addr) (rc : Nat) (w : World), Sl sInst w (fun k => k < w.heap.size) ra rc arms[i2] → Sl sByte w (fun k => k < w.heap.size) ca (bc - g2) ((b.take t2).drop g2) →
          Calls Try.prog 21 #[.slice ra arms[i2].length rc, .slice ca (t2 - g2) (bc - g2)] w (Ret fun v w' => v = .bool true ∧ Below w.heap.size w w') := fun ra rc w h1 h2 => by
        have h := matches_calls arms[i2] ra rc ((b.take t2).drop g2) ca (bc - g2) w h1 h2 (by omega) (by omega)
        rw [hcl, hdb] at h
        exact h
      have hFl := blkL hFd6
      have hGl := blkL hGd6
      have hS : ∀ w, Kp (Below (w5.alloc (.cells #[.int .i64 i2, .int .i64 g2, .int .i64 t2] 53)).heap.size (w5.alloc (.cells #[.int .i64 i2, .int .i64 g2, .int .i64 t2] 53)) w) → w.cell? ⟨w2.heap.size, 0, none⟩ = some (.int .i64 i2) ∧ w.cell? ⟨w2.heap.size, 1, none⟩ = some (.int .i64 g2) ∧ w.cell? ⟨w2.heap.size, 2, none⟩ = some (.int .i64 t2) ∧
          w.cell? ⟨w5.heap.size, 0, none⟩ = some (.int .i64 i2) ∧ w.cell? ⟨w5.heap.size, 1, none⟩ = some (.int .i64 g2) ∧ w.cell? ⟨w5.heap.size, 2, none⟩ = some (.int .i64 t2) ∧ w.cell? ⟨ab, aoff + i2, none⟩ = some (.slice sa arms[i2].length sc) := fun w hw => by
        have f1 := blkC ((hw.out.block _ hFl).trans hFd6)
        have f2 := blkC ((hw.out.block _ hGl).trans hGd6)
        exact ⟨f1 0, f1 1, f1 2, f2 0, f2 1, f2 2, (World.cell?_of_block (a := ⟨ab, aoff + i2, none⟩) (hw.out.block _ hab)).trans hac⟩
      have hSa : ∀ w, Kp (Below (w5.alloc (.cells #[.int .i64 i2, .int .i64 g2, .int .i64 t2] 53)).heap.size (w5.alloc (.cells #[.int .i64 i2, .int .i64 g2, .int .i64 t2] 53)) w) → Sl sInst w (fun k => k < w.heap.size) sa sc arms[i2] := fun w hw => hSp.mono fun j hj hl => ⟨Nat.lt_of_lt_of_le hl hw.out.size, hw.out.block j hl⟩
      have hSb : ∀ w, Kp (Below (w5.alloc (.cells #[.int .i64 i2, .int .i64 g2, .int .i64 t2] 53)).heap.size (w5.alloc (.cells #[.int .i64 i2, .int .i64 g2, .int .i64 t2] 53)) w) → Sl sByte w (fun k => k < w.heap.size) ca (bc - g2) ((b.take t2).drop g2) := fun w hw => hcut.mono fun j hj hl => ⟨Nat.lt_of_lt_of_le hl hw.out.size, hw.out.block j hl⟩
      have hcum : ∀ w w', Kp (Below (w5.alloc (.cells #[.int .i64 i2, .int .i64 g2, .int .i64 t2] 53)).heap.size (w5.alloc (.cells #[.int .i64 i2, .int .i64 g2, .int .i64 t2] 53)) w) → Below w.heap.size w w' → Kp (Below (w5.alloc (.cells #[.int .i64 i2, .int .i64 g2, .int .i64 t2] 53)).heap.size (w5.alloc (.cells #[.int .i64 i2, .int .i64 g2, .int .i64 t2] 53)) w') := fun w w' hw h => ⟨hw.out.trans (h.mono hw.out.size)⟩
      have hc0 : Kp (Below (w5.alloc (.cells #[.int .i64 i2, .int .i64 g2, .int .i64 t2] 53)).heap.size (w5.alloc (.cells #[.int .i64 i2, .int .i64 g2, .int .i64 t2] 53)) (w5.alloc (.cells #[.int .i64 i2, .int .i64 g2, .int .i64 t2] 53)).drew) := ⟨(Below.refl _ _).drew⟩
      replace hS := Kp.mk hS
      replace hSa := Kp.mk hSa
      replace hSb := Kp.mk hSb
      replace hcum := Kp.mk hcum
      replace hmt := Kp.mk hmt
      replace hFd6 := Kp.mk hFd6
      replace hGd6 := Kp.mk hGd6
      replace hBa6 := Kp.mk hBa6
      replace hA6 := Kp.mk hA6
      replace hz6 := Kp.mk hz6
      replace hdb := Kp.mk hdb
      replace hpf := Kp.mk hpf
      replace hSp := Kp.mk hSp
      replace hbs := Kp.mk hbs
      replace hcut := Kp.mk hcut
      replace hcl := Kp.mk hcl
      clear hdi hac hn1
      go_upto_region 13 with fail
      go_region_held3 (fun w => w.cell? ⟨w2.heap.size, 0, none⟩ = some (.int .i64 i2) ∧ w.cell? ⟨w2.heap.size, 1, none⟩ = some (.int .i64 g2) ∧ w.cell? ⟨w2.heap.size, 2, none⟩ = some (.int .i64 t2) ∧
          w.cell? ⟨w5.heap.size, 0, none⟩ = some (.int .i64 i2) ∧ w.cell? ⟨w5.heap.size, 1, none⟩ = some (.int .i64 g2) ∧ w.cell? ⟨w5.heap.size, 2, none⟩ = some (.int .i64 t2) ∧ w.cell? ⟨ab, aoff + i2, none⟩ = some (.slice sa arms[i2].length sc))
        (first
          | exact hS.out _ (by assumption)
          | go_keep)
        (first
          | (go_at_call 9; refine ret_mono (as_calls arms[i2] sa sc _ (hSa.out _ (by assumption)) (by have := hpf.out.1; omega) (fun x hx => by have := hpf.out.2 x hx; omega)) ?_; rintro v w7 ⟨ra, rc, rfl, hS7, hB7⟩; have hc7 := hcum.out _ _ (by assumption) hB7; clear hB7; replace hS7 := Kp.mk hS7)
          | (go_at_call 21; refine ret_mono (hmt.out ra rc _ (hS7.out.mono fun j _ hl => ⟨hl, rfl⟩) (hSb.out _ (by assumption))) ?_; rintro v w8 ⟨rfl, hB8⟩; have hc8 := hcum.out _ _ (by assumption) hB8; clear hB8)
          | (go_at_call 14; refine ret_mono (knows10_calls _) ?_; rintro v w9 ⟨rfl, hB9⟩; have hc9 := hcum.out _ _ (by assumption) hB9; clear hB9))
      all_goals
        go_wp2_with fail
        go_ret
        exact ⟨rfl, hBa6.out.trans (hc9.out.mono hBa6.out.size)⟩
end Go.Proofs.Ytbcifjjnnbefkaa
