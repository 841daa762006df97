/-
  More of package regex: pop, class, escaped, one, repeat. Conditions: the reader's block holds its fields, the pattern's bytes can be read.
-/
import Derived.Test.YtbcifjjnnbefkaaRegex1
import Derived.Deep.RegionHeld3
import Derived.Test.YtbcifjjnnbefkaaMapLit
namespace Go.Proofs.Ytbcifjjnnbefkaa
open Go.RowKit

structure PopPost (W : World) (B b : Nat) (c0 : Value) (i : Nat) (out : List Op) (l : List (Nat × Nat)) (e : Nat × Nat) (v : Value) (w : World) : Prop where
  v : v = .agg #[.int .i64 e.1, .int .i64 e.2]
  st : ∃ pv, RdP B b c0 i out pv l w
  fr : Below B W w

set_option maxHeartbeats 1000000 in
theorem pop_calls (B b : Nat) (c0 : Value) (i : Nat) (out : List Op) (pv : Value) (l : List (Nat × Nat)) (e : Nat × Nat) (w : World) (h : RdP B b c0 i out pv (l ++ [e]) w) (hn : l.length ≤ 100) :
    Calls Try.prog 35 #[.pointer (some ⟨b, 3, none⟩)] w (Ret (PopPost w B b c0 i out l e)) := by
  have h' := h
  obtain ⟨hB, hz, ov, hbb, hO, hPP⟩ := h'
  obtain ⟨g, cap, rfl, hgA, hgl, hg0, hg1, hgf⟩ := lev_top hPP
  have hcap : l.length + 1 ≤ cap := by
    obtain ⟨a', c', e1, hS, _⟩ := hPP.val
    have h1 := hS.le
    simp at e1 h1
    omega
  have hbc := blkC hbb
  have hbf := blkF hbb
  have hbl := blkL hbb
  replace h := Kp.mk h
  have hPP' := hPP.take (m := l.length) (by simp) (by simp)
  rw [List.take_left' rfl] at hPP'
  have hge : B ≤ g := hgA.1
  have hgb : g ≠ b := hgA.2.1
  have hbw : b ≠ w.heap.size := by omega
  have hgw : g ≠ w.heap.size := by omega
  clear hPP hgA hgf
  replace hbb := Kp.mk hbb
  replace hO := Kp.mk hO
  replace hPP' := Kp.mk hPP'
  go_enter Try.func35, Try.ntmps35
  go_wp2_with (go_at_call 38; refine ret_mono (top_calls g (l.length + 1) cap _ (by omega) (by omega)) ?_; rintro v w' ⟨rfl, rfl⟩)
  refine wp_lex (by kernel_rfl) ⟨fun _ _ _ h => h.2, fun _ _ h => h⟩ (by kernel_rfl) ?_
  go_wp2
  refine fin_end (by kernel_rfl) ?_
  go_wp2
  refine bodyPost_ret (v := .agg #[.int .i64 e.1, .int .i64 e.2]) (by simp [results, Try.results35, go_sem]) rfl ⟨rfl, ⟨.slice (some ⟨g, 0, none⟩) l.length cap, hB, by simp; omega, ov, ?_, ?_, ?_⟩, ?_⟩
  · exact ((Fr.refl (fun _ => False) _).alloc _).obj (((Fr.refl (fun _ => False) _).alloc _).obj (blkSet hbb.out _) (fun e => e)) (fun e => e)
  · refine hO.out.mono fun k hk hl => ⟨hk, ?_⟩
    exact (Below.heap_alloc _ _ _ (by simp; omega)).trans ((Below.heap_alloc _ _ _ (by simp; omega)).trans (Below.heap_setCell _ _ _ _ hk.2.1))
  · refine hPP'.out.mono fun k hk hl => ⟨hk, ?_⟩
    exact (Below.heap_alloc _ _ _ (by simp; omega)).trans ((Below.heap_alloc _ _ _ (by simp; omega)).trans (Below.heap_setCell _ _ _ _ hk.2.1))
  · exact ((((Below.refl _ _).setCell hB _).alloc (by simp; omega) _).alloc (by simp; omega) _).drew

def classM (c : UInt8) : List Span :=
  if c = 100 then [⟨48, 57⟩] else if c = 119 then [⟨48, 57⟩, ⟨65, 90⟩, ⟨95, 95⟩, ⟨97, 122⟩] else if c = 115 then [⟨9, 13⟩, ⟨32, 32⟩] else []
/-- A slice that is nil where it is empty. -/
def NilSl {α : Type} (s : Shape α) (W : World) (l : List α) (v : Value) (w' : World) : Prop :=
  ∃ a cap, v = .slice a l.length cap ∧ Sl s w' (W.heap.size ≤ ·) a cap l ∧ (l = [] → a = none ∧ cap = 0) ∧ Below W.heap.size W w'
theorem Sl.made {α : Type} {s : Shape α} {w : World} {E : TypeId} {c : Array Value} {l : List α} (hR : Rows s w (fun k => w.heap.size ≤ k ∧ k < w.heap.size) c.toList l) (hm : l.length ≤ maxLen) : Sl s (w.alloc (.cells c E)) (w.heap.size ≤ ·) (some ⟨w.heap.size, 0, none⟩) l.length l := by
  obtain ⟨a, cap, e, h, _⟩ := (Ow.made (E := E) (A := fun k => w.heap.size ≤ k) (Nat.le_refl _) hR hm).val
  cases e
  exact h
theorem class_calls (c : UInt8) (W : World) : Calls Try.prog 54 #[.int .u8 c.toNat] W (Ret (NilSl sSpan W (classM c))) := by
  have hne : ∀ k : UInt8, ((c.toNat : Int) == (k.toNat : Int)) = (c == k) := u8_cases c
  have e1 := hne 100
  have e2 := hne 119
  have e3 := hne 115
  clear hne
  by_cases h1 : c = 100
  · subst h1
    go_enter Try.func54, Try.ntmps54
    go_wp2
    go_ret
    exact ⟨_, _, rfl, Sl.made (l := ([⟨48, 57⟩] : List Span)) ⟨[_, _], _, rfl, rfl, rfl⟩ (by decide), by simp [classM], (Below.refl _ _).alloc (Nat.le_refl _) _⟩
  · by_cases h2 : c = 119
    · subst h2
      go_enter Try.func54, Try.ntmps54
      go_wp2
      go_ret
      exact ⟨_, _, rfl, Sl.made (l := ([⟨48, 57⟩, ⟨65, 90⟩, ⟨95, 95⟩, ⟨97, 122⟩] : List Span)) ⟨[_, _], _, rfl, rfl, [_, _], _, rfl, rfl, [_, _], _, rfl, rfl, [_, _], _, rfl, rfl, rfl⟩ (by decide), by simp [classM], (Below.refl _ _).alloc (Nat.le_refl _) _⟩
    · by_cases h3 : c = 115
      · subst h3
        go_enter Try.func54, Try.ntmps54
        go_wp2
        go_ret
        exact ⟨_, _, rfl, Sl.made (l := ([⟨9, 13⟩, ⟨32, 32⟩] : List Span)) ⟨[_, _], _, rfl, rfl, [_, _], _, rfl, rfl, rfl⟩ (by decide), by simp [classM], (Below.refl _ _).alloc (Nat.le_refl _) _⟩
      · have hc : classM c = [] := by simp [classM, h1, h2, h3]
        replace hc := Kp.mk hc
        have f1 : ((c.toNat : Int) == 100) = false := e1.trans (beq_eq_false_iff_ne.2 h1)
        have f2 : ((c.toNat : Int) == 119) = false := e2.trans (beq_eq_false_iff_ne.2 h2)
        have f3 : ((c.toNat : Int) == 115) = false := e3.trans (beq_eq_false_iff_ne.2 h3)
        clear e1 e2 e3
        go_enter Try.func54, Try.ntmps54
        go_wp2
        go_ret
        exact ⟨none, 0, by rw [hc.out]; rfl, by rw [hc.out]; exact Sl.nil_ _ _ _, fun _ => ⟨rfl, rfl⟩, Below.refl _ _⟩

theorem byte_at {w : World} {A : Nat → Prop} {a : Option Addr} {cap : Nat} {l : List UInt8} (h : Sl sByte w A a cap l) {k : Nat} (hk : k < l.length) :
    ∃ b off, a = some ⟨b, off, none⟩ ∧ b < w.heap.size ∧ A b ∧ w.cell? ⟨b, off + k, none⟩ = some (.int .u8 l[k].toNat) := by
  obtain ⟨b, off, e, hA, hb⟩ := h.at_ (by omega)
  obtain ⟨cs, ⟨rfl, _⟩, hc⟩ := h.get b off e k hk
  have := hc 0 (by decide)
  exact ⟨b, off, e, hb, hA, by simpa [sByte, flat1] using this⟩

def escM (s : List UInt8) (i : Nat) : (UInt8 × Bool) × Nat :=
  if h : i < s.length then
    if s[i] = 110 then ((10, true), i + 1) else if s[i] = 116 then ((9, true), i + 1) else if s[i] = 114 then ((13, true), i + 1) else if plainB s[i] then ((s[i], true), i + 1) else ((0, false), i)
  else ((0, false), i)
/-- A method that answers a byte, and moves the reader's place. -/
structure ByteP (W : World) (b : Nat) (c0 c2 c3 : Value) (r : (UInt8 × Bool) × Nat) (v : Value) (w : World) : Prop where
  v : v = .tuple #[.int .u8 r.1.1.toNat, .bool r.1.2]
  blk : w.heap[b]? = some (.cells #[c0, .int .i64 r.2, c2, c3] 68)
  fr : Fr (fun k => k = b) W w

def escMap (c : UInt8) : Value := .tuple #[.int .u8 (if c = 110 then 10 else if c = 116 then 9 else if c = 114 then 13 else 0), .bool (c = 110 || c = 116 || c = 114)]
theorem esc_map (W : World) (c : UInt8) :
    (Instr.mapUpdate 128 (.map (some W.heap.size)) (.int .u8 110) (.int .u8 10)).run Try.prog (W.alloc (.map #[] 0)).drew.drew = .ok () (W.alloc (.map #[⟨.int .u8 110, .int .u8 10, 0⟩] 1)).drew.drew ∧
    (Instr.mapUpdate 128 (.map (some W.heap.size)) (.int .u8 116) (.int .u8 9)).run Try.prog (W.alloc (.map #[⟨.int .u8 110, .int .u8 10, 0⟩] 1)).drew.drew = .ok () (W.alloc (.map #[⟨.int .u8 110, .int .u8 10, 0⟩, ⟨.int .u8 116, .int .u8 9, 1⟩] 2)).drew.drew ∧
    (Instr.mapUpdate 128 (.map (some W.heap.size)) (.int .u8 114) (.int .u8 13)).run Try.prog (W.alloc (.map #[⟨.int .u8 110, .int .u8 10, 0⟩, ⟨.int .u8 116, .int .u8 9, 1⟩] 2)).drew.drew = .ok () (W.alloc (.map #[⟨.int .u8 110, .int .u8 10, 0⟩, ⟨.int .u8 116, .int .u8 9, 1⟩, ⟨.int .u8 114, .int .u8 13, 2⟩] 3)).drew.drew ∧
    (Instr.lookup 128 (.map (some W.heap.size)) (.int .u8 c.toNat) true).run Try.prog (W.alloc (.map #[⟨.int .u8 110, .int .u8 10, 0⟩, ⟨.int .u8 116, .int .u8 9, 1⟩, ⟨.int .u8 114, .int .u8 13, 2⟩] 3)).drew.drew = .ok (escMap c) (W.alloc (.map #[⟨.int .u8 110, .int .u8 10, 0⟩, ⟨.int .u8 116, .int .u8 9, 1⟩, ⟨.int .u8 114, .int .u8 13, 2⟩] 3)).drew.drew := by
  have ht : Try.prog.underlying 128 = some (.map 5 5) := Try.underlying128
  have hK : Try.prog.underlying 5 = some (.int .u8) := Try.underlying5
  have k1 := @intKeys_cons .u8
  refine ⟨run_ins_new ht hK (intKeys_nil _) rfl _, run_ins_new ht hK (k1 (intKeys_nil _)) rfl _, run_ins_new ht hK (k1 (k1 (intKeys_nil _))) rfl _, ?_⟩
  have hz : ∀ w, (zeroValue 5).run Try.prog w = .ok (.int .u8 0) w := fun w => by kernel_rfl
  refine (run_look_new ht hK hz true (k1 (k1 (k1 (intKeys_nil _)))) _).trans ?_
  have e1 : ((c.toNat : Int) = 110) ↔ c = 110 := ⟨fun h => UInt8.toNat_inj.1 (by show c.toNat = 110; omega), fun h => by subst h; rfl⟩
  have e2 : ((c.toNat : Int) = 116) ↔ c = 116 := ⟨fun h => UInt8.toNat_inj.1 (by show c.toNat = 116; omega), fun h => by subst h; rfl⟩
  have e3 : ((c.toNat : Int) = 114) ↔ c = 114 := ⟨fun h => UInt8.toNat_inj.1 (by show c.toNat = 114; omega), fun h => by subst h; rfl⟩
  unfold escMap
  by_cases h1 : c = 110
  · subst h1; rfl
  · by_cases h2 : c = 116
    · subst h2; rfl
    · by_cases h3 : c = 114
      · subst h3; rfl
      · simp [findE, e1, e2, e3, h1, h2, h3]
        rfl

set_option maxRecDepth 100000 in
set_option maxHeartbeats 4000000 in
theorem esc_calls (s : List UInt8) (b : Nat) (sa : Option Addr) (sc i : Nat) (c2 c3 : Value) (W : World) (hb : W.heap[b]? = some (.cells #[.slice sa s.length sc, .int .i64 i, c2, c3] 68)) (hs : Sl sByte W (fun k => k ≠ b) sa sc s) (_hl : s.length ≤ 1000) (hi : i ≤ 1000) :
    Calls Try.prog 55 #[.pointer (some ⟨b, 0, none⟩)] W (Ret (ByteP W b (.slice sa s.length sc) c2 c3 (escM s i))) := by
  have hbc := blkC hb
  have hbf := blkF hb
  have hbl := blkL hb
  replace hb := Kp.mk hb
  by_cases hlt : i < s.length
  · obtain ⟨b2, off, rfl, hb2, hbn, hc⟩ := byte_at hs hlt
    have hE : escM s i = if s[i] = 110 then ((10, true), i + 1) else if s[i] = 116 then ((9, true), i + 1) else if s[i] = 114 then ((13, true), i + 1) else if plainB s[i] then ((s[i], true), i + 1) else ((0, false), i) := by
      unfold escM; rw [dif_pos hlt]
    clear hs
    generalize s[i] = c at hc hE
    obtain ⟨m1, m2, m3, m4⟩ := esc_map W c
    have hmm := @run_makeMap Try.prog
    have hne : b2 ≠ W.heap.size := by omega
    have hne' : b ≠ W.heap.size := by omega
    have hd : decide (s.length ≤ i) = false := by simp; omega
    -- how it ends where a byte is answered
    have E1 : ∀ (u : UInt8), escM s i = ((u, true), i + 1) → ∀ m : Obj, ByteP W b (.slice (some ⟨b2, off, none⟩) s.length sc) c2 c3 (escM s i) (.tuple #[.int .u8 u.toNat, .bool true]) ((W.setCell ⟨b, 1, none⟩ (.int .i64 ((i : Int) + 1))).alloc m).drew.drew := fun u hu m => by
      rw [hu]
      refine ⟨rfl, ?_, ?_⟩
      · exact ((Fr.refl (fun _ => False) _).alloc m).obj (blkSet hb.out _) (fun e => e)
      · exact (((Fr.refl (fun k => k = b) W).setCell (p := ⟨b, 1, none⟩) (fun _ => rfl) _).alloc m).drew.drew
    replace E1 := Kp.mk E1
    by_cases h1 : c = 110 ∨ c = 116 ∨ c = 114
    · have hv : escMap c = .tuple #[.int .u8 (if c = 110 then 10 else if c = 116 then 9 else 13 : UInt8).toNat, .bool true] := by
        unfold escMap; rcases h1 with rfl | rfl | rfl <;> rfl
      have hr : escM s i = (((if c = 110 then 10 else if c = 116 then 9 else 13 : UInt8), true), i + 1) := by
        rw [hE]; rcases h1 with rfl | rfl | rfl <;> rfl
      clear h1 hE
      generalize (if c = 110 then 10 else if c = 116 then 9 else 13 : UInt8) = u at hv hr
      replace hr := Kp.mk hr
      go_enter Try.func55, Try.ntmps55
      go_wp2
      refine wp_lex (by kernel_rfl) ⟨fun _ _ _ h => h.2, fun _ _ h => h⟩ (by kernel_rfl) ?_
      go_wp2
      refine fin_end (by kernel_rfl) ?_
      go_wp2
      refine wp_lex (by kernel_rfl) ⟨fun _ _ _ h => h.2, fun _ _ h => h⟩ (by kernel_rfl) ?_
      go_wp2
      refine fin_end (by kernel_rfl) ?_
      go_wp2
      go_ret2
      exact E1.out u hr.out _
    · have hv : escMap c = .tuple #[.int .u8 0, .bool false] := by
        unfold escMap; simp only [not_or] at h1; simp [h1.1, h1.2.1, h1.2.2]
      have hr : escM s i = if plainB c then ((c, true), i + 1) else ((0, false), i) := by
        rw [hE]; simp only [not_or] at h1; simp [h1.1, h1.2.1, h1.2.2]
      clear h1 hE
      cases hp : plainB c with
      | true =>
        rw [hp, if_pos rfl] at hr
        replace hr := Kp.mk hr
        replace hp := Kp.mk hp
        go_enter Try.func55, Try.ntmps55
        go_wp2
        refine wp_lex (by kernel_rfl) ⟨fun _ _ _ h => h.2, fun _ _ h => h⟩ (by kernel_rfl) ?_
        go_wp2
        refine fin_end (by kernel_rfl) ?_
        go_wp2
        refine wp_lex (by kernel_rfl) ⟨fun _ _ _ h => h.2, fun _ _ h => h⟩ (by kernel_rfl) ?_
        go_wp2
        refine fin_end (by kernel_rfl) ?_
        go_wp2_with (go_at_call 62; refine ret_mono (plain_calls _ _) ?_; rintro v w' ⟨rfl, rfl⟩; rw [hp.out])
        go_ret2
        exact E1.out c hr.out _
      | false =>
        rw [hp, if_neg (by simp)] at hr
        replace hr := Kp.mk hr
        replace hp := Kp.mk hp
        go_enter Try.func55, Try.ntmps55
        go_wp2
        refine wp_lex (by kernel_rfl) ⟨fun _ _ _ h => h.2, fun _ _ h => h⟩ (by kernel_rfl) ?_
        go_wp2
        refine fin_end (by kernel_rfl) ?_
        go_wp2
        refine wp_lex (by kernel_rfl) ⟨fun _ _ _ h => h.2, fun _ _ h => h⟩ (by kernel_rfl) ?_
        go_wp2
        refine fin_end (by kernel_rfl) ?_
        go_wp2_with (go_at_call 62; refine ret_mono (plain_calls _ _) ?_; rintro v w' ⟨rfl, rfl⟩; rw [hp.out])
        go_ret2
        rw [hr.out]
        exact ⟨rfl, ((Fr.refl (fun _ => False) _).alloc _).obj hb.out (fun e => e), ((Fr.refl _ _).alloc _).drew.drew⟩
  · have hr : escM s i = ((0, false), i) := by unfold escM; rw [dif_neg hlt]
    have hd : decide (s.length ≤ i) = true := by simp; omega
    replace hr := Kp.mk hr
    clear hs
    go_enter Try.func55, Try.ntmps55
    go_wp2
    refine wp_lex (by kernel_rfl) ⟨fun _ _ _ h => h.2, fun _ _ h => h⟩ (by kernel_rfl) ?_
    go_wp2
    refine fin_end (by kernel_rfl) ?_
    go_wp2
    go_ret2
    rw [hr.out]
    exact ⟨rfl, hb.out, (Fr.refl _ _).drew⟩
end Go.Proofs.Ytbcifjjnnbefkaa
