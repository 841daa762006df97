/-
  Package seek: the runner's add. Conditions: the runner's block holds its fields, the instructions can be read.
-/
import Derived.Test.YtbcifjjnnbefkaaKnows9
import Derived.Deep.MidRow
namespace Go.Proofs.Ytbcifjjnnbefkaa
open Go.RowKit

def nts (l : List Nat) : List Value := l.map fun n : Nat => .int .i64 n
theorem nts_len (l : List Nat) : (nts l).length = l.length := by simp [nts]
theorem nts_one (l : List Nat) : ∀ v ∈ nts l, v.oneCell' = true := fun v hv => by
  obtain ⟨n, _, rfl⟩ := List.mem_map.1 hv; rfl

/-- How many places a begin may still come to. -/
def free : List Nat → Nat → Nat
  | [], _ => 0
  | x :: l, b => (if 0 < x ∧ x ≤ b then 0 else 1) + free l b
/-- add: an instruction, and those that one comes to without a byte. -/
def addM (p : List Inst) : Nat → List Nat → Int → Nat → List Nat
  | 0, ts, _, _ => ts
  | f + 1, ts, at_, b =>
    if at_ < 0 ∨ (p.length : Int) ≤ at_ ∨ 200 ≤ at_ then ts else
    if 0 < ts.getD at_.toNat 0 ∧ ts.getD at_.toNat 0 ≤ b then ts else
    if (p.getD at_.toNat default).kind = 2 then addM p f (addM p f (ts.set at_.toNat b) (wrap64 (at_ + (p.getD at_.toNat default).x)) b) (wrap64 (at_ + (p.getD at_.toNat default).y)) b
    else if (p.getD at_.toNat default).kind = 3 then addM p f (ts.set at_.toNat b) (wrap64 (at_ + (p.getD at_.toNat default).x)) b
    else ts.set at_.toNat b

theorem addM_len (p : List Inst) : ∀ (f : Nat) (ts : List Nat) (at_ : Int) (b : Nat), (addM p f ts at_ b).length = ts.length
  | 0, _, _, _ => rfl
  | f + 1, ts, at_, b => by
    unfold addM
    split
    · rfl
    · split
      · rfl
      · split
        · rw [addM_len p f, addM_len p f, List.length_set]
        · split
          · rw [addM_len p f, List.length_set]
          · rw [List.length_set]
theorem free_set {ts : List Nat} {b k : Nat} (hk : k < ts.length) (hb : 0 < b) (h : ¬ (0 < ts.getD k 0 ∧ ts.getD k 0 ≤ b)) : free (ts.set k b) b + 1 = free ts b := by
  induction ts generalizing k with
  | nil => simp at hk
  | cons x l ih =>
    cases k with
    | zero =>
      simp only [List.getD_cons_zero] at h
      simp only [List.set_cons_zero, free]
      rw [if_pos (by omega), if_neg h]; omega
    | succ k =>
      have := ih (k := k) (by simpa using hk) (by simpa using h)
      simp only [List.set_cons_succ, free]
      omega
theorem free_set_le {ts : List Nat} {b k : Nat} (hb : 0 < b) : free (ts.set k b) b ≤ free ts b := by
  induction ts generalizing k with
  | nil => simp
  | cons x l ih =>
    cases k with
    | zero =>
      simp only [List.set_cons_zero, free]
      rw [if_pos (by omega)]; omega
    | succ k =>
      have := ih (k := k)
      simp only [List.set_cons_succ, free]
      omega
theorem free_addM (p : List Inst) {b : Nat} (hb : 0 < b) : ∀ (f : Nat) (ts : List Nat) (at_ : Int), free (addM p f ts at_ b) b ≤ free ts b
  | 0, _, _ => Nat.le_refl _
  | f + 1, ts, at_ => by
    unfold addM
    split
    · exact Nat.le_refl _
    · split
      · exact Nat.le_refl _
      · split
        · exact Nat.le_trans (free_addM p hb f _ _) (Nat.le_trans (free_addM p hb f _ _) (free_set_le hb))
        · split
          · exact Nat.le_trans (free_addM p hb f _ _) (free_set_le hb)
          · exact free_set_le hb

/-- A run of integers in a block. -/
theorem mid_cell {w : World} {g : Nat} {L R : List Value} {ts : List Nat} {t : TypeId} {fr : Nat × Nat} (h : w.heap[g]? = some (.cells (L ++ nts ts ++ R).toArray t fr)) {k : Nat} (hk : k < ts.length) : w.cell? ⟨g, L.length + k, none⟩ = some (.int .i64 ts[k]) := by
  rw [blkC h]
  simp only [List.getElem?_toArray]
  rw [List.append_assoc, List.getElem?_append_right (by omega), List.getElem?_append_left (by rw [nts_len]; omega), Nat.add_sub_cancel_left]
  simp [nts, hk]
theorem mid_left {w : World} {g : Nat} {L M : List Value} {t : TypeId} {fr : Nat × Nat} (h : w.heap[g]? = some (.cells (L ++ M).toArray t fr)) {k : Nat} {v : Value} (hk : L[k]? = some v) : w.cell? ⟨g, k, none⟩ = some v := by
  rw [blkC h]
  simp only [List.getElem?_toArray]
  rw [List.getElem?_append_left (List.getElem?_eq_some_iff.1 hk).1, hk]
theorem mid_set {w : World} {g : Nat} {L R : List Value} {ts : List Nat} {t : TypeId} (h : w.heap[g]? = some (.cells (L ++ nts ts ++ R).toArray t)) {k : Nat} (hk : k < ts.length) (b : Nat) :
    (w.setCell ⟨g, L.length + k, none⟩ (.int .i64 b)).heap[g]? = some (.cells (L ++ nts (ts.set k b) ++ R).toArray t) := by
  rw [blkSet h]
  congr 2
  apply Array.toList_inj.1
  simp only [Array.toList_setIfInBounds]
  rw [List.append_assoc, List.set_append_right _ _ (by omega), Nat.add_sub_cancel_left, List.set_append_left _ _ (by rw [nts_len]; omega), List.append_assoc]
  congr 2
  simp [nts, List.map_set]

theorem wrap_ok (n : Int) : i64ok (wrap64 n) := by unfold i64ok wrap64; omega
structure AddP (W : World) (g : Nat) (L R : List Value) (ts : List Nat) (v : Value) (w : World) : Prop where
  v : v = .tuple #[]
  st : w.heap[g]? = some (.cells (L ++ nts ts ++ R).toArray 90)
  fr : Fr (fun k => k = g) W w

theorem getD_of {α : Type} [Inhabited α] {l : List α} {k : Nat} {d : α} (h : k < l.length) : l.getD k d = l[k] := by simp [List.getD, h]

set_option maxRecDepth 100000 in
set_option maxHeartbeats 8000000 in
theorem add_calls (p : List Inst) (pa : Option Addr) (pc g o : Nat) (L R : List Value) (ho : L[o]? = some (.slice pa p.length pc)) (b : Nat) (hb0 : 0 < b) : ∀ (f : Nat) (ts : List Nat) (at_ : Int) (W : World),
    W.heap[g]? = some (.cells (L ++ nts ts ++ R).toArray 90) → Sl sInst W (fun k => k ≠ g) pa pc p → ts.length = 200 → free ts b < f → i64ok at_ →
    Calls Try.prog 28 #[.pointer (some ⟨g, o, none⟩), .pointer (some ⟨g, L.length, none⟩), .int .i64 at_, .int .i64 b] W (Ret (AddP W g L R (addM p f ts at_ b))) := by
  replace ho := Kp.mk ho
  intro f
  induction f with
  | zero => intro ts at_ W _ _ _ hf; omega
  | succ f ih =>
  intro ts at_ W hg hs hto hf hat
  replace ih := Kp.mk ih
  have hco : W.cell? ⟨g, o, none⟩ = some (.slice pa p.length pc) := by rw [List.append_assoc] at hg; exact mid_left hg ho.out
  have hgl := blkL hg
  have hpl : p.length ≤ 9223372036854775807 := by have := hs.le; have := hs.max; unfold maxLen at this; omega
  have hE : addM p (f + 1) ts at_ b = if at_ < 0 ∨ (p.length : Int) ≤ at_ ∨ 200 ≤ at_ then ts else
    if 0 < ts.getD at_.toNat 0 ∧ ts.getD at_.toNat 0 ≤ b then ts else
    if (p.getD at_.toNat default).kind = 2 then addM p f (addM p f (ts.set at_.toNat b) (wrap64 (at_ + (p.getD at_.toNat default).x)) b) (wrap64 (at_ + (p.getD at_.toNat default).y)) b
    else if (p.getD at_.toNat default).kind = 3 then addM p f (ts.set at_.toNat b) (wrap64 (at_ + (p.getD at_.toNat default).x)) b
    else ts.set at_.toNat b := rfl
  by_cases h1 : at_ < 0
  · rw [if_pos (.inl h1)] at hE
    replace hE := Kp.mk hE
    replace hg := Kp.mk hg
    have hd : decide (at_ < 0) = true := by simpa using h1
    replace hat := Kp.mk hat
    clear hs hto hf
    go_enter Try.func28, Try.ntmps28
    go_wp2_with fail
    go_end0
    rw [hE.out]
    exact ⟨rfl, hg.out, Fr.refl _ _⟩
  · obtain ⟨k, rfl⟩ : ∃ k : Nat, at_ = k := ⟨at_.toNat, by omega⟩
    have hd1 : decide ((k : Int) < 0) = false := by simp
    by_cases h2 : p.length ≤ k
    · rw [if_pos (.inr (.inl (by omega)))] at hE
      replace hE := Kp.mk hE
      replace hg := Kp.mk hg
      have hd : decide (p.length ≤ k) = true := by simpa using h2
      replace hat := Kp.mk hat
      clear hs hto hf
      go_enter Try.func28, Try.ntmps28
      go_wp2_with fail
      go_end0
      rw [hE.out]
      exact ⟨rfl, hg.out, Fr.refl _ _⟩
    · have hd2 : decide (p.length ≤ k) = false := by simp; omega
      by_cases h3 : 200 ≤ k
      · rw [if_pos (.inr (.inr (by omega)))] at hE
        replace hE := Kp.mk hE
        replace hg := Kp.mk hg
        have hd : decide ((200 : Int) ≤ (k : Int)) = true := by simp; omega
        replace hat := Kp.mk hat
        clear hs hto hf
        go_enter Try.func28, Try.ntmps28
        go_wp2_with fail
        go_end0
        rw [hE.out]
        exact ⟨rfl, hg.out, Fr.refl _ _⟩
      · rw [if_neg (by omega)] at hE
        have hd3 : decide ((200 : Int) ≤ (k : Int)) = false := by simp; omega
        have hk2 : k < ts.length := by omega
        have hk3 : k < p.length := by omega
        rw [show ((k : Int)).toNat = k from rfl, getD_of hk2, getD_of hk3] at hE
        have hck := mid_cell hg hk2
        by_cases h4 : 0 < ts[k] ∧ ts[k] ≤ b
        · rw [if_pos h4] at hE
          replace hE := Kp.mk hE
          replace hg := Kp.mk hg
          obtain ⟨h4, h5⟩ := h4
          have hd4 : decide (0 < ts[k]) = true := by simpa using h4
          have hd5 : decide (ts[k] ≤ b) = true := by simpa using h5
          replace hat := Kp.mk hat
          clear hs hf
          replace hto := Kp.mk hto
          generalize ts[k] = tk at *
          go_enter Try.func28, Try.ntmps28
          go_wp2_with fail
          go_end0
          rw [hE.out]
          exact ⟨rfl, hg.out, Fr.refl _ _⟩
        · rw [if_neg h4] at hE
          have hd4 : (decide (0 < ts[k]) = false ∧ 0 = 0) ∨ (decide (0 < ts[k]) = true ∧ decide (ts[k] ≤ b) = false) := by
            by_cases h : 0 < ts[k]
            · exact .inr ⟨by simpa using h, by simpa using fun h2 => h4 ⟨h, h2⟩⟩
            · exact .inl ⟨by simpa using h, rfl⟩
          have hfr := free_set (ts := ts) (b := b) hk2 hb0 (by rw [getD_of hk2]; exact h4)
          obtain ⟨pb, off, sa, sc, rfl, hpb, hpn, i1, i2, i3, hsp, c0, c1, c2, c3, c4⟩ := inst_at hs hk3
          have hol : o < L.length := (List.getElem?_eq_some_iff.1 ho.out).1
          have hof : o ≠ L.length + k := by omega
          have hfz : ∀ j, W.frozen? ⟨g, j, none⟩ = false := blkF hg
          have hfz1 := hfz (L.length + k)
          have hg1 := mid_set hg hk2 b
          have hS1 : Sl sInst (W.setCell ⟨g, L.length + k, none⟩ (.int .i64 b)) (fun k => k ≠ g) (some ⟨pb, off, none⟩) pc p := hs.mono fun j hj _ => ⟨hj, Below.heap_setCell _ _ _ _ hj⟩
          have hF1 : Fr (fun k => k = g) W (W.setCell ⟨g, L.length + k, none⟩ (.int .i64 b)) := (Fr.refl (fun k => k = g) W).setCell (p := ⟨g, L.length + k, none⟩) (fun _ => rfl) _
          have hz1 : (W.setCell ⟨g, L.length + k, none⟩ (.int .i64 b)).heap.size = W.heap.size := by simp
          replace hg := Kp.mk hg
          replace hs := Kp.mk hs
          replace hg1 := Kp.mk hg1
          replace hS1 := Kp.mk hS1
          replace hF1 := Kp.mk hF1
          replace hto := Kp.mk hto
          replace hfr := Kp.mk hfr
          have hE' := hE
          clear hE
          replace hz1 := Kp.mk hz1
          clear hfz hsp h4
          replace hat := Kp.mk hat
          generalize p[k] = x at *
          -- the world behind the store and the box
          have hgA : ∀ o, Kp (((W.setCell ⟨g, L.length + k, none⟩ (.int .i64 b)).alloc o).heap[g]? = some (.cells (L ++ nts (ts.set k b) ++ R).toArray 90)) := fun o => ⟨(Below.heap_alloc _ _ _ (by rw [hz1.out]; exact hgl)).trans hg1.out⟩
          have hsA : ∀ o, Kp (Sl sInst ((W.setCell ⟨g, L.length + k, none⟩ (.int .i64 b)).alloc o) (fun k => k ≠ g) (some ⟨pb, off, none⟩) pc p) := fun o => ⟨hS1.out.mono fun j hj hl => ⟨hj, Below.heap_alloc _ _ _ hl⟩⟩
          have hFA : ∀ o, Kp (Fr (fun k => k = g) W ((W.setCell ⟨g, L.length + k, none⟩ (.int .i64 b)).alloc o)) := fun o => ⟨hF1.out.alloc _⟩
          have hbx : ∀ o, Kp (((W.setCell ⟨g, L.length + k, none⟩ (.int .i64 b)).alloc o).heap[W.heap.size]? = some o) := fun o => ⟨by have := heap_alloc_new (W.setCell ⟨g, L.length + k, none⟩ (.int .i64 b)) o; rw [hz1.out] at this; exact this⟩
          rcases hd4 with ⟨hd4, hd5⟩ | ⟨hd4, hd5⟩
          all_goals
            by_cases k2 : x.kind = 2
            · rw [if_pos k2] at hE'
              have e2 : (x.kind == 2) = true := by simpa using k2
              replace k2 := Kp.mk k2
              replace hE' := Kp.mk hE'
              go_enter Try.func28, Try.ntmps28
              go_wp2_with fail
              refine ret_mono (ih.out _ _ _ (hgA _).out (hsA _).out (by rw [List.length_set]; exact hto.out) (by have := hfr.out; omega) (wrap_ok _)) ?_
              rintro v w1 ⟨rfl, hg2, hF2⟩
              have hb2 := hF2.obj (hbx _).out (by omega)
              have hb2c := blkC hb2
              have hb2l := blkL hb2
              have hg2c : w1.cell? ⟨g, o, none⟩ = some (.slice (some ⟨pb, off, none⟩) p.length pc) := by rw [List.append_assoc] at hg2; exact mid_left hg2 ho.out
              replace hg2 := Kp.mk hg2
              replace hF2 := Kp.mk hF2
              clear hb2
              have hs2 : Kp (Sl sInst w1 (fun k => k ≠ g) (some ⟨pb, off, none⟩) pc p) := ⟨(hsA _).out.mono fun j hj hl => ⟨hj, hF2.out.block j hl hj⟩⟩
              go_wp2_with fail
              refine ret_mono (ih.out _ _ _ hg2.out hs2.out (by rw [addM_len, List.length_set]; exact hto.out) (by have := hfr.out; have := free_addM p hb0 f (ts.set k b) (wrap64 (k + x.x)); omega) (wrap_ok _)) ?_
              rintro v w2 ⟨rfl, hg3, hF3⟩
              replace hg3 := Kp.mk hg3
              replace hF3 := Kp.mk hF3
              go_wp2_with fail
              go_end0
              rw [hE'.out]
              exact ⟨rfl, hg3.out, ((hFA _).out.trans hF2.out fun _ _ e => e).trans hF3.out fun _ _ e => e⟩
            · rw [if_neg k2] at hE'
              have e2 : (x.kind == 2) = false := by simpa using k2
              replace k2 := Kp.mk k2
              by_cases k3 : x.kind = 3
              · rw [if_pos k3] at hE'
                have e3 : (x.kind == 3) = true := by simpa using k3
                replace k3 := Kp.mk k3
                replace hE' := Kp.mk hE'
                go_enter Try.func28, Try.ntmps28
                go_wp2_with fail
                refine ret_mono (ih.out _ _ _ (hgA _).out (hsA _).out (by rw [List.length_set]; exact hto.out) (by have := hfr.out; omega) (wrap_ok _)) ?_
                rintro v w1 ⟨rfl, hg2, hF2⟩
                replace hg2 := Kp.mk hg2
                replace hF2 := Kp.mk hF2
                go_wp2_with fail
                go_end0
                rw [hE'.out]
                exact ⟨rfl, hg2.out, (hFA _).out.trans hF2.out fun _ _ e => e⟩
              · rw [if_neg k3] at hE'
                have e3 : (x.kind == 3) = false := by simpa using k3
                replace k3 := Kp.mk k3
                replace hE' := Kp.mk hE'
                go_enter Try.func28, Try.ntmps28
                go_wp2_with fail
                go_end0
                rw [hE'.out]
                exact ⟨rfl, (hgA _).out, (hFA _).out⟩
end Go.Proofs.Ytbcifjjnnbefkaa
