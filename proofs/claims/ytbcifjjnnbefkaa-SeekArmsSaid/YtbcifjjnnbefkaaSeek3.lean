/-
  Package seek: the runner's take. Conditions: the runner's block holds its fields, the instructions can be read.
-/
import Derived.Test.YtbcifjjnnbefkaaSeek2
namespace Go.Proofs.Ytbcifjjnnbefkaa
open Go.RowKit

/-- No place is come to. -/
def zeros : List Nat := List.replicate 200 0
theorem zeros_len : zeros.length = 200 := List.length_replicate
/-- What the first k instructions bring to the next places. -/
def takeF (p : List Inst) (now : List Nat) (c : UInt8) : Nat → List Nat
  | 0 => zeros
  | k + 1 => if 0 < now.getD k 0 ∧ (p.getD k default).kind = 1 ∧ has (p.getD k default) c = true then addM p 201 (takeF p now c k) ((k : Int) + 1) (now.getD k 0) else takeF p now c k
def takeM (p : List Inst) (now : List Nat) (c : UInt8) : List Nat := takeF p now c p.length
theorem takeF_len (p : List Inst) (now : List Nat) (c : UInt8) : ∀ k, (takeF p now c k).length = 200
  | 0 => zeros_len
  | k + 1 => by
    unfold takeF
    split
    · rw [addM_len, takeF_len p now c k]
    · exact takeF_len p now c k
theorem free_le : ∀ (l : List Nat) (b : Nat), free l b ≤ l.length
  | [], _ => Nat.le_refl _
  | x :: l, b => by have := free_le l b; simp only [free, List.length_cons]; split <;> omega

section
variable {P : Program} {ops : Array Oper} {Q : Exit → Act → World → Prop} {rest : List Oper} {a : Act} {w : World}
/-- The walk stands still at a build of a type. -/
theorem pause_build {t : TypeId} {ps : Array (Nat × Operand)} {dst : Option Tmp} {ty : TypeId} {pos : String} {after : Array Edge} (h : ∀ K : Act → World → Prop, Kp (∀ a w, wpList P ops Q (⟨dst, .build t ps, ty, pos, after, none⟩ :: rest) a w → K a w) → K a w) : wpList P ops Q (⟨dst, .build t ps, ty, pos, after, none⟩ :: rest) a w := h _ ⟨fun _ _ h => h⟩
theorem pause_load {t : TypeId} {x : Operand} {dst : Option Tmp} {ty : TypeId} {pos : String} {after : Array Edge} (h : ∀ K : Act → World → Prop, Kp (∀ a w, wpList P ops Q (⟨dst, .load t x, ty, pos, after, none⟩ :: rest) a w → K a w) → K a w) : wpList P ops Q (⟨dst, .load t x, ty, pos, after, none⟩ :: rest) a w := h _ ⟨fun _ _ h => h⟩
theorem pause_store {t : TypeId} {x y : Operand} {dst : Option Tmp} {ty : TypeId} {pos : String} {after : Array Edge} (h : ∀ K : Act → World → Prop, Kp (∀ a w, wpList P ops Q (⟨dst, .store t x y, ty, pos, after, none⟩ :: rest) a w → K a w) → K a w) : wpList P ops Q (⟨dst, .store t x y, ty, pos, after, none⟩ :: rest) a w := h _ ⟨fun _ _ h => h⟩
/-- An aggregate of zeros, by one closed fact. -/
theorem wpl_buildz {o : Oper} {t : TypeId} {cells : Array Value} (hb : P.built t [] = some cells) (hgd : o.guard = none) (ho : o.op = .build t #[]) (h : wpList P ops Q rest (a.put o.dst (.agg cells)) w) : wpList P ops Q (o :: rest) a w :=
  wpList_plain hgd fun K hK => by
    unfold Oper.wp execOp
    simp only [ho]
    have := run_build (P := P) w t #[] cells hb
    simp only [List.map_toArray, List.map_nil, Sem.run_bind, this, Result.andThen_ok, Sem.run_pure]
    exact hK _ _ h
/-- A store over a run of cells. -/
theorem wpl_store_mid {op : Oper} (hgd : op.guard = none) (hd : op.dst = none) (ty : TypeId) (x y : Operand) (ho : op.op = .store ty x y)
    (b o : Nat) (cells : List Value) (hx : a.eval x = .pointer (some ⟨b, o, none⟩)) (hy : a.eval y = .agg cells.toArray)
    (ht : w.there b o cells.length) (hi : (P.info? ty).map (·.size) = some cells.length) (h1 : ∀ v ∈ cells, v.oneCell' = true)
    (h : wpList P ops Q rest a (w.setCells b o cells)) : wpList P ops Q (op :: rest) a w :=
  wpList_store_mid hgd ty x y ho b o cells.toArray hx hy (by simpa using ht) (by simpa using hi) (all_oneCell_toArray h1) (by rw [hd]; simpa [Act.put] using h)
end

/-- What is stored over a run of cells in the middle of a block. -/
theorem mid_sets {t : TypeId} {g : Nat} {R : List Value} : ∀ {vs old : List Value} {L : List Value} {w : World}, w.heap[g]? = some (.cells (L ++ old ++ R).toArray t) → old.length = vs.length → (w.setCells g L.length vs).heap[g]? = some (.cells (L ++ vs ++ R).toArray t)
  | [], old, L, w, h, hl => by
    obtain rfl : old = [] := List.eq_nil_of_length_eq_zero hl
    exact h
  | v :: vs, [], L, w, h, hl => by cases hl
  | v :: vs, u :: old, L, w, h, hl => by
    rw [World.setCells]
    have h1 : (w.setCell ⟨g, L.length, none⟩ v).heap[g]? = some (.cells ((L ++ [v]) ++ old ++ R).toArray t) := by
      rw [blkSet h]
      congr 2
      apply Array.toList_inj.1
      simp
    have := mid_sets (vs := vs) h1 (by simpa using hl)
    simp only [List.length_append, List.length_singleton] at this
    rw [this]
    simp
theorem setCells_fr {M : Nat → Prop} {a : World} {g : Nat} (hM : g < a.heap.size → M g) : ∀ (vs : List Value) (o : Nat) (w : World), Fr M a w → Fr M a (w.setCells g o vs)
  | [], _, _, h => h
  | v :: vs, o, _, h => setCells_fr hM vs (o + 1) _ (h.setCell (p := ⟨g, o, none⟩) hM v)
theorem mid_range {w : World} {g : Nat} {L M R : List Value} {t : TypeId} {fr : Nat × Nat} (h : w.heap[g]? = some (.cells (L ++ M ++ R).toArray t fr)) : w.rangeAt g L.length M := fun j v hv => by
  rw [blkC h]
  have hj := (List.getElem?_eq_some_iff.1 hv).1
  simp only [List.getElem?_toArray]
  rw [List.append_assoc, List.getElem?_append_right (by omega), Nat.add_sub_cancel_left, List.getElem?_append_left hj, hv]
theorem mid_there {w : World} {g : Nat} {L M R : List Value} {t : TypeId} (h : w.heap[g]? = some (.cells (L ++ M ++ R).toArray t)) : w.there g L.length M.length := fun j hj => by
  refine ⟨?_, blkF h _⟩
  rw [mid_range h j M[j] (List.getElem?_eq_getElem hj)]; rfl

theorem built_starts : Try.prog.built 88 [] = some (nts (zeros)).toArray := by kernel_rfl
theorem info_starts : (Try.prog.info? 88).map (·.size) = some 200 := by kernel_rfl

structure TakeI (W : World) (g : Nat) (p : List Inst) (now : List Nat) (c : UInt8) (L R : List Value) (vi : Value) (w : World) : Prop where
  k : ∃ k : Nat, k ≤ p.length ∧ vi = .int .i64 k ∧ w.heap[g]? = some (.cells (L ++ nts now ++ (nts (takeF p now c k) ++ R)).toArray 90)
  fr : Fr (fun k => k = g) W w

set_option maxRecDepth 100000 in
set_option maxHeartbeats 8000000 in
theorem take_calls (p : List Inst) (pa : Option Addr) (pc g o : Nat) (L R : List Value) (ho : L[o]? = some (.slice pa p.length pc)) (hL : L.length = o + 1) (now nx : List Nat) (c : UInt8) (W : World)
    (hg : W.heap[g]? = some (.cells (L ++ nts now ++ (nts nx ++ R)).toArray 90)) (hs : Sl sInst W (fun k => k ≠ g) pa pc p) (hn : now.length = 200) (hx : nx.length = 200) (hp : p.length ≤ 200) :
    Calls Try.prog 30 #[.pointer (some ⟨g, o, none⟩), .int .u8 c.toNat] W (Ret (AddP W g L (nts now ++ R) (takeM p now c))) := by
  have hgl := blkL hg
  have hpl : p.length ≤ 9223372036854775807 := by omega
  have hpc := hs.le
  have hg0 : W.heap[g]? = some (.cells ((L ++ nts now) ++ nts nx ++ R).toArray 90) := by rw [hg]; congr 3; simp
  have hl2 : (L ++ nts now).length = o + 201 := by rw [List.length_append, nts_len]; omega
  have hth := mid_there hg0
  have hg1 := mid_sets (vs := nts (zeros)) hg0 (by rw [nts_len, nts_len, zeros_len, hx])
  have hF1 := setCells_fr (M := fun k => k = g) (a := W) (g := g) (fun _ => rfl) (nts (zeros)) (L ++ nts now).length W (Fr.refl _ _)
  rw [hl2] at hth hg1 hF1
  rw [nts_len, hx] at hth
  generalize hW1 : W.setCells g (o + 201) (nts (zeros)) = W1 at hg1 hF1
  replace hs := Kp.mk hs
  replace hg := Kp.mk hg
  replace ho := Kp.mk ho
  replace hL := Kp.mk hL
  replace hn := Kp.mk hn
  replace hx := Kp.mk hx
  replace hth := Kp.mk hth
  replace hg1 := Kp.mk hg1
  replace hF1 := Kp.mk hF1
  replace hW1 := Kp.mk hW1
  replace hl2 := Kp.mk hl2
  replace hg0 := Kp.mk hg0
  go_enter Try.func30, Try.ntmps30
  go_wp2_with (first | (with_reducible refine wpl_buildz (t := 88) built_starts rfl rfl ?_) | (with_reducible refine pause_store (t := 88) ?_; intro K hK))
  refine hK.out _ _ ?_
  refine wpl_store_mid rfl rfl _ _ _ rfl g (o + 201) (nts zeros) rfl rfl (by rw [nts_len, zeros_len]; exact hth.out) (by rw [info_starts, nts_len, zeros_len]) (nts_one _) ?_
  rw [hW1.out]
  have hc1 : W1.cell? ⟨g, o, none⟩ = some (.slice pa p.length pc) := by
    have h := hg1.out
    rw [List.append_assoc, List.append_assoc] at h
    exact mid_left h ho.out
  go_wp2_with fail
  refine wp_lex (by kernel_rfl) ⟨fun _ _ _ h => h.2, fun _ _ h => h⟩ (by kernel_rfl) ?_
  go_wp2_with fail
  refine fin_end (by kernel_rfl) ?_
  go_wp2_with fail
  go_loopw [23] (fun i wr => TakeI W g p now c L R i wr) (fun i _ => p.length - (intOf i).toNat)
  case atStart => exact ⟨⟨0, Nat.zero_le _, rfl, by rw [← List.append_assoc]; exact hg1.out⟩, hF1.out.drew⟩
  case round =>
    obtain ⟨⟨k, hk, rfl, hgr⟩, hF⟩ := hrel
    have hsr := hs.out.mono (A' := fun k => k ≠ g) fun j hj hl => ⟨hj, hF.block j hl hj⟩
    have hcr : wr.cell? ⟨g, o, none⟩ = some (.slice pa p.length pc) := by rw [List.append_assoc] at hgr; exact mid_left hgr ho.out
    have hgrl := blkL hgr
    by_cases hlt : k < p.length
    · obtain ⟨pb, off, sa, sc, rfl, hpb, hpn, i1, i2, i3, hsp, c0, c1, c2, c3, c4⟩ := inst_at hsr hlt
      have hkn : k < now.length := by rw [hn.out]; omega
      have hck := mid_cell hgr hkn
      rw [hL.out] at hck
      have hE : takeF p now c (k + 1) = if 0 < now[k] ∧ p[k].kind = 1 ∧ has p[k] c = true then addM p 201 (takeF p now c k) ((k : Int) + 1) now[k] else takeF p now c k := by
        simp only [takeF]; rw [getD_of hlt, getD_of hkn]
      have hnl := takeF_len p now c k
      generalize takeF p now c k = nk at hE hgr hnl
      generalize now[k] = b at hck hE
      replace hE := Kp.mk hE
      replace hnl := Kp.mk hnl
      generalize p[k] = x at *
      have hF' := Kp.mk hF
      have hgA : ∀ o, Kp ((wr.alloc o).heap[g]? = some (.cells (L ++ nts now ++ (nts nk ++ R)).toArray 90)) := fun o => ⟨(Below.heap_alloc _ _ _ hgrl).trans hgr⟩
      replace hgr := Kp.mk hgr
      have hFA : ∀ o, Kp (Fr (fun k => k = g) W (wr.alloc o)) := fun o => ⟨hF.alloc _⟩
      clear hF
      have hsA : ∀ o, Kp (Sl sInst (wr.alloc o) (fun k => k ≠ g) (some ⟨pb, off, none⟩) pc p) := fun o => ⟨hsr.mono fun j hj hl => ⟨hj, Below.heap_alloc _ _ _ hl⟩⟩
      have hpA : ∀ o, Kp (Sl sSpan (wr.alloc o) (fun b => b < (wr.alloc o).heap.size) sa sc x.spans) := fun o => ⟨by
        have h := hsp.mono (w' := wr.alloc o) (A' := fun b => b ≠ g) fun j hj hl => ⟨hj, Below.heap_alloc _ _ _ hl⟩
        exact ⟨h.le, h.max, h.nil, fun hp => let ⟨b', o', e, _, hb'⟩ := h.at_ hp; ⟨b', o', e, hb', hb'⟩, h.get⟩⟩
      replace hsr := Kp.mk hsr
      replace hsp := Kp.mk hsp
      by_cases a1 : 0 < b
      · have d1 : decide (0 < b) = true := by simpa using a1
        by_cases a2 : x.kind = 1
        · have d2 : (x.kind == 1) = true := by simpa using a2
          replace a2 := Kp.mk a2
          go_wp2_with fail
          refine ret_mono (has_calls x c sa sc _ (hpA _).out) ?_
          rintro v w2 ⟨rfl, hB2⟩
          have hF2 := Kp.mk ((hFA _).out.trans (M' := fun _ => False) (Fr.of_below hB2) fun _ _ e => e.elim)
          have hg2 := (Fr.of_below hB2).obj (hgA _).out (fun e => e)
          have hg3 : w2.heap[g]? = some (.cells ((L ++ nts now) ++ nts nk ++ R).toArray 90) := by rw [hg2]; congr 3; simp
          have hc2 : w2.cell? ⟨g, o, none⟩ = some (.slice (some ⟨pb, off, none⟩) p.length pc) := by rw [List.append_assoc] at hg2; exact mid_left hg2 ho.out
          have hs2 := Kp.mk ((hsA _).out.mono (A' := fun k => k ≠ g) fun j hj hl => ⟨hj, hB2.block j hl⟩)
          replace hg2 := Kp.mk hg2
          replace hg3 := Kp.mk hg3
          clear hB2
          cases a3 : has x c with
          | true =>
            replace a3 := Kp.mk a3
            go_wp2_with fail
            have hadd := add_calls p _ pc g o (L ++ nts now) R (by rw [List.getElem?_append_left (List.getElem?_eq_some_iff.1 ho.out).1]; exact ho.out) b a1 201 nk ((k : Int) + 1) w2 hg3.out hs2.out hnl.out (by have := free_le nk b; rw [hnl.out] at this; omega) (by unfold i64ok; omega)
            rw [hl2.out] at hadd
            refine ret_mono hadd ?_
            clear hadd
            rintro v w4 ⟨rfl, hg4, hF4⟩
            go_wp2_with fail
            go_roundw
            case rel => exact ⟨⟨k + 1, hlt, by go_num, by rw [hE.out, if_pos ⟨a1, a2.out, a3.out⟩, hg4]; congr 3; simp⟩, hF2.out.trans hF4 fun _ _ e => e⟩
            case measure => simp [intOf]; omega
          | false =>
            replace a3 := Kp.mk a3
            go_wp2_with fail
            go_roundw
            case rel => exact ⟨⟨k + 1, hlt, by go_num, by rw [hE.out, if_neg (fun h => by rw [a3.out] at h; cases h.2.2)]; exact hg2.out⟩, hF2.out⟩
            case measure => simp [intOf]; omega
        · have d2 : (x.kind == 1) = false := by simpa using a2
          replace a2 := Kp.mk a2
          go_wp2_with fail
          go_roundw
          case rel => exact ⟨⟨k + 1, hlt, by go_num, by rw [hE.out, if_neg (fun h => a2.out h.2.1)]; exact (hgA _).out⟩, (hFA _).out⟩
          case measure => simp [intOf]; omega
      · have d1 : decide (0 < b) = false := by simpa using a1
        go_wp2_with fail
        go_roundw
        case rel => exact ⟨⟨k + 1, hlt, by go_num, by rw [hE.out, if_neg (fun h => a1 h.1)]; exact (hgA _).out⟩, (hFA _).out⟩
        case measure => simp [intOf]; omega
    · obtain rfl : k = p.length := by omega
      replace hgr := Kp.mk hgr
      replace hF := Kp.mk hF
      replace hsr := Kp.mk hsr
      go_wp2_with (with_reducible refine pause_load (t := 88) ?_; intro K hK)
      have hE : takeM p now c = takeF p now c p.length := rfl
      have hnl := takeF_len p now c p.length
      generalize takeF p now c p.length = nk at hE hgr hnl
      have hgd : wr.drew.heap[g]? = some (.cells (L ++ nts now ++ (nts nk ++ R)).toArray 90) := hgr.out
      have hg3 : wr.drew.heap[g]? = some (.cells ((L ++ nts now) ++ nts nk ++ R).toArray 90) := by rw [hgd]; congr 3; simp
      have hr1 := mid_range hg3
      have hr2 := mid_range hgd
      -- the two stores
      have hs1 := mid_sets (vs := nts nk) hgd (by rw [nts_len, nts_len, hn.out, hnl])
      have ht1 := mid_there hgd
      rw [nts_len, hn.out] at ht1
      have hs1' : (wr.drew.setCells g L.length (nts nk)).heap[g]? = some (.cells ((L ++ nts nk) ++ nts nk ++ R).toArray 90) := by rw [hs1]; congr 3; simp
      have hl3 : (L ++ nts nk).length = o + 201 := by rw [List.length_append, nts_len, hL.out, hnl]
      have ht2 := mid_there hs1'
      rw [nts_len, hnl] at ht2
      have hs2 := mid_sets (vs := nts now) hs1' (by rw [nts_len, nts_len, hn.out, hnl])
      have hF2 := setCells_fr (M := fun k => k = g) (a := W) (g := g) (fun _ => rfl) (nts now) (o + 201) _ (setCells_fr (M := fun k => k = g) (a := W) (g := g) (fun _ => rfl) (nts nk) L.length wr.drew hF.out.drew)
      rw [hl3] at ht2 hs2
      rw [hl2.out] at hr1
      rw [hL.out] at hr2 ht1 ht2 hs2 hF2
      replace hE := Kp.mk hE
      replace hr1 := Kp.mk hr1
      replace hr2 := Kp.mk hr2
      replace ht1 := Kp.mk ht1
      replace ht2 := Kp.mk ht2
      replace hs2 := Kp.mk hs2
      replace hF2 := Kp.mk hF2
      replace hnl := Kp.mk hnl
      replace hl3 := Kp.mk hl3
      clear hs1 hs1' hg3 hgd
      refine wp_lex (by kernel_rfl) ⟨fun _ _ _ h => h.2, fun _ _ h => h⟩ (by kernel_rfl) ?_
      go_wp2_with (with_reducible refine pause_load (t := 88) ?_; intro K hK)
      refine hK.out _ _ ?_
      clear hK
      refine wpList_load_mid rfl _ _ rfl g (o + 201) rfl (nts nk) _ hr1.out Try.underlying88 rfl (by rw [info_starts, nts_len, hnl.out]) ?_
      go_wp2_with (with_reducible refine pause_load (t := 88) ?_; intro K hK)
      refine hK.out _ _ ?_
      clear hK
      refine wpList_load_mid rfl _ _ rfl g (o + 1) rfl (nts now) _ hr2.out Try.underlying88 rfl (by rw [info_starts, nts_len, hn.out]) ?_
      go_wp2_with (with_reducible refine pause_store (t := 88) ?_; intro K hK)
      refine hK.out _ _ ?_
      clear hK
      refine wpl_store_mid rfl rfl _ _ _ rfl g (o + 1) (nts nk) rfl rfl (by rw [nts_len, hnl.out]; exact ht1.out) (by rw [info_starts, nts_len, hnl.out]) (nts_one _) ?_
      go_wp2_with (with_reducible refine pause_store (t := 88) ?_; intro K hK)
      refine hK.out _ _ ?_
      clear hK
      refine wpl_store_mid rfl rfl _ _ _ rfl g (o + 201) (nts now) rfl rfl (by rw [nts_len, hn.out]; exact ht2.out) (by rw [info_starts, nts_len, hn.out]) (nts_one _) ?_
      go_wp2_with fail
      refine fin_end (by kernel_rfl) ?_
      go_wp2_with fail
      go_end0
      rw [hE.out]
      exact ⟨rfl, by rw [hs2.out]; congr 3; simp, hF2.out⟩
end Go.Proofs.Ytbcifjjnnbefkaa
