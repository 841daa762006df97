/-
  The contract of davitlaw09.As: it answers the same instructions. Conditions: no more than 1000 of them, of no more than 1000 spans each.
-/
import Derived.Test.YtbcifjjnnbefkaaNfa
import Derived.Test.YtbcifjjnnbefkaaDraw
namespace Go.Proofs.Ytbcifjjnnbefkaa
open Go.RowKit

theorem inst_at {w : World} {A : Nat → Prop} {a : Option Addr} {cap : Nat} {l : List Inst} (h : Sl sInst w A a cap l) {k : Nat} (hk : k < l.length) :
    ∃ b off sa sc, a = some ⟨b, off, none⟩ ∧ b < w.heap.size ∧ A b ∧ i64ok l[k].kind ∧ i64ok l[k].x ∧ i64ok l[k].y ∧ Sl sSpan w A sa sc l[k].spans ∧ w.cell? ⟨b, off + k * 5, none⟩ = some (.int .i64 l[k].kind) ∧ w.cell? ⟨b, off + k * 5 + 1, none⟩ = some (.int .i64 l[k].x) ∧
      w.cell? ⟨b, off + k * 5 + 2, none⟩ = some (.int .i64 l[k].y) ∧ w.cell? ⟨b, off + k * 5 + 3, none⟩ = some (.bool l[k].neg) ∧ w.cell? ⟨b, off + k * 5 + 4, none⟩ = some (.slice sa l[k].spans.length sc) := by
  obtain ⟨b, off, e, hA, hb⟩ := h.at_ (by omega)
  obtain ⟨cs, ⟨sa, sc, rfl, h1, h2, h3, h4⟩, hc⟩ := h.get b off e k hk
  exact ⟨b, off, sa, sc, e, hb, hA, h1, h2, h3, h4, hc 0 (by decide), hc 1 (by decide), hc 2 (by decide), hc 3 (by decide), hc 4 (by decide)⟩

theorem ty_rSpan : SlTy Try.prog 31 63 sSpan 2 := mkTy Try.underlying31 (by kernel_rfl) (by decide) (by decide)
theorem ty_rInst : SlTy Try.prog 26 33 sInst 56 := mkTy Try.underlying26 (by kernel_rfl) (by decide) (by decide)

structure AsI (W : World) (l : List Inst) (vi vo : Value) (w : World) : Prop where
  k : ∃ k : Nat, k ≤ l.length ∧ vi = .int .i64 k ∧ Ow 33 sInst w (W.heap.size ≤ ·) vo (l.take k)
  fr : Below W.heap.size W w
structure AsJ (W : World) (l : List Inst) (k : Nat) (x : Inst) (vo : Value) (g : Nat) (vj : Value) (w : World) : Prop where
  j : ∃ (j : Nat) (sv : Value), j ≤ x.spans.length ∧ vj = .int .i64 j ∧ w.heap[g]? = some (.cells #[.int .i64 x.kind, .int .i64 x.x, .int .i64 x.y, .bool x.neg, sv] 33) ∧
    Ow 63 sSpan w (fun b => W.heap.size ≤ b ∧ b ≠ g ∧ vo.ownBlock ≠ some b) sv (x.spans.take j) ∧ Ow 33 sInst w (fun b => W.heap.size ≤ b ∧ b ≠ g ∧ sv.ownBlock ≠ some b) vo (l.take k)
  fr : Below W.heap.size W w

set_option maxRecDepth 100000 in
set_option maxHeartbeats 2000000 in
theorem as_calls (l : List Inst) (a : Option Addr) (cap : Nat) (W : World) (hl : Sl sInst W (fun b => b < W.heap.size) a cap l) (hn : l.length ≤ 1000) (hs : ∀ x ∈ l, x.spans.length ≤ 1000) :
    Calls Try.prog 9 #[.slice a l.length cap] W (Ret (RetSl sInst W l)) := by
  go_enter Try.func9, Try.ntmps9
  go_wp2
  go_loopw [4, 3] (fun i v wr => AsI W l i v wr) (fun i _ _ => l.length - (intOf i).toNat)
  case atStart => exact ⟨⟨0, Nat.zero_le _, rfl, Ow.nil _ _ _ _⟩, Below.refl _ _⟩
  case round =>
    obtain ⟨⟨k, hk, rfl, hO⟩, hB⟩ := hrel
    by_cases hlt : k < l.length
    · have hlr : Sl sInst wr (fun b => b < W.heap.size) a cap l := hl.mono (keepB hB fun b _ h => h)
      obtain ⟨b, off, sa, sc, rfl, hb, hbW, o1, o2, o3, hsp, h0, h1, h2, h3, h4⟩ := inst_at hlr hlt
      have hsl : l[k].spans.length ≤ 1000 := hs _ (List.getElem_mem hlt)
      obtain ⟨wo, rfl⟩ : ∃ wo : World, wo = wr := ⟨_, rfl⟩
      go_wp2
      refine wp_lex (by kernel_rfl) ⟨fun _ _ _ h => h.2, fun _ _ h => h⟩ (by kernel_rfl) ?_
      go_wp2
      refine fin_end (by kernel_rfl) ?_
      go_wp2
      go_loopw [6] (fun j wr => AsJ W l k l[k] u3 wo.heap.size j wr) (fun i _ => l[k].spans.length - (intOf i).toNat)
      case atStart =>
        have hA : Below wo.heap.size wo (wo.alloc (Obj.cells #[Value.int IntKind.i64 l[k].kind, Value.int IntKind.i64 l[k].x, Value.int IntKind.i64 l[k].y, Value.bool l[k].neg, Value.slice none 0 0] 33)).drew := ((Below.refl _ _).alloc (Nat.le_refl _) _).drew
        exact ⟨⟨0, _, Nat.zero_le _, rfl, heap_alloc_new _ _, Ow.nil _ _ _ _, hO.mono fun b hb hl => ⟨⟨hb, by omega, by simp [Value.ownBlock]⟩, hA.block b hl⟩⟩, hB.trans (hA.mono hB.size)⟩
      case round =>
        obtain ⟨⟨j, sv, hj, rfl, hG, hS, hOut⟩, hB2⟩ := hrel
        have hlr : Sl sInst wr (fun b => b < W.heap.size) (some ⟨b, off, none⟩) cap l := hl.mono (keepB hB2 fun b _ h => h)
        obtain ⟨b', off', sa', sc', e', hb', _, _, _, _, hsp, _, _, _, _, h4⟩ := inst_at hlr hlt
        obtain ⟨rfl, rfl⟩ : b = b' ∧ off = off' := by simpa using e'
        clear h0 h1 h2 h3 e' hlr
        have hGc := blkC hG
        have hGf := blkF hG
        have hGl := blkL hG
        have hG := Kp.mk hG
        by_cases hjl : j < l[k].spans.length
        · obtain ⟨b2, off2, rfl, hb2, hb2W, c1, c2⟩ := span_at hsp hjl
          obtain ⟨w1, rfl⟩ : ∃ w1 : World, w1 = wr := ⟨_, rfl⟩
          have hne : wo.heap.size ≠ w1.heap.size := by omega
          have hneb : b2 ≠ w1.heap.size := by omega
          have hneb' : b ≠ w1.heap.size := by omega
          go_wp2
          refine wp_lex (by kernel_rfl) ⟨fun _ _ _ h => h.2, fun _ _ h => h⟩ (by kernel_rfl) ?_
          go_wp2_with (at_builtin; refine pause ?_; intro K hK)
          have hz := hB2.size
          refine hK.out _ _ ?_
          refine wpl_append1 (w := w1) (y := l[k].spans[j]) ty_rSpan rfl rfl rfl hS rfl rfl (heap_alloc_new _ _) ((Fr.refl _ _).alloc _).drew (by simp; omega) (fun b hb => ⟨by omega, by omega, fun e => by have := hOut.lt e; omega⟩) ?_
          intro v' w2 hS2 hF hd
          have hG2 := hF.obj hG.out (fun e => (hS.1 _ e).2.1 rfl)
          have hG2c := blkC hG2
          have hG2f := blkF hG2
          have hG2l := blkL hG2
          have hG2 := Kp.mk hG2
          obtain ⟨va, vc, rfl⟩ := hS2.form (n := j + 1) (by simp; omega)
          go_wp2
          refine fin_end (by kernel_rfl) ?_
          go_wp2
          go_roundw
          case rel =>
            have hkp : ∀ b, b < w1.heap.size → b ≠ wo.heap.size → sv.ownBlock ≠ some b → (w2.setCell ⟨wo.heap.size, 4, none⟩ (.slice va (j + 1) vc)).heap[b]? = w1.heap[b]? := fun b hb hn1 hn2 => by
              rw [Below.heap_setCell _ _ _ _ hn1]; exact hF.block b hb hn2
            refine ⟨⟨j + 1, _, hjl, by go_num, blkSet hG2.out _, ?_, ?_⟩, ?_⟩
            · rw [List.take_succ_eq_append_getElem hjl]
              exact hS2.mono fun b hb hl => ⟨hb, Below.heap_setCell _ _ _ _ hb.2.1⟩
            · refine hOut.mono fun b hb hl => ⟨⟨hb.1, hb.2.1, fun e => ?_⟩, hkp b hl hb.2.1 hb.2.2⟩
              rcases hd with h | ⟨g, h, hg⟩
              · exact hb.2.2 (h ▸ e)
              · rw [h] at e; cases e; omega
            · exact (hB2.trans (hF.below hB2.size fun b hb e => by have := (hS.1 b e).1; omega)).setCell (by show _ ≤ wo.heap.size; exact hB.size) _
          case measure => simp [intOf]; omega
        · obtain rfl : j = l[k].spans.length := by omega
          rw [List.take_length] at hS
          obtain ⟨va, vc, rfl, hsl2, _⟩ := hS.val
          go_wp2_with (at_builtin; refine pause ?_; intro K hK)
          refine hK.out _ _ ?_
          refine wpl_append1 (w := wr) (y := l[k]) ty_rInst rfl rfl rfl (hOut.mono fun b hb _ => ⟨hb.1, rfl⟩) rfl ⟨va, vc, rfl, o1, o2, o3, hsl2.mono fun b hb _ => ⟨⟨hb.1, hb.2.2⟩, rfl⟩⟩ (heap_alloc_new _ _) ((Fr.refl _ _).alloc _) (by simp; omega) (fun b hb => by have := hB2.size; omega) ?_
          intro v' w2 hO2 hF hd
          go_wp2
          go_roundw
          case rel => exact ⟨⟨k + 1, hlt, by go_num, by rw [List.take_succ_eq_append_getElem hlt]; exact hO2⟩, hB2.trans (hF.below hB2.size fun b hb e => by have := (hOut.1 b e).1; omega)⟩
          case measure => simp [intOf]; omega
    · go_wp2
      go_ret
      have hkl : k = l.length := by omega
      subst hkl
      rw [List.take_length] at hO
      obtain ⟨a', cap', rfl, hS, _⟩ := hO.val
      exact ⟨a', cap', rfl, hS, hB⟩
end Go.Proofs.Ytbcifjjnnbefkaa
