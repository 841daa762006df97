/-
  A slice of a slice: what it is, under one name for its address. Conditions: the bounds lie within the length.
-/
import Derived.Test.YtbcifjjnnbefkaaBase
import Derived.Laws.Slices
namespace Go.Proofs.Ytbcifjjnnbefkaa

theorem add_none (b off j : Nat) : (⟨b, off, none⟩ : Addr).add j = ⟨b, off + j, none⟩ := by unfold Addr.add; split <;> simp_all
theorem Sl.cut {α : Type} {s : Shape α} {w : World} {A : Nat → Prop} {a : Option Addr} {cap : Nat} {l : List α} (h : Sl s w A a cap l) {lo hi : Nat} (h1 : lo ≤ hi) (h2 : hi ≤ l.length) :
    Sl s w A (if cap = lo then a else a.map (·.add (lo * s.n))) (cap - lo) ((l.take hi).drop lo) := by
  have hle := h.le
  have hlen : ((l.take hi).drop lo).length = hi - lo := by simp; omega
  refine ⟨by omega, Nat.le_trans (Nat.sub_le _ _) h.max, fun e => ?_, fun hp => ?_, fun b off e k hk => ?_⟩
  · split at e
    · omega
    · cases a with
      | none => have := h.nil rfl; omega
      | some x => cases e
  · obtain ⟨b, off, rfl, hA, hb⟩ := h.at_ (by omega)
    rw [if_neg (by omega)]
    exact ⟨b, off + lo * s.n, by simp [add_none], hA, hb⟩
  · rw [hlen] at hk
    obtain ⟨b', off', rfl, hA, hb⟩ := h.at_ (by omega)
    rw [if_neg (by omega)] at e
    have e' : b' = b ∧ off' + lo * s.n = off := by simpa [add_none] using e
    obtain ⟨rfl, rfl⟩ := e'
    obtain ⟨cs, hR, hc⟩ := h.get b' off' rfl (lo + k) (by omega)
    refine ⟨cs, by simpa using hR, fun j hj => ?_⟩
    rw [← hc j hj, Nat.add_mul, Nat.add_assoc off']

variable {P : Program}
theorem run_cut_lh {t E : TypeId} (ht : P.underlying t = some (.slice E)) {n : Nat} (hn : (P.info? E).map (·.size) = some n) (a : Option Addr) (len cap lo hi : Nat) (h1 : lo ≤ hi) (h2 : hi ≤ cap) (w : World) :
    (Instr.slice t (.slice a len cap) (some (.int .i64 lo)) (some (.int .i64 hi)) none).run P w = .ok (.slice (if cap = lo then a else a.map (·.add (lo * n))) (hi - lo) (cap - lo)) w := by
  have hs : ∀ w, (sizeOf E).run P w = .ok n w := fun w => by
    cases hq : P.info? E with
    | none => simp [hq] at hn
    | some i => simp [sizeOf, typeInfo, hq] at hn ⊢; exact hn
  have b1 : (0 : Int) ≤ (lo : Int) ∧ (lo : Int) ≤ (hi : Int) := ⟨by omega, by omega⟩
  have b2 : (0 : Int) ≤ (hi : Int) ∧ (hi : Int) ≤ (cap : Int) := ⟨by omega, by omega⟩
  simp only [Instr.slice, Sem.run_bind, run_underlying ht, Result.andThen_ok, Instr.sliceBounds, Sem.run_pure, run_sliceBound_if, if_pos b2, Int.toNat_natCast, hs]
  simp only [Option.isSome_none, Bool.false_eq_true, if_false, if_pos b1, Result.andThen_ok]
theorem run_cut_h {t E : TypeId} (ht : P.underlying t = some (.slice E)) {n : Nat} (hn : (P.info? E).map (·.size) = some n) (a : Option Addr) (len cap hi : Nat) (h2 : hi ≤ cap) (w : World) :
    (Instr.slice t (.slice a len cap) none (some (.int .i64 hi)) none).run P w = .ok (.slice (if cap = 0 then a else a.map (·.add (0 * n))) (hi - 0) (cap - 0)) w := by
  have hs : ∀ w, (sizeOf E).run P w = .ok n w := fun w => by
    cases hq : P.info? E with
    | none => simp [hq] at hn
    | some i => simp [sizeOf, typeInfo, hq] at hn ⊢; exact hn
  have b2 : (0 : Int) ≤ (hi : Int) ∧ (hi : Int) ≤ (cap : Int) := ⟨by omega, by omega⟩
  simp only [Instr.slice, Sem.run_bind, run_underlying ht, Result.andThen_ok, Instr.sliceBounds, Sem.run_pure, run_sliceBound_if, if_pos b2, Int.toNat_natCast, hs]
theorem run_cut_l {t E : TypeId} (ht : P.underlying t = some (.slice E)) {n : Nat} (hn : (P.info? E).map (·.size) = some n) (a : Option Addr) (len cap lo : Nat) (h1 : lo ≤ len) (w : World) :
    (Instr.slice t (.slice a len cap) (some (.int .i64 lo)) none none).run P w = .ok (.slice (if cap = lo then a else a.map (·.add (lo * n))) (len - lo) (cap - lo)) w := by
  have hs : ∀ w, (sizeOf E).run P w = .ok n w := fun w => by
    cases hq : P.info? E with
    | none => simp [hq] at hn
    | some i => simp [sizeOf, typeInfo, hq] at hn ⊢; exact hn
  have b1 : (0 : Int) ≤ (lo : Int) ∧ (lo : Int) ≤ (len : Int) := ⟨by omega, by omega⟩
  simp only [Instr.slice, Sem.run_bind, run_underlying ht, Result.andThen_ok, Instr.sliceBounds, Sem.run_pure, run_sliceBound_if, if_pos b1, Int.toNat_natCast, hs]
end Go.Proofs.Ytbcifjjnnbefkaa
