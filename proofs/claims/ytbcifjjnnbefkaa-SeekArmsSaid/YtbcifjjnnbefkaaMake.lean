/-
  'make' of n zero elements, n a variable: the block that it makes, written as n times the zero's cells. Conditions: closed facts on the types; the size is bounded.
-/
import Derived.Test.YtbcifjjnnbefkaaBase
import Derived.Laws.MakeOwn
namespace Go.Proofs.Ytbcifjjnnbefkaa

theorem madeCells_flat (z : Array Value) (hz : 0 < z.size) : ∀ n, (madeCells z (n * z.size)).toList = (List.replicate n z.toList).flatten
  | 0 => by simp [madeCells]
  | n + 1 => by
    have ih := madeCells_flat z hz n
    have h1 : (madeCells z ((n + 1) * z.size)).toList = (madeCells z (n * z.size)).toList ++ z.toList := by
      apply List.ext_getElem?
      intro i
      rw [Array.getElem?_toList, List.getElem?_append]
      simp only [Array.length_toList, size_madeCells, Array.getElem?_toList]
      by_cases h : i < n * z.size
      · rw [if_pos h]
        unfold madeCells
        rw [Nat.succ_mul, Array.getElem?_map, Array.getElem?_map]
        congr 1
        rw [Array.getElem?_eq_getElem (by simp; omega), Array.getElem?_eq_getElem (by simp; omega)]
        simp
      · rw [if_neg h]
        by_cases h2 : i < n * z.size + z.size
        · unfold madeCells
          rw [Nat.succ_mul, Array.getElem?_map, Array.getElem?_eq_getElem (by simp; omega)]
          have h3 : i % z.size = i - n * z.size := by
            rw [Nat.mod_eq_sub_mul_div, Nat.div_eq_of_lt_le (k := n) (by omega) (by rw [Nat.succ_mul]; omega), Nat.mul_comm]
          have h4 : i - n * z.size < z.size := by omega
          simp [h3, h4]
        · rw [Array.getElem?_eq_none (by rw [size_madeCells, Nat.succ_mul]; omega), Array.getElem?_eq_none (by omega)]
    rw [h1, ih, List.replicate_succ', List.flatten_append]
    simp

/-- What is asked of a slice's type, for 'make'. -/
structure MkTy (P : Program) (t E : TypeId) (zs : List Value) (bytes : Nat) : Prop where
  ht : P.underlying t = some (.slice E)
  hi : (P.info? E).map (fun i => (i.zero.map (·.cells.toList), i.size, i.bytes)) = some (some zs, zs.length, bytes)
  hn : 0 < zs.length
theorem run_makeN {P : Program} {t E : TypeId} {zs : List Value} {bytes : Nat} (T : MkTy P t E zs bytes) (n : Nat) (hb : bytes * n ≤ 281474976710656) (hm : n ≤ 9223372036854775807) (w : World) :
    (Instr.makeSlice t (.int .i64 n) (.int .i64 n)).run P w = .ok (.slice (some ⟨w.heap.size, 0, none⟩) n n) (w.alloc (.cells (List.replicate n zs).flatten.toArray E)) := by
  obtain ⟨ht, hi, hn⟩ := T
  cases hq : P.info? E with
  | none => rw [hq] at hi; cases hi
  | some i =>
    rw [hq] at hi
    simp only [Option.map_some, Option.some.injEq, Prod.mk.injEq] at hi
    obtain ⟨h1, h2, h3⟩ := hi
    cases hz : i.zero with
    | none => rw [hz] at h1; cases h1
    | some z =>
      rw [hz] at h1
      simp only [Option.map_some, Option.some.injEq] at h1
      have hs : z.cells.size = zs.length := by rw [← h1]; simp
      have hb' : (i.bytes : Int) * (n : Int) ≤ 281474976710656 := by
        have h : ((i.bytes * n : Nat) : Int) ≤ 281474976710656 := by rw [h3]; omega
        rwa [Int.natCast_mul] at h
      have hr := run_make (P := P) w t E i z ht hq hz .i64 .i64 n n (by omega) (Int.le_refl _) hb' (by omega)
      rw [hr]
      simp only [Int.toNat_natCast]
      congr 3
      apply Array.toList_inj.1
      rw [h2, ← hs, madeCells_flat _ (by omega), h1]
/-- The same for elements of one cell, as the walk writes it. -/
theorem run_make1 {P : Program} {t E : TypeId} {z : Value} {bytes : Nat} (T : MkTy P t E [z] bytes) (n : Nat) (hb : bytes * n ≤ 281474976710656) (hm : n ≤ 9223372036854775807) (w : World) :
    (Instr.makeSlice t (.int .i64 n) (.int .i64 n)).run P w = .ok (.slice (some ⟨w.heap.size, 0, none⟩) n n) (w.alloc (.cells (Array.replicate n z) E)) := by
  rw [run_makeN T n hb hm w]
  simp
end Go.Proofs.Ytbcifjjnnbefkaa
