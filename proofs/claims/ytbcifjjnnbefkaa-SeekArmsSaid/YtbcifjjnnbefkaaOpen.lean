/-
  From what an argument reads as (the form's data) to this repo's shapes. Conditions: none.
-/
import Derived.Test.YtbcifjjnnbefkaaBase
import Derived.OpenShut
namespace Go.Proofs.Ytbcifjjnnbefkaa
open Go.RowKit Go.WideShapes

/-- Whatever cells of the type t can be read as data, they are some x of the shape s. -/
def Opens {α : Type} (P : Program) (t : TypeId) (s : Shape α) : Prop :=
  ∀ {H : Type} {enc : TypeId × Value → H} {w : World} {sp : Nat → Bool} {held : Bool} {fuel : Nat} {cs : List Value} {y : DataW H × List MemPlace},
    DataW.trod enc P w 0 sp held fuel t cs = some y → ∃ x, s.R w (fun b => b < w.heap.size) cs x

theorem opens_bool {P : Program} {t : TypeId} (ht : P.underlying t = some .bool) : Opens P t sBool := fun h => by
  obtain ⟨b, rfl, _⟩ := DataW.trod_bool ht h
  exact ⟨b, rfl, trivial⟩
theorem opens_int {P : Program} {t : TypeId} (ht : P.underlying t = some (.int .i64)) : Opens P t sInt := fun h => by
  obtain ⟨n, rfl, _, hw⟩ := DataW.trod_int ht h
  have := bounds_i64 hw
  exact ⟨n, rfl, by omega⟩
theorem opens_byte {P : Program} {t : TypeId} (ht : P.underlying t = some (.int .u8)) : Opens P t sByte := fun h => by
  obtain ⟨n, rfl, _, hw⟩ := DataW.trod_int ht h
  have := bounds_u8 hw
  refine ⟨UInt8.ofNat n.toNat, ?_, trivial⟩
  have h2 : ((UInt8.ofNat n.toNat).toNat : Int) = n := by
    rw [UInt8.toNat_ofNat', Nat.mod_eq_of_lt (by omega)]; omega
  show [Value.int .u8 n] = [Value.int .u8 ((UInt8.ofNat n.toNat).toNat : Int)]
  rw [h2]

theorem opens_slice {α : Type} {P : Program} {t e : TypeId} {s : Shape α} (ht : P.underlying t = some (.slice e)) (hn : P.cellsOf e = s.n) (hp : 0 < s.n) (ho : Opens P e s) : Opens P t (sSl s) := fun {H enc w sp held fuel cs y} h => by
  rcases DataW.trod_slice ht h with ⟨rfl, _⟩ | ⟨a, len, cap, elems, rest, n, _, rfl, _, _, hl, hm, hlen, hel, _⟩
  · exact ⟨[], none, 0, rfl, Sl.nil_ _ _ _⟩
  · have hx : ∀ i : Fin len, ∃ x cs', s.R w (fun b => b < w.heap.size) cs' x ∧ ∀ j, j < s.n → w.cell? ((a.add (i.1 * s.n)).add j) = cs'[j]? := fun i => by
      have h1 := hel i.1 i.2
      rw [List.getElem?_eq_getElem (by omega)] at h1
      obtain ⟨cs', h2, h3⟩ := Option.bind_eq_some_iff.1 h1
      obtain ⟨x, hx⟩ := ho h3
      rw [hn] at h2
      exact ⟨x, cs', hx, (World.cells?_some h2).2.2⟩
    have hat : 0 < len → ∃ b off, a = ⟨b, off, none⟩ ∧ b < w.heap.size := fun h0 => by
      obtain ⟨x, cs', hR, hc⟩ := hx ⟨0, h0⟩
      have h1 := hc 0 hp
      rw [List.getElem?_eq_getElem (by rw [s.len hR]; exact hp)] at h1
      have h1' : w.cell? a = some (cs'[0]'(by rw [s.len hR]; exact hp)) := by simpa [Addr.add] using h1
      obtain ⟨b, off, spot⟩ := a
      have hs : spot = none := World.cell?_spot h1'
      subst hs
      exact ⟨b, off, rfl, World.block_lt_of_cell? w _ h1'⟩
    refine ⟨List.ofFn fun i => Classical.choose (hx i), some a, cap, by rw [List.length_ofFn], ⟨by rw [List.length_ofFn]; exact hl, hm, fun e => (by cases e), fun h0 => ?_, fun b off ea k hk => ?_⟩⟩
    · obtain ⟨b, off, rfl, hb⟩ := hat (by simpa using h0)
      exact ⟨b, off, rfl, hb, hb⟩
    · have hk' : k < len := by simpa using hk
      obtain rfl : a = ⟨b, off, none⟩ := by simpa using ea
      obtain ⟨cs', hR, hc⟩ := Classical.choose_spec (hx ⟨k, hk'⟩)
      refine ⟨cs', by rw [List.getElem_ofFn]; exact hR, fun j hj => ?_⟩
      rw [← hc j hj, add_plain, add_plain]

/-- One field of a struct. -/
theorem opens_field {α : Type} {P : Program} {e : TypeId} {s : Shape α} (ho : Opens P e s) {H : Type} {enc : TypeId × Value → H} {w : World} {sp : Nat → Bool} {held : Bool} {fuel : Nat} {cs : List Value} {xs : List (DataW H × List MemPlace)} {i m : Nat}
    (hi : i < xs.length) (hm : P.cellsOf e = m) {off : Nat} (h : DataW.trod enc P w 0 sp held fuel e ((cs.drop off).take (P.cellsOf e)) = xs[i]?) : ∃ x, s.R w (fun b => b < w.heap.size) ((cs.drop off).take m) x := by
  rw [List.getElem?_eq_getElem hi, hm] at h
  exact ho h
end Go.Proofs.Ytbcifjjnnbefkaa
