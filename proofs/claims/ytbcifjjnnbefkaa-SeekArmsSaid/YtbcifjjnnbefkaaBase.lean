/-
  The reasoning layer of this repo's proofs: frames between worlds, shapes (how data lie in memory), slices that are read, slices that a call owns and appends to. Conditions: none; every lemma is over any program.
-/
import Derived.WalkKit
import Derived.ProofKit
import Derived.Outline
import Derived.WalkSpells
namespace Go.Proofs.Ytbcifjjnnbefkaa
open Go.RowKit

/-- A fact that the walk doesn't see. -/
structure Kp (p : Prop) : Prop where
  out : p

/-! ### Frames -/
/-- Of the blocks that w has, w' has all but those of M as they were. -/
structure Fr (M : Nat → Prop) (w w' : World) : Prop where
  os : w'.os = w.os
  tape : w'.tape = w.tape
  output : w'.output = w.output
  size : w.heap.size ≤ w'.heap.size
  block : ∀ k, k < w.heap.size → ¬ M k → w'.heap[k]? = w.heap[k]?

theorem Fr.refl (M : Nat → Prop) (w : World) : Fr M w w := ⟨rfl, rfl, rfl, Nat.le_refl _, fun _ _ _ => rfl⟩
theorem Fr.trans {M M' : Nat → Prop} {a b c : World} (h : Fr M a b) (h' : Fr M' b c) (hs : ∀ k, k < a.heap.size → M' k → M k) : Fr M a c :=
  ⟨h'.os.trans h.os, h'.tape.trans h.tape, h'.output.trans h.output, Nat.le_trans h.size h'.size,
   fun k hk hn => (h'.block k (Nat.lt_of_lt_of_le hk h.size) (fun e => hn (hs k hk e))).trans (h.block k hk hn)⟩
theorem Fr.mono {M M' : Nat → Prop} {w w' : World} (h : Fr M w w') (hs : ∀ k, k < w.heap.size → M k → M' k) : Fr M' w w' :=
  ⟨h.os, h.tape, h.output, h.size, fun k hk hn => h.block k hk (fun e => hn (hs k hk e))⟩
theorem Fr.drew {M : Nat → Prop} {a w : World} (h : Fr M a w) : Fr M a w.drew := ⟨h.os, h.tape, h.output, h.size, h.block⟩
theorem Fr.alloc {M : Nat → Prop} {a w : World} (h : Fr M a w) (o : Obj) : Fr M a (w.alloc o) :=
  h.trans (M' := fun _ => False) ⟨rfl, rfl, rfl, by simp, fun k hk _ => Below.heap_alloc _ _ _ hk⟩ (fun _ _ e => e.elim)
theorem Fr.setCell {M : Nat → Prop} {a w : World} (h : Fr M a w) {p : Addr} (hp : p.block < a.heap.size → M p.block) (u : Value) : Fr M a (w.setCell p u) :=
  h.trans (M' := fun k => k = p.block) ⟨rfl, rfl, rfl, by simp, fun k _ hn => Below.heap_setCell _ _ _ _ hn⟩ (fun k hk e => by subst e; exact hp hk)
theorem Fr.below {M : Nat → Prop} {B : Nat} {w w' : World} (h : Fr M w w') (hB : B ≤ w.heap.size) (hs : ∀ k, k < B → ¬ M k) : Below B w w' :=
  ⟨h.os, h.tape, h.output, h.size, fun k hk => h.block k (by omega) (hs k hk)⟩
theorem Fr.below0 {w w' : World} (h : Fr (fun _ => False) w w') : Below w.heap.size w w' := h.below (Nat.le_refl _) (fun _ _ e => e)
theorem Fr.of_below {w w' : World} (h : Below w.heap.size w w') : Fr (fun _ => False) w w' := ⟨h.os, h.tape, h.output, h.size, fun k hk _ => h.block k hk⟩
theorem Fr.of_grown {w w' : World} {row : Option Nat} (h : w.grownBy w' row) : Fr (fun k => row = some k) w w' :=
  ⟨h.os, h.tape, h.output, h.size, fun k hk hn => h.block k hk (fun e => hn e.symm)⟩
theorem Fr.obj {M : Nat → Prop} {w w' : World} (h : Fr M w w') {g : Nat} {o : Obj} (hg : w.heap[g]? = some o) (hn : ¬ M g) : w'.heap[g]? = some o :=
  (h.block g (Array.getElem?_eq_some_iff.1 hg).1 hn).trans hg

theorem blkC {w : World} {g : Nat} {c : Array Value} {t : TypeId} {fr : Nat × Nat} (h : w.heap[g]? = some (.cells c t fr)) : ∀ j, w.cell? ⟨g, j, none⟩ = c[j]? := fun j => cell_of_row w g j c t fr h
theorem blkF {w : World} {g : Nat} {c : Array Value} {t : TypeId} (h : w.heap[g]? = some (.cells c t)) : ∀ j, w.frozen? ⟨g, j, none⟩ = false := fun j => by simp [World.frozen?, h]
theorem blkL {w : World} {g : Nat} {o : Obj} (h : w.heap[g]? = some o) : g < w.heap.size := (Array.getElem?_eq_some_iff.1 h).1
theorem blkSet {w : World} {g i : Nat} {c : Array Value} {t : TypeId} {fr : Nat × Nat} (h : w.heap[g]? = some (.cells c t fr)) (u : Value) : (w.setCell ⟨g, i, none⟩ u).heap[g]? = some (.cells (c.setIfInBounds i u) t fr) := by
  simp [World.setCell, Array.getElem?_modify, h]

/-! ### Shapes -/
/-- How data of a type lie in cells: 'n' cells; R w A cs x: the cells cs are x in the world w, where all that they lead to lies in blocks of A. -/
structure Shape (α : Type) where
  n : Nat
  R : World → (Nat → Prop) → List Value → α → Prop
  len : ∀ {w A cs x}, R w A cs x → cs.length = n
  one : ∀ {w A cs x}, R w A cs x → ∀ u ∈ cs, u.oneCell' = true
  mono : ∀ {w w' : World} {A A' : Nat → Prop} {cs x}, (∀ b, A b → b < w.heap.size → A' b ∧ w'.heap[b]? = w.heap[b]?) → R w A cs x → R w' A' cs x

/-- A shape of one cell that leads nowhere. -/
def flat1 {α : Type} (f : α → Value) (h1 : ∀ x, (f x).oneCell' = true) (ok : α → Prop) : Shape α where
  n := 1
  R := fun _ _ cs x => cs = [f x] ∧ ok x
  len := fun h => by rw [h.1]; rfl
  one := fun h u hu => by rw [h.1] at hu; simp at hu; subst hu; exact h1 _
  mono := fun _ h => h
def sByte : Shape UInt8 := flat1 (fun x => .int .u8 x.toNat) (fun _ => rfl) (fun _ => True)
def sInt : Shape Int := flat1 (fun x => .int .i64 x) (fun _ => rfl) (fun x => -9223372036854775808 ≤ x ∧ x ≤ 9223372036854775807)
def sBool : Shape Bool := flat1 (fun x => .bool x) (fun _ => rfl) (fun _ => True)

/-- Two shapes, one behind the other. -/
def sPair {α β : Type} (s : Shape α) (t : Shape β) : Shape (α × β) where
  n := s.n + t.n
  R := fun w A cs x => ∃ c1 c2, cs = c1 ++ c2 ∧ s.R w A c1 x.1 ∧ t.R w A c2 x.2
  len := fun ⟨_, _, e, h1, h2⟩ => by rw [e, List.length_append, s.len h1, t.len h2]
  one := fun ⟨_, _, e, h1, h2⟩ u hu => by rw [e] at hu; exact (List.mem_append.1 hu).elim (s.one h1 u) (t.one h2 u)
  mono := fun hk ⟨c1, c2, e, h1, h2⟩ => ⟨c1, c2, e, s.mono hk h1, t.mono hk h2⟩
/-- A shape seen through a function. -/
def sVia {α β : Type} (s : Shape α) (f : β → α) : Shape β where
  n := s.n
  R := fun w A cs x => s.R w A cs (f x)
  len := fun h => s.len h
  one := fun h => s.one h
  mono := fun hk h => s.mono hk h

/-- A slice that is read: at 'a', of capacity 'cap', it holds l. -/
structure Sl {α : Type} (s : Shape α) (w : World) (A : Nat → Prop) (a : Option Addr) (cap : Nat) (l : List α) : Prop where
  le : l.length ≤ cap
  max : cap ≤ maxLen
  nil : a = none → cap = 0
  at_ : 0 < l.length → ∃ b off, a = some ⟨b, off, none⟩ ∧ A b ∧ b < w.heap.size
  get : ∀ b off, a = some ⟨b, off, none⟩ → ∀ k (h : k < l.length), ∃ cs, s.R w A cs l[k] ∧ ∀ j, j < s.n → w.cell? ⟨b, off + k * s.n + j, none⟩ = cs[j]?

theorem lt_of_same {w w' : World} {b : Nat} (hb : b < w.heap.size) (h : w'.heap[b]? = w.heap[b]?) : b < w'.heap.size := by
  rw [Array.getElem?_eq_getElem hb] at h
  exact (Array.getElem?_eq_some_iff.1 h).1
theorem Sl.mono {α : Type} {s : Shape α} {w w' : World} {A A' : Nat → Prop} {a : Option Addr} {cap : Nat} {l : List α} (hk : ∀ b, A b → b < w.heap.size → A' b ∧ w'.heap[b]? = w.heap[b]?) (h : Sl s w A a cap l) : Sl s w' A' a cap l := by
  refine ⟨h.le, h.max, h.nil, fun hp => ?_, fun b off e k hl => ?_⟩
  · obtain ⟨b, off, e, hA, hb⟩ := h.at_ hp
    exact ⟨b, off, e, (hk b hA hb).1, lt_of_same hb (hk b hA hb).2⟩
  · obtain ⟨b', off', e', hA, hb⟩ := h.at_ (by omega)
    rw [e] at e'
    obtain ⟨rfl, rfl⟩ : b = b' ∧ off = off' := by simpa using e'
    obtain ⟨cs, hR, hc⟩ := h.get b off e k hl
    exact ⟨cs, s.mono hk hR, fun j hj => (World.cell?_of_block (hk b hA hb).2).trans (hc j hj)⟩

theorem Sl.nil_ {α : Type} (s : Shape α) (w : World) (A : Nat → Prop) : Sl s w A none 0 ([] : List α) := ⟨Nat.le_refl _, Nat.zero_le _, fun _ => rfl, fun h => absurd h (by simp), fun _ _ e => by cases e⟩

/-- A slice in a cell. -/
def sSl {α : Type} (s : Shape α) : Shape (List α) where
  n := 1
  R := fun w A cs l => ∃ a cap, cs = [.slice a l.length cap] ∧ Sl s w A a cap l
  len := fun ⟨_, _, e, _⟩ => by rw [e]; rfl
  one := fun ⟨_, _, e, _⟩ u hu => by rw [e] at hu; simp at hu; subst hu; rfl
  mono := fun hk ⟨a, cap, e, h⟩ => ⟨a, cap, e, h.mono hk⟩

/-- What a frame does to a shape whose blocks lie in A. -/
theorem Fr.keep {M A : Nat → Prop} {w w' : World} (h : Fr M w w') (hd : ∀ b, b < w.heap.size → A b → ¬ M b) : ∀ b, A b → b < w.heap.size → A b ∧ w'.heap[b]? = w.heap[b]? :=
  fun b hA hb => ⟨hA, h.block b hb (hd b hb hA)⟩
theorem keepB {B : Nat} {A : Nat → Prop} {w w' : World} (h : Below B w w') (hd : ∀ b, b < w.heap.size → A b → b < B) : ∀ b, A b → b < w.heap.size → A b ∧ w'.heap[b]? = w.heap[b]? :=
  fun b hA hb => ⟨hA, h.block b (hd b hb hA)⟩

/-! ### Rows -/
/-- Cells that are a list, element behind element. -/
def Rows {α : Type} (s : Shape α) (w : World) (A : Nat → Prop) : List Value → List α → Prop
  | cs, [] => cs = []
  | cs, x :: l => ∃ c1 c2, cs = c1 ++ c2 ∧ s.R w A c1 x ∧ Rows s w A c2 l

theorem Rows.append {α : Type} {s : Shape α} {w : World} {A : Nat → Prop} : ∀ {l l' : List α} {cs cs' : List Value}, Rows s w A cs l → Rows s w A cs' l' → Rows s w A (cs ++ cs') (l ++ l')
  | [], _, cs, cs', h, h' => by cases h; exact h'
  | _ :: l, l', _, _, ⟨c1, c2, e, h1, h2⟩, h' => ⟨c1, c2 ++ _, by rw [e, List.append_assoc], h1, Rows.append h2 h'⟩
theorem Rows.one {α : Type} {s : Shape α} {w : World} {A : Nat → Prop} {x : α} {cs : List Value} (h : s.R w A cs x) : Rows s w A cs [x] := ⟨cs, [], by simp, h, rfl⟩
theorem Rows.length {α : Type} {s : Shape α} {w : World} {A : Nat → Prop} : ∀ {l : List α} {cs : List Value}, Rows s w A cs l → cs.length = l.length * s.n
  | [], _, h => by cases h; simp
  | _ :: l, _, ⟨c1, c2, e, h1, h2⟩ => by rw [e, List.length_append, s.len h1, h2.length, List.length_cons, Nat.succ_mul, Nat.add_comm]
theorem Rows.oneCell {α : Type} {s : Shape α} {w : World} {A : Nat → Prop} : ∀ {l : List α} {cs : List Value}, Rows s w A cs l → ∀ u ∈ cs, u.oneCell' = true
  | [], _, h, u, hu => by cases h; simp at hu
  | _ :: _, _, ⟨c1, c2, e, h1, h2⟩, u, hu => by
    rw [e] at hu
    rcases List.mem_append.1 hu with h | h
    · exact s.one h1 u h
    · exact h2.oneCell u h
theorem Rows.mono {α : Type} {s : Shape α} {w w' : World} {A A' : Nat → Prop} (hk : ∀ b, A b → b < w.heap.size → A' b ∧ w'.heap[b]? = w.heap[b]?) : ∀ {l : List α} {cs : List Value}, Rows s w A cs l → Rows s w' A' cs l
  | [], _, h => h
  | _ :: _, _, ⟨c1, c2, e, h1, h2⟩ => ⟨c1, c2, e, s.mono hk h1, h2.mono hk⟩
theorem Rows.get {α : Type} {s : Shape α} {w : World} {A : Nat → Prop} : ∀ {l : List α} {cs : List Value}, Rows s w A cs l → ∀ k (h : k < l.length), ∃ c, s.R w A c l[k] ∧ ∀ j, j < s.n → cs[k * s.n + j]? = c[j]?
  | [], _, _, k, h => absurd h (by simp)
  | x :: _, _, ⟨c1, c2, e, h1, h2⟩, 0, _ => ⟨c1, h1, fun j hj => by rw [e, Nat.zero_mul, Nat.zero_add, List.getElem?_append_left (by rw [s.len h1]; exact hj)]⟩
  | x :: l, _, ⟨c1, c2, e, h1, h2⟩, k + 1, h => by
    obtain ⟨c, hR, hc⟩ := h2.get k (by simpa using h)
    refine ⟨c, hR, fun j hj => ?_⟩
    rw [e, List.getElem?_append_right (by rw [s.len h1, Nat.succ_mul]; omega), s.len h1, ← hc j hj]
    congr 1
    rw [Nat.succ_mul]; omega
/-- A slice that is read, as rows. -/
theorem Sl.rows {α : Type} {s : Shape α} {w : World} {A : Nat → Prop} {a : Option Addr} {cap : Nat} {l : List α} (h : Sl s w A a cap l) : ∃ cs, Rows s w A cs l ∧ ∀ b off, a = some ⟨b, off, none⟩ → ∀ j, j < l.length * s.n → w.cell? ⟨b, off + j, none⟩ = cs[j]? := by
  suffices H : ∀ (m : Nat), ∀ (l' : List α) (i : Nat), l'.length = m → l = l.take i ++ l' → ∃ cs, Rows s w A cs l' ∧ ∀ b off, a = some ⟨b, off, none⟩ → ∀ j, j < l'.length * s.n → w.cell? ⟨b, off + i * s.n + j, none⟩ = cs[j]? by
    obtain ⟨cs, h1, h2⟩ := H l.length l 0 rfl (by simp)
    exact ⟨cs, h1, fun b off e j hj => by simpa using h2 b off e j hj⟩
  intro m
  induction m with
  | zero => intro l' i hl _; have : l' = [] := List.eq_nil_of_length_eq_zero hl; subst this; exact ⟨[], rfl, fun _ _ _ j hj => absurd hj (by simp)⟩
  | succ m ih =>
    intro l' i hl he
    match l', hl with
    | x :: l', hl =>
      have hi : i < l.length := by
        have := congrArg List.length he
        simp at this hl
        rcases Nat.lt_or_ge i l.length with h | h
        · exact h
        · rw [Nat.min_eq_right h] at this; omega
      have hx : l[i] = x := by
        have h1 : l[i]? = some x := by
          rw [he, List.getElem?_append_right (by simp; omega)]
          simp [Nat.min_eq_left (Nat.le_of_lt hi)]
        simpa [List.getElem?_eq_getElem hi] using h1
      obtain ⟨cs2, hr2, hc2⟩ := ih l' (i + 1) (by simpa using hl) (by
        rw [List.take_succ_eq_append_getElem hi, hx, List.append_assoc]; exact he)
      obtain ⟨b, off, ea, hA, hb⟩ := h.at_ (by omega)
      obtain ⟨c, hR, hc⟩ := h.get b off ea i hi
      rw [hx] at hR
      refine ⟨c ++ cs2, ⟨c, cs2, rfl, hR, hr2⟩, fun b' off' e' j hj => ?_⟩
      rw [ea] at e'
      obtain ⟨rfl, rfl⟩ : b = b' ∧ off = off' := by simpa using e'
      have hcl := s.len hR
      by_cases hjn : j < s.n
      · rw [List.getElem?_append_left (by omega)]; exact hc j hjn
      · rw [List.getElem?_append_right (by omega), hcl]
        have h3 := hc2 b off ea (j - s.n) (by simp at hj; rw [Nat.succ_mul] at hj; omega)
        rw [← h3]
        congr 2
        rw [Nat.succ_mul]; omega

/-! ### Slices of the call's own -/
/-- A slice that may be appended to: nil, or at the head of a block of its own (in A, and no element leads into it). -/
def Ow {α : Type} (E : TypeId) (s : Shape α) (w : World) (A : Nat → Prop) (v : Value) (l : List α) : Prop :=
  (∀ k, v.ownBlock = some k → A k) ∧ ∃ xs, w.ownsRow 0 E s.n v l.length xs ∧ Rows s w (fun k => A k ∧ v.ownBlock ≠ some k) xs l

theorem Ow.nil {α : Type} (E : TypeId) (s : Shape α) (w : World) (A : Nat → Prop) : Ow E s w A (.slice none 0 0) ([] : List α) :=
  ⟨fun k h => by simp [Value.ownBlock] at h, [], World.ownsRow_nil _ _ _ _, rfl⟩
theorem Ow.lt {α : Type} {E : TypeId} {s : Shape α} {w : World} {A : Nat → Prop} {v : Value} {l : List α} (h : Ow E s w A v l) {k : Nat} (hk : v.ownBlock = some k) : k < w.heap.size :=
  let ⟨_, _, h1, _⟩ := h; (h1.lt k hk).2
theorem Ow.val {α : Type} {E : TypeId} {s : Shape α} {w : World} {A : Nat → Prop} {v : Value} {l : List α} (h : Ow E s w A v l) : ∃ a cap, v = .slice a l.length cap ∧ Sl s w A a cap l ∧ (a = none ∨ ∃ g, a = some ⟨g, 0, none⟩) := by
  obtain ⟨hA, xs, hrow, hR⟩ := h
  rcases hrow.2 with ⟨rfl, h0⟩ | ⟨g, cap, cur, rfl, _, hg, hn, hm, hs, ht⟩
  · have : l = [] := List.eq_nil_of_length_eq_zero h0
    subst this
    exact ⟨none, 0, rfl, Sl.nil_ _ _ _, .inl rfl⟩
  · refine ⟨_, cap, rfl, ⟨hn, hm, fun e => (by cases e), fun _ => ⟨g, 0, rfl, hA g rfl, blkL hg⟩, fun b off e k hk => ?_⟩, .inr ⟨g, rfl⟩⟩
    obtain ⟨rfl, rfl⟩ : g = b ∧ 0 = off := by simpa using e
    obtain ⟨c, hc, hj⟩ := hR.get k hk
    refine ⟨c, s.mono (fun b hb _ => ⟨hb.1, rfl⟩) hc, fun j hjn => ?_⟩
    rw [← hj j hjn, ← ht, Nat.zero_add, blkC hg, List.getElem?_take_of_lt, Array.getElem?_toList]
    have h1 : (k + 1) * s.n ≤ l.length * s.n := Nat.mul_le_mul_right _ hk
    rw [Nat.succ_mul] at h1; omega
theorem Ow.form {α : Type} {E : TypeId} {s : Shape α} {w : World} {A : Nat → Prop} {v : Value} {l : List α} (h : Ow E s w A v l) {n : Nat} (hn : l.length = n) : ∃ a cap, v = .slice a n cap := by
  obtain ⟨a, cap, e, _⟩ := h.val
  exact ⟨a, cap, by rw [e, hn]⟩
theorem Ow.mono {α : Type} {E : TypeId} {s : Shape α} {w w' : World} {A A' : Nat → Prop} {v : Value} {l : List α} (hk : ∀ b, A b → b < w.heap.size → A' b ∧ w'.heap[b]? = w.heap[b]?) (h : Ow E s w A v l) : Ow E s w' A' v l := by
  obtain ⟨hA, xs, hrow, hR⟩ := h
  refine ⟨fun k e => (hk k (hA k e) (hrow.lt k e).2).1, xs, ⟨hrow.1, ?_⟩, hR.mono fun b hb hl => ⟨⟨(hk b hb.1 hl).1, hb.2⟩, (hk b hb.1 hl).2⟩⟩
  rcases hrow.2 with h | ⟨g, cap, cur, rfl, h0, hg, r⟩
  · exact .inl h
  · exact .inr ⟨g, cap, cur, rfl, h0, ((hk g (hA g rfl) (blkL hg)).2).trans hg, r⟩
theorem Shape.drew {α : Type} (s : Shape α) {w : World} {A : Nat → Prop} {cs : List Value} {x : α} (h : s.R w A cs x) : s.R w.drew A cs x := s.mono (w := w) (fun _ hb _ => ⟨hb, rfl⟩) h
theorem Sl.drew {α : Type} {s : Shape α} {w : World} {A : Nat → Prop} {a : Option Addr} {cap : Nat} {l : List α} (h : Sl s w A a cap l) : Sl s w.drew A a cap l := h.mono (w := w) (fun _ hb _ => ⟨hb, rfl⟩)
theorem Ow.drew {α : Type} {E : TypeId} {s : Shape α} {w : World} {A : Nat → Prop} {v : Value} {l : List α} (h : Ow E s w A v l) : Ow E s w.drew A v l := h.mono (w := w) (fun _ hb _ => ⟨hb, rfl⟩)
/-- A fresh block, of elements' cells. -/
theorem Ow.made {α : Type} {E : TypeId} {s : Shape α} {w : World} {A : Nat → Prop} (hA : A w.heap.size) {c : Array Value} {l : List α} (hR : Rows s w (fun k => A k ∧ k < w.heap.size) c.toList l) (hm : l.length ≤ maxLen) :
    Ow E s (w.alloc (.cells c E)) A (.slice (some ⟨w.heap.size, 0, none⟩) l.length l.length) l := by
  have hlen := hR.length
  refine ⟨fun k e => by simp [Value.ownBlock] at e; subst e; exact hA, c.toList, ⟨hlen, .inr ⟨_, _, c, rfl, Nat.zero_le _, heap_alloc_new w _, Nat.le_refl _, hm, by simpa using hlen, ?_⟩⟩, hR.mono fun b hb hl => ⟨⟨hb.1, ?_⟩, Below.heap_alloc _ _ _ hl⟩⟩
  · rw [← hlen]; exact List.take_length
  · simp [Value.ownBlock]; omega

theorem Rows.set {α : Type} {s : Shape α} {w w' : World} {A A' : Nat → Prop} {y : α} {j : Nat} {u : Value} (hj : j < s.n) (hk : ∀ b, A b → b < w.heap.size → A' b ∧ w'.heap[b]? = w.heap[b]?) :
    ∀ {l : List α} {cs : List Value} {k : Nat} (hl : k < l.length), (∀ c, s.R w A c l[k] → s.R w' A' (c.set j u) y) → Rows s w A cs l → Rows s w' A' (cs.set (k * s.n + j) u) (l.set k y)
  | [], _, _, hl, _, _ => absurd hl (by simp)
  | x :: l, _, 0, _, hy, ⟨c1, c2, e, h1, h2⟩ => ⟨c1.set j u, c2, by rw [e, Nat.zero_mul, Nat.zero_add, List.set_append_left _ _ (by rw [s.len h1]; exact hj)], hy c1 h1, h2.mono hk⟩
  | x :: l, _, k + 1, hl, hy, ⟨c1, c2, e, h1, h2⟩ => ⟨c1, c2.set (k * s.n + j) u, by
      rw [e, List.set_append_right _ _ (by rw [s.len h1, Nat.succ_mul]; omega), s.len h1, Nat.succ_mul]
      congr 2; omega, s.mono hk h1, Rows.set hj hk (by simpa using hl) hy h2⟩
/-- A store into an element of a slice of the call's own. -/
theorem Ow.store {α : Type} {E : TypeId} {s : Shape α} {w : World} {A : Nat → Prop} {g cap : Nat} {l : List α} (h : Ow E s w A (.slice (some ⟨g, 0, none⟩) l.length cap) l) {k j : Nat} (hk : k < l.length) (hj : j < s.n) {y : α} {u : Value}
    (hy : ∀ c w' A', s.R w A' c l[k] → s.R w' A' (c.set j u) y) : Ow E s (w.setCell ⟨g, k * s.n + j, none⟩ u) A (.slice (some ⟨g, 0, none⟩) l.length cap) (l.set k y) := by
  obtain ⟨hA, xs, hrow, hR⟩ := h
  refine ⟨hA, xs.set (k * s.n + j) u, ?_, Rows.set hj (fun b hb hl => ⟨hb, Below.heap_setCell _ _ _ _ (fun e => hb.2 (by rw [e]; rfl))⟩) hk (fun c hc => hy c _ _ hc) hR⟩
  rw [List.length_set]
  exact (hrow.stored _ _).1
theorem Ow.take {α : Type} {E : TypeId} {s : Shape α} {w : World} {A : Nat → Prop} {a : Option Addr} {n cap : Nat} {l : List α} (h : Ow E s w A (.slice a n cap) l) {m : Nat} (hm : m ≤ l.length) (ha : a ≠ none) : Ow E s w A (.slice a m cap) (l.take m) := by
  obtain ⟨hA, xs, hrow, hR⟩ := h
  have hb : (Value.slice a m cap).ownBlock = (Value.slice a n cap).ownBlock := by cases a <;> rfl
  have hR2 : ∀ (l : List α) (cs : List Value) (m : Nat), m ≤ l.length → Rows s w (fun k => A k ∧ (Value.slice a n cap).ownBlock ≠ some k) cs l → Rows s w (fun k => A k ∧ (Value.slice a n cap).ownBlock ≠ some k) (cs.take (m * s.n)) (l.take m) := by
    intro l
    induction l with
    | nil => intro cs m hm h; cases h; simp; rfl
    | cons x l ih =>
      intro cs m hm h
      obtain ⟨c1, c2, rfl, h1, h2⟩ := h
      cases m with
      | zero => simp; rfl
      | succ m =>
        refine ⟨c1, c2.take (m * s.n), ?_, h1, ih c2 m (by simpa using hm) h2⟩
        rw [List.take_append, s.len h1, Nat.succ_mul, List.take_of_length_le (by rw [s.len h1]; omega)]
        congr 2; omega
  refine ⟨fun k e => hA k (hb ▸ e), xs.take (m * s.n), ⟨?_, ?_⟩, by rw [hb]; exact hR2 l xs m hm hR⟩
  · rw [List.length_take, List.length_take, hrow.1, Nat.min_eq_left hm, Nat.min_eq_left (Nat.mul_le_mul_right _ hm)]
  · rcases hrow.2 with ⟨e, _⟩ | ⟨g, cap', cur, e, h0, hg, hnc, hcm, hcs, ht⟩
    · cases e; exact absurd rfl ha
    · cases e
      refine .inr ⟨g, cap, cur, by rw [List.length_take, Nat.min_eq_left hm], h0, hg, by rw [List.length_take]; omega, hcm, hcs, ?_⟩
      rw [List.length_take, Nat.min_eq_left hm, ← ht, List.take_take, Nat.min_eq_left (Nat.mul_le_mul_right _ hm)]

/-- What is asked of a slice's type: its elements' type, their shape, and how many bytes one takes. -/
structure SlTy {α : Type} (P : Program) (t E : TypeId) (s : Shape α) (bytes : Nat) : Prop where
  ht : P.underlying t = some (.slice E)
  hi : ∃ i z, P.info? E = some i ∧ i.zero = some z ∧ i.size = s.n ∧ i.bytes = bytes ∧ z.cells.size = s.n
  hn : 0 < s.n
  hb : 0 < bytes
theorem mkTy {α : Type} {P : Program} {t E : TypeId} {s : Shape α} {bytes : Nat} (ht : P.underlying t = some (.slice E)) (h : (P.info? E).map (fun i => (i.zero.map (·.cells.size), i.size, i.bytes)) = some (some s.n, s.n, bytes)) (hn : 0 < s.n) (hb : 0 < bytes) : SlTy P t E s bytes := by
  refine ⟨ht, ?_, hn, hb⟩
  cases hi : P.info? E with
  | none => rw [hi] at h; cases h
  | some i =>
    rw [hi] at h
    simp only [Option.map_some, Option.some.injEq, Prod.mk.injEq] at h
    cases hz : i.zero with
    | none => rw [hz] at h; cases h.1
    | some z =>
      rw [hz] at h
      exact ⟨i, z, rfl, hz, h.2.1, h.2.2, by simpa using h.1⟩

/-- APPEND onto a slice of the call's own, of elements that lie in a row. -/
theorem wpo_append {α : Type} {P : Program} {w : World} {o : Oper} {a : Act} {K : Act → World → Prop} {Q : Exit → Act → World → Prop} {E : TypeId} {s : Shape α} {sx x : Operand} {t : TypeId} {bytes : Nat} (T : SlTy P t E s bytes)
    (ho : o.op = .call { callee := .builtin .append, args := #[sx, x], argTypes := #[t, t] })
    {A : Nat → Prop} {v : Value} {l : List α} (hs : a.eval sx = v) (hown : Ow E s w A v l)
    {ad : Addr} {m c : Nat} {l2 : List α} (hx : a.eval x = .slice (some ad) m c) (hm : l2.length = m) {news : List Value} (hR : Rows s w (fun k => A k ∧ v.ownBlock ≠ some k) news l2)
    (hnews : ∀ j u, news[j]? = some u → w.cell? (ad.add j) = some u)
    (hbytes : (l.length + m) * bytes ≤ 140737488355328) (hA : ∀ k, w.heap.size ≤ k → A k)
    (h : ∀ v' w', Ow E s w' A v' (l ++ l2) → Fr (fun k => v.ownBlock = some k) w w' → (v'.ownBlock = v.ownBlock ∨ ∃ g, v'.ownBlock = some g ∧ w.heap.size ≤ g) → K (a.put o.dst v') w') : o.wp P a w K Q := by
  obtain ⟨ht, ⟨i, z, hi, hz, hsize, hby, hzs⟩, hsz, hb⟩ := T
  obtain ⟨hAo, xs, hrow, hRx⟩ := hown
  have h63 : l.length + m ≤ maxLen := by
    have h1 : l.length + m ≤ (l.length + m) * bytes := Nat.le_mul_of_pos_right _ hb
    simp only [maxLen]; omega
  have hnl : news.length = m * s.n := by rw [hR.length, hm]
  obtain ⟨v', w', hr, h2, h3, h4⟩ := run_append_own (P := P) w 0 t o.type E i z s.n bytes ht hi hz hsize hby hzs hsz v l.length xs hrow ad m c news hnl hnews hR.oneCell h63 hbytes (Nat.zero_le _)
  have key : ∃ v' w', (Builtin.append_ #[t, t] o.type #[v, .slice (some ad) m c]).run P w = .ok v' w' ∧ w'.ownsRow 0 E s.n v' (l.length + m) (xs ++ news) ∧ w.grownBy w' v.ownBlock ∧ (v'.ownBlock = v.ownBlock ∨ ∃ g, v'.ownBlock = some g ∧ w.heap.size ≤ g) := by
    rcases hrow.2 with ⟨rfl, h0⟩ | ⟨g, cap, cur, rfl, hg0, hg, hnc, hcm, hcs, htake⟩
    · have hxs : xs = [] := List.eq_nil_of_length_eq_zero (by rw [hrow.1, h0]; simp)
      subst hxs
      rw [h0] at h63 hbytes ⊢
      obtain ⟨v', w', hr, h2, h3, h4⟩ := run_append_own (P := P) w w.heap.size t o.type E i z s.n bytes ht hi hz hsize hby hzs hsz (.slice none 0 0) 0 [] (World.ownsRow_nil _ _ _ _) ad m c news hnl hnews hR.oneCell h63 hbytes (Nat.le_refl _)
      refine ⟨v', w', hr, ⟨h2.1, ?_⟩, h3, ?_⟩
      · rcases h2.2 with h5 | ⟨g', cap', cur', e', hg', r⟩
        · exact .inl h5
        · exact .inr ⟨g', cap', cur', e', Nat.zero_le _, r⟩
      · rcases h2.2 with ⟨rfl, _⟩ | ⟨g', cap', cur', rfl, hg', r⟩
        · exact .inl rfl
        · exact .inr ⟨g', rfl, hg'⟩
    · obtain ⟨v', w', hr, h2, h3, h4⟩ := run_append_own (P := P) w 0 t o.type E i z s.n bytes ht hi hz hsize hby hzs hsz _ l.length xs hrow ad m c news hnl hnews hR.oneCell h63 hbytes (Nat.zero_le _)
      refine ⟨v', w', hr, h2, h3, ?_⟩
      by_cases hroom : l.length + m ≤ cap
      · have hr2 := run_append_room (P := P) w t o.type E i ht hi g l.length cap cur hg ad m c news (by rw [hsize]; exact hnl) hnews hR.oneCell hroom (by rw [hsize, hnl, hcs, ← Nat.add_mul]; exact Nat.mul_le_mul_right _ hroom)
        rw [hr] at hr2
        cases hr2
        exact .inl rfl
      · have hr2 := run_append_grow (P := P) w t o.type E i z ht hi hz ⟨g, 0, none⟩ l.length cap xs (by rw [hsize]; exact hrow.1) (hrow.cells (g := g) rfl) ad m c news (by rw [hsize]; exact hnl) hnews (by omega) (by simp only [maxLen] at h63; omega) (growslice_fits (by omega) (by rw [hby]; exact hbytes))
        rw [hr] at hr2
        cases hr2
        exact .inr ⟨_, rfl, Nat.le_refl _⟩
  obtain ⟨v', w', hr, h2, h3, hdst⟩ := key
  unfold Oper.wp execOp
  simp only [ho, resolve, invoke, builtin, Sem.run_bind, Sem.run_pure, Result.andThen_ok, List.map_toArray, List.map_cons, List.map_nil, hs, hx, hr]
  refine h v' w' ⟨fun k hk => ?_, xs ++ news, by rw [List.length_append, hm]; exact h2, (hRx.append hR).mono fun b hb hl => ⟨⟨hb.1, fun e => ?_⟩, h3.block b hl (fun e => hb.2 e.symm)⟩⟩ (Fr.of_grown h3) hdst
  · rcases hdst with e | ⟨g, e, hg⟩
    · exact hAo k (e ▸ hk)
    · rw [e] at hk; cases hk; exact hA _ hg
  · rcases hdst with e' | ⟨g, e', hg⟩
    · exact hb.2 (e' ▸ e)
    · rw [e'] at e; cases e; omega

theorem wpl_append {α : Type} {P : Program} {w : World} {ops : Array Oper} {rest : List Oper} {o : Oper} {a : Act} {Q : Exit → Act → World → Prop} {E : TypeId} {s : Shape α} {sx x : Operand} {t : TypeId} {bytes : Nat} (T : SlTy P t E s bytes) (hgd : o.guard = none)
    (ho : o.op = .call { callee := .builtin .append, args := #[sx, x], argTypes := #[t, t] })
    {A : Nat → Prop} {v : Value} {l : List α} (hs : a.eval sx = v) (hown : Ow E s w A v l)
    {ad : Addr} {m c : Nat} {l2 : List α} (hx : a.eval x = .slice (some ad) m c) (hm : l2.length = m) {news : List Value} (hR : Rows s w (fun k => A k ∧ v.ownBlock ≠ some k) news l2)
    (hnews : ∀ j u, news[j]? = some u → w.cell? (ad.add j) = some u)
    (hbytes : (l.length + m) * bytes ≤ 140737488355328) (hA : ∀ k, w.heap.size ≤ k → A k)
    (h : ∀ v' w', Ow E s w' A v' (l ++ l2) → Fr (fun k => v.ownBlock = some k) w w' → (v'.ownBlock = v.ownBlock ∨ ∃ g, v'.ownBlock = some g ∧ w.heap.size ≤ g) → wpList P ops Q rest (a.put o.dst v') w') : wpList P ops Q (o :: rest) a w :=
  wpList_plain hgd fun _ hK => wpo_append T ho hs hown hx hm hR hnews hbytes hA fun v' w' h1 h2 h3 => hK _ _ (h v' w' h1 h2 h3)

/-- APPEND of one element that was just built: its cells are the last block's. 'w' is the world ahead of that block. -/
theorem wpl_append1 {α : Type} {P : Program} {w wb : World} {ops : Array Oper} {rest : List Oper} {o : Oper} {a : Act} {Q : Exit → Act → World → Prop} {E : TypeId} {s : Shape α} {sx x : Operand} {t : TypeId} {bytes : Nat} (T : SlTy P t E s bytes) (hgd : o.guard = none)
    (ho : o.op = .call { callee := .builtin .append, args := #[sx, x], argTypes := #[t, t] })
    {A : Nat → Prop} {v : Value} {l : List α} (hs : a.eval sx = v) (hown : Ow E s w A v l)
    {g : Nat} {cs : Array Value} {y : α} (hx : a.eval x = .slice (some ⟨g, 0, none⟩) 1 1) (hR : s.R w (fun k => A k ∧ v.ownBlock ≠ some k) cs.toList y)
    (hg : wb.heap[g]? = some (.cells cs E)) (hb : Fr (fun _ => False) w wb)
    (hbytes : (l.length + 1) * bytes ≤ 140737488355328) (hA : ∀ k, w.heap.size ≤ k → A k)
    (h : ∀ v' w', Ow E s w' A v' (l ++ [y]) → Fr (fun k => v.ownBlock = some k) w w' → (v'.ownBlock = v.ownBlock ∨ ∃ g, v'.ownBlock = some g ∧ w.heap.size ≤ g) → wpList P ops Q rest (a.put o.dst v') w') : wpList P ops Q (o :: rest) a wb := by
  have hk : ∀ (b : Nat), b < w.heap.size → wb.heap[b]? = w.heap[b]? := fun b hl => hb.block b hl (fun e => e)
  refine wpl_append T hgd ho hs (hown.mono fun b hA hl => ⟨hA, hk b hl⟩) hx rfl (Rows.one (s.mono (fun b hA hl => ⟨hA, hk b hl⟩) hR)) (fun j u hj => ?_) hbytes (fun k hk => hA k (Nat.le_trans hb.size hk)) fun v' w' h1 h2 h3 => h v' w' h1 ((hb.mono (M' := fun k => v.ownBlock = some k) fun _ _ e => e.elim).trans h2 fun k _ e => e) (h3.imp id fun ⟨g, e, hg⟩ => ⟨g, e, Nat.le_trans hb.size hg⟩)
  have hadd : (⟨g, 0, none⟩ : Addr).add j = ⟨g, j, none⟩ := by unfold Addr.add; split <;> simp_all
  rw [hadd, blkC hg]
  simpa using hj

/-- The walk stands still here. -/
theorem pause {P : Program} {ops : Array Oper} {Q : Exit → Act → World → Prop} {l : List Oper} {a : Act} {w : World} (h : ∀ K : Act → World → Prop, Kp (∀ a w, wpList P ops Q l a w → K a w) → K a w) : wpList P ops Q l a w := h _ ⟨fun _ _ h => h⟩

/-- A call returns, with this. -/
abbrev Ret (p : Value → World → Prop) : Ending → World → Prop
  | .returned v, w => p v w
  | _, _ => False
theorem ret_mono {P : Program} {f : FuncId} {args : Array Value} {w : World} {p : Value → World → Prop} {R : Ending → World → Prop} (h : Calls P f args w (Ret p)) (hr : ∀ v w', p v w' → R (.returned v) w') : Calls P f args w R :=
  h.mono fun e w' he => by cases e with
    | returned v => exact hr v w' he
    | panicked c => exact he.elim
    | outgrown => exact he.elim
/-- What a call answers where it makes a slice. -/
def RetSl {α : Type} (s : Shape α) (W : World) (l : List α) (v : Value) (w' : World) : Prop :=
  ∃ a cap, v = .slice a l.length cap ∧ Sl s w' (W.heap.size ≤ ·) a cap l ∧ Below W.heap.size W w'
end Go.Proofs.Ytbcifjjnnbefkaa
