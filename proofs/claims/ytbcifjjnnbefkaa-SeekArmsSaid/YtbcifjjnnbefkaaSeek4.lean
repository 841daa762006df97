/-
  Package seek: the runners of all arms, in one block. Conditions: none.
-/
import Derived.Test.YtbcifjjnnbefkaaSeek3
import Derived.Test.YtbcifjjnnbefkaaMake
namespace Go.Proofs.Ytbcifjjnnbefkaa
open Go.RowKit

/-- A runner's cells. -/
def rCells (r : Value × List Nat × List Nat) : List Value := r.1 :: (nts r.2.1 ++ nts r.2.2)
theorem mk_runner : MkTy Try.prog 86 90 (rCells (.slice none 0 0, zeros, zeros)) 3224 := ⟨Try.underlying86, by kernel_rfl, by simp [rCells]⟩

/-- The runners lie in block g: their instructions, and the places that each has come to. -/
structure Runs (w : World) (g : Nat) (ps : List (List Inst)) (ns : List (List Nat)) : Prop where
  st : ∃ rs : List (Value × List Nat × List Nat), w.heap[g]? = some (.cells (rs.map rCells).flatten.toArray 90) ∧ rs.map (·.2.1) = ns ∧ rs.length = ps.length ∧
    (∀ r ∈ rs, r.2.1.length = 200 ∧ r.2.2.length = 200) ∧ ∀ k (h : k < rs.length) (h' : k < ps.length), ∃ a cap, rs[k].1 = .slice a ps[k].length cap ∧ Sl sInst w (fun j => j ≠ g) a cap ps[k]

theorem flat_len {rs : List (Value × List Nat × List Nat)} (h : ∀ r ∈ rs, r.2.1.length = 200 ∧ r.2.2.length = 200) : (rs.map rCells).flatten.length = rs.length * 401 := by
  induction rs with
  | nil => rfl
  | cons r rs ih =>
    have := ih fun r hr => h r (List.mem_cons_of_mem _ hr)
    have h1 := h r List.mem_cons_self
    simp only [List.map_cons, List.flatten_cons, List.length_append, this, List.length_cons, rCells, nts_len, h1.1, h1.2]
    omega
theorem Runs.len {w : World} {g : Nat} {ps : List (List Inst)} {ns : List (List Nat)} (h : Runs w g ps ns) : ns.length = ps.length := by
  obtain ⟨rs, _, rfl, h, _⟩ := h.st
  simpa using h
/-- One runner among them. -/
theorem Runs.at {w : World} {g : Nat} {ps : List (List Inst)} {ns : List (List Nat)} (h : Runs w g ps ns) {k : Nat} (hk : k < ps.length) (hk' : k < ns.length) :
    ∃ (L R : List Value) (nx : List Nat) (a : Option Addr) (cap : Nat), w.heap[g]? = some (.cells (L ++ nts ns[k] ++ (nts nx ++ R)).toArray 90) ∧ L[k * 401]? = some (.slice a ps[k].length cap) ∧ L.length = k * 401 + 1 ∧
      ns[k].length = 200 ∧ nx.length = 200 ∧ Sl sInst w (fun j => j ≠ g) a cap ps[k] ∧
      (∀ (w' : World) (n' x' : List Nat), n'.length = 200 → x'.length = 200 → w'.heap[g]? = some (.cells (L ++ nts n' ++ (nts x' ++ R)).toArray 90) → Fr (fun j => j = g) w w' → Runs w' g ps (ns.set k n')) ∧
      (∀ (u : Value) (a' : Option Addr) (cap' : Nat) (p' : List Inst), u = .slice a' p'.length cap' → Sl sInst (w.setCell ⟨g, k * 401, none⟩ u) (fun j => j ≠ g) a' cap' p' → Runs (w.setCell ⟨g, k * 401, none⟩ u) g (ps.set k p') ns) := by
  obtain ⟨rs, hb, rfl, hl, h2, hp⟩ := h.st
  have hkr : k < rs.length := by omega
  obtain ⟨a, cap, hv, hS⟩ := hp k hkr hk
  have hsplit : rs = rs.take k ++ rs[k] :: rs.drop (k + 1) := by rw [List.getElem_cons_drop, List.take_append_drop]
  have hr := h2 rs[k] (List.getElem_mem hkr)
  have hpre : ((rs.take k).map rCells).flatten.length = k * 401 := by
    rw [flat_len fun r hr => h2 r (List.mem_of_mem_take hr), List.length_take, Nat.min_eq_left (by omega)]
  have hcells : ∀ r : Value × List Nat × List Nat, ((rs.set k r).map rCells).flatten = (((rs.take k).map rCells).flatten ++ [r.1]) ++ nts r.2.1 ++ (nts r.2.2 ++ ((rs.drop (k + 1)).map rCells).flatten) := fun r => by
    have e : rs.set k r = rs.take k ++ r :: rs.drop (k + 1) := by rw [List.set_eq_take_append_cons_drop, if_pos hkr]
    rw [e]
    simp [rCells]
  have hself : rs.set k rs[k] = rs := List.set_getElem_self hkr
  refine ⟨((rs.take k).map rCells).flatten ++ [rs[k].1], ((rs.drop (k + 1)).map rCells).flatten, rs[k].2.2, a, cap, ?_, ?_, by rw [List.length_append, hpre, List.length_singleton], by simpa using hr.1, hr.2, hS, ?_, ?_⟩
  · rw [hb]
    have := hcells rs[k]
    rw [hself] at this
    rw [this]
    simp
  · rw [List.getElem?_append_right (by omega), hpre, Nat.sub_self]; simp [hv]
  · intro w' n' x' hn hx hg hF
    refine ⟨rs.set k (rs[k].1, n', x'), by rw [hg, hcells], by simp [List.map_set], by simpa using hl, fun r hr => ?_, fun j h h' => ?_⟩
    · rcases List.mem_or_eq_of_mem_set hr with hr | rfl
      · exact h2 r hr
      · exact ⟨hn, hx⟩
    · obtain ⟨a1, c1, e1, hS1⟩ := hp j (by simpa using h) h'
      refine ⟨a1, c1, ?_, hS1.mono fun b hb hl => ⟨hb, hF.block b hl hb⟩⟩
      rw [List.getElem_set]
      split
      · rename_i e; subst e; exact e1
      · exact e1
  · intro u a' cap' p' hu hS'
    refine ⟨rs.set k (u, rs[k].2), ?_, ?_, by simpa using hl, fun r hr' => ?_, fun j h h' => ?_⟩
    · rw [blkSet hb]
      congr 2
      apply Array.toList_inj.1
      rw [Array.toList_setIfInBounds, hcells]
      have := hcells rs[k]
      rw [hself] at this
      simp only [this]
      simp only [List.append_assoc]
      rw [List.set_append_right _ _ (by omega), hpre, Nat.sub_self]
      simp
    · rw [List.map_set]
      apply List.ext_getElem
      · simp
      · intro i h1 h3
        rw [List.getElem_set]
        split
        · rename_i e; subst e; simp
        · rfl
    · rcases List.mem_or_eq_of_mem_set hr' with hr' | rfl
      · exact h2 r hr'
      · exact hr
    · by_cases e : j = k
      · subst e
        exact ⟨a', cap', by simp [hu], by simpa using hS'⟩
      · obtain ⟨a1, c1, e1, hS1⟩ := hp j (by simpa using h) (by simpa using h')
        refine ⟨a1, c1, ?_, ?_⟩
        · rw [List.getElem_set_ne (fun h => e h.symm), List.getElem_set_ne (fun h => e h.symm)]; exact e1
        · rw [List.getElem_set_ne (fun h => e h.symm)]
          exact hS1.mono fun b hb hl => ⟨hb, Below.heap_setCell _ _ _ _ hb⟩
theorem Runs.keep {w w' : World} {g : Nat} {ps : List (List Inst)} {ns : List (List Nat)} (h : Runs w g ps ns) (hF : Below w.heap.size w w') : Runs w' g ps ns := by
  obtain ⟨rs, hb, h1, h2, h3, h4⟩ := h.st
  refine ⟨rs, (hF.block g (blkL hb)).trans hb, h1, h2, h3, fun k hk hk' => ?_⟩
  obtain ⟨a, c, e, hS⟩ := h4 k hk hk'
  exact ⟨a, c, e, hS.mono fun b hb hl => ⟨hb, hF.block b hl⟩⟩
theorem Runs.made (w : World) (n : Nat) : Runs (w.alloc (.cells (List.replicate n (rCells (.slice none 0 0, zeros, zeros))).flatten.toArray 90)) w.heap.size (List.replicate n []) (List.replicate n zeros) := by
  refine ⟨List.replicate n (.slice none 0 0, zeros, zeros), ?_, by simp, by simp, fun r hr => ?_, fun k h h' => ?_⟩
  · rw [heap_alloc_new, List.map_replicate]
  · obtain ⟨_, rfl⟩ := List.mem_replicate.1 hr
    exact ⟨zeros_len, zeros_len⟩
  · exact ⟨none, 0, by simp, by simpa using Sl.nil_ _ _ _⟩

theorem Runs.cell {w : World} {g : Nat} {ps : List (List Inst)} {ns : List (List Nat)} (h : Runs w g ps ns) {k : Nat} (hk : k < ps.length) :
    g < w.heap.size ∧ (∀ j, w.frozen? ⟨g, j, none⟩ = false) ∧ ∃ (a : Option Addr) (cap : Nat), w.cell? ⟨g, k * 401, none⟩ = some (.slice a ps[k].length cap) ∧
      ∀ (u : Value) (a' : Option Addr) (cap' : Nat) (p' : List Inst), u = .slice a' p'.length cap' → Sl sInst (w.setCell ⟨g, k * 401, none⟩ u) (fun j => j ≠ g) a' cap' p' → Runs (w.setCell ⟨g, k * 401, none⟩ u) g (ps.set k p') ns := by
  obtain ⟨L, R, nx, a, cap, hg, ho, _, _, _, _, _, h1⟩ := h.at hk (by rw [h.len]; exact hk)
  exact ⟨blkL hg, blkF hg, a, cap, mid_left (L := L) (by rw [List.append_assoc] at hg; exact hg) ho, h1⟩

theorem fill_step {α : Type} {l : List α} {k : Nat} (d : α) (h : k < l.length) : (l.take k ++ List.replicate (l.length - k) d).set k l[k] = l.take (k + 1) ++ List.replicate (l.length - (k + 1)) d := by
  have h1 : (l.take k).length = k := by rw [List.length_take]; omega
  rw [List.set_append_right _ _ (by omega), h1, Nat.sub_self, show l.length - k = (l.length - (k + 1)) + 1 by omega, List.replicate_succ, List.set_cons_zero, List.take_succ_eq_append_getElem h, List.append_assoc]
  rfl

/-- An arm of a slice of arms. -/
theorem arm_at {α : Type} {s : Shape α} {w : World} {A : Nat → Prop} {a : Option Addr} {cap : Nat} {l : List (List α)} (h : Sl (sSl s) w A a cap l) {k : Nat} (hk : k < l.length) :
    ∃ b off sa sc, a = some ⟨b, off, none⟩ ∧ b < w.heap.size ∧ A b ∧ w.cell? ⟨b, off + k, none⟩ = some (.slice sa l[k].length sc) ∧ Sl s w A sa sc l[k] := by
  obtain ⟨b, off, e, hA, hb⟩ := h.at_ (by omega)
  obtain ⟨cs, ⟨sa, sc, rfl, hS⟩, hc⟩ := h.get b off e k hk
  have := hc 0 (show 0 < 1 by decide)
  exact ⟨b, off, sa, sc, e, hb, hA, by simpa [sSl] using this, hS⟩

/-- The arms, one behind the other, at a place: the first one that is done. -/
def scanM (arms : List (List Inst)) (t : Nat) (ns : List (List Nat)) : Nat → Option (Nat × Nat) × List (List Nat)
  | 0 => (none, ns)
  | k + 1 => match scanM arms t ns k with
    | (some r, ns) => (some r, ns)
    | (none, ns) => (if 0 < doneM (arms.getD k []) (addM (arms.getD k []) 201 (ns.getD k []) 0 (t + 1)) then some (k, doneM (arms.getD k []) (addM (arms.getD k []) 201 (ns.getD k []) 0 (t + 1)) - 1) else none,
        ns.set k (addM (arms.getD k []) 201 (ns.getD k []) 0 (t + 1)))
/-- Each arm takes a byte. -/
def takesM (arms : List (List Inst)) (c : UInt8) (ns : List (List Nat)) : Nat → List (List Nat)
  | 0 => ns
  | k + 1 => (takesM arms c ns k).set k (takeM (arms.getD k []) ((takesM arms c ns k).getD k []) c)
def lookL (arms : List (List Inst)) (b : List UInt8) : Nat → Nat → List (List Nat) → Option (Nat × Nat × Nat)
  | 0, _, _ => none
  | f + 1, t, ns => if b.length < t then none else
    match scanM arms t ns arms.length with
    | (some r, _) => some (r.1, r.2, t)
    | (none, ns) => lookL arms b f (t + 1) (match b[t]? with | some c => takesM arms c ns arms.length | none => ns)
/-- What is found: arm, places; and what is told. -/
def lookM (arms : List (List Inst)) (b : List UInt8) : (Nat × Nat × Nat) × Nat :=
  match lookL arms (b.take 256) (b.length + 2) 0 (List.replicate arms.length zeros) with
  | some r => (r, 0)
  | none => ((0, 0, 0), if 256 ≤ b.length then 2 else 1)
theorem lookL_fuel (arms : List (List Inst)) (b : List UInt8) : ∀ (f g t : Nat) (ns : List (List Nat)), b.length + 1 < t + f → b.length + 1 < t + g → lookL arms b f t ns = lookL arms b g t ns
  | 0, 0, _, _, _, _ => rfl
  | 0, g + 1, t, ns, h, _ => by unfold lookL; rw [if_pos (by omega)]
  | f + 1, 0, t, ns, _, h => by unfold lookL; rw [if_pos (by omega)]
  | f + 1, g + 1, t, ns, h1, h2 => by
    unfold lookL
    split
    · rfl
    · split
      · rfl
      · exact lookL_fuel arms b f g _ _ (by omega) (by omega)
theorem scanM_some {arms : List (List Inst)} {t : Nat} {ns : List (List Nat)} {k : Nat} {r : Nat × Nat} {ns1 : List (List Nat)} (h : scanM arms t ns k = (some r, ns1)) : ∀ d, scanM arms t ns (k + d) = (some r, ns1)
  | 0 => h
  | d + 1 => by
    have := scanM_some h d
    show scanM arms t ns ((k + d) + 1) = _
    unfold scanM
    rw [this]
def bdd (l : List Nat) : Prop := ∀ v ∈ l, v ≤ 1000000
theorem bdd_set {l : List Nat} (h : bdd l) {k b : Nat} (hb : b ≤ 1000000) : bdd (l.set k b) := fun v hv => by
  rcases List.mem_or_eq_of_mem_set hv with hv | rfl
  · exact h v hv
  · exact hb
theorem bdd_addM (p : List Inst) {b : Nat} (hb : b ≤ 1000000) : ∀ (f : Nat) {ts : List Nat} (at_ : Int), bdd ts → bdd (addM p f ts at_ b)
  | 0, _, _, h => h
  | f + 1, ts, at_, h => by
    unfold addM
    split
    · exact h
    · split
      · exact h
      · split
        · exact bdd_addM p hb f _ (bdd_addM p hb f _ (bdd_set h hb))
        · split
          · exact bdd_addM p hb f _ (bdd_set h hb)
          · exact bdd_set h hb
theorem bdd_getD {l : List Nat} (h : bdd l) (k : Nat) : l.getD k 0 ≤ 1000000 := by
  by_cases hk : k < l.length
  · rw [getD_of hk]; exact h _ (List.getElem_mem hk)
  · simp [List.getD, List.getElem?_eq_none (by omega : l.length ≤ k)]
theorem bdd_zeros : bdd zeros := fun v hv => by
  obtain ⟨_, rfl⟩ := List.mem_replicate.1 (show v ∈ List.replicate 200 0 from hv); omega
theorem bdd_takeF (p : List Inst) {now : List Nat} (h : bdd now) (c : UInt8) : ∀ k, bdd (takeF p now c k)
  | 0 => bdd_zeros
  | k + 1 => by
    unfold takeF
    split
    · exact bdd_addM p (bdd_getD h k) _ _ (bdd_takeF p h c k)
    · exact bdd_takeF p h c k
theorem done_le (p : List Inst) {ts : List Nat} (h : bdd ts) : ∀ k, doneF p ts k ≤ 1000000
  | 0 => by simp [doneF]
  | k + 1 => by
    unfold doneF
    split
    · exact bdd_getD h k
    · exact done_le p h k
def bddL (ns : List (List Nat)) : Prop := ∀ l ∈ ns, bdd l
theorem bddL_set {ns : List (List Nat)} (h : bddL ns) {k : Nat} {l : List Nat} (hl : bdd l) : bddL (ns.set k l) := fun x hx => by
  rcases List.mem_or_eq_of_mem_set hx with hx | rfl
  · exact h x hx
  · exact hl
theorem scanM_len (arms : List (List Inst)) (t : Nat) (ns : List (List Nat)) : ∀ k, (scanM arms t ns k).2.length = ns.length
  | 0 => rfl
  | k + 1 => by
    have := scanM_len arms t ns k
    unfold scanM
    split <;> rename_i e <;> rw [e] at this
    · exact this
    · simpa using this
theorem takesM_len (arms : List (List Inst)) (c : UInt8) (ns : List (List Nat)) : ∀ k, (takesM arms c ns k).length = ns.length
  | 0 => rfl
  | k + 1 => by unfold takesM; rw [List.length_set, takesM_len arms c ns k]
end Go.Proofs.Ytbcifjjnnbefkaa
