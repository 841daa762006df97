/-
  The operations by kind: those that only compute with values, loads, those that make new blocks. Conditions: none; every lemma is over any program.
-/
import Derived.Test.YtbcifjjnnbefkaaQuiet
namespace Go.Proofs.Ytbcifjjnnbefkaa

def isValue : Next → Prop := fun n => ∃ v, n = .value v
/-- A value at which arithmetic and comparison look at no memory. -/
def plainV : Value → Bool
  | .int .. | .bool _ | .string _ | .tuple _ | .slice .. | .nilFunc | .func .. => true
  | _ => false
def plainPair (op : BinOp) (x y : Value) : Bool :=
  (plainV x && plainV y) || match op, x, y with
    | .eql, .pointer none, .pointer _ | .eql, .pointer _, .pointer none | .neq, .pointer none, .pointer _ | .neq, .pointer _, .pointer none => true
    | _, _, _ => false
def flatAt (P : Program) (ρ : Operand → Value) : Op → Bool
  | .move _ | .assign _ | .pick .. | .extract .. | .build .. | .field .. | .index .. | .indexAddr .. | .slice .. | .unOp .. | .makeFunc .. => true
  | .fieldAddr s _ f => match P.underlying s with | some (.struct fs) => (match fs[f]? with | some d => P.cellsOf d.type != 0 | none => true) | _ => true
  | .nilCheck x => match ρ x with | .func .. => false | _ => true
  | .binOp op t x y _ => plainPair op (ρ x) (ρ y) && (match P.underlying t with | some .unsafePointer => false | _ => true)
  | .convert s d x => (match P.underlying d with | some (.int _) => true | _ => false) && (match ρ x with | .int .. | .tuple _ => true | _ => false) && (match P.underlying s with | some .unsafePointer => false | _ => true)
  | .call { callee := .builtin .len, args := _, argTypes } => match argTypes[0]? with | some t => (match P.underlying t with | some (.slice _) | some .string => true | _ => false) | none => true
  | .call { callee := .builtin .min, args, argTypes := _ } => args.all fun x => match ρ x with | .int .. | .tuple _ => true | _ => false
  | .call { callee := .builtin .max, args, argTypes := _ } => args.all fun x => match ρ x with | .int .. | .tuple _ => true | _ => false
  | _ => false
/-- 0: only computes with values (where 'flatAt' says so); 1: loads; 2: makes blocks; 3: anything else. -/
def kindOf (P : Program) : Op → Nat
  | .move _ | .assign _ | .pick .. | .extract .. | .build .. | .field .. | .index .. | .indexAddr .. | .slice .. | .unOp .. | .makeFunc .. | .fieldAddr .. | .nilCheck _ | .binOp .. => 0
  | .convert _ d _ => match P.underlying d with | some (.int _) => 0 | _ => 3
  | .call { callee := .builtin .len, args := _, argTypes } => match argTypes[0]? with | some t => (match P.underlying t with | some (.slice _) | some .string => 0 | _ => 3) | none => 3
  | .call { callee := .builtin .min, .. } | .call { callee := .builtin .max, .. } => 0
  | .load .. => 1
  | .alloc _ | .box .. | .buildSlice .. | .makeSlice .. => 2
  | .makeMap _ none => 2
  | _ => 3

theorem quiet_pure {α : Type} {P : Program} {ld : Bool} {leaf : α → Prop} {a : α} (h : leaf a) : quiet P ld leaf (Pure.pure a : Sem α) := h
theorem quiet_bind' {α β : Type} {P : Program} {ld : Bool} {leaf' : β → Prop} {s : Sem α} {f : α → Sem β} (hs : quiet P ld (fun _ => True) s) (hf : ∀ a, quiet P ld leaf' (f a)) : quiet P ld leaf' (s >>= f) := quiet_bind f (fun a _ => hf a) s hs
theorem quiet_bindL {α β : Type} {P : Program} {ld : Bool} {leaf : α → Prop} {leaf' : β → Prop} {s : Sem α} {f : α → Sem β} (hs : quiet P ld leaf s) (hf : ∀ a, leaf a → quiet P ld leaf' (f a)) : quiet P ld leaf' (s >>= f) := quiet_bind f hf s hs
theorem dead_bind' {α β : Type} {P : Program} {s : Sem α} {f : α → Sem β} (hf : ∀ a, dead P (f a)) : dead P (s >>= f) := dead_then f hf s
theorem dead_panic {α : Type} {P : Program} (e : RuntimeError) : dead P (runtimePanic e : Sem α) := by
  unfold runtimePanic
  cases e <;> simp only [program, bind, Sem.bind, dead] <;> first | trivial | (refine dead_then _ (fun _ => ?_) _; refine dead_then _ (fun _ => ?_) _; trivial)
theorem dead_bounds {α : Type} {P : Program} (k : IntKind) (x y : Int) (c : BoundsCode) : dead P (boundsPanic k x y c : Sem α) := by
  unfold boundsPanic
  simp only []
  split <;> exact dead_then _ (fun _ => dead_panic _) _
theorem dead_stuck {α : Type} {P : Program} (s : String) : dead P (stuck s : Sem α) := trivial
theorem dead_unsup {α : Type} {P : Program} (u : Unsupported) : dead P (unsupported u : Sem α) := trivial

section
variable {P : Program} {ld : Bool}
theorem q_underlying (t : TypeId) : quiet P ld (fun d => P.underlying t = some d) (underlying t) := by
  unfold underlying program
  simp only [bind, Sem.bind, quiet]
  cases h : P.underlying t with
  | some d => exact rfl
  | none => exact dead_stuck _
theorem q_typeInfo (t : TypeId) : quiet P ld (fun d => P.info? t = some d) (typeInfo t) := by
  unfold typeInfo program
  simp only [bind, Sem.bind, quiet]
  cases h : P.info? t with
  | some d => exact rfl
  | none => exact dead_stuck _
theorem q_sizeOf (t : TypeId) : quiet P ld (fun n => n = P.cellsOf t) (sizeOf t) := by
  unfold sizeOf
  refine quiet_bindL (q_typeInfo t) fun d hd => ?_
  exact (by simp [Program.cellsOf, hd] : d.size = P.cellsOf t)
theorem q_zero (t : TypeId) : quiet P ld (fun _ => True) (zeroValue t) := by
  unfold zeroValue
  refine quiet_bindL (q_typeInfo t) fun d _ => ?_
  split
  · trivial
  · exact dead_unsup _
theorem q_isAgg (t : TypeId) : quiet P ld (fun _ => True) (isAgg t) := by
  unfold isAgg
  refine quiet_bindL (q_underlying t) fun d _ => ?_
  split <;> trivial
theorem q_asIntOf (v : Value) : quiet P ld (fun _ => True) (asIntOf v) := by
  unfold asIntOf; split <;> trivial
theorem q_asBool (v : Value) : quiet P ld (fun _ => True) (asBool v) := by
  unfold asBool; split <;> trivial
theorem q_asAgg (v : Value) : quiet P ld (fun _ => True) (asAgg v) := by
  unfold asAgg; split <;> trivial
theorem q_sureAddr (v : Value) : quiet P ld (fun _ => True) (Instr.sureAddr v) := by
  unfold Instr.sureAddr; split <;> trivial
theorem q_asAddr (v : Value) : quiet P ld (fun _ => True) (asAddr v) := by
  unfold asAddr
  split
  · trivial
  · exact quiet_of_dead _ (dead_panic _)
  · trivial
theorem q_mono {α : Type} {leaf : α → Prop} {s : Sem α} (h : quiet P ld leaf s) : quiet P ld (fun _ => True) s := by
  have := quiet_bindL (leaf' := fun _ => True) (f := fun a => (Pure.pure a : Sem α)) h (fun a _ => trivial)
  have e : (s >>= fun a => (Pure.pure a : Sem α)) = s := by
    clear this h
    induction s with
    | pure a => rfl
    | halt h => rfl
    | load m a k ih => exact congrArg _ (funext ih)
    | store m a v k ih => exact congrArg _ ih
    | new o k ih => exact congrArg _ (funext ih)
    | shape r k ih => exact congrArg _ (funext ih)
    | freeze a n k ih => exact congrArg _ ih
    | frozen a k ih => exact congrArg _ (funext ih)
    | getObj r k ih => exact congrArg _ (funext ih)
    | setObj r o k ih => exact congrArg _ ih
    | choose q k ih => exact congrArg _ (funext ih)
    | sys c k ih => exact congrArg _ (funext ih)
    | program k ih => exact congrArg _ (funext ih)
    | mark m k ih => exact congrArg _ ih
  rw [e] at this
  exact this
theorem q_part (t : TypeId) (cs : Array Value) (off : Nat) : quiet P ld (fun _ => True) (part t cs off) := by
  unfold part
  refine quiet_bind' (q_isAgg t) fun b => ?_
  split
  · exact quiet_bind' (q_mono (q_sizeOf t)) fun _ => trivial
  · split <;> trivial
theorem q_value {s : Sem Value} (h : quiet P ld (fun _ => True) s) : quiet P ld isValue (do pure (Next.value (← s))) := quiet_bind' h fun a => ⟨a, rfl⟩
theorem q_dead {α : Type} {leaf : α → Prop} {s : Sem α} (h : dead P s) : quiet P ld leaf s := quiet_of_dead s h
theorem q_sliceBound (x : Value) (y : Nat) (c : BoundsCode) : quiet P ld (fun _ => True) (Instr.sliceBound x y c) := by
  unfold Instr.sliceBound
  refine quiet_bind' (q_asIntOf x) fun a => ?_
  split
  split
  · trivial
  · exact q_dead (dead_bounds _ _ _ _)
theorem q_sliceBounds (b : Bool) (len cap : Nat) (lo hi mx : Option Value) : quiet P ld (fun _ => True) (Instr.sliceBounds b len cap lo hi mx) := by
  unfold Instr.sliceBounds
  cases mx <;> cases hi <;> cases lo <;> simp only [] <;> (repeat first | trivial | (refine quiet_bind' (q_sliceBound _ _ _) fun _ => ?_) | (refine quiet_bind' (q_dead (dead_stuck _)) fun _ => ?_) | (refine quiet_bind' (quiet_pure trivial) fun _ => ?_))
theorem q_slice (t : TypeId) (x : Value) (lo hi mx : Option Value) : quiet P ld (fun _ => True) (Instr.slice t x lo hi mx) := by
  unfold Instr.slice
  refine quiet_bindL (q_underlying t) fun d _ => ?_
  split
  · split
    · exact quiet_bind' (q_dead (dead_stuck _)) fun _ => quiet_bind' (q_sliceBounds _ _ _ _ _ _) fun _ => trivial
    · exact quiet_bind' (q_sliceBounds _ _ _ _ _ _) fun _ => trivial
  · exact quiet_bind' (q_sliceBounds _ _ _ _ _ _) fun _ => quiet_bind' (q_mono (q_sizeOf _)) fun _ => trivial
  · refine quiet_bind' (q_asAddr _) fun _ => quiet_bindL (q_underlying _) fun d _ => ?_
    split
    · exact quiet_bind' (q_sliceBounds _ _ _ _ _ _) fun _ => quiet_bind' (q_mono (q_sizeOf _)) fun _ => trivial
    · trivial
  · trivial
theorem q_listMap {α β : Type} (f : α → Sem β) (h : ∀ a, quiet P ld (fun _ => True) (f a)) : ∀ l : List α, quiet P ld (fun _ => True) (l.mapM f)
  | [] => by rw [List.mapM_nil]; trivial
  | a :: l => by
    rw [List.mapM_cons]
    exact quiet_bind' (h a) fun _ => quiet_bind' (q_listMap f h l) fun _ => trivial
theorem q_map {α β : Type} {s : Sem α} (f : α → β) (h : quiet P ld (fun _ => True) s) : quiet P ld (fun _ => True) (f <$> s) := by
  rw [← bind_pure_comp]
  exact quiet_bind' h fun _ => trivial
theorem q_arrMap {α β : Type} (f : α → Sem β) (h : ∀ a, quiet P ld (fun _ => True) (f a)) (l : Array α) : quiet P ld (fun _ => True) (l.mapM f) := by
  rw [Array.mapM_eq_mapM_toList]
  exact q_map _ (q_listMap f h _)
theorem q_fold {α β : Type} (f : β → α → Sem β) (ok : α → Prop) (h : ∀ b a, ok a → quiet P ld (fun _ => True) (f b a)) : ∀ (l : List α) (b : β), (∀ a ∈ l, ok a) → quiet P ld (fun _ => True) (l.foldlM f b)
  | [], b, _ => by rw [List.foldlM_nil]; trivial
  | a :: l, b, hl => by
    rw [List.foldlM_cons]
    exact quiet_bind' (h b a (hl a List.mem_cons_self)) fun _ => q_fold f ok h l _ fun a ha => hl a (List.mem_cons_of_mem _ ha)
theorem q_build (t : TypeId) (ps : Array (Nat × Value)) : quiet P ld (fun _ => True) (Instr.build t ps) := by
  unfold Instr.build
  refine quiet_bind' (q_zero t) fun _ => quiet_bindL (q_underlying t) fun d _ => ?_
  split
  · refine quiet_bind' (q_arrMap _ (fun f => ?_) _) fun _ => ?_
    · exact quiet_bind' (q_mono (q_sizeOf f.type)) fun _ => quiet_pure trivial
    · split <;> trivial
  · refine quiet_bind' (q_mono (q_sizeOf _)) fun _ => ?_
    split <;> trivial
  · trivial
theorem q_field (t : TypeId) (x : Value) (i : Nat) : quiet P ld (fun _ => True) (Instr.field t x i) := by
  unfold Instr.field
  refine quiet_bindL (q_underlying t) fun d _ => ?_
  split
  · split
    · exact quiet_bind' (q_asAgg x) fun _ => q_part _ _ _
    · trivial
  · trivial
theorem q_index (t : TypeId) (x i : Value) : quiet P ld (fun _ => True) (Instr.index t x i) := by
  unfold Instr.index
  refine quiet_bind' (q_asIntOf i) fun ki => ?_
  split
  refine quiet_bindL (q_underlying t) fun d _ => ?_
  split
  · split
    · exact quiet_bind' (q_mono (q_sizeOf _)) fun _ => q_part _ _ _
    · exact q_dead (dead_bounds _ _ _ _)
  · split
    · trivial
    · exact q_dead (dead_bounds _ _ _ _)
  · trivial
theorem q_indexAt (t : TypeId) (x i : Value) : quiet P ld (fun _ => True) (Instr.indexAt t x i) := by
  unfold Instr.indexAt
  refine quiet_bind' (q_asIntOf i) fun ki => ?_
  split
  rename_i k n
  have tail : ∀ (b : Option Addr) (len : Nat) (e : TypeId), quiet P ld (fun _ => True) (do
      let tiny := len ≤ 1 && (match ← underlying t with | .array .. => true | _ => false)
      match b with
      | some a =>
        if 0 ≤ n ∧ n < len then pure (Value.pointer (some (a.add (n.toNat * (← sizeOf e)))))
        else if tiny then unsupported (.noEntry "op/indexAddr.an index out of range at an array of length 0 or 1 (ledger 616)")
        else boundsPanic k n len .index
      | none => boundsPanic k n 0 .index : Sem Value) := fun b len e => by
    refine quiet_bindL (q_underlying t) fun d _ => ?_
    simp only []
    cases b with
    | none => exact q_dead (dead_bounds _ _ _ _)
    | some a =>
      simp only []
      split
      · exact quiet_bind' (q_mono (q_sizeOf _)) fun _ => quiet_pure trivial
      · (repeat first | trivial | exact q_dead (dead_bounds _ _ _ _) | split)
  refine quiet_bindL (q_underlying t) fun d _ => ?_
  simp only []
  split
  · refine quiet_bind' (q_sureAddr _) fun a => ?_
    rw [pure_bind]
    dsimp only
    exact tail (some a) _ _
  · exact tail _ _ _
  · trivial
theorem q_sliceAt (t : TypeId) (x : Value) (lo hi mx : Option Value) : quiet P ld (fun _ => True) (Instr.sliceAt t x lo hi mx) := by
  unfold Instr.sliceAt
  refine quiet_bindL (q_underlying t) fun d _ => ?_
  split
  · exact quiet_bind' (q_sureAddr _) fun _ => quiet_bind' (q_sliceBounds _ _ _ _ _ _) fun _ => quiet_bind' (q_mono (q_sizeOf _)) fun _ => trivial
  · exact q_slice _ _ _ _ _
theorem q_extract (x : Value) (i : Nat) : quiet P ld (fun _ => True) (Instr.extract x i) := by
  unfold Instr.extract
  split
  · split <;> trivial
  · trivial
theorem q_intBits (op : BinOp) (k : IntKind) (x y : Int) : quiet P ld (fun _ => True) (Op.intBits op k x y) := by
  unfold Op.intBits; simp only []; split <;> trivial
theorem q_intArith (op : BinOp) (k : IntKind) (x y : Int) : quiet P ld (fun _ => True) (Op.intArith op k x y) := by
  unfold Op.intArith; split <;> trivial
theorem q_unary (op : UnOp) (x : Value) : quiet P ld (fun _ => True) (Op.unary op x) := by
  unfold Op.unary
  split <;> first | trivial | exact q_intArith _ _ _ _ | exact q_intBits _ _ _ _
theorem q_fieldAt (t : TypeId) (x : Value) (i : Nat) (h : (match P.underlying t with | some (.struct fs) => (match fs[i]? with | some d => P.cellsOf d.type != 0 | none => true) | _ => true) = true) : quiet P ld (fun _ => True) (Instr.fieldAt t x i) := by
  unfold Instr.fieldAt
  refine quiet_bindL (q_underlying t) fun d hd => ?_
  rw [hd] at h
  split
  · rename_i fs
    simp only [] at h
    split
    · rename_i f hf
      rw [hf] at h
      simp only [bne_iff_ne, ne_eq] at h
      refine quiet_bind' (q_sureAddr _) fun a => quiet_bind' ?_ fun _ => trivial
      unfold fieldPlace
      refine quiet_bindL (q_sizeOf _) fun n hn => ?_
      rw [hn, if_neg h]
      trivial
    · trivial
  · trivial
theorem q_intDiv (op : BinOp) (k : IntKind) (x y : Int) : quiet P ld (fun _ => True) (Op.intDiv op k x y) := by
  unfold Op.intDiv
  split
  · exact q_dead (dead_panic _)
  · split <;> trivial
theorem q_shift (op : BinOp) (k k' : IntKind) (x y : Int) : quiet P ld (fun _ => True) (Op.shift op k x k' y) := by
  unfold Op.shift
  split
  · exact q_dead (dead_panic _)
  · simp only []; split <;> trivial
theorem q_intCmp (op : BinOp) (x y : Int) : quiet P ld (fun _ => True) (Op.intCmp op x y) := by
  unfold Op.intCmp; split <;> trivial
theorem q_stringOp (op : BinOp) (x y : ByteArray) : quiet P ld (fun _ => True) (Op.stringOp op x y) := by
  unfold Op.stringOp; simp only []; split <;> first | trivial | (split <;> trivial)
theorem q_equal (op : BinOp) (t : TypeId) (x y : Value) (h : plainPair op x y = true) : quiet P ld (fun _ => True) (Op.equal t x y) := by
  unfold Op.equal
  show quiet P ld (fun _ => True) (Op.equalIn (9999 + 1) t x y)
  unfold Op.equalIn
  refine quiet_bindL (q_underlying t) fun d hd => ?_
  revert h
  split <;> intro h <;> first | trivial | (split <;> trivial) | (exfalso; cases op <;> simp [plainPair, plainV] at h; done) | (rename_i a b; cases a <;> cases b <;> first | trivial | (exfalso; cases op <;> simp [plainPair, plainV] at h; done))
theorem q_binPlain (op : BinOp) (t : TypeId) (x y : Value) (h : plainPair op x y = true) : quiet P ld (fun _ => True) (binOp op t x y) := by
  have heq := q_equal (P := P) (ld := ld) op t x y h
  revert h heq
  unfold binOp
  split <;> intro h heq <;> first
    | exact q_shift _ _ _ _ _
    | exact q_stringOp _ _ _
    | exact quiet_bind' heq fun _ => trivial
    | (split
       · trivial
       · split <;> first | exact q_intArith _ _ _ _ | exact q_intDiv _ _ _ _ | exact q_intBits _ _ _ _ | exact q_intCmp _ _ _)
    | (exfalso; simp [plainPair, plainV] at h; done)
    | trivial
theorem q_eqGuard (op : BinOp) (t : TypeId) (ox oy : Operand) (x y : Value) (h : plainPair op x y = true) : quiet P ld (fun _ => True) (eqGuard op t ox oy x y) := by
  unfold eqGuard
  split <;> (split <;> first | trivial | (split <;> first | trivial | (exfalso; simp [plainPair, plainV] at h; done)))
theorem q_two {α : Type} {s : Sem Unit} {r : Sem α} {leaf : α → Prop} (h1 : quiet P ld (fun _ => True) s) (h2 : quiet P ld leaf r) : quiet P ld leaf (do s; r) := quiet_bind' h1 fun _ => h2

/-- WHAT ONLY COMPUTES. -/
theorem flat_op {ρ : Operand → Value} {o : Oper} (h : flatAt P ρ o.op = true) : quiet P ld isValue (execOp ρ o) := by
  obtain ⟨dst, op, type, pos, after, guard⟩ := o
  cases op <;> simp only [flatAt] at h <;> (try (cases h; done)) <;> unfold execOp <;> simp only []
  case move => exact ⟨_, rfl⟩
  case assign => exact ⟨_, rfl⟩
  case pick => exact quiet_bind' (q_asBool _) fun _ => ⟨_, rfl⟩
  case build => exact q_value (q_build _ _)
  case nilCheck x =>
    split
    · exact q_dead (dead_panic _)
    · exact q_dead (dead_panic _)
    · exact q_dead (dead_panic _)
    · rename_i e; rw [e] at h; cases h
    · exact ⟨_, rfl⟩
  case binOp op t x y y' =>
    simp only [Bool.and_eq_true] at h
    exact q_value (q_two (q_eqGuard _ _ _ _ _ _ h.1) (q_binPlain _ _ _ _ h.1))
  case unOp => exact q_value (q_unary _ _)
  case convert s d x =>
    simp only [Bool.and_eq_true] at h
    refine q_value ?_
    unfold Go.convert
    refine quiet_bindL (q_underlying s) fun ds hs => quiet_bindL (q_underlying d) fun dd hd => ?_
    rw [hd, hs] at h
    cases dd <;> (try (cases h.1.1; done))
    cases hx : ρ x <;> rw [hx] at h <;> (try (cases h.1.2; done)) <;> first | trivial | (cases ds <;> first | trivial | (cases h.2; done))
  case makeFunc => exact ⟨_, rfl⟩
  case slice => exact q_value (q_sliceAt _ _ _ _ _)
  case fieldAddr => exact q_value (q_fieldAt _ _ _ h)
  case field => exact q_value (q_field _ _ _)
  case indexAddr => exact q_value (q_indexAt _ _ _)
  case index => exact q_value (q_index _ _ _)
  case extract => exact q_value (q_extract _ _)
  case call c =>
    obtain ⟨callee, args, argTypes⟩ := c
    cases callee with
    | value f => cases h
    | invoke r m => cases h
    | builtin b =>
      have hr : ∀ {leaf : Next → Prop}, quiet P ld leaf (builtin b argTypes type (args.map fun | .const _ => true | _ => false) (args.map ρ)) → quiet P ld leaf (do let d ← resolve ρ { callee := .builtin b, args := args, argTypes := argTypes } type; invoke d.target d.args) := fun h => h
      refine hr ?_
      cases b <;> (try (cases h; done)) <;> unfold builtin <;> simp only []
      case len =>
        refine q_value ?_
        unfold Builtin.len_
        cases ht : argTypes[0]? with
        | none => trivial
        | some t =>
          cases hx : (args.map ρ)[0]? with
          | none => trivial
          | some x =>
            simp only [ht] at h
            refine quiet_bindL (q_underlying t) fun d hd => ?_
            simp only [hd] at h
            cases d <;> (try (cases h; done)) <;> cases x <;> trivial
      case min =>
        refine q_value ?_
        simp only [Array.all_eq_true_iff_forall_mem] at h
        unfold Builtin.min_
        have hm : ∀ v ∈ (args.map ρ).toList, (match v with | .int .. | .tuple _ => true | _ => false) = true := fun v hv => by
          simp only [Array.mem_toList_iff, Array.mem_map] at hv
          obtain ⟨x, hx, rfl⟩ := hv
          exact h x hx
        revert hm
        generalize (args.map ρ).toList = l
        intro hm
        cases l with
        | nil => trivial
        | cons v l =>
          have hv := hm v List.mem_cons_self
          have hl := fun u hu => hm u (List.mem_cons_of_mem _ hu)
          clear hm
          simp only []
          have key : ∀ (l : List Value) (v : Value), (match v with | .int .. | .tuple _ => true | _ => false) = true → (∀ v ∈ l, (match v with | .int .. | .tuple _ => true | _ => false) = true) → quiet P ld (fun _ => True) (l.foldlM Builtin.min2 v) := by
            intro l
            induction l with
            | nil => intro v _ _; rw [List.foldlM_nil]; trivial
            | cons u l ih =>
              intro v hv hl
              rw [List.foldlM_cons]
              have hu := hl u List.mem_cons_self
              refine quiet_bindL (leaf := fun v => (match v with | .int .. | .tuple _ => true | _ => false) = true) ?_ fun a ha => ih a ha fun u hu => hl u (List.mem_cons_of_mem _ hu)
              cases v <;> (try (cases hv; done)) <;> cases u <;> (try (cases hu; done)) <;> first | trivial | exact rfl
          exact key l v hv hl
      case max =>
        refine q_value ?_
        simp only [Array.all_eq_true_iff_forall_mem] at h
        unfold Builtin.max_
        have hm : ∀ v ∈ (args.map ρ).toList, (match v with | .int .. | .tuple _ => true | _ => false) = true := fun v hv => by
          simp only [Array.mem_toList_iff, Array.mem_map] at hv
          obtain ⟨x, hx, rfl⟩ := hv
          exact h x hx
        revert hm
        generalize (args.map ρ).toList = l
        intro hm
        cases l with
        | nil => trivial
        | cons v l =>
          have hv := hm v List.mem_cons_self
          have hl := fun u hu => hm u (List.mem_cons_of_mem _ hu)
          clear hm
          simp only []
          have key : ∀ (l : List Value) (v : Value), (match v with | .int .. | .tuple _ => true | _ => false) = true → (∀ v ∈ l, (match v with | .int .. | .tuple _ => true | _ => false) = true) → quiet P ld (fun _ => True) (l.foldlM Builtin.max2 v) := by
            intro l
            induction l with
            | nil => intro v _ _; rw [List.foldlM_nil]; trivial
            | cons u l ih =>
              intro v hv hl
              rw [List.foldlM_cons]
              have hu := hl u List.mem_cons_self
              refine quiet_bindL (leaf := fun v => (match v with | .int .. | .tuple _ => true | _ => false) = true) ?_ fun a ha => ih a ha fun u hu => hl u (List.mem_cons_of_mem _ hu)
              cases v <;> (try (cases hv; done)) <;> cases u <;> (try (cases hu; done)) <;> first | trivial | exact rfl
          exact key l v hv hl

theorem q_loadCells (a : Addr) : ∀ (n i : Nat) (acc : Array Value), quiet P true (fun _ => True) (loadCellsFrom a i n acc)
  | 0, _, _ => trivial
  | n + 1, i, _ => .inl ⟨rfl, fun _ => q_loadCells a n (i + 1) _⟩
/-- A LOAD. -/
theorem load_op {ρ : Operand → Value} {o : Oper} {t : TypeId} {x : Operand} (h : o.op = .load t x) : quiet P true isValue (execOp ρ o) := by
  obtain ⟨dst, op, type, pos, after, guard⟩ := o
  simp only at h
  subst h
  unfold execOp
  refine q_value ?_
  unfold Instr.loadAt
  refine quiet_bind' (q_sureAddr _) fun a => ?_
  unfold loadVar
  refine quiet_bind' (q_isAgg t) fun b => ?_
  split
  · exact quiet_bind' (q_mono (q_sizeOf t)) fun n => quiet_bind' (q_loadCells a _ _ _) fun _ => trivial
  · exact .inl ⟨rfl, fun _ => trivial⟩

theorem g_of_quiet {α : Type} {leaf : α → Prop} : ∀ (s : Sem α), quiet P ld leaf s → grows P leaf s := by
  intro s
  induction s with
  | pure a => intro h; exact h
  | load m a k ih =>
    intro h v
    rcases h with ⟨_, h⟩ | h
    · exact ih v (h v)
    · exact grows_of_dead _ (h v)
  | program k ih => intro h; exact ih _ h
  | mark m k ih => intro h; exact ih h
  | halt h => intro _; trivial
  | store m a v k ih => intro h; exact h
  | new o k ih => intro h; exact grows_of_dead (.new o k) h
  | shape r k ih => intro h; exact grows_of_dead (.shape r k) h
  | freeze a n k ih => intro h; exact h
  | frozen a k ih => intro h; exact grows_of_dead (.frozen a k) h
  | getObj r k ih => intro h; exact grows_of_dead (.getObj r k) h
  | setObj r o k ih => intro h; exact h
  | choose q k ih => intro h; exact grows_of_dead (.choose q k) h
  | sys c k ih => intro h; exact h
theorem g_bind {α β : Type} {leaf' : β → Prop} {s : Sem α} {f : α → Sem β} (hs : grows P (fun _ => True) s) (hf : ∀ a, grows P leaf' (f a)) : grows P leaf' (s >>= f) := grows_bind f (fun a _ => hf a) s hs
theorem g_q {α β : Type} {leaf : α → Prop} {leaf' : β → Prop} {s : Sem α} {f : α → Sem β} (hs : quiet P true leaf s) (hf : ∀ a, leaf a → grows P leaf' (f a)) : grows P leaf' (s >>= f) := grows_bind f hf s (g_of_quiet s hs)
theorem g_dead {α : Type} {leaf : α → Prop} {s : Sem α} (h : dead P s) : grows P leaf s := grows_of_dead s h
theorem g_value {s : Sem Value} (h : grows P (fun _ => True) s) : grows P isValue (do pure (Next.value (← s))) := g_bind h fun a => ⟨a, rfl⟩
theorem q_askRoom (n : Nat) : quiet P true (fun _ => True) (askRoom n) := by unfold askRoom; split <;> trivial
theorem g_newRow (e : TypeId) (c : Array Value) : grows P (fun _ => True) (newRow e c) := fun _ => trivial
/-- WHAT MAKES A BLOCK. -/
theorem grow_op {ρ : Operand → Value} {o : Oper} (h : kindOf P o.op = 2) : grows P isValue (execOp ρ o) := by
  obtain ⟨dst, op, type, pos, after, guard⟩ := o
  have hc : ∀ c, op = .call c → False := fun c e => by
    subst e
    simp only at h
    unfold kindOf at h
    split at h <;> first | contradiction | (cases h; done) | (split at h <;> first | (cases h; done) | (split at h <;> cases h))
  cases op <;> (try (cases h; done)) <;> unfold execOp
  case alloc e =>
    refine g_value ?_
    unfold Instr.alloc
    refine g_q (q_zero e) fun z _ => ?_
    simp only []
    exact g_bind (g_newRow _ _) fun _ => trivial
  case box e x =>
    refine g_value ?_
    exact g_bind (g_newRow _ _) fun _ => trivial
  case buildSlice t n ps =>
    refine g_value ?_
    unfold Instr.buildSlice
    refine g_q (q_underlying t) fun d _ => ?_
    split
    · refine g_q (q_mono (q_sizeOf _)) fun n _ => ?_
      (repeat first | trivial | exact g_dead (dead_bind _ _ (dead_unsup _)) | exact g_dead (dead_bind _ _ (dead_stuck _)) | exact g_dead (dead_panic _) | exact g_dead (dead_bind _ _ (dead_panic _)) | exact g_dead (dead_then _ (fun _ => dead_panic _) _) | exact g_dead (dead_then _ (fun _ => dead_bind _ _ (dead_panic _)) _) | (refine g_q (q_zero _) fun _ _ => ?_) | (refine g_q (q_sizeOf _) fun _ _ => ?_) | (refine g_q (q_askRoom _) fun _ _ => ?_) | (refine g_bind (g_newRow _ _) fun _ => ?_) | (refine g_q (leaf := fun _ => True) trivial fun _ _ => ?_) | (dsimp only) | split)
    · trivial
  case makeSlice t l c =>
    refine g_value ?_
    unfold Instr.makeSlice
    refine g_q (q_underlying t) fun d _ => ?_
    split
    · refine g_q (quiet_bind' (q_asIntOf _) fun _ => quiet_pure trivial : quiet P true (fun _ => True) (asInt _)) fun l _ => g_q (quiet_bind' (q_asIntOf _) fun _ => quiet_pure trivial : quiet P true (fun _ => True) (asInt _)) fun c _ => g_q (q_typeInfo _) fun i _ => ?_
      (repeat first | trivial | exact g_dead (dead_bind _ _ (dead_unsup _)) | exact g_dead (dead_bind _ _ (dead_stuck _)) | exact g_dead (dead_panic _) | exact g_dead (dead_bind _ _ (dead_panic _)) | exact g_dead (dead_then _ (fun _ => dead_panic _) _) | exact g_dead (dead_then _ (fun _ => dead_bind _ _ (dead_panic _)) _) | (refine g_q (q_zero _) fun _ _ => ?_) | (refine g_q (q_sizeOf _) fun _ _ => ?_) | (refine g_q (q_askRoom _) fun _ _ => ?_) | (refine g_bind (g_newRow _ _) fun _ => ?_) | (refine g_q (leaf := fun _ => True) trivial fun _ _ => ?_) | (dsimp only) | split)
    · trivial
  case makeMap t r =>
    cases r with
    | some r => cases h
    | none => exact g_value (fun _ => trivial)
  case convert =>
    exfalso
    unfold kindOf at h
    simp only [] at h
    split at h <;> cases h
  case call c => exact (hc c rfl).elim
end
end Go.Proofs.Ytbcifjjnnbefkaa
