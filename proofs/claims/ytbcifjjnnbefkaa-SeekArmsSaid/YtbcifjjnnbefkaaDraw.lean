/-
  A region that draws its order is walked once, in the text's order. Conditions: a closed fact on the region ('lexOk'), that its post bears neither a panic nor a want of room, and a fact on the frame at its end.
-/
import Derived.Test.YtbcifjjnnbefkaaKinds
namespace Go.Proofs.Ytbcifjjnnbefkaa

section
variable {P : Program} {ops : Array Oper} {Q : Exit → Act → World → Prop}

/-- No way out but the code's own. -/
structure Calm (Q : Exit → Act → World → Prop) : Prop where
  panic : ∀ c a w, ¬ Q (.panic c) a w
  out : ∀ a w, ¬ Q .outgrown a w

theorem wpOp_ex (hc : Calm Q) {i : Nat} {o : Oper} (ho : ops[i]? = some o) {X : Act → World → Prop} {a : Act} {w : World} (h : wpOp P ops Q i X a w) :
    ∃ a1 w1, X a1 w1 ∧ ∃ ds v, a1 = ({ a with defers := ds } : Act).put o.dst v := by
  unfold wpOp at h
  simp only [ho] at h
  split at h
  · rcases h with h | ⟨_, a0, w0, h⟩
    case inr => exact (hc.out _ _ h).elim
    unfold Oper.wp at h
    generalize (execOp a.eval o).run P w = r at h
    cases r with
    | ok n w' =>
      cases n <;> simp only [Oper.upon] at h <;> first
        | exact ⟨_, _, h, a.defers, _, rfl⟩
        | exact ⟨_, _, h, _, _, rfl⟩
        | skip
      case enter f args =>
        obtain ⟨e, w'', fr, hR, _⟩ := h []
        cases e with
        | returned v => exact ⟨_, _, hR, a.defers, _, rfl⟩
        | panicked c => exact (hc.panic _ _ _ hR).elim
        | outgrown => obtain ⟨a0, w0, h⟩ := hR; exact (hc.out _ _ h).elim
      case row row args =>
        obtain ⟨v, w'', hR, _⟩ := h default []
        exact ⟨_, _, hR, a.defers, _, rfl⟩
    | halt x w' =>
      cases x <;> simp only [Oper.upon] at h
      exact (hc.panic _ _ _ h).elim
  · exact ⟨_, _, h, a.defers, _, rfl⟩

theorem wpOp_form {i : Nat} {o : Oper} (ho : ops[i]? = some o) {X : Act → World → Prop} {a : Act} {w : World} (h : wpOp P ops Q i X a w) :
    wpOp P ops Q i (fun a1 w1 => (∃ ds v, a1 = ({ a with defers := ds } : Act).put o.dst v) ∧ X a1 w1) a w := by
  unfold wpOp at h ⊢
  simp only [ho] at h ⊢
  split
  · rename_i hw
    simp only [hw, if_true] at h
    refine h.imp (fun h => ?_) id
    unfold Oper.wp at h ⊢
    generalize (execOp a.eval o).run P w = r at h ⊢
    cases r with
    | ok n w' =>
      cases n <;> simp only [Oper.upon] at h ⊢ <;> first
        | exact ⟨⟨a.defers, _, rfl⟩, h⟩
        | exact ⟨⟨_, _, rfl⟩, h⟩
        | skip
      case enter f args =>
        refine Calls.mono h fun e w'' he => ?_
        cases e with
        | returned v => exact ⟨⟨a.defers, _, rfl⟩, he⟩
        | panicked c => exact he
        | outgrown => exact he
      case row row args => exact Go.Rows.mono h fun v w'' he => ⟨⟨a.defers, _, rfl⟩, he⟩
    | halt x w' => cases x <;> exact h
  · rename_i hw
    simp only [hw] at h
    exact ⟨⟨a.defers, _, rfl⟩, h⟩

/-- What is in its temporary already makes no difference to an operation that lies apart. -/
theorem wpOp_push {j : Nat} {oi oj : Oper} {v : Value} (hj : ops[j]? = some oj) (hap : oi.apart ops oj = true) (hsj : ∀ cs b, oj.op ≠ .select cs b)
    (hc : Calm Q) {K : Act → World → Prop} {a : Act} {w : World} (h : wpOp P ops Q j (fun a' w' => K (a'.put oi.dst v) w') a w) : wpOp P ops Q j K (a.put oi.dst v) w := by
  obtain ⟨h1, h2, h3⟩ := Oper.apart_spec hap
  unfold wpOp at *
  simp only [hj] at *
  rw [wanted_put oj a oi.dst v h1]
  split
  · rename_i hw
    simp only [hw, if_true] at h
    rcases h with h | ⟨_, a0, w0, h⟩
    case inr => exact (hc.out _ _ h).elim
    refine .inl ?_
    unfold Oper.wp at *
    rw [execOp_put oj hsj a oi.dst v h1]
    generalize (execOp a.eval oj).run P w = r at *
    cases r with
    | ok n w' =>
      cases n <;> simp only [Oper.upon] at h ⊢
      case value u => rw [Act.put_comm a v u h2]; exact h
      case skip => rw [Act.put_comm a v undef h2]; exact h
      case defer d => rw [Act.put_defers, Act.put_comm _ v undef h2]; exact h
      case enter f args =>
        refine Calls.mono h fun e w'' he => ?_
        cases e with
        | returned u => show K ((a.put oi.dst v).put oj.dst u) w''; rw [Act.put_comm a v u h2]; exact he
        | panicked c => exact (hc.panic _ _ _ he).elim
        | outgrown => exact he
      case row row args => exact Go.Rows.mono h fun u w'' he => by rw [Act.put_comm a v u h2]; exact he
    | halt x w' =>
      cases x <;> simp only [Oper.upon] at h ⊢
      exact (hc.panic _ _ _ h).elim
  · rename_i hw
    simp only [hw] at h
    show K ((a.put oi.dst v).put oj.dst undef) w
    rw [Act.put_comm a v undef h2]
    exact h

/-- The frame at the region's end bears out that what only computes did only compute. -/
def okFrame (P : Program) (ops : Array Oper) (a : Act) : Bool := ops.all fun o => kindOf P o.op != 0 || flatAt P a.eval o.op
def Fin (P : Program) (ops : Array Oper) (Q : Exit → Act → World → Prop) : Exit → Act → World → Prop
  | .normal, a, w => okFrame P ops a = true ∧ Q .normal a w
  | e, a, w => Q e a w
theorem Calm.fin (hc : Calm Q) : Calm (Fin P ops Q) := ⟨hc.panic, hc.out⟩

theorem wpOps_ex (hc : Calm Q) : ∀ (L : List Nat) (a : Act) (w : World), wpOps P ops Q L a w →
    ∃ a' w', Q .normal a' w' ∧ ∀ t : Tmp, (∀ k ∈ L, ∀ o, ops[k]? = some o → o.dst ≠ some t) → a'.eval (.tmp t) = a.eval (.tmp t)
  | [], a, w, h => ⟨a, w, h, fun _ _ => rfl⟩
  | i :: L, a, w, h => by
    rw [wpOps_cons] at h
    cases ho : ops[i]? with
    | none =>
      unfold wpOp at h
      simp only [ho] at h
      obtain ⟨a', w', hq, ht⟩ := wpOps_ex hc L a w h
      exact ⟨a', w', hq, fun t hk => ht t fun k hk' => hk k (List.mem_cons_of_mem _ hk')⟩
    | some o =>
      obtain ⟨a1, w1, h1, ds, v, rfl⟩ := wpOp_ex hc ho h
      obtain ⟨a', w', hq, ht⟩ := wpOps_ex hc L _ w1 h1
      refine ⟨a', w', hq, fun t hk => (ht t fun k hk' => hk k (List.mem_cons_of_mem _ hk')).trans ?_⟩
      have := hk i List.mem_cons_self o ho
      exact (Act.eval_put (a := { a with defers := ds }) fun d hd e => this (by cases e; exact hd))

theorem flatAt_congr {ρ ρ' : Operand → Value} (o : Op) (h : ∀ x ∈ o.operands, ρ x = ρ' x) : flatAt P ρ o = flatAt P ρ' o := by
  have harr : ∀ (args : Array Operand), (∀ x ∈ args, ρ x = ρ' x) → (args.all fun x => match ρ x with | .int .. | .tuple _ => true | _ => false) = (args.all fun x => match ρ' x with | .int .. | .tuple _ => true | _ => false) := fun args h => by
    rw [Bool.eq_iff_iff, Array.all_eq_true_iff_forall_mem, Array.all_eq_true_iff_forall_mem]
    exact ⟨fun H x hx => by rw [← h x hx]; exact H x hx, fun H x hx => by rw [h x hx]; exact H x hx⟩
  cases o <;> try rfl
  case nilCheck x => simp only [flatAt, h x (by simp [Op.operands])]
  case binOp op t x y y' => simp only [flatAt, h x (by simp [Op.operands]), h y (by simp [Op.operands])]
  case convert s d x => simp only [flatAt, h x (by simp [Op.operands])]
  case call c =>
    obtain ⟨callee, args, argTypes⟩ := c
    cases callee with
    | value f => rfl
    | invoke r m => rfl
    | builtin b =>
      cases b <;> try rfl
      · exact harr args fun x hx => h x (by simp [Op.operands, Call.operands, hx])
      · exact harr args fun x hx => h x (by simp [Op.operands, Call.operands, hx])

/-- In the end it only computed: so it does here. -/
theorem flat_now (hc : Calm Q) {j : Nat} {oj : Oper} (hj : ops[j]? = some oj) (hk : kindOf P oj.op = 0) {L : List Nat} (hst : ∀ t, Operand.tmp t ∈ oj.op.operands → ∀ k ∈ L, ∀ o, ops[k]? = some o → o.dst ≠ some t)
    {a : Act} {w : World} (h : wpOps P ops (Fin P ops Q) L a w) : flatAt P a.eval oj.op = true := by
  obtain ⟨a', w', ⟨hf, _⟩, ht⟩ := wpOps_ex hc.fin L a w h
  have h1 := Array.all_eq_true_iff_forall_mem.1 hf oj (Array.mem_of_getElem? hj)
  rw [hk] at h1
  have h2 : flatAt P a'.eval oj.op = true := by simpa using h1
  rw [← h2]
  refine flatAt_congr _ fun x hx => ?_
  cases x with
  | tmp t => exact (ht t (hst t hx)).symm
  | const v => rfl
  | global g => rfl
  | func f => rfl

theorem yields_of (hc : Calm Q) {j : Nat} {oj : Oper} (hj : ops[j]? = some oj) {a : Act} {w : World} (hf : flatAt P a.eval oj.op = true) {X : Act → World → Prop} (h : wpOp P ops Q j X a w) :
    ∃ v, Yields P ops oj v a ∧ X (a.put oj.dst v) w := by
  unfold wpOp at h
  simp only [hj] at h
  split at h
  · rename_i hw
    rcases h with h | ⟨_, a0, w0, h⟩
    case inr => exact (hc.out _ _ h).elim
    unfold Oper.wp at h
    cases hr : (execOp a.eval oj).run P w with
    | ok n w1 =>
      obtain ⟨rfl, ⟨v, rfl⟩, hall⟩ := flat_run _ w (flat_op (P := P) (ld := false) hf) _ _ hr
      rw [hr] at h
      exact ⟨v, .inl ⟨hw, hall⟩, h⟩
    | halt x w1 =>
      rw [hr] at h
      cases x <;> simp only [Oper.upon] at h
      exact (hc.panic _ _ _ h).elim
  · rename_i hw
    exact ⟨undef, .inr ⟨by simpa using hw, rfl⟩, h⟩
theorem yields_det (hc : Calm Q) {j : Nat} {oj : Oper} (hj : ops[j]? = some oj) {a : Act} {w : World} {v : Value} (hy : Yields P ops oj v a) {X : Act → World → Prop} (h : wpOp P ops Q j X a w) : X (a.put oj.dst v) w := by
  unfold wpOp at h
  simp only [hj] at h
  rcases hy with ⟨hw, hv⟩ | ⟨hw, rfl⟩
  · simp only [hw, if_true] at h
    rcases h with h | ⟨_, a0, w0, h⟩
    case inr => exact (hc.out _ _ h).elim
    unfold Oper.wp at h
    rw [hv w] at h
    exact h
  · simp only [hw] at h
    exact h

/-- What an operation yields here, and in every world that has grown since. -/
def StillAt (P : Program) (ops : Array Oper) (o : Oper) (v : Value) (a : Act) (w : World) : Prop :=
  (Region.wanted o (yielded ops a.tmps) = true ∧ ∀ w2, Ext w w2 → (execOp a.eval o).run P w2 = .ok (.value v) w2) ∨ (Region.wanted o (yielded ops a.tmps) = false ∧ v = undef)
theorem StillAt.wpOp {i : Nat} {o : Oper} {v : Value} {a : Act} {w w2 : World} (hi : ops[i]? = some o) (hy : StillAt P ops o v a w) (hx : Ext w w2) {K : Act → World → Prop} (h : K (a.put o.dst v) w2) : wpOp P ops Q i K a w2 := by
  unfold Go.wpOp
  simp only [hi]
  rcases hy with ⟨hw, hv⟩ | ⟨hw, rfl⟩
  · simp only [hw, if_true, Oper.wp, hv w2 hx, Oper.upon]; exact .inl h
  · simp only [hw, Bool.false_eq_true, if_false]; exact h
theorem load_of (hc : Calm Q) {j : Nat} {oj : Oper} (hj : ops[j]? = some oj) (hk : kindOf P oj.op = 1) {a : Act} {w : World} {X : Act → World → Prop} (h : wpOp P ops Q j X a w) :
    ∃ v, StillAt P ops oj v a w ∧ X (a.put oj.dst v) w := by
  have hl : ∃ t x, oj.op = .load t x := by
    cases ho : oj.op <;> rw [ho] at hk <;> unfold kindOf at hk <;> (try (cases hk; done)) <;> (try (exact ⟨_, _, rfl⟩)) <;> simp only [] at hk <;> exfalso <;> (split at hk <;> first | contradiction | (cases hk; done) | (split at hk <;> first | (cases hk; done) | (split at hk <;> cases hk)))
  obtain ⟨t, x, ho⟩ := hl
  unfold wpOp at h
  simp only [hj] at h
  split at h
  · rename_i hw
    rcases h with h | ⟨_, a0, w0, h⟩
    case inr => exact (hc.out _ _ h).elim
    unfold Oper.wp at h
    cases hr : (execOp a.eval oj).run P w with
    | ok n w1 =>
      obtain ⟨rfl, ⟨v, rfl⟩, hall⟩ := quiet_run _ w (load_op (P := P) ho) _ _ hr
      rw [hr] at h
      exact ⟨v, .inl ⟨hw, hall⟩, h⟩
    | halt x w1 =>
      rw [hr] at h
      cases x <;> simp only [Oper.upon] at h
      exact (hc.panic _ _ _ h).elim
  · rename_i hw
    exact ⟨undef, .inr ⟨by simpa using hw, rfl⟩, h⟩
/-- An operation that makes blocks at most, behind one that loads: the load may come later. -/
theorem wpOp_late {i : Nat} {oi oj : Oper} {v : Value} (hi : ops[i]? = some oi) (hap : oj.apart ops oi = true) (hsi : ∀ cs b, oi.op ≠ .select cs b) (hsj : ∀ cs b, oj.op ≠ .select cs b) (hk : kindOf P oi.op = 1 ∨ kindOf P oi.op = 2)
    (hc : Calm Q) {K : Act → World → Prop} {a : Act} {w : World} (hy : StillAt P ops oj v a w) (h : wpOp P ops Q i K (a.put oj.dst v) w) :
    wpOp P ops Q i (fun a' w' => (∃ w0, Ext w0 w' ∧ StillAt P ops oj v a' w0) ∧ K (a'.put oj.dst v) w') a w := by
  obtain ⟨h1, h2, h3⟩ := Oper.apart_spec hap
  have keep : ∀ u, StillAt P ops oj v (a.put oi.dst u) w := fun u => by
    unfold StillAt at hy ⊢
    rw [execOp_put oj hsj a oi.dst u h3, wanted_put oj a oi.dst u h3]
    exact hy
  unfold wpOp at *
  simp only [hi] at *
  rw [wanted_put oi a oj.dst v h1] at h
  split
  · rename_i hw
    simp only [hw, if_true] at h
    rcases h with h | ⟨_, a0, w0, h⟩
    case inr => exact (hc.out _ _ h).elim
    refine .inl ?_
    unfold Oper.wp at *
    rw [execOp_put oi hsi a oj.dst v h1] at h
    cases hr : (execOp a.eval oi).run P w with
    | ok n w1 =>
      have hx : Ext w w1 ∧ isValue n := by
        rcases hk with hk | hk
        · have hl : ∃ t x, oi.op = .load t x := by
            cases ho : oi.op <;> rw [ho] at hk <;> unfold kindOf at hk <;> (try (cases hk; done)) <;> (try (exact ⟨_, _, rfl⟩)) <;> simp only [] at hk <;> exfalso <;> (split at hk <;> first | contradiction | (cases hk; done) | (split at hk <;> first | (cases hk; done) | (split at hk <;> cases hk)))
          obtain ⟨t, x, ho⟩ := hl
          obtain ⟨rfl, hv, _⟩ := quiet_run _ w (load_op (P := P) ho) _ _ hr
          exact ⟨Ext.refl _, hv⟩
        · exact grows_run _ w (grow_op hk) _ _ hr
      obtain ⟨hx, u, rfl⟩ := hx
      rw [hr] at h
      simp only [Oper.upon] at h ⊢
      exact ⟨⟨w, hx, keep u⟩, by rw [← Act.put_comm a v u h2]; exact h⟩
    | halt x w1 =>
      rw [hr] at h
      cases x <;> simp only [Oper.upon] at h
      exact (hc.panic _ _ _ h).elim
  · rename_i hw
    simp only [hw] at h
    exact ⟨⟨w, Ext.refl _, keep _⟩, by rw [← Act.put_comm a v undef h2]; exact h⟩

/-- Two operations that may come in either order. -/
def pairOk (P : Program) (ops : Array Oper) (oj oi : Oper) : Bool :=
  oj.apart ops oi && oi.apart ops oj && (kindOf P oj.op == 0 || kindOf P oi.op == 0 || (kindOf P oj.op == 1 && (kindOf P oi.op == 1 || kindOf P oi.op == 2)))

theorem swap (hc : Calm Q) (hs : Region.noSelect ops = true) {i j : Nat} {oi oj : Oper} (hi : ops[i]? = some oi) (hj : ops[j]? = some oj) (hp : pairOk P ops oj oi = true) {rest : List Nat}
    (hstj : kindOf P oj.op = 0 → ∀ t, Operand.tmp t ∈ oj.op.operands → ∀ k ∈ j :: i :: rest, ∀ o, ops[k]? = some o → o.dst ≠ some t)
    (hsti : kindOf P oi.op = 0 → ∀ t, Operand.tmp t ∈ oi.op.operands → ∀ k ∈ i :: rest, ∀ o, ops[k]? = some o → o.dst ≠ some t)
    {a : Act} {w : World} (h : wpOps P ops (Fin P ops Q) (j :: i :: rest) a w) : wpOps P ops (Fin P ops Q) (i :: j :: rest) a w := by
  simp only [pairOk, Bool.and_eq_true, Bool.or_eq_true, beq_iff_eq] at hp
  obtain ⟨⟨ap1, ap2⟩, hk⟩ := hp
  have hsi := fun cs b => Region.noSelect_spec hs i oi cs b hi
  have hsj := fun cs b => Region.noSelect_spec hs j oj cs b hj
  have hcF : Calm (Fin P ops Q) := hc.fin
  rw [wpOps_cons]
  by_cases kj : kindOf P oj.op = 0
  · have hf := flat_now hc hj kj (hstj kj) h
    rw [wpOps_cons] at h
    obtain ⟨v, hy, h⟩ := yields_of hcF hj hf h
    rw [wpOps_cons] at h
    have h2 := wpOp_put hi ap1 hsj hsi (fun c a w h => (hcF.panic _ _ _ h).elim) hy h
    refine wpOp_mono (fun a' w' h3 => ?_) h2
    rw [wpOps_cons]
    exact h3.1.wpOp hj h3.2
  · by_cases ki : kindOf P oi.op = 0
    · rw [wpOps_cons] at h
      obtain ⟨h1, h2, h3⟩ := Oper.apart_spec ap1
      obtain ⟨a1, w1, hx, ds, v1, rfl⟩ := wpOp_ex hcF hj h
      have hf := flat_now hc hi ki (hsti ki) hx
      rw [wpOps_cons] at hx
      obtain ⟨u, hy, _⟩ := yields_of hcF hi hf hx
      have hya : Yields P ops oi u a := hy.of_same (execOp_put oi hsi { a with defers := ds } oj.dst v1 h1).symm (wanted_put oi { a with defers := ds } oj.dst v1 h1).symm
      have h4 := wpOp_mono (K' := fun a1 w1 => wpOps P ops (Fin P ops Q) rest (a1.put oi.dst u) w1) (fun a1 w1 h5 => by
        obtain ⟨⟨ds, v, rfl⟩, h5⟩ := h5
        rw [wpOps_cons] at h5
        exact yields_det hcF hi (hya.of_same (execOp_put oi hsi { a with defers := ds } oj.dst v h1) (wanted_put oi { a with defers := ds } oj.dst v h1)) h5) (wpOp_form hj h)
      refine hya.wpOp hi ?_
      rw [wpOps_cons]
      exact wpOp_push hj ap2 hsj hcF h4
    · have kj1 : kindOf P oj.op = 1 := by rcases hk with (h | h) | h; (exact absurd h kj); (exact absurd h ki); exact h.1
      have ki1 : kindOf P oi.op = 1 ∨ kindOf P oi.op = 2 := by rcases hk with (h | h) | h; (exact absurd h kj); (exact absurd h ki); exact h.2
      rw [wpOps_cons] at h
      obtain ⟨v, hy, h⟩ := load_of hcF hj kj1 h
      rw [wpOps_cons] at h
      have h2 := wpOp_late hi ap1 hsi hsj ki1 hcF hy h
      refine wpOp_mono (fun a' w' h3 => ?_) h2
      obtain ⟨⟨w0, hx, hy⟩, h3⟩ := h3
      rw [wpOps_cons]
      exact hy.wpOp hj hx h3

/-- Does j come ahead of i, by the edges? -/
def reach (ops : Array Oper) : Nat → Nat → Nat → Bool
  | 0, _, _ => false
  | f + 1, j, i => match ops[i]? with | none => false | some o => o.after.any fun e => Region.binds .any e && (e.on == j || reach ops f j e.on)
theorem reach_listed {listed : Array Bool} (hd : ∀ k, k < ops.size → listed.getD k false = true → ∀ o, ops[k]? = some o → ∀ e ∈ o.after, Region.binds .any e = true → listed.getD e.on false = true) :
    ∀ (f j i : Nat), reach ops f j i = true → (∀ o, ops[i]? = some o → ∀ e ∈ o.after, Region.binds .any e = true → listed.getD e.on false = true) → listed.getD j false = true
  | 0, _, _, h, _ => by cases h
  | f + 1, j, i, h, hi => by
    unfold reach at h
    cases ho : ops[i]? with
    | none => rw [ho] at h; cases h
    | some o =>
      rw [ho] at h
      obtain ⟨e, he, hb⟩ := Array.any_eq_true'.1 h
      simp only [Bool.and_eq_true, Bool.or_eq_true, beq_iff_eq] at hb
      have hl := hi o ho e he hb.1
      rcases hb.2 with e1 | hr
      · rw [← e1]; exact hl
      · refine reach_listed hd f j e.on hr fun o' ho' e' he' hb' => ?_
        have hlt : e.on < ops.size := (Array.getElem?_eq_some_iff.1 ho').1
        exact hd e.on hlt hl o' ho' e' he' hb'

def isTmp (t : Tmp) : Operand → Bool
  | .tmp u => u == t
  | _ => false
def tmpIn (o : Op) (d : Option Tmp) : Bool := match d with
  | some t => o.operands.any (isTmp t)
  | none => false
/-- What is asked of a region, once for all. -/
def lexOk (P : Program) (ops : Array Oper) : Bool :=
  Region.noSelect ops && (List.range ops.size).all fun i => match ops[i]? with
    | none => true
    | some oi => oi.after.all (fun e => !Region.binds .any e || decide (e.on < i)) &&
      (kindOf P oi.op != 0 || (List.range ops.size).all fun m => decide (m < i) || match ops[m]? with | none => true | some om => !tmpIn oi.op om.dst) &&
      (List.range i).all fun j => reach ops ops.size j i || match ops[j]? with | none => true | some oj => pairOk P ops oj oi
structure LexOk (P : Program) (ops : Array Oper) : Prop where
  sel : Region.noSelect ops = true
  back : ∀ (i : Nat) (oi : Oper), ops[i]? = some oi → ∀ e ∈ oi.after, Region.binds .any e = true → e.on < i
  keep : ∀ (i : Nat) (oi : Oper), ops[i]? = some oi → kindOf P oi.op = 0 → ∀ t, Operand.tmp t ∈ oi.op.operands → ∀ (m : Nat), i ≤ m → ∀ (om : Oper), ops[m]? = some om → om.dst ≠ some t
  pair : ∀ (i : Nat) (oi : Oper) (j : Nat) (oj : Oper), ops[i]? = some oi → ops[j]? = some oj → j < i → reach ops ops.size j i = true ∨ pairOk P ops oj oi = true
theorem tmpIn_spec {o : Op} {d : Option Tmp} (h : tmpIn o d = false) {t : Tmp} (ht : Operand.tmp t ∈ o.operands) : d ≠ some t := by
  rintro rfl
  unfold tmpIn at h
  have : (o.operands.any (isTmp t)) = true := Array.any_eq_true'.2 ⟨_, ht, by simp [isTmp]⟩
  change (o.operands.any (isTmp t)) = false at h
  rw [this] at h; cases h
theorem lexOk_spec (h : lexOk P ops = true) : LexOk P ops := by
  simp only [lexOk, Bool.and_eq_true, List.all_eq_true, List.mem_range] at h
  obtain ⟨h0, h⟩ := h
  have H : ∀ (i : Nat) (oi : Oper), ops[i]? = some oi → _ := fun i oi hi => by
    have := h i (Array.getElem?_eq_some_iff.1 hi).1
    rw [hi] at this
    exact this
  refine ⟨h0, fun i oi hi e he hb => ?_, fun i oi hi hk t ht m hm om hom => ?_, fun i oi j oj hi hj hlt => ?_⟩
  · have h1 := H i oi hi
    simp only [Bool.and_eq_true, Array.all_eq_true_iff_forall_mem, Bool.or_eq_true, Bool.not_eq_true', decide_eq_true_eq] at h1
    exact (h1.1.1 e he).resolve_left (by simp [hb])
  · have h1 := H i oi hi
    simp only [Bool.and_eq_true, Bool.or_eq_true, bne_iff_ne, ne_eq, List.all_eq_true, List.mem_range, decide_eq_true_eq] at h1
    have h2 := (h1.1.2.resolve_left (fun e => e hk)) m (Array.getElem?_eq_some_iff.1 hom).1
    rw [hom] at h2
    have h3 := h2.resolve_left (by omega)
    exact tmpIn_spec (by simpa using h3) ht
  · have h1 := H i oi hi
    simp only [Bool.and_eq_true, List.all_eq_true, List.mem_range, Bool.or_eq_true] at h1
    have h2 := h1.2 j hlt
    rw [hj] at h2
    exact h2

theorem bubble (hc : Calm Q) (ok : LexOk P ops) {i : Nat} {oi : Oper} (hi : ops[i]? = some oi) :
    ∀ (L1 L2 : List Nat), (∀ k ∈ L1, k < i) → (∀ k ∈ L2, i < k) → L1.Pairwise (· < ·) → (∀ k ∈ L1, ∀ ok, ops[k]? = some ok → pairOk P ops ok oi = true) → (∀ k ∈ L1, k < ops.size) → ∀ (a : Act) (w : World),
      wpOps P ops (Fin P ops Q) (L1 ++ i :: L2) a w → wpOps P ops (Fin P ops Q) (i :: (L1 ++ L2)) a w
  | [], _, _, _, _, _, _, a, w, h => h
  | j :: L1, L2, h1, h2, hp, hok, hlt, a, w, h => by
    have hjs : j < ops.size := hlt j List.mem_cons_self
    obtain ⟨oj, hj⟩ : ∃ oj, ops[j]? = some oj := ⟨_, Array.getElem?_eq_getElem hjs⟩
    have hpj := hok j List.mem_cons_self oj hj
    have hps := List.pairwise_cons.1 hp
    rw [List.cons_append, wpOps_cons] at h
    have h' := wpOp_mono (fun a w h => bubble hc ok hi L1 L2 (fun k hk => h1 k (List.mem_cons_of_mem _ hk)) h2 hps.2 (fun k hk => hok k (List.mem_cons_of_mem _ hk)) (fun k hk => hlt k (List.mem_cons_of_mem _ hk)) a w h) h
    rw [← wpOps_cons] at h'
    refine swap hc ok.sel hi hj hpj (fun kj t ht k hk o ho => ?_) (fun ki t ht k hk o ho => ?_) h'
    · refine ok.keep j oj hj kj t ht k ?_ o ho
      have hji := h1 j List.mem_cons_self
      have hk : k ∈ j :: i :: (L1 ++ L2) := hk
      simp only [List.mem_cons, List.mem_append] at hk
      rcases hk with rfl | rfl | hk | hk
      · exact Nat.le_refl _
      · omega
      · have := hps.1 k hk; omega
      · have := h2 k hk; omega
    · have hk : k ∈ i :: (L1 ++ L2) := hk
      simp only [List.mem_cons, List.mem_append] at hk
      rcases hk with rfl | hk | hk
      · exact ok.keep k oi hi ki t ht k (Nat.le_refl _) o ho
      · have hpk := hok k (List.mem_cons_of_mem _ hk) o ho
        simp only [pairOk, Bool.and_eq_true] at hpk
        obtain ⟨a1, _, _⟩ := Oper.apart_spec hpk.1.1
        intro e
        exact a1 t e (List.mem_append_left _ (List.mem_filterMap.2 ⟨.tmp t, by simpa using ht, rfl⟩))
      · exact ok.keep i oi hi ki t ht k (by have := h2 k hk; omega) o ho

theorem any_of_lex (hc : Calm Q) (ok : LexOk P ops) : ∀ (n : Nat) (L : List Nat) (listed : Array Bool) (a : Act) (w : World), L.length = n → L.Pairwise (· < ·) → (∀ k ∈ L, k < ops.size) → listed.size = ops.size → (∀ k, k < ops.size → (listed.getD k false = true ↔ k ∉ L)) →
    (∀ k, k < ops.size → k ∉ L → ∀ o, ops[k]? = some o → ∀ e ∈ o.after, Region.binds .any e = true → e.on ∉ L) →
    wpOps P ops (Fin P ops Q) L a w → wpAny P .any ops (Fin P ops Q) n listed a w := by
  intro n
  induction n with
  | zero =>
    intro L listed a w hl hp hlt hsz hli hcl h
    have : L = [] := List.eq_nil_of_length_eq_zero hl
    subst this
    refine ⟨List.eq_nil_iff_forall_not_mem.2 fun j hj => ?_, h⟩
    obtain ⟨h0, o, ho, _⟩ := mem_ready.1 hj
    have hjs := (Array.getElem?_eq_some_iff.1 ho).1
    have h1 := (hli j hjs).2 (by simp)
    simp [hsz, hjs] at h0 h1
    rw [h0] at h1; cases h1
  | succ n ih =>
    intro L listed a w hl hp hlt hsz hli hcl h
    have hun : ∀ k, k < ops.size → (listed.getD k true = false ↔ k ∈ L) := fun k hk => by
      have h1 := hli k hk
      have e : listed.getD k true = listed.getD k false := by simp [hsz, hk]
      rw [e]
      cases hb : listed.getD k false with
      | true => rw [hb] at h1; simp at h1; simp [h1]
      | false => rw [hb] at h1; simp at h1; simp [h1]
    have hdep : ∀ (k : Nat) (o : Oper), ops[k]? = some o → (∀ e ∈ o.after, Region.binds .any e = true → e.on ∉ L) → ∀ e ∈ o.after, Region.binds .any e = true → listed.getD e.on false = true := fun k o ho hh e he hb => by
      have hlt' := ok.back k o ho e he hb
      have hks := (Array.getElem?_eq_some_iff.1 ho).1
      exact (hli e.on (by omega)).2 (hh e he hb)
    refine ⟨fun h0 => ?_, fun i hi => ?_⟩
    · exfalso
      match L, hl with
      | k0 :: L', _ =>
        have hk0 := hlt k0 List.mem_cons_self
        obtain ⟨o, ho⟩ : ∃ o, ops[k0]? = some o := ⟨_, Array.getElem?_eq_getElem hk0⟩
        have hr : k0 ∈ Region.ready .any ops listed := mem_ready.2 ⟨(hun k0 hk0).2 List.mem_cons_self, o, ho, hdep k0 o ho fun e he hb => by
          have := ok.back k0 o ho e he hb
          intro hm
          rcases List.mem_cons.1 hm with e1 | hm
          · omega
          · have := (List.pairwise_cons.1 hp).1 _ hm; omega⟩
        rw [h0] at hr; cases hr
    · obtain ⟨h0, oi, hoi, hall⟩ := mem_ready.1 hi
      have his := (Array.getElem?_eq_some_iff.1 hoi).1
      have hiL := (hun i his).1 h0
      obtain ⟨L1, L2, rfl⟩ := List.append_of_mem hiL
      have hp1 := List.pairwise_append.1 hp
      have hp2 := List.pairwise_cons.1 hp1.2.1
      have h1 : ∀ k ∈ L1, k < i := fun k hk => hp1.2.2 k hk i List.mem_cons_self
      have h2 : ∀ k ∈ L2, i < k := fun k hk => hp2.1 k hk
      have hdown : ∀ k, k < ops.size → listed.getD k false = true → ∀ o, ops[k]? = some o → ∀ e ∈ o.after, Region.binds .any e = true → listed.getD e.on false = true := fun k hk hl o ho =>
        hdep k o ho (hcl k hk ((hli k hk).1 hl) o ho)
      have hb := bubble hc ok hoi L1 L2 h1 h2 hp1.1 (fun k hk ok' hok' => by
        rcases ok.pair i oi k ok' hoi hok' (h1 k hk) with hr | hr
        · exfalso
          have hlk := reach_listed hdown ops.size k i hr fun o ho => by rw [hoi] at ho; cases ho; exact hall
          exact ((hli k (hlt k (List.mem_append_left _ hk))).1 hlk) (List.mem_append_left _ hk)
        · exact hr) (fun k hk => hlt k (List.mem_append_left _ hk)) a w h
      rw [wpOps_cons] at hb
      have hni : i ∉ L1 ++ L2 := fun hm => by
        rcases List.mem_append.1 hm with hm | hm
        · have := h1 i hm; omega
        · have := h2 i hm; omega
      have hmem : ∀ k, k ∈ L1 ++ L2 ↔ k ∈ L1 ++ i :: L2 ∧ k ≠ i := fun k => by
        constructor
        · intro hm
          refine ⟨?_, fun e => hni (e ▸ hm)⟩
          rcases List.mem_append.1 hm with hm | hm
          · exact List.mem_append_left _ hm
          · exact List.mem_append_right _ (List.mem_cons_of_mem _ hm)
        · rintro ⟨hm, hne⟩
          rcases List.mem_append.1 hm with hm | hm
          · exact List.mem_append_left _ hm
          · rcases List.mem_cons.1 hm with e | hm
            · exact absurd e hne
            · exact List.mem_append_right _ hm
      refine wpOp_mono (fun a w h => ih (L1 ++ L2) _ a w ?_ ?_ ?_ ?_ ?_ ?_ h) hb
      · simp at hl ⊢; omega
      · exact List.pairwise_append.2 ⟨hp1.1, hp2.2, fun x hx y hy => hp1.2.2 x hx y (List.mem_cons_of_mem _ hy)⟩
      · exact fun k hk => hlt k ((hmem k).1 hk).1
      · simpa using hsz
      · intro k hk
        rw [hmem]
        by_cases e : k = i
        · subst e; simp [hsz, hk]
        · rw [getD_set_ne false (Ne.symm e), hli k hk]; simp [e]
      · intro k hk hkn o ho e he hbe hm
        have hm' := ((hmem e.on).1 hm).1
        by_cases ek : k = i
        · subst ek
          rw [hoi] at ho; cases ho
          have := ok.back k oi hoi e he hbe
          exact ((hli e.on (by omega)).1 (hall e he hbe)) hm'
        · exact hcl k hk (fun h => hkn ((hmem k).2 ⟨h, ek⟩)) o ho e he hbe hm'

/-- THE LAW: one walk, in the text's order. -/
theorem wp_lex {id : Nat} {l : List Oper} {a : Act} {w : World} (hm : P.follows .mixedOrders = true) (hc : Calm Q) (hok : lexOk P l.toArray = true) (h : wpList P l.toArray (Fin P l.toArray Q) l a w.drew) :
    (Code.region id l.toArray true).wp P Q a w := by
  have h1 : (Code.region id l.toArray true).wp P (Fin P l.toArray Q) a w := by
    refine wp_region_any hm ?_
    refine any_of_lex hc (lexOk_spec hok) _ (List.range l.toArray.size) _ a _ (by simp) (List.pairwise_lt_range) (fun k hk => List.mem_range.1 hk) (by simp) (fun k hk => ?_) (fun k hk hn => absurd (List.mem_range.2 hk) hn) ?_
    · have : k < l.length := by simpa using hk
      simp [this]
    · rw [List.range_eq_range', show l.toArray.size = l.length by simp, wpOps_eq_wpList l 0 (by simp)]
      exact h
  refine Code.wp_mono (fun e a w h => ?_) h1
  cases e <;> first | exact h | exact h.2
theorem fin_end {l : List Oper} {a : Act} {w : World} (h1 : okFrame P l.toArray a = true) (h2 : Q .normal a w) : Fin P l.toArray Q .normal a w := ⟨h1, h2⟩
end
end Go.Proofs.Ytbcifjjnnbefkaa
