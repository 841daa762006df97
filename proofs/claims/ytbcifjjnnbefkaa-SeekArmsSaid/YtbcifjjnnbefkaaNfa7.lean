/-
  Package nfa: makers. Conditions: none.
-/
import Derived.Test.YtbcifjjnnbefkaaNfa6
namespace Go.Proofs.Ytbcifjjnnbefkaa
open Go.RowKit

/-- The makers, as the map's entries. -/
def mkEs : Array MapEntry := #[⟨.int .i64 1, .func (.func 40) #[] #[], 0⟩, ⟨.int .i64 2, .func (.func 41) #[] #[], 1⟩, ⟨.int .i64 3, .func (.func 42) #[] #[], 2⟩, ⟨.int .i64 4, .func (.func 43) #[] #[], 3⟩, ⟨.int .i64 5, .func (.func 44) #[] #[], 4⟩, ⟨.int .i64 6, .func (.func 45) #[] #[], 5⟩, ⟨.int .i64 7, .func (.func 46) #[] #[], 6⟩]
theorem mk_ins (W : World) :
    (Instr.mapUpdate 76 (.map (some W.heap.size)) (.int .i64 1) (.func (.func 40) #[] #[])).run Try.prog (W.alloc (.map #[] 0)) = .ok () (W.alloc (.map #[⟨.int .i64 1, .func (.func 40) #[] #[], 0⟩] 1)) ∧
    (Instr.mapUpdate 76 (.map (some W.heap.size)) (.int .i64 2) (.func (.func 41) #[] #[])).run Try.prog (W.alloc (.map #[⟨.int .i64 1, .func (.func 40) #[] #[], 0⟩] 1)) = .ok () (W.alloc (.map #[⟨.int .i64 1, .func (.func 40) #[] #[], 0⟩, ⟨.int .i64 2, .func (.func 41) #[] #[], 1⟩] 2)) ∧
    (Instr.mapUpdate 76 (.map (some W.heap.size)) (.int .i64 3) (.func (.func 42) #[] #[])).run Try.prog (W.alloc (.map #[⟨.int .i64 1, .func (.func 40) #[] #[], 0⟩, ⟨.int .i64 2, .func (.func 41) #[] #[], 1⟩] 2)) = .ok () (W.alloc (.map #[⟨.int .i64 1, .func (.func 40) #[] #[], 0⟩, ⟨.int .i64 2, .func (.func 41) #[] #[], 1⟩, ⟨.int .i64 3, .func (.func 42) #[] #[], 2⟩] 3)) ∧
    (Instr.mapUpdate 76 (.map (some W.heap.size)) (.int .i64 4) (.func (.func 43) #[] #[])).run Try.prog (W.alloc (.map #[⟨.int .i64 1, .func (.func 40) #[] #[], 0⟩, ⟨.int .i64 2, .func (.func 41) #[] #[], 1⟩, ⟨.int .i64 3, .func (.func 42) #[] #[], 2⟩] 3)) = .ok () (W.alloc (.map #[⟨.int .i64 1, .func (.func 40) #[] #[], 0⟩, ⟨.int .i64 2, .func (.func 41) #[] #[], 1⟩, ⟨.int .i64 3, .func (.func 42) #[] #[], 2⟩, ⟨.int .i64 4, .func (.func 43) #[] #[], 3⟩] 4)) ∧
    (Instr.mapUpdate 76 (.map (some W.heap.size)) (.int .i64 5) (.func (.func 44) #[] #[])).run Try.prog (W.alloc (.map #[⟨.int .i64 1, .func (.func 40) #[] #[], 0⟩, ⟨.int .i64 2, .func (.func 41) #[] #[], 1⟩, ⟨.int .i64 3, .func (.func 42) #[] #[], 2⟩, ⟨.int .i64 4, .func (.func 43) #[] #[], 3⟩] 4)) = .ok () (W.alloc (.map #[⟨.int .i64 1, .func (.func 40) #[] #[], 0⟩, ⟨.int .i64 2, .func (.func 41) #[] #[], 1⟩, ⟨.int .i64 3, .func (.func 42) #[] #[], 2⟩, ⟨.int .i64 4, .func (.func 43) #[] #[], 3⟩, ⟨.int .i64 5, .func (.func 44) #[] #[], 4⟩] 5)) ∧
    (Instr.mapUpdate 76 (.map (some W.heap.size)) (.int .i64 6) (.func (.func 45) #[] #[])).run Try.prog (W.alloc (.map #[⟨.int .i64 1, .func (.func 40) #[] #[], 0⟩, ⟨.int .i64 2, .func (.func 41) #[] #[], 1⟩, ⟨.int .i64 3, .func (.func 42) #[] #[], 2⟩, ⟨.int .i64 4, .func (.func 43) #[] #[], 3⟩, ⟨.int .i64 5, .func (.func 44) #[] #[], 4⟩] 5)) = .ok () (W.alloc (.map #[⟨.int .i64 1, .func (.func 40) #[] #[], 0⟩, ⟨.int .i64 2, .func (.func 41) #[] #[], 1⟩, ⟨.int .i64 3, .func (.func 42) #[] #[], 2⟩, ⟨.int .i64 4, .func (.func 43) #[] #[], 3⟩, ⟨.int .i64 5, .func (.func 44) #[] #[], 4⟩, ⟨.int .i64 6, .func (.func 45) #[] #[], 5⟩] 6)) ∧
    (Instr.mapUpdate 76 (.map (some W.heap.size)) (.int .i64 7) (.func (.func 46) #[] #[])).run Try.prog (W.alloc (.map #[⟨.int .i64 1, .func (.func 40) #[] #[], 0⟩, ⟨.int .i64 2, .func (.func 41) #[] #[], 1⟩, ⟨.int .i64 3, .func (.func 42) #[] #[], 2⟩, ⟨.int .i64 4, .func (.func 43) #[] #[], 3⟩, ⟨.int .i64 5, .func (.func 44) #[] #[], 4⟩, ⟨.int .i64 6, .func (.func 45) #[] #[], 5⟩] 6)) = .ok () (W.alloc (.map #[⟨.int .i64 1, .func (.func 40) #[] #[], 0⟩, ⟨.int .i64 2, .func (.func 41) #[] #[], 1⟩, ⟨.int .i64 3, .func (.func 42) #[] #[], 2⟩, ⟨.int .i64 4, .func (.func 43) #[] #[], 3⟩, ⟨.int .i64 5, .func (.func 44) #[] #[], 4⟩, ⟨.int .i64 6, .func (.func 45) #[] #[], 5⟩, ⟨.int .i64 7, .func (.func 46) #[] #[], 6⟩] 7)) := by
  have ht : Try.prog.underlying 76 = some (.map 3 80) := Try.underlying76
  have hK : Try.prog.underlying 3 = some (.int .i64) := Try.underlying3
  have k1 := @intKeys_cons .i64
  exact ⟨run_ins_new ht hK (intKeys_nil _) rfl W.drawn, run_ins_new ht hK (k1 (intKeys_nil _)) rfl W.drawn, run_ins_new ht hK (k1 (k1 (intKeys_nil _))) rfl W.drawn, run_ins_new ht hK (k1 (k1 (k1 (intKeys_nil _)))) rfl W.drawn, run_ins_new ht hK (k1 (k1 (k1 (k1 (intKeys_nil _))))) rfl W.drawn, run_ins_new ht hK (k1 (k1 (k1 (k1 (k1 (intKeys_nil _)))))) rfl W.drawn, run_ins_new ht hK (k1 (k1 (k1 (k1 (k1 (k1 (intKeys_nil _))))))) rfl W.drawn⟩

structure MakersP (W : World) (v : Value) (w : World) : Prop where
  v : v = .map (some W.heap.size)
  w : w = W.alloc (.map mkEs 7)
set_option maxRecDepth 100000 in
set_option maxHeartbeats 1000000 in
theorem makers_calls (W : World) : Calls Try.prog 25 #[] W (Ret (MakersP W)) := by
  have hmm := @run_makeMap Try.prog
  obtain ⟨m1, m2, m3, m4, m5, m6, m7⟩ := mk_ins W
  go_enter Try.func25, Try.ntmps25
  go_wp2_with fail
  go_ret
  exact ⟨rfl, rfl⟩
/-- What a look-up in the makers' map answers. -/
theorem mk_keys : intKeys .i64 mkEs.toList := by
  have k1 := @intKeys_cons .i64
  exact (k1 (k1 (k1 (k1 (k1 (k1 (k1 (intKeys_nil _))))))))
end Go.Proofs.Ytbcifjjnnbefkaa
