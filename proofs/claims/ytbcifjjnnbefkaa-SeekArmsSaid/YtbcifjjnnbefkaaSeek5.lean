/-
  seek.Look: what it answers. Conditions: the arms and the bytes can be read; an arm has up to 200 instructions.
-/
import Derived.Test.YtbcifjjnnbefkaaSeek4
namespace Go.Proofs.Ytbcifjjnnbefkaa
open Go.RowKit

structure LookP (W : World) (r : (Nat × Nat × Nat) × Nat) (v : Value) (w : World) : Prop where
  v : v = .tuple #[.agg #[.int .i64 r.1.1, .int .i64 r.1.2.1, .int .i64 r.1.2.2], .int .i64 r.2]
  fr : Below W.heap.size W w
/-- What holds all along: the answer's cells, and that nothing else turned. -/
structure LookI (W : World) (ps : List (List Inst)) (ns : List (List Nat)) (w : World) : Prop where
  found : w.heap[W.heap.size]? = some (.cells #[.int .i64 0, .int .i64 0, .int .i64 0] 53)
  runs : Runs w (W.heap.size + 1) ps ns
  fr : Below W.heap.size W w
structure CutB (ba : Option Addr) (bc n : Nat) (W : World) (v : Value) (w : World) : Prop where
  v : v = .slice ba n bc
  w : w = W
structure LookJ (W : World) (arms : List (List Inst)) (vi : Value) (w : World) : Prop where
  k : ∃ k : Nat, k ≤ arms.length ∧ vi = .int .i64 k ∧ LookI W (arms.take k ++ List.replicate (arms.length - k) []) (List.replicate arms.length zeros) w
structure LookT (W : World) (arms : List (List Inst)) (bb : List UInt8) (tot : Option (Nat × Nat × Nat)) (vi : Value) (w : World) : Prop where
  t : ∃ (t : Nat) (ns : List (List Nat)), t ≤ bb.length + 1 ∧ vi = .int .i64 t ∧ LookI W arms ns w ∧ bddL ns ∧ tot = lookL arms bb (bb.length + 2 - t) t ns
structure LookS (W : World) (arms : List (List Inst)) (t : Nat) (ns : List (List Nat)) (vi : Value) (w : World) : Prop where
  k : ∃ (k : Nat) (ns' : List (List Nat)), k ≤ arms.length ∧ vi = .int .i64 k ∧ LookI W arms ns' w ∧ bddL ns' ∧ scanM arms t ns k = (none, ns')
structure LookU (W : World) (arms : List (List Inst)) (c : Option UInt8) (ns : List (List Nat)) (vi : Value) (w : World) : Prop where
  k : ∃ (k : Nat), k ≤ arms.length ∧ vi = .int .i64 k ∧ LookI W arms (match c with | some c => takesM arms c ns k | none => ns) w ∧ bddL (match c with | some c => takesM arms c ns k | none => ns)

set_option maxRecDepth 100000 in
set_option maxHeartbeats 16000000 in
theorem look_calls (arms : List (List Inst)) (a : Option Addr) (cap : Nat) (b : List UInt8) (ba : Option Addr) (bc : Nat) (W : World) (hA : Sl (sSl sInst) W (fun k => k < W.heap.size) a cap arms) (hn : arms.length ≤ 1000) (hp : ∀ p ∈ arms, p.length ≤ 200)
    (hb : Sl sByte W (fun k => k < W.heap.size) ba bc b) (hbl : b.length ≤ 100000) :
    Calls Try.prog 19 #[.slice a arms.length cap, .slice ba b.length bc] W (Ret (LookP W (lookM arms b))) := by
  have hmk := run_makeN mk_runner arms.length (by omega) (by omega)
  have hE : lookM arms b = match lookL arms (b.take 256) (b.length + 2) 0 (List.replicate arms.length zeros) with
    | some r => (r, 0)
    | none => ((0, 0, 0), if 256 ≤ b.length then 2 else 1) := rfl
  have hbc := hb.le
  obtain ⟨bb, hbb⟩ : ∃ bb, bb = b.take 256 := ⟨_, rfl⟩
  have hbbl : bb.length = min 256 b.length := by rw [hbb, List.length_take]
  obtain ⟨ov, hov⟩ : ∃ ov, ov = decide (256 ≤ b.length) := ⟨_, rfl⟩
  have hov' : decide ((256 : Int) ≤ (b.length : Int)) = ov := by rw [hov]; rw [Bool.eq_iff_iff]; simp; omega
  replace hA := Kp.mk hA
  replace hp := Kp.mk hp
  replace hb := Kp.mk hb
  replace hE := Kp.mk hE
  replace hbb := Kp.mk hbb
  replace hov := Kp.mk hov
  replace hov' := Kp.mk hov'
  replace hbbl := Kp.mk hbbl
  go_enter Try.func19, Try.ntmps19
  go_upto_region 2 with fail
  rw [hov'.out]
  go_cut [1] (fun v wc => CutB ba bc bb.length (W.alloc (Obj.cells #[Value.int IntKind.i64 0, Value.int IntKind.i64 0, Value.int IntKind.i64 0] 53)) v wc)
  case first =>
    by_cases h256 : b.length ≤ 256
    · have hd : decide ((256 : Int) < (b.length : Int)) = false := by simp; omega
      have e : bb.length = b.length := by rw [hbbl.out]; omega
      replace e := Kp.mk e
      go_wp2_with fail
      go_meet
      case rel => exact ⟨by rw [e.out], rfl⟩
    · have e : bb.length = 256 := by rw [hbbl.out]; omega
      replace e := Kp.mk e
      go_wp2_with fail
      all_goals
        go_meet
        case rel => exact ⟨by rw [e.out], rfl⟩
  case rest =>
    obtain ⟨rfl, rfl⟩ := hcut
    have hF0 := Kp.mk ((heap_alloc_new W (.cells #[.int .i64 0, .int .i64 0, .int .i64 0] 53)))
    have hS0 := Kp.mk (Runs.made (W.alloc (.cells #[.int .i64 0, .int .i64 0, .int .i64 0] 53)) arms.length)
    go_wp2_with fail
    go_loopw [27] (fun i wr => LookJ W arms i wr) (fun i _ => arms.length - (intOf i).toNat)
    case atStart =>
      have hz : (W.alloc (.cells #[.int .i64 0, .int .i64 0, .int .i64 0] 53)).heap.size = W.heap.size + 1 := by simp
      have h := hS0.out
      rw [hz] at h
      exact ⟨0, Nat.zero_le _, rfl, (Below.heap_alloc _ _ _ (by simp)).trans hF0.out, by simpa using h, ((Below.refl _ _).alloc (Nat.le_refl _) _).alloc (by simp) _⟩
    case round =>
      obtain ⟨k, hk, rfl, hI⟩ := hrel
      by_cases hlt : k < arms.length
      · have hFr := hI.fr
        obtain ⟨b2, off, sa, sc, rfl, hb2, hbA, hc, hSp⟩ := arm_at (hA.out.mono (A' := fun k => k < W.heap.size) fun j hj hl => ⟨hj, hFr.block j hj⟩) hlt
        obtain ⟨hgl, hgf, ra, rc, hgc, hset⟩ := hI.runs.cell (k := k) (by simp; omega)
        have hfd := hI.found
        have hfl := blkL hfd
        have hb3 : b2 ≠ W.heap.size + 1 := by omega
        have hSp2 : Sl sInst (wr.setCell ⟨W.heap.size + 1, k * 401, none⟩ (.slice sa arms[k].length sc)) (fun j => j ≠ W.heap.size + 1) sa sc arms[k] := hSp.mono fun j hj _ => ⟨by omega, Below.heap_setCell _ _ _ _ (by show j ≠ W.heap.size + 1; omega)⟩
        have hset2 := hset _ sa sc arms[k] rfl hSp2
        have e := fill_step (l := arms) [] hlt
        rw [e] at hset2
        have hgf1 := hgf (k * 401)
        clear e hset hgf
        replace hset2 := Kp.mk hset2
        replace hSp2 := Kp.mk hSp2
        replace hSp := Kp.mk hSp
        replace hfd := Kp.mk hfd
        replace hFr := Kp.mk hFr
        replace hI := Kp.mk hI
        go_wp2_with fail
        go_roundw
        case rel => exact ⟨k + 1, hlt, by go_num, by rw [Below.heap_setCell _ _ _ _ (show W.heap.size ≠ W.heap.size + 1 by omega)]; exact hfd.out, hset2.out, hFr.out.setCell (by show W.heap.size ≤ W.heap.size + 1; omega) _⟩
        case measure => simp [intOf]; omega
      · obtain rfl : k = arms.length := by omega
        simp only [Nat.sub_self, List.replicate_zero, List.append_nil, List.take_length] at hI
        have hT0 : LookT W arms bb (lookL arms bb (bb.length + 2) 0 (List.replicate arms.length zeros)) (.int .i64 0) wr := ⟨0, _, Nat.zero_le _, rfl, hI, fun l hl => by obtain ⟨_, rfl⟩ := List.mem_replicate.1 hl; exact bdd_zeros, rfl⟩
        have htot : ∃ tot, tot = lookL arms bb (bb.length + 2) 0 (List.replicate arms.length zeros) := ⟨_, rfl⟩
        obtain ⟨tot, htot⟩ := htot
        rw [← htot] at hT0
        replace hT0 := Kp.mk hT0
        replace htot := Kp.mk htot
        replace hI := Kp.mk hI
        go_wp2_with fail
        go_loopw [10] (fun i wr => LookT W arms bb tot i wr) (fun i _ => bb.length + 1 - (intOf i).toNat)
        case atStart => exact hT0.out
        case round =>
          obtain ⟨t, ns, ht, rfl, hI2, hbd, hTt⟩ := hrel
          clear hI
          have hbq : bb.length ≤ 256 := by have := hbbl.out; omega
          have hbq2 : bb.length ≤ b.length := by have := hbbl.out; omega
          by_cases htl : t ≤ bb.length
          · have hd : decide (t ≤ bb.length) = true := by simpa using htl
            have hTt2 : tot = match scanM arms t ns arms.length with
                | (some r, _) => some (r.1, r.2, t)
                | (none, ns) => lookL arms bb (bb.length + 1 - t) (t + 1) (match bb[t]? with | some c => takesM arms c ns arms.length | none => ns) := by
              rw [hTt, show bb.length + 2 - t = (bb.length + 1 - t) + 1 by omega, lookL, if_neg (by omega)]
              rfl
            replace hTt2 := Kp.mk hTt2
            obtain ⟨wo, rfl⟩ : ∃ wo : World, wo = wr := ⟨_, rfl⟩
            replace hI2 := Kp.mk hI2
            replace hbd := Kp.mk hbd
            clear hTt
            go_wp2_with fail
            go_loopw [46] (fun i wr => LookS W arms t ns i wr) (fun i _ => arms.length - (intOf i).toNat)
            case atStart => exact ⟨0, ns, Nat.zero_le _, rfl, hI2.out, hbd.out, rfl⟩
            case round =>
              obtain ⟨k, ns', hk, rfl, hI3, hbd3, hSc⟩ := hrel
              by_cases hlt : k < arms.length
              · have hkn : k < ns'.length := by rw [hI3.runs.len]; exact hlt
                obtain ⟨L, R, nx, ra, rc, hg, hgo, hL, hnl, hxl, hSp, hput, _⟩ := hI3.runs.at hlt hkn
                have hSc2 : scanM arms t ns (k + 1) = (if 0 < doneM arms[k] (addM arms[k] 201 ns'[k] 0 (t + 1)) then some (k, doneM arms[k] (addM arms[k] 201 ns'[k] 0 (t + 1)) - 1) else none, ns'.set k (addM arms[k] 201 ns'[k] 0 (t + 1))) := by
                  rw [scanM, hSc]; simp only [getD_of hlt, getD_of hkn]
                have hadd := add_calls arms[k] ra rc (W.heap.size + 1) (k * 401) L (nts nx ++ R) hgo (t + 1) (by omega) 201 ns'[k] 0 wr.drew hg hSp.drew hnl (by have := free_le ns'[k] (t + 1); omega) (by unfold i64ok; omega)
                have hbn := bdd_addM arms[k] (b := t + 1) (by omega) 201 0 (hbd3 ns'[k] (List.getElem_mem hkn))
                have hnl2 : (addM arms[k] 201 ns'[k] 0 (t + 1)).length = 200 := by rw [addM_len]; exact hnl
                generalize addM arms[k] 201 ns'[k] 0 (t + 1) = n1 at hSc2 hadd hbn hnl2
                have hdl := done_le arms[k] hbn arms[k].length
                have hpk := hp.out arms[k] (List.getElem_mem hlt)
                rw [hL, show ((t + 1 : Nat) : Int) = (t : Int) + 1 from rfl] at hadd
                have hbd4 := bddL_set (k := k) hbd3 hbn
                have hfd := hI3.found
                have hFr3 := hI3.fr
                have hgl := blkL hg
                have hfl := blkL hfd
                replace hadd := Kp.mk hadd
                replace hput := Kp.mk hput
                replace hSp := Kp.mk hSp
                replace hgo := Kp.mk hgo
                replace hL := Kp.mk hL
                replace hSc := Kp.mk hSc
                replace hSc2 := Kp.mk hSc2
                replace hbn := Kp.mk hbn
                replace hnl := Kp.mk hnl
                replace hxl := Kp.mk hxl
                replace hnl2 := Kp.mk hnl2
                replace hbd3 := Kp.mk hbd3
                replace hbd4 := Kp.mk hbd4
                replace hfd := Kp.mk hfd
                replace hFr3 := Kp.mk hFr3
                replace hI3 := Kp.mk hI3
                replace hg := Kp.mk hg
                go_wp2_with fail
                refine wp_lex (by kernel_rfl) ⟨fun _ _ _ h => h.2, fun _ _ h => h⟩ (by kernel_rfl) ?_
                go_wp2_with fail
                refine ret_mono hadd.out ?_
                rintro v w2 ⟨rfl, hg2, hF2⟩
                have hR2 := hput.out w2 n1 nx hnl2.out hxl.out hg2 ⟨hF2.os, hF2.tape, hF2.output, hF2.size, hF2.block⟩
                have hdn := done_calls arms[k] ra rc (W.heap.size + 1) (k * 401) L (nts nx ++ R) hgo.out hL.out n1 w2 hg2 (hSp.out.drew.mono fun j hj hl => ⟨hj, hF2.block j hl hj⟩) hnl2.out hpk
                have hfd2 := hF2.obj (hfd.out : wr.drew.heap[W.heap.size]? = _) (by omega)
                have hFr2 : Below W.heap.size W w2 := hFr3.out.drew.trans (hF2.below (B := W.heap.size) (by have := hFr3.out.size; exact this) fun j hj e => by omega)
                replace hdn := Kp.mk hdn
                replace hR2 := Kp.mk hR2
                replace hfd2 := Kp.mk hfd2
                replace hFr2 := Kp.mk hFr2
                clear hF2 hg2
                go_wp2_with fail
                refine fin_end (by kernel_rfl) ?_
                go_wp2_with fail
                refine ret_mono hdn.out ?_
                rintro v w3 ⟨rfl, hB3⟩
                have hdl' : doneM arms[k] n1 ≤ 1000000 := hdl
                generalize doneM arms[k] n1 = d at hSc2 hdl' ⊢
                have hR3 := hR2.out.keep hB3
                have hfd3 := (Fr.of_below hB3).obj hfd2.out (fun e => e)
                have hFr4 := hFr2.out.trans (hB3.mono hFr2.out.size)
                replace hR3 := Kp.mk hR3
                replace hFr4 := Kp.mk hFr4
                have hf3c := blkC hfd3
                have hf3f := blkF hfd3
                have hf3l := blkL hfd3
                replace hfd3 := Kp.mk hfd3
                by_cases h0 : 0 < d
                · have hd0 : decide (0 < d) = true := by simpa using h0
                  have hfin : lookM arms b = ((k, d - 1, t), 0) := by
                    have h1 := scanM_some (by rw [hSc2.out, if_pos h0]) (arms.length - (k + 1))
                    rw [show k + 1 + (arms.length - (k + 1)) = arms.length by omega] at h1
                    have h2 := hTt2.out
                    rw [h1] at h2
                    rw [hE.out, ← hbb.out]
                    have h3 : lookL arms bb (b.length + 2) 0 (List.replicate arms.length zeros) = some (k, d - 1, t) := by
                      rw [lookL_fuel arms bb (b.length + 2) (bb.length + 2) 0 _ (by omega) (by omega), ← htot.out]; exact h2
                    rw [h3]
                  replace hfin := Kp.mk hfin
                  go_wp2_with fail
                  refine bodyPost_ret (v := .tuple #[.agg #[.int .i64 k, .int .i64 ((d : Int) - 1), .int .i64 t], .int .i64 0]) (by simp [results, Try.results19, go_sem, hf3c]; done) rfl ?_
                  rw [hfin.out]
                  refine ⟨?_, ((hFr4.out.setCell (Nat.le_refl _) _).setCell (Nat.le_refl _) _).setCell (Nat.le_refl _) _⟩
                  simp only [Int.ofNat_sub h0]
                  rfl
                · have hd0 : decide (0 < d) = false := by simpa using h0
                  go_wp2_with fail
                  go_roundw
                  case rel => exact ⟨k + 1, _, hlt, by go_num, ⟨hfd3.out, hR3.out, hFr4.out⟩, hbd4.out, by rw [hSc2.out, if_neg h0]⟩
                  case measure => simp [intOf]; omega
              · obtain rfl : k = arms.length := by omega
                have hT3 := hTt2.out
                rw [hSc] at hT3
                dsimp only at hT3
                have hU0 : LookU W arms bb[t]? ns' (.int .i64 0) wr := ⟨0, Nat.zero_le _, rfl, by cases bb[t]? <;> exact hI3, by cases bb[t]? <;> exact hbd3⟩
                replace hU0 := Kp.mk hU0
                replace hT3 := Kp.mk hT3
                clear hSc hbd3
                replace hI3 := Kp.mk hI3
                go_wp2_with fail
                go_loopw [73] (fun i wr => LookU W arms bb[t]? ns' i wr) (fun i _ => arms.length - (intOf i).toNat)
                case atStart => exact hU0.out
                case round =>
                  obtain ⟨k, hk, rfl, hI4, hbd4⟩ := hrel
                  by_cases hlt : k < arms.length
                  · by_cases htb : t < bb.length
                    · have hdt : decide (t < bb.length) = true := by simpa using htb
                      have htb2 : t < b.length := by omega
                      have hcc : bb[t]? = some (b[t]'htb2) := by
                        rw [hbb.out, List.getElem?_take_of_lt (by omega), List.getElem?_eq_getElem]
                      obtain ⟨b2, off, rfl, hb2, hbA, hc⟩ := byte_at (hb.out.mono (A' := fun k => k < W.heap.size) fun j hj hl => ⟨hj, hI4.fr.block j hj⟩) htb2
                      generalize b[t]'htb2 = c at hcc hc
                      rw [hcc] at hI4 hbd4 ⊢
                      dsimp only at hI4 hbd4
                      have hTk : takesM arms c ns' (k + 1) = (takesM arms c ns' k).set k (takeM (arms.getD k []) ((takesM arms c ns' k).getD k []) c) := rfl
                      generalize hq : takesM arms c ns' k = nk at hI4 hbd4 hTk
                      have hkn : k < nk.length := by rw [hI4.runs.len]; exact hlt
                      obtain ⟨L, R, nx, ra, rc, hg, hgo, hL, hnl, hxl, hSp, hput, _⟩ := hI4.runs.at hlt hkn
                      rw [getD_of hlt, getD_of hkn] at hTk
                      have hpk := hp.out arms[k] (List.getElem_mem hlt)
                      have htk := take_calls arms[k] ra rc (W.heap.size + 1) (k * 401) L R hgo hL nk[k] nx c wr.drew hg hSp.drew hnl hxl hpk
                      have hn1 : (takeM arms[k] nk[k] c).length = 200 := takeF_len _ _ _ _
                      have hbd5 := bddL_set (k := k) hbd4 (bdd_takeF arms[k] (hbd4 nk[k] (List.getElem_mem hkn)) c arms[k].length)
                      change bddL (nk.set k (takeM arms[k] nk[k] c)) at hbd5
                      generalize takeM arms[k] nk[k] c = n1 at hTk htk hn1 hbd5
                      have hfd := hI4.found
                      have hFr4 := hI4.fr
                      have hgl := blkL hg
                      replace htk := Kp.mk htk
                      replace hput := Kp.mk hput
                      replace hn1 := Kp.mk hn1
                      replace hnl := Kp.mk hnl
                      replace hfd := Kp.mk hfd
                      replace hFr4 := Kp.mk hFr4
                      replace hTk := Kp.mk hTk
                      replace hq := Kp.mk hq
                      replace hcc := Kp.mk hcc
                      replace hbd4 := Kp.mk hbd4
                      replace hbd5 := Kp.mk hbd5
                      replace hI4 := Kp.mk hI4
                      replace hSp := Kp.mk hSp
                      clear hg hgo hL hxl
                      go_wp2_with fail
                      refine wp_lex (by kernel_rfl) ⟨fun _ _ _ h => h.2, fun _ _ h => h⟩ (by kernel_rfl) ?_
                      go_wp2_with fail
                      refine ret_mono htk.out ?_
                      rintro v w2 ⟨rfl, hg2, hF2⟩
                      have hR2 := hput.out w2 n1 nk[k] hn1.out hnl.out hg2 ⟨hF2.os, hF2.tape, hF2.output, hF2.size, hF2.block⟩
                      have hfd2 := hF2.obj (hfd.out : wr.drew.heap[W.heap.size]? = _) (by omega)
                      have hFr2 : Below W.heap.size W w2 := hFr4.out.drew.trans (hF2.below (B := W.heap.size) (by have := hFr4.out.size; exact this) fun j hj e => by omega)
                      replace hR2 := Kp.mk hR2
                      replace hfd2 := Kp.mk hfd2
                      replace hFr2 := Kp.mk hFr2
                      clear hF2 hg2
                      go_wp2_with fail
                      refine fin_end (by kernel_rfl) ?_
                      go_wp2_with fail
                      go_roundw
                      case rel => exact ⟨k + 1, hlt, by go_num, ⟨hfd2.out, by dsimp only; rw [hTk.out]; exact hR2.out, hFr2.out⟩, by dsimp only; rw [hTk.out]; exact hbd5.out⟩
                      case measure => simp [intOf]; omega
                    · have hdt : decide (t < bb.length) = false := by simpa using htb
                      have hcc : bb[t]? = none := List.getElem?_eq_none (by omega)
                      rw [hcc] at hI4 hbd4 ⊢
                      replace hcc := Kp.mk hcc
                      replace hI4 := Kp.mk hI4
                      replace hbd4 := Kp.mk hbd4
                      go_wp2_with fail
                      go_roundw
                      case rel => exact ⟨k + 1, hlt, by go_num, hI4.out, hbd4.out⟩
                      case measure => simp [intOf]; omega
                  · obtain rfl : k = arms.length := by omega
                    replace hI4 := Kp.mk hI4
                    replace hbd4 := Kp.mk hbd4
                    go_wp2_with fail
                    go_roundw
                    case rel => exact ⟨t + 1, _, by omega, by go_num, hI4.out, hbd4.out, by rw [hT3.out]; congr 1; omega⟩
                    case measure => simp [intOf]; omega
          · obtain rfl : t = bb.length + 1 := by omega
            have hd : decide (bb.length + 1 ≤ bb.length) = false := by simp
            have hd2 : decide ((bb.length : Int) + 1 ≤ (bb.length : Int)) = false := by simp; omega
            have hfin : lookM arms b = ((0, 0, 0), if 256 ≤ b.length then 2 else 1) := by
              have h2 : tot = none := by
                rw [hTt, show bb.length + 2 - (bb.length + 1) = 0 + 1 by omega, lookL, if_pos (by omega)]
              rw [hE.out, ← hbb.out, lookL_fuel arms bb (b.length + 2) (bb.length + 2) 0 _ (by omega) (by omega), ← htot.out, h2]
            have hfd := hI2.found
            have hFr := hI2.fr
            have hfc := blkC hfd
            have hff := blkF hfd
            have hfl := blkL hfd
            have hovo := hov.out
            replace hfd := Kp.mk hfd
            replace hFr := Kp.mk hFr
            replace hI2 := Kp.mk hI2
            replace hbd := Kp.mk hbd
            replace hTt := Kp.mk hTt
            replace hfin := Kp.mk hfin
            cases ov
            · have h256 : ¬ 256 ≤ b.length := by simpa using hovo.symm
              clear hovo
              go_wp2_with fail
              refine bodyPost_ret (v := .tuple #[.agg #[.int .i64 0, .int .i64 0, .int .i64 0], .int .i64 1]) (by simp [results, Try.results19, go_sem, hfc]; done) rfl ?_
              rw [hfin.out, if_neg h256]
              exact ⟨rfl, ((hFr.out.setCell (Nat.le_refl _) _).setCell (Nat.le_refl _) _).setCell (Nat.le_refl _) _⟩
            · have h256 : 256 ≤ b.length := by simpa using hovo.symm
              clear hovo
              go_wp2_with fail
              refine bodyPost_ret (v := .tuple #[.agg #[.int .i64 0, .int .i64 0, .int .i64 0], .int .i64 2]) (by simp [results, Try.results19, go_sem, hfc]; done) rfl ?_
              rw [hfin.out, if_pos h256]
              exact ⟨rfl, ((hFr.out.setCell (Nat.le_refl _) _).setCell (Nat.le_refl _) _).setCell (Nat.le_refl _) _⟩
end Go.Proofs.Ytbcifjjnnbefkaa
