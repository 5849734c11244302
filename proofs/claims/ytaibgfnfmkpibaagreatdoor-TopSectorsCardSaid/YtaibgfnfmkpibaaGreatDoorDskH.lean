/- The disk by hand: sectors of noughts; write. -/
import Derived.Test.YtaibgfnfmkpibaaGreatDoorDskC
import Derived.Test.YtaibgfnfmkpibaaGreatDoorDskG
namespace Go.Proofs.YtaibgfnfmkpibaaGreatDoor.SL
open Go
attribute [local irreducible] mp mit blk rbk pt exi pur ob orb sv pv own rsl rxs elp sub st Pure Quiet Step Run Ops Dp Fn Ent Tk Holds
attribute [local irreducible] dsk odk

theorem sectors_spec (n : Nat) (hn : n ≤ 4096) :
    Fn Tryz.prog 7 #[.int .i64 n] [] (fun u => [exi fun y => All [pur (u = .pointer (some ⟨y, 0, none⟩)), odk y (dk0 n) n]]) := by
  refine fn_of_run Tryz.func7 rfl Tryz.ntmps7 (by simp) fun F => ?_
  simp only [List.zipIdx_cons, List.zipIdx_nil, List.map_cons, List.map_nil, Nat.zero_add, Nat.reduceAdd]
  refine run_seq (run_sub (sc 0 rfl Sub.nil) (run_region (id := 0) ?_))
  refine ops_quiet rfl (Pure.q (p_assign rfl)) ?_
  refine ops_nil ?_
  refine run_seq (run_sub (sc 0 rfl Sub.nil) (run_region (id := 1) ?_))
  refine ops_quiet rfl (Pure.q (p_move rfl)) ?_
  refine ops_step rfl (g_makeSliceM rfl rfl (by (first | omega | (simp only [List.length_cons, List.length_nil, List.length_take, List.length_drop, List.length_append, List.length_map, List.length_replicate, List.length_set]; omega) | (simp; done) | (simp; omega) | rfl)) (by (first | omega | (simp only [List.length_cons, List.length_nil, List.length_take, List.length_drop, List.length_append, List.length_map, List.length_replicate, List.length_set]; omega) | (simp; done) | (simp; omega) | rfl)) (by (first | omega | (simp only [List.length_cons, List.length_nil, List.length_take, List.length_drop, List.length_append, List.length_map, List.length_replicate, List.length_set]; omega) | (simp; done) | (simp; omega) | rfl))) (fun v6 => ?_)
  (try refine ops_ln fun _ => ?_)
  refine ops_quiet rfl (Pure.q (p_buildC rfl (.cons rfl inferInstance .nil) rfl rfl)) ?_
  refine ops_step rfl (s_box rfl rfl) (fun b8 => ?_)
  refine ops_quiet rfl (Pure.q (p_assign rfl)) ?_
  refine ops_nil ?_
  refine run_seq (run_seq (run_sub (sc 0 rfl (sc 3 rfl Sub.nil)) (run_region (id := 2) ?_)))
  refine ops_quiet rfl (Pure.q (p_assign rfl)) ?_
  refine ops_nil ?_
  refine run_block ?_
  refine runs_loop (fun q : Nat × Value => [(0, .int .i64 n), (3, .pointer (some ⟨b8, 0, none⟩)), (4, .int .i64 q.1)]) (fun q => [blk b8 43 [q.2, .slice none 0 0, v6, .slice none 0 0, .bool false], own 4 1 v6 n ((List.replicate n false).map .bool), own 9 1 q.2 q.1 ((List.replicate q.1 (List.replicate 128 (0 : UInt8))).map st)]) (fun q => q.1 ≤ n) (fun q => n - q.1) (0, .slice none 0 0) (Nat.zero_le _) (by (repeat (first | exact Sub.nil | refine Sub.cons rfl ?_))) (by repeat' first | exact Goes.nil | with_reducible apply Goes.exi | with_reducible apply Goes.all | with_reducible apply Goes.pur | ((with_reducible apply Goes.cons); focus ((repeat' constructor); done)) | with_reducible apply dsk_goes | with_reducible apply odk_goes) ?_
  rintro ⟨i, vn⟩ (hi : i ≤ n)
  dsimp only
  refine run_facts vn fun _ => ?_
  refine run_seq (run_seq (run_sub (sc 0 rfl (sc 3 rfl (sc 4 rfl Sub.nil))) (run_region (id := 3) ?_)))
  refine ops_quiet rfl (Pure.q (p_move rfl)) ?_
  refine ops_quiet rfl (Pure.q (p_move rfl)) ?_
  refine ops_quiet rfl (Pure.q (p_lss rfl rfl)) ?_
  refine ops_nil ?_
  refine run_case 11 rfl (fun h11 => run_cond_t rfl ?_) (fun h11 => run_cond_f rfl ?_)
  · (try simp only [decide_eq_true_eq, decide_eq_false_iff_not, Bool.not_eq_true', Bool.not_eq_false'] at h11)
    refine run_skip (run_seq (run_block (run_sub (sc 0 rfl (sc 3 rfl (sc 4 rfl Sub.nil))) (run_draw (id := 5) ⟨[4, 6], [0, 1, 2, 3, 9, 10], [8, 11]⟩ (.cons 0 (.cons 1 (.cons 2 (.cons 3 (.cons 4 (.cons 5 (.cons 6 (.cons 7 (.cons 8 (.cons 9 (.cons 10 (.cons 11 .nil)))))))))))) _ (Ent.refl _) mixed (by kernel_rfl) panOk_body (by rfl) (by kernel_rfl) ?_))))
    refine dp_pure rfl rfl rfl rfl rfl (p_move rfl) ?_
    refine dp_pure rfl rfl rfl rfl rfl (p_move rfl) ?_
    (first | refine dp_pure rfl rfl rfl rfl rfl (p_nil_ptr rfl) ?_ | refine dp_pure rfl rfl rfl rfl rfl (p_nilE rfl (by (first | omega | (simp only [List.length_cons, List.length_nil, List.length_take, List.length_drop, List.length_append, List.length_map, List.length_replicate, List.length_set]; omega) | (simp; done) | (simp; omega) | rfl))) ?_ | refine dp_pure rfl rfl rfl rfl rfl (p_nil_func rfl) ?_)
    (first | refine dp_pure rfl rfl rfl rfl rfl (p_fieldAddr rfl) ?_ | refine dp_pure rfl rfl rfl rfl rfl (p_fieldE rfl (by (first | omega | (simp only [List.length_cons, List.length_nil, List.length_take, List.length_drop, List.length_append, List.length_map, List.length_replicate, List.length_set]; omega) | (simp; done) | (simp; omega) | rfl))) ?_)
    (first | refine dp_quiet rfl rfl rfl rfl (k_load rfl rfl) ?_ | refine dp_quiet rfl rfl rfl rfl (k_loadM rfl (by (first | omega | (simp only [List.length_cons, List.length_nil, List.length_take, List.length_drop, List.length_append, List.length_map, List.length_replicate, List.length_set]; omega) | (simp; done) | (simp; omega) | rfl))) ?_ | refine dp_quiet rfl rfl rfl rfl (k_loadS rfl (by (first | rfl | assumption | (apply hel; omega) | (apply hel2; omega) | (apply hel3; omega)))) ?_)
    refine dp_step rfl rfl rfl rfl (g_makeSliceM rfl rfl (by (first | omega | (simp only [List.length_cons, List.length_nil, List.length_take, List.length_drop, List.length_append, List.length_map, List.length_replicate, List.length_set]; omega) | (simp; done) | (simp; omega) | rfl)) (by (first | omega | (simp only [List.length_cons, List.length_nil, List.length_take, List.length_drop, List.length_append, List.length_map, List.length_replicate, List.length_set]; omega) | (simp; done) | (simp; omega) | rfl)) (by (first | omega | (simp only [List.length_cons, List.length_nil, List.length_take, List.length_drop, List.length_append, List.length_map, List.length_replicate, List.length_set]; omega) | (simp; done) | (simp; omega) | rfl))) (fun _ => Goes.ent (by repeat' first | exact Goes.nil | with_reducible apply Goes.exi | with_reducible apply Goes.all | with_reducible apply Goes.pur | ((with_reducible apply Goes.cons); focus ((repeat' constructor); done)) | with_reducible apply dsk_goes | with_reducible apply odk_goes)) (fun v19 => ?_)
    (try refine dp_ln fun _ => ?_)
    refine dp_grow (Goes.ent (by repeat' first | exact Goes.nil | with_reducible apply Goes.exi | with_reducible apply Goes.all | with_reducible apply Goes.pur | ((with_reducible apply Goes.cons); focus ((repeat' constructor); done)) | with_reducible apply dsk_goes | with_reducible apply odk_goes)) ?_
    refine dp_quiet rfl rfl rfl rfl (k_bytesStr rfl rfl) ?_
    (first | refine dp_step rfl rfl rfl rfl (g_buildSliceM rfl (.cons rfl inferInstance .nil) rfl rfl rfl) (fun _ => Goes.ent (by repeat' first | exact Goes.nil | with_reducible apply Goes.exi | with_reducible apply Goes.all | with_reducible apply Goes.pur | ((with_reducible apply Goes.cons); focus ((repeat' constructor); done)) | with_reducible apply dsk_goes | with_reducible apply odk_goes)) (fun v21 => ?_) | refine dp_step rfl rfl rfl rfl (g_buildSlice rfl (.cons rfl inferInstance .nil) rfl rfl rfl) (fun _ => Goes.ent (by repeat' first | exact Goes.nil | with_reducible apply Goes.exi | with_reducible apply Goes.all | with_reducible apply Goes.pur | ((with_reducible apply Goes.cons); focus ((repeat' constructor); done)) | with_reducible apply dsk_goes | with_reducible apply odk_goes)) (fun v21 => ?_))
    (try refine dp_ln fun _ => ?_)
    (first | refine dp_last rfl rfl rfl rfl rfl (g_append0 rfl rfl (by (first | omega | (simp only [List.length_cons, List.length_nil, List.length_take, List.length_drop, List.length_append, List.length_map, List.length_replicate, List.length_set]; omega) | (simp; done) | (simp; omega) | rfl)) (by (first | omega | (simp only [List.length_cons, List.length_nil, List.length_take, List.length_drop, List.length_append, List.length_map, List.length_replicate, List.length_set]; omega) | (simp; done) | (simp; omega) | rfl)) rfl) (fun v22 => ?_) | refine dp_last rfl rfl rfl rfl rfl (g_appendM rfl rfl (by (first | omega | (simp only [List.length_cons, List.length_nil, List.length_take, List.length_drop, List.length_append, List.length_map, List.length_replicate, List.length_set]; omega) | (simp; done) | (simp; omega) | rfl)) (by (first | omega | (simp only [List.length_cons, List.length_nil, List.length_take, List.length_drop, List.length_append, List.length_map, List.length_replicate, List.length_set]; omega) | (simp; done) | (simp; omega) | rfl)) rfl) (fun v22 => ?_) | refine dp_last rfl rfl rfl rfl rfl (g_appendNilM rfl rfl (by (first | omega | (simp only [List.length_cons, List.length_nil, List.length_take, List.length_drop, List.length_append, List.length_map, List.length_replicate, List.length_set]; omega) | (simp; done) | (simp; omega) | rfl)) (by (first | omega | (simp only [List.length_cons, List.length_nil, List.length_take, List.length_drop, List.length_append, List.length_map, List.length_replicate, List.length_set]; omega) | (simp; done) | (simp; omega) | rfl)) rfl) (fun v22 => ?_) | refine dp_last rfl rfl rfl rfl rfl (g_append rfl rfl (by (first | omega | (simp only [List.length_cons, List.length_nil, List.length_take, List.length_drop, List.length_append, List.length_map, List.length_replicate, List.length_set]; omega) | (simp; done) | (simp; omega) | rfl)) (by (first | omega | (simp only [List.length_cons, List.length_nil, List.length_take, List.length_drop, List.length_append, List.length_map, List.length_replicate, List.length_set]; omega) | (simp; done) | (simp; omega) | rfl)) rfl) (fun v22 => ?_) | refine dp_last rfl rfl rfl rfl rfl (g_appendNil rfl rfl (by (first | omega | (simp only [List.length_cons, List.length_nil, List.length_take, List.length_drop, List.length_append, List.length_map, List.length_replicate, List.length_set]; omega) | (simp; done) | (simp; omega) | rfl)) (by (first | omega | (simp only [List.length_cons, List.length_nil, List.length_take, List.length_drop, List.length_append, List.length_map, List.length_replicate, List.length_set]; omega) | (simp; done) | (simp; omega) | rfl)) rfl) (fun v22 => ?_))
    (try refine dp_ln fun _ => ?_)
    (first | refine dp_pure rfl rfl rfl rfl rfl (p_nil_ptr rfl) ?_ | refine dp_pure rfl rfl rfl rfl rfl (p_nilE rfl (by (first | omega | (simp only [List.length_cons, List.length_nil, List.length_take, List.length_drop, List.length_append, List.length_map, List.length_replicate, List.length_set]; omega) | (simp; done) | (simp; omega) | rfl))) ?_ | refine dp_pure rfl rfl rfl rfl rfl (p_nil_func rfl) ?_)
    (first | refine dp_pure rfl rfl rfl rfl rfl (p_fieldAddr rfl) ?_ | refine dp_pure rfl rfl rfl rfl rfl (p_fieldE rfl (by (first | omega | (simp only [List.length_cons, List.length_nil, List.length_take, List.length_drop, List.length_append, List.length_map, List.length_replicate, List.length_set]; omega) | (simp; done) | (simp; omega) | rfl))) ?_)
    (first | refine dp_last rfl rfl rfl rfl rfl (g_store rfl rfl rfl) (fun _ => ?_) | refine dp_last rfl rfl rfl rfl rfl (g_storeM rfl rfl (by (first | omega | (simp only [List.length_cons, List.length_nil, List.length_take, List.length_drop, List.length_append, List.length_map, List.length_replicate, List.length_set]; omega) | (simp; done) | (simp; omega) | rfl))) (fun _ => ?_) | refine dp_last rfl rfl rfl rfl rfl (g_storeS rfl rfl (by (first | omega | (simp only [List.length_cons, List.length_nil, List.length_take, List.length_drop, List.length_append, List.length_map, List.length_replicate, List.length_set]; omega) | (simp; done) | (simp; omega) | rfl))) (fun _ => ?_))
    refine dp_nil ?_
    refine run_inBlock (run_sub (sc 0 rfl (sc 3 rfl (sc 4 rfl Sub.nil))) (run_region (id := 4) ?_))
    refine ops_quiet rfl (Pure.q (p_move rfl)) ?_
    refine ops_quiet rfl (Pure.q (p_add rfl rfl (by (first | exact wrap_byte _ | exact wrap_i64 (by omega) (by omega) | exact wrap_u8 (by omega) (by omega) | exact wrap_u64 (by omega) (by omega) | exact wrap_u32 (by omega) (by omega) | rfl)))) ?_
    refine ops_quiet rfl (Pure.q (p_assign rfl)) ?_
    refine ops_nil ?_
    have e : List.replicate i (List.replicate 128 (0 : UInt8)) ++ [List.replicate (Int.toNat 128) 0] = List.replicate (i + 1) (List.replicate 128 0) := (List.replicate_succ' ..).symm
    rw [e]
    exact runs_is (i + 1, v22) ⟨by omega, by omega⟩ (by (repeat (first | exact Sub.nil | refine Sub.cons rfl ?_))) (by repeat' first | exact Goes.nil | with_reducible apply Goes.exi | with_reducible apply Goes.all | with_reducible apply Goes.pur | ((with_reducible apply Goes.cons); focus ((repeat' constructor); done)) | with_reducible apply dsk_goes | with_reducible apply odk_goes)
  · (try simp only [decide_eq_true_eq, decide_eq_false_iff_not, Bool.not_eq_true', Bool.not_eq_false'] at h11)
    obtain rfl : i = n := by omega
    refine run_exit rfl (run_seq (run_sub (sc 3 rfl Sub.nil) (run_region (id := 6) ?_)))
    refine ops_quiet rfl (Pure.q (p_move rfl)) ?_
    (first | refine ops_step rfl (g_buildSliceM rfl (.nil) rfl rfl rfl) (fun v26 => ?_) | refine ops_step rfl (g_buildSlice rfl (.nil) rfl rfl rfl) (fun v26 => ?_))
    (try refine ops_ln fun _ => ?_)
    refine ops_quiet rfl (Pure.q (p_move rfl)) ?_
    (first | refine ops_quiet rfl (Pure.q (p_nil_ptr rfl)) ?_ | refine ops_quiet rfl (Pure.q (p_nilE rfl (by (first | omega | (simp only [List.length_cons, List.length_nil, List.length_take, List.length_drop, List.length_append, List.length_map, List.length_replicate, List.length_set]; omega) | (simp; done) | (simp; omega) | rfl)))) ?_ | refine ops_quiet rfl (k_nil rfl (by (first | omega | (simp only [List.length_cons, List.length_nil, List.length_take, List.length_drop, List.length_append, List.length_map, List.length_replicate, List.length_set]; omega) | (simp; done) | (simp; omega) | rfl))) ?_ | refine ops_quiet rfl (Pure.q (p_nil_func rfl)) ?_)
    (first | refine ops_quiet rfl (Pure.q (p_fieldAddr rfl)) ?_ | refine ops_quiet rfl (Pure.q (p_fieldE rfl (by (first | omega | (simp only [List.length_cons, List.length_nil, List.length_take, List.length_drop, List.length_append, List.length_map, List.length_replicate, List.length_set]; omega) | (simp; done) | (simp; omega) | rfl)))) ?_ | refine ops_quiet rfl (k_field rfl (by (first | omega | (simp only [List.length_cons, List.length_nil, List.length_take, List.length_drop, List.length_append, List.length_map, List.length_replicate, List.length_set]; omega) | (simp; done) | (simp; omega) | rfl))) ?_)
    (first | refine ops_quiet rfl (k_load rfl rfl) ?_ | refine ops_quiet rfl (k_loadM rfl (by (first | omega | (simp only [List.length_cons, List.length_nil, List.length_take, List.length_drop, List.length_append, List.length_map, List.length_replicate, List.length_set]; omega) | (simp; done) | (simp; omega) | rfl))) ?_ | refine ops_quiet rfl (k_loadS rfl (by (first | rfl | assumption | (apply hel; omega) | (apply hel2; omega) | (apply hel3; omega)))) ?_)
    (first | refine ops_step rfl (g_append0 rfl rfl (by (first | omega | (simp only [List.length_cons, List.length_nil, List.length_take, List.length_drop, List.length_append, List.length_map, List.length_replicate, List.length_set]; omega) | (simp; done) | (simp; omega) | rfl)) (by (first | omega | (simp only [List.length_cons, List.length_nil, List.length_take, List.length_drop, List.length_append, List.length_map, List.length_replicate, List.length_set]; omega) | (simp; done) | (simp; omega) | rfl)) rfl) (fun v31 => ?_) | refine ops_step rfl (g_appendM rfl rfl (by (first | omega | (simp only [List.length_cons, List.length_nil, List.length_take, List.length_drop, List.length_append, List.length_map, List.length_replicate, List.length_set]; omega) | (simp; done) | (simp; omega) | rfl)) (by (first | omega | (simp only [List.length_cons, List.length_nil, List.length_take, List.length_drop, List.length_append, List.length_map, List.length_replicate, List.length_set]; omega) | (simp; done) | (simp; omega) | rfl)) rfl) (fun v31 => ?_) | refine ops_step rfl (g_appendNilM rfl rfl (by (first | omega | (simp only [List.length_cons, List.length_nil, List.length_take, List.length_drop, List.length_append, List.length_map, List.length_replicate, List.length_set]; omega) | (simp; done) | (simp; omega) | rfl)) (by (first | omega | (simp only [List.length_cons, List.length_nil, List.length_take, List.length_drop, List.length_append, List.length_map, List.length_replicate, List.length_set]; omega) | (simp; done) | (simp; omega) | rfl)) rfl) (fun v31 => ?_) | refine ops_step rfl (g_append rfl rfl (by (first | omega | (simp only [List.length_cons, List.length_nil, List.length_take, List.length_drop, List.length_append, List.length_map, List.length_replicate, List.length_set]; omega) | (simp; done) | (simp; omega) | rfl)) (by (first | omega | (simp only [List.length_cons, List.length_nil, List.length_take, List.length_drop, List.length_append, List.length_map, List.length_replicate, List.length_set]; omega) | (simp; done) | (simp; omega) | rfl)) rfl) (fun v31 => ?_) | refine ops_step rfl (g_appendNil rfl rfl (by (first | omega | (simp only [List.length_cons, List.length_nil, List.length_take, List.length_drop, List.length_append, List.length_map, List.length_replicate, List.length_set]; omega) | (simp; done) | (simp; omega) | rfl)) (by (first | omega | (simp only [List.length_cons, List.length_nil, List.length_take, List.length_drop, List.length_append, List.length_map, List.length_replicate, List.length_set]; omega) | (simp; done) | (simp; omega) | rfl)) rfl) (fun v31 => ?_))
    (try refine ops_ln fun _ => ?_)
    (first | refine ops_quiet rfl (Pure.q (p_nil_ptr rfl)) ?_ | refine ops_quiet rfl (Pure.q (p_nilE rfl (by (first | omega | (simp only [List.length_cons, List.length_nil, List.length_take, List.length_drop, List.length_append, List.length_map, List.length_replicate, List.length_set]; omega) | (simp; done) | (simp; omega) | rfl)))) ?_ | refine ops_quiet rfl (k_nil rfl (by (first | omega | (simp only [List.length_cons, List.length_nil, List.length_take, List.length_drop, List.length_append, List.length_map, List.length_replicate, List.length_set]; omega) | (simp; done) | (simp; omega) | rfl))) ?_ | refine ops_quiet rfl (Pure.q (p_nil_func rfl)) ?_)
    (first | refine ops_quiet rfl (Pure.q (p_fieldAddr rfl)) ?_ | refine ops_quiet rfl (Pure.q (p_fieldE rfl (by (first | omega | (simp only [List.length_cons, List.length_nil, List.length_take, List.length_drop, List.length_append, List.length_map, List.length_replicate, List.length_set]; omega) | (simp; done) | (simp; omega) | rfl)))) ?_ | refine ops_quiet rfl (k_field rfl (by (first | omega | (simp only [List.length_cons, List.length_nil, List.length_take, List.length_drop, List.length_append, List.length_map, List.length_replicate, List.length_set]; omega) | (simp; done) | (simp; omega) | rfl))) ?_)
    (first | refine ops_step rfl (g_store rfl rfl rfl) (fun _ => ?_) | refine ops_step rfl (g_storeM rfl rfl (by (first | omega | (simp only [List.length_cons, List.length_nil, List.length_take, List.length_drop, List.length_append, List.length_map, List.length_replicate, List.length_set]; omega) | (simp; done) | (simp; omega) | rfl))) (fun _ => ?_) | refine ops_step rfl (g_storeS rfl rfl (by (first | omega | (simp only [List.length_cons, List.length_nil, List.length_take, List.length_drop, List.length_append, List.length_map, List.length_replicate, List.length_set]; omega) | (simp; done) | (simp; omega) | rfl))) (fun _ => ?_))
    refine ops_nil ?_
    refine run_seq (run_sub (sc 3 rfl Sub.nil) (run_region (id := 7) ?_))
    refine ops_quiet rfl (Pure.q (p_move rfl)) ?_
    refine ops_quiet rfl (Pure.q (p_assign rfl)) ?_
    refine ops_nil ?_
    refine rets_one rfl rfl rfl ?_
    (repeat' first | exact Goes.nil | with_reducible apply Goes.exi | with_reducible apply Goes.all | with_reducible apply Goes.pur | ((with_reducible apply Goes.cons); focus ((repeat' constructor); done)) | with_reducible apply dsk_goes | with_reducible apply odk_goes) <;> (first | rfl | assumption | omega | (simp [*]; done) | skip)
    exact dk0_ok hn

/-- A sector is written. -/
def writeR (A : Dk) (n : Nat) (k : Int) (s : List UInt8) : Int × Dk :=
  if k < 0 ∨ n ≤ k ∨ 128 < s.length then (1, A)
  else if (meetR A).1 = 0 then (0, { (meetR A).2 with now := (meetR A).2.now.set k.toNat (s ++ List.replicate (128 - s.length) 0), dirty := (meetR A).2.dirty.set k.toNat true }) else meetR A
theorem writeR_ok {A : Dk} {n : Nat} (h : DkOk A n) {k : Nat} (hk : k < n) {s : List UInt8} (hs : s.length ≤ 128) : DkOk { A with now := A.now.set k (s ++ List.replicate (128 - s.length) 0), dirty := A.dirty.set k true } n := by
  refine ⟨by simp [h.now], h.sure, by simp [h.dirty], ?_, h.rows', ?_, h.plan, h.n⟩
  · intro r hr
    rcases List.mem_or_eq_of_mem_set hr with hr | rfl
    · exact h.rows r hr
    · simp; omega
  · intro j hj
    have hj : (A.dirty.set k true)[j]? = some false := hj
    show (A.now.set k _)[j]? = A.sure[j]?
    by_cases e : k = j
    · subst e
      rw [List.getElem?_set_self (by rw [h.dirty]; exact hk)] at hj
      cases hj
    · rw [List.getElem?_set_ne e] at hj ⊢
      exact h.clean j hj

theorem owrite_spec (x : Nat) (A : Dk) (n : Nat) (k : Int) (s : List UInt8) (hs : s.length ≤ 1000000) :
    Fn Tryz.prog 10 #[.pointer (some ⟨x, 0, none⟩), .int .i64 k, st s] [odk x A n] (fun v => [pur (v = .int .i64 (writeR A n k s).1), odk x (writeR A n k s).2 n]) := by
  refine fn_of_run Tryz.func10 rfl Tryz.ntmps10 (by simp) fun F => ?_
  refine run_odk fun vn vs vd vp hA => ?_
  refine run_facts vn fun _ => ?_
  simp only [List.zipIdx_cons, List.zipIdx_nil, List.map_cons, List.map_nil, Nat.zero_add, Nat.reduceAdd]
  refine run_seq (run_sub (sc 0 rfl (sc 1 rfl (sc 2 rfl Sub.nil))) (run_region (id := 0) ?_))
  refine ops_quiet rfl (Pure.q (p_assign rfl)) ?_
  refine ops_nil ?_
  refine run_seq (run_seq (run_sub (sc 0 rfl (sc 1 rfl (sc 2 rfl Sub.nil))) (run_region (id := 1) ?_)))
  refine ops_quiet rfl (Pure.q (p_move rfl)) ?_
  refine ops_quiet rfl (Pure.q (p_lss rfl rfl)) ?_
  refine ops_quiet rfl (Pure.q (p_move rfl)) ?_
  refine ops_case 10 rfl (fun hg10 => ?_) (fun hg10 => ?_)
  · (try simp only [decide_eq_true_eq, decide_eq_false_iff_not, Bool.not_eq_true', Bool.not_eq_false'] at hg10)
    rw [show writeR A n k s = (1, A) from if_pos (.inl hg10)]
    refine ops_no rfl rfl ?_
    refine ops_no rfl rfl ?_
    refine ops_no rfl rfl ?_
    refine ops_no rfl rfl ?_
    refine ops_no rfl rfl ?_
    refine ops_no rfl rfl ?_
    refine ops_no rfl rfl ?_
    refine ops_quiet rfl (Pure.q (p_pick_t rfl rfl)) ?_
    refine ops_quiet rfl (Pure.q (p_move rfl)) ?_
    refine ops_no rfl rfl ?_
    refine ops_no rfl rfl ?_
    refine ops_no rfl rfl ?_
    refine ops_quiet rfl (Pure.q (p_pick_t rfl rfl)) ?_
    refine ops_nil ?_
    refine run_cond_t rfl (run_seq (run_sub Sub.nil (run_region (id := 2) ?_)))
    refine ops_quiet rfl (Pure.q (p_assign rfl)) ?_
    refine ops_nil ?_
    refine rets_one rfl rfl rfl ?_
    (repeat' first | exact Goes.nil | with_reducible apply Goes.exi | with_reducible apply Goes.all | with_reducible apply Goes.pur | ((with_reducible apply Goes.cons); focus ((repeat' constructor); done)) | with_reducible apply dsk_goes | with_reducible apply odk_goes) <;> (first | rfl | assumption | omega | (simp [*]; done) | skip)
  · (try simp only [decide_eq_true_eq, decide_eq_false_iff_not, Bool.not_eq_true', Bool.not_eq_false'] at hg10)
    refine ops_yes rfl ?_
    refine ops_quiet rfl (Pure.q (p_move rfl)) ?_
    refine ops_yes rfl ?_
    refine ops_quiet rfl (Pure.q (p_move rfl)) ?_
    refine ops_yes rfl ?_
    (first | refine ops_quiet rfl (Pure.q (p_nil_ptr rfl)) ?_ | refine ops_quiet rfl (Pure.q (p_nilE rfl (by (first | omega | (simp only [List.length_cons, List.length_nil, List.length_take, List.length_drop, List.length_append, List.length_map, List.length_replicate, List.length_set]; omega) | (simp; done) | (simp; omega) | rfl)))) ?_ | refine ops_quiet rfl (k_nil rfl (by (first | omega | (simp only [List.length_cons, List.length_nil, List.length_take, List.length_drop, List.length_append, List.length_map, List.length_replicate, List.length_set]; omega) | (simp; done) | (simp; omega) | rfl))) ?_ | refine ops_quiet rfl (Pure.q (p_nil_func rfl)) ?_)
    refine ops_yes rfl ?_
    (first | refine ops_quiet rfl (Pure.q (p_fieldAddr rfl)) ?_ | refine ops_quiet rfl (Pure.q (p_fieldE rfl (by (first | omega | (simp only [List.length_cons, List.length_nil, List.length_take, List.length_drop, List.length_append, List.length_map, List.length_replicate, List.length_set]; omega) | (simp; done) | (simp; omega) | rfl)))) ?_ | refine ops_quiet rfl (k_field rfl (by (first | omega | (simp only [List.length_cons, List.length_nil, List.length_take, List.length_drop, List.length_append, List.length_map, List.length_replicate, List.length_set]; omega) | (simp; done) | (simp; omega) | rfl))) ?_)
    refine ops_yes rfl ?_
    (first | refine ops_quiet rfl (k_load rfl rfl) ?_ | refine ops_quiet rfl (k_loadM rfl (by (first | omega | (simp only [List.length_cons, List.length_nil, List.length_take, List.length_drop, List.length_append, List.length_map, List.length_replicate, List.length_set]; omega) | (simp; done) | (simp; omega) | rfl))) ?_ | refine ops_quiet rfl (k_loadS rfl (by (first | rfl | assumption | (apply hel; omega) | (apply hel2; omega) | (apply hel3; omega)))) ?_)
    refine ops_yes rfl ?_
    (first | refine ops_quiet rfl (Pure.q (p_lenL rfl)) ?_ | refine ops_quiet rfl (k_len rfl) ?_ | refine ops_quiet rfl (Pure.q (p_len_slice rfl)) ?_)
    refine ops_yes rfl ?_
    refine ops_quiet rfl (Pure.q (p_geq rfl rfl)) ?_
    refine ops_quiet rfl (Pure.q (p_pick_f rfl rfl)) ?_
    refine ops_quiet rfl (Pure.q (p_move rfl)) ?_
    refine ops_case 19 rfl (fun hg19 => ?_) (fun hg19 => ?_)
    · (try simp only [decide_eq_true_eq, decide_eq_false_iff_not, Bool.not_eq_true', Bool.not_eq_false'] at hg19)
      rw [show writeR A n k s = (1, A) from if_pos (.inr (.inl (by omega)))]
      refine ops_no rfl rfl ?_
      refine ops_no rfl rfl ?_
      refine ops_no rfl rfl ?_
      refine ops_quiet rfl (Pure.q (p_pick_t rfl rfl)) ?_
      refine ops_nil ?_
      refine run_cond_t rfl (run_seq (run_sub Sub.nil (run_region (id := 2) ?_)))
      refine ops_quiet rfl (Pure.q (p_assign rfl)) ?_
      refine ops_nil ?_
      refine rets_one rfl rfl rfl ?_
      (repeat' first | exact Goes.nil | with_reducible apply Goes.exi | with_reducible apply Goes.all | with_reducible apply Goes.pur | ((with_reducible apply Goes.cons); focus ((repeat' constructor); done)) | with_reducible apply dsk_goes | with_reducible apply odk_goes) <;> (first | rfl | assumption | omega | (simp [*]; done) | skip)
    · (try simp only [decide_eq_true_eq, decide_eq_false_iff_not, Bool.not_eq_true', Bool.not_eq_false'] at hg19)
      refine ops_yes rfl ?_
      refine ops_quiet rfl (Pure.q (p_move rfl)) ?_
      refine ops_yes rfl ?_
      refine ops_quiet rfl (Pure.q (p_len_st rfl)) ?_
      refine ops_yes rfl ?_
      refine ops_quiet rfl (Pure.q (p_gtr rfl rfl)) ?_
      refine ops_quiet rfl (Pure.q (p_pick_f rfl rfl)) ?_
      refine ops_nil ?_
      refine run_case 23 rfl (fun h23 => run_cond_t rfl ?_) (fun h23 => run_cond_f rfl ?_)
      · (try simp only [decide_eq_true_eq, decide_eq_false_iff_not, Bool.not_eq_true', Bool.not_eq_false'] at h23)
        rw [show writeR A n k s = (1, A) from if_pos (.inr (.inr (by omega)))]
        refine run_seq (run_sub Sub.nil (run_region (id := 2) ?_))
        refine ops_quiet rfl (Pure.q (p_assign rfl)) ?_
        refine ops_nil ?_
        refine rets_one rfl rfl rfl ?_
        (repeat' first | exact Goes.nil | with_reducible apply Goes.exi | with_reducible apply Goes.all | with_reducible apply Goes.pur | ((with_reducible apply Goes.cons); focus ((repeat' constructor); done)) | with_reducible apply dsk_goes | with_reducible apply odk_goes) <;> (first | rfl | assumption | omega | (simp [*]; done) | skip)
      · (try simp only [decide_eq_true_eq, decide_eq_false_iff_not, Bool.not_eq_true', Bool.not_eq_false'] at h23)
        have h : ¬ (k < 0 ∨ n ≤ k ∨ 128 < s.length) := by first | omega | (simp at h23; omega)
        refine run_ent (L' := [odk x A n]) (Goes.ent (by (repeat' first | exact Goes.nil | with_reducible apply Goes.exi | with_reducible apply Goes.all | with_reducible apply Goes.pur | ((with_reducible apply Goes.cons); focus ((repeat' constructor); done)) | with_reducible apply dsk_goes | with_reducible apply odk_goes) <;> first | assumption | rfl | omega)) ?_
        have e : writeR A n k s = if (meetR A).1 = 0 then (0, { (meetR A).2 with now := (meetR A).2.now.set k.toNat (s ++ List.replicate (128 - s.length) 0), dirty := (meetR A).2.dirty.set k.toNat true }) else meetR A := if_neg h
        rw [e]
        clear e
        refine run_skip (run_seq (run_sub (sc 0 rfl (sc 1 rfl (sc 2 rfl Sub.nil))) (run_region (id := 3) ?_)))
        refine ops_quiet rfl (Pure.q (p_move rfl)) ?_
        refine ops_step rfl (g_call (.cons rfl .nil) (by (repeat' constructor); done) (meets_spec _ _ _)) (fun u25 => ?_)
        refine ops_pur fun h25 => ?_
        subst h25
        refine ops_quiet rfl (Pure.q (p_assign rfl)) ?_
        refine ops_nil ?_
        refine run_seq (run_seq ?_)
        generalize meetR A = q
        obtain ⟨e, B⟩ := q
        refine run_sub (sc 0 rfl (sc 1 rfl (sc 2 rfl (sc 7 rfl Sub.nil)))) (run_region (id := 4) ?_)
        refine ops_quiet rfl (Pure.q (p_move rfl)) ?_
        refine ops_quiet rfl (Pure.q (p_eql rfl rfl)) ?_
        refine ops_nil ?_
        refine run_case 27 rfl (fun h27 => run_cond_t rfl ?_) (fun h27 => run_cond_f rfl ?_)
        · (try simp only [decide_eq_true_eq, decide_eq_false_iff_not, Bool.not_eq_true', Bool.not_eq_false'] at h27)
          subst h27
          rw [if_pos rfl]
          refine run_odk fun vn vs vd vp hA => ?_
          refine run_facts vn fun _ => run_facts vd fun _ => ?_
          have h1 := hA.now
          have h2 := hA.dirty
          have h3 := hA.n
          have h4 : k.toNat < n := by omega
          dsimp only at h1 h2
          refine run_sub (sc 0 rfl (sc 1 rfl (sc 2 rfl (sc 7 rfl Sub.nil)))) (run_draw (id := 5) ⟨[3, 8, 15], [0, 1, 2, 4, 5, 6, 7, 9, 10, 11, 12, 13, 16, 17, 19], [18, 20]⟩ (.cons 0 (.cons 1 (.cons 2 (.cons 3 (.cons 4 (.cons 5 (.cons 6 (.cons 7 (.cons 8 (.cons 9 (.cons 10 (.cons 11 (.cons 12 (.cons 13 (.cons 14 (.cons 15 (.cons 16 (.cons 17 (.cons 18 (.cons 19 (.cons 20 .nil))))))))))))))))))))) _ (Ent.refl _) mixed (by kernel_rfl) panOk_body (by rfl) (by kernel_rfl) ?_)
          refine dp_pure rfl rfl rfl rfl rfl (p_move rfl) ?_
          (first | refine dp_pure rfl rfl rfl rfl rfl (p_nil_ptr rfl) ?_ | refine dp_pure rfl rfl rfl rfl rfl (p_nilE rfl (by (first | omega | (simp only [List.length_cons, List.length_nil, List.length_take, List.length_drop, List.length_append, List.length_map, List.length_replicate, List.length_set]; omega) | (simp; done) | (simp; omega) | rfl))) ?_ | refine dp_pure rfl rfl rfl rfl rfl (p_nil_func rfl) ?_)
          (first | refine dp_pure rfl rfl rfl rfl rfl (p_fieldAddr rfl) ?_ | refine dp_pure rfl rfl rfl rfl rfl (p_fieldE rfl (by (first | omega | (simp only [List.length_cons, List.length_nil, List.length_take, List.length_drop, List.length_append, List.length_map, List.length_replicate, List.length_set]; omega) | (simp; done) | (simp; omega) | rfl))) ?_)
          (first | refine dp_quiet rfl rfl rfl rfl (k_load rfl rfl) ?_ | refine dp_quiet rfl rfl rfl rfl (k_loadM rfl (by (first | omega | (simp only [List.length_cons, List.length_nil, List.length_take, List.length_drop, List.length_append, List.length_map, List.length_replicate, List.length_set]; omega) | (simp; done) | (simp; omega) | rfl))) ?_ | refine dp_quiet rfl rfl rfl rfl (k_loadS rfl (by (first | rfl | assumption | (apply hel; omega) | (apply hel2; omega) | (apply hel3; omega)))) ?_)
          refine dp_pure rfl rfl rfl rfl rfl (p_move rfl) ?_
          refine dp_pure rfl rfl rfl rfl rfl (p_move rfl) ?_
          (first | refine dp_pure rfl rfl rfl rfl rfl (p_nil_ptr rfl) ?_ | refine dp_pure rfl rfl rfl rfl rfl (p_nilE rfl (by (first | omega | (simp only [List.length_cons, List.length_nil, List.length_take, List.length_drop, List.length_append, List.length_map, List.length_replicate, List.length_set]; omega) | (simp; done) | (simp; omega) | rfl))) ?_ | refine dp_pure rfl rfl rfl rfl rfl (p_nil_func rfl) ?_)
          (first | refine dp_pure rfl rfl rfl rfl rfl (p_fieldAddr rfl) ?_ | refine dp_pure rfl rfl rfl rfl rfl (p_fieldE rfl (by (first | omega | (simp only [List.length_cons, List.length_nil, List.length_take, List.length_drop, List.length_append, List.length_map, List.length_replicate, List.length_set]; omega) | (simp; done) | (simp; omega) | rfl))) ?_)
          (first | refine dp_quiet rfl rfl rfl rfl (k_load rfl rfl) ?_ | refine dp_quiet rfl rfl rfl rfl (k_loadM rfl (by (first | omega | (simp only [List.length_cons, List.length_nil, List.length_take, List.length_drop, List.length_append, List.length_map, List.length_replicate, List.length_set]; omega) | (simp; done) | (simp; omega) | rfl))) ?_ | refine dp_quiet rfl rfl rfl rfl (k_loadS rfl (by (first | rfl | assumption | (apply hel; omega) | (apply hel2; omega) | (apply hel3; omega)))) ?_)
          refine dp_pure rfl rfl rfl rfl rfl (p_move rfl) ?_
          refine dp_pure rfl rfl rfl rfl rfl (p_move rfl) ?_
          refine dp_pure rfl rfl rfl rfl rfl (p_move rfl) ?_
          refine dp_pure rfl rfl rfl rfl rfl (p_len_st rfl) ?_
          refine dp_pure rfl rfl rfl rfl rfl (p_sub rfl rfl (by (first | exact wrap_byte _ | exact wrap_i64 (by omega) (by omega) | exact wrap_u8 (by omega) (by omega) | exact wrap_u64 (by omega) (by omega) | exact wrap_u32 (by omega) (by omega) | rfl))) ?_
          refine dp_step rfl rfl rfl rfl (g_makeSliceM rfl rfl (by (first | omega | (simp only [List.length_cons, List.length_nil, List.length_take, List.length_drop, List.length_append, List.length_map, List.length_replicate, List.length_set]; omega) | (simp; done) | (simp; omega) | rfl)) (by (first | omega | (simp only [List.length_cons, List.length_nil, List.length_take, List.length_drop, List.length_append, List.length_map, List.length_replicate, List.length_set]; omega) | (simp; done) | (simp; omega) | rfl)) (by (first | omega | (simp only [List.length_cons, List.length_nil, List.length_take, List.length_drop, List.length_append, List.length_map, List.length_replicate, List.length_set]; omega) | (simp; done) | (simp; omega) | rfl))) (fun _ => Goes.ent (by repeat' first | exact Goes.nil | with_reducible apply Goes.exi | with_reducible apply Goes.all | with_reducible apply Goes.pur | ((with_reducible apply Goes.cons); focus ((repeat' constructor); done)) | with_reducible apply dsk_goes | with_reducible apply odk_goes)) (fun v42 => ?_)
          (try refine dp_ln fun _ => ?_)
          refine dp_grow (Goes.ent (by repeat' first | exact Goes.nil | with_reducible apply Goes.exi | with_reducible apply Goes.all | with_reducible apply Goes.pur | ((with_reducible apply Goes.cons); focus ((repeat' constructor); done)) | with_reducible apply dsk_goes | with_reducible apply odk_goes)) ?_
          refine dp_quiet rfl rfl rfl rfl (k_bytesStr rfl rfl) ?_
          refine dp_pure rfl rfl rfl rfl rfl (p_add_st rfl rfl (by (first | omega | (simp only [List.length_cons, List.length_nil, List.length_take, List.length_drop, List.length_append, List.length_map, List.length_replicate, List.length_set]; omega) | (simp; done) | (simp; omega) | rfl))) ?_
          refine dp_pure rfl rfl rfl rfl rfl (p_indexL1 rfl rfl (by (first | omega | (simp only [List.length_cons, List.length_nil, List.length_take, List.length_drop, List.length_append, List.length_map, List.length_replicate, List.length_set]; omega) | (simp; done) | (simp; omega) | rfl)) (by (first | omega | (simp only [List.length_cons, List.length_nil, List.length_take, List.length_drop, List.length_append, List.length_map, List.length_replicate, List.length_set]; omega) | (simp; done) | (simp; omega) | rfl))) ?_
          (first | refine dp_last rfl rfl rfl rfl rfl (g_store rfl rfl rfl) (fun _ => ?_) | refine dp_last rfl rfl rfl rfl rfl (g_storeM rfl rfl (by (first | omega | (simp only [List.length_cons, List.length_nil, List.length_take, List.length_drop, List.length_append, List.length_map, List.length_replicate, List.length_set]; omega) | (simp; done) | (simp; omega) | rfl))) (fun _ => ?_) | refine dp_last rfl rfl rfl rfl rfl (g_storeS rfl rfl (by (first | omega | (simp only [List.length_cons, List.length_nil, List.length_take, List.length_drop, List.length_append, List.length_map, List.length_replicate, List.length_set]; omega) | (simp; done) | (simp; omega) | rfl))) (fun _ => ?_))
          refine dp_pure rfl rfl rfl rfl rfl (p_indexL1 rfl rfl (by (first | omega | (simp only [List.length_cons, List.length_nil, List.length_take, List.length_drop, List.length_append, List.length_map, List.length_replicate, List.length_set]; omega) | (simp; done) | (simp; omega) | rfl)) (by (first | omega | (simp only [List.length_cons, List.length_nil, List.length_take, List.length_drop, List.length_append, List.length_map, List.length_replicate, List.length_set]; omega) | (simp; done) | (simp; omega) | rfl))) ?_
          (first | refine dp_last rfl rfl rfl rfl rfl (g_store rfl rfl rfl) (fun _ => ?_) | refine dp_last rfl rfl rfl rfl rfl (g_storeM rfl rfl (by (first | omega | (simp only [List.length_cons, List.length_nil, List.length_take, List.length_drop, List.length_append, List.length_map, List.length_replicate, List.length_set]; omega) | (simp; done) | (simp; omega) | rfl))) (fun _ => ?_) | refine dp_last rfl rfl rfl rfl rfl (g_storeS rfl rfl (by (first | omega | (simp only [List.length_cons, List.length_nil, List.length_take, List.length_drop, List.length_append, List.length_map, List.length_replicate, List.length_set]; omega) | (simp; done) | (simp; omega) | rfl))) (fun _ => ?_))
          refine dp_nil ?_
          refine run_seq (run_sub (sc 7 rfl Sub.nil) (run_region (id := 6) ?_))
          refine ops_quiet rfl (Pure.q (p_move rfl)) ?_
          refine ops_quiet rfl (Pure.q (p_assign rfl)) ?_
          refine ops_nil ?_
          refine rets_one rfl rfl rfl ?_
          rw [show (128 - (s.length : Int)).toNat = 128 - s.length by omega]
          (repeat' first | exact Goes.nil | with_reducible apply Goes.exi | with_reducible apply Goes.all | with_reducible apply Goes.pur | ((with_reducible apply Goes.cons); focus ((repeat' constructor); done)) | with_reducible apply dsk_goes | with_reducible apply odk_goes) <;> (first | rfl | assumption | omega | (simp [*]; done) | skip)
          exact writeR_ok hA h4 (by omega)
        · (try simp only [decide_eq_true_eq, decide_eq_false_iff_not, Bool.not_eq_true', Bool.not_eq_false'] at h27)
          rw [if_neg h27]
          refine run_skip (run_seq (run_sub (sc 7 rfl Sub.nil) (run_region (id := 6) ?_)))
          refine ops_quiet rfl (Pure.q (p_move rfl)) ?_
          refine ops_quiet rfl (Pure.q (p_assign rfl)) ?_
          refine ops_nil ?_
          refine rets_one rfl rfl rfl ?_
          (repeat' first | exact Goes.nil | with_reducible apply Goes.exi | with_reducible apply Goes.all | with_reducible apply Goes.pur | ((with_reducible apply Goes.cons); focus ((repeat' constructor); done)) | with_reducible apply dsk_goes | with_reducible apply odk_goes) <;> (first | rfl | assumption | omega | (simp [*]; done) | skip)
end Go.Proofs.YtaibgfnfmkpibaaGreatDoor.SL
