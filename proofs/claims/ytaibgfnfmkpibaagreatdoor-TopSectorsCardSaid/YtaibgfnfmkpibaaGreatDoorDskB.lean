/- The disk: has, meet, Off, Len. -/
import Derived.Test.YtaibgfnfmkpibaaGreatDoorDskA
namespace Go.Proofs.YtaibgfnfmkpibaaGreatDoor.SL
open Go
attribute [local irreducible] mp mit blk rbk pt exi pur ob orb sv pv own rsl rxs elp sub st Pure Quiet Step Run Ops Dp Fn Ent Tk Holds
attribute [local irreducible] dsk odk

theorem has_spec (x : Nat) (A : Dk) (n : Nat) (k : Int) :
    Fn Tryz.prog 23 #[.pointer (some ⟨x, 0, none⟩), .int .i64 k] [dsk x A n] (fun v => [pur (v = .bool (decide (0 ≤ k ∧ k < n))), dsk x A n]) := by
  refine fn_of_run Tryz.func23 rfl Tryz.ntmps23 (by simp) fun F => ?_
  refine run_dsk fun vn vp m om hA hO => ?_
  simp only [List.zipIdx_cons, List.zipIdx_nil, List.map_cons, List.map_nil, Nat.zero_add, Nat.reduceAdd]
  refine run_seq (run_sub (sc 0 rfl (sc 1 rfl Sub.nil)) (run_region (id := 0) ?_))
  refine ops_quiet rfl (Pure.q (p_assign rfl)) ?_
  refine ops_nil ?_
  refine run_seq (run_sub (sc 0 rfl (sc 1 rfl Sub.nil)) (run_region (id := 1) ?_))
  refine ops_quiet rfl (Pure.q (p_move rfl)) ?_
  refine ops_quiet rfl (Pure.q (p_geq rfl rfl)) ?_
  refine ops_quiet rfl (Pure.q (p_move rfl)) ?_
  refine ops_case 7 rfl (fun hg7 => ?_) (fun hg7 => ?_)
  · (try simp only [decide_eq_true_eq, decide_eq_false_iff_not, Bool.not_eq_true', Bool.not_eq_false'] at hg7)
    refine ops_yes rfl ?_
    refine ops_quiet rfl (Pure.q (p_move rfl)) ?_
    refine ops_yes rfl ?_
    refine ops_quiet rfl (Pure.q (p_move rfl)) ?_
    refine ops_yes rfl ?_
    (first | refine ops_quiet rfl (Pure.q (p_nil_ptr rfl)) ?_ | refine ops_quiet rfl (Pure.q (p_nilE rfl (by (first | omega | (simp only [List.length_cons, List.length_nil, List.length_take, List.length_drop, List.length_append, List.length_map, List.length_replicate, List.length_set]; omega) | (simp; done) | (simp; omega) | rfl)))) ?_ | refine ops_quiet rfl (k_nil rfl (by (first | omega | (simp only [List.length_cons, List.length_nil, List.length_take, List.length_drop, List.length_append, List.length_map, List.length_replicate, List.length_set]; omega) | (simp; done) | (simp; omega) | rfl))) ?_ | refine ops_quiet rfl (Pure.q (p_nil_func rfl)) ?_)
    refine ops_yes rfl ?_
    (first | refine ops_quiet rfl (Pure.q (p_fieldAddr rfl)) ?_ | refine ops_quiet rfl (Pure.q (p_fieldE rfl (by (first | omega | (simp only [List.length_cons, List.length_nil, List.length_take, List.length_drop, List.length_append, List.length_map, List.length_replicate, List.length_set]; omega) | (simp; done) | (simp; omega) | rfl)))) ?_ | refine ops_quiet rfl (k_field rfl (by (first | omega | (simp only [List.length_cons, List.length_nil, List.length_take, List.length_drop, List.length_append, List.length_map, List.length_replicate, List.length_set]; omega) | (simp; done) | (simp; omega) | rfl))) ?_)
    refine ops_yes rfl ?_
    (first | refine ops_quiet rfl (k_load rfl rfl) ?_ | refine ops_quiet rfl (k_loadM rfl (by (first | omega | (simp only [List.length_cons, List.length_nil, List.length_take, List.length_drop, List.length_append, List.length_map, List.length_replicate, List.length_set]; omega) | (simp; done) | (simp; omega) | rfl))) ?_ | refine ops_quiet rfl (k_loadS rfl (by (first | rfl | assumption | (apply hel; omega) | (apply hel2; omega) | (apply hel3; omega)))) ?_)
    refine ops_yes rfl ?_
    (first | refine ops_quiet rfl (Pure.q (p_lenL rfl)) ?_ | refine ops_quiet rfl (k_len rfl) ?_ | refine ops_quiet rfl (Pure.q (p_len_slice rfl)) ?_)
    refine ops_yes rfl ?_
    refine ops_quiet rfl (Pure.q (p_lss rfl rfl)) ?_
    refine ops_quiet rfl (Pure.q (p_pick_t rfl rfl)) ?_
    refine ops_quiet rfl (Pure.q (p_assign rfl)) ?_
    refine ops_nil ?_
    refine rets_one rfl rfl rfl ?_
    (repeat' first | exact Goes.nil | with_reducible apply Goes.exi | with_reducible apply Goes.all | with_reducible apply Goes.pur | ((with_reducible apply Goes.cons); focus ((repeat' constructor); done)) | with_reducible apply dsk_goes | with_reducible apply odk_goes) <;> (first | rfl | assumption | omega | (simp [*]; done) | skip)
  · (try simp only [decide_eq_true_eq, decide_eq_false_iff_not, Bool.not_eq_true', Bool.not_eq_false'] at hg7)
    refine ops_no rfl rfl ?_
    refine ops_no rfl rfl ?_
    refine ops_no rfl rfl ?_
    refine ops_no rfl rfl ?_
    refine ops_no rfl rfl ?_
    refine ops_no rfl rfl ?_
    refine ops_no rfl rfl ?_
    refine ops_quiet rfl (Pure.q (p_pick_f rfl rfl)) ?_
    refine ops_quiet rfl (Pure.q (p_assign rfl)) ?_
    refine ops_nil ?_
    refine rets_one rfl rfl rfl ?_
    (repeat' first | exact Goes.nil | with_reducible apply Goes.exi | with_reducible apply Goes.all | with_reducible apply Goes.pur | ((with_reducible apply Goes.cons); focus ((repeat' constructor); done)) | with_reducible apply dsk_goes | with_reducible apply odk_goes) <;> (first | rfl | assumption | omega | (simp [*]; done) | skip)

theorem meet_spec (x : Nat) (A : Dk) (n : Nat) :
    Fn Tryz.prog 24 #[.pointer (some ⟨x, 0, none⟩)] [dsk x A n] (fun v => [pur (v = .int .i64 (meetR A).1), dsk x (meetR A).2 n]) := by
  refine fn_of_run Tryz.func24 rfl Tryz.ntmps24 (by simp) fun F => ?_
  refine run_dsk fun vn vp m om hA hO => ?_
  obtain ⟨now, sure, dirty, plan, off⟩ := A
  simp only [List.zipIdx_cons, List.zipIdx_nil, List.map_cons, List.map_nil, Nat.zero_add, Nat.reduceAdd]
  refine run_seq (run_sub (sc 0 rfl Sub.nil) (run_region (id := 0) ?_))
  refine ops_quiet rfl (Pure.q (p_assign rfl)) ?_
  refine ops_nil ?_
  refine run_seq (run_seq (run_sub (sc 0 rfl Sub.nil) (run_region (id := 1) ?_)))
  refine ops_quiet rfl (Pure.q (p_move rfl)) ?_
  (first | refine ops_quiet rfl (Pure.q (p_nil_ptr rfl)) ?_ | refine ops_quiet rfl (Pure.q (p_nilE rfl (by (first | omega | (simp only [List.length_cons, List.length_nil, List.length_take, List.length_drop, List.length_append, List.length_map, List.length_replicate, List.length_set]; omega) | (simp; done) | (simp; omega) | rfl)))) ?_ | refine ops_quiet rfl (k_nil rfl (by (first | omega | (simp only [List.length_cons, List.length_nil, List.length_take, List.length_drop, List.length_append, List.length_map, List.length_replicate, List.length_set]; omega) | (simp; done) | (simp; omega) | rfl))) ?_ | refine ops_quiet rfl (Pure.q (p_nil_func rfl)) ?_)
  (first | refine ops_quiet rfl (Pure.q (p_fieldAddr rfl)) ?_ | refine ops_quiet rfl (Pure.q (p_fieldE rfl (by (first | omega | (simp only [List.length_cons, List.length_nil, List.length_take, List.length_drop, List.length_append, List.length_map, List.length_replicate, List.length_set]; omega) | (simp; done) | (simp; omega) | rfl)))) ?_ | refine ops_quiet rfl (k_field rfl (by (first | omega | (simp only [List.length_cons, List.length_nil, List.length_take, List.length_drop, List.length_append, List.length_map, List.length_replicate, List.length_set]; omega) | (simp; done) | (simp; omega) | rfl))) ?_)
  (first | refine ops_quiet rfl (k_load rfl rfl) ?_ | refine ops_quiet rfl (k_loadM rfl (by (first | omega | (simp only [List.length_cons, List.length_nil, List.length_take, List.length_drop, List.length_append, List.length_map, List.length_replicate, List.length_set]; omega) | (simp; done) | (simp; omega) | rfl))) ?_ | refine ops_quiet rfl (k_loadS rfl (by (first | rfl | assumption | (apply hel; omega) | (apply hel2; omega) | (apply hel3; omega)))) ?_)
  refine ops_nil ?_
  refine run_case 7 rfl (fun h7 => run_cond_t rfl ?_) (fun h7 => run_cond_f rfl ?_)
  · (try simp only [decide_eq_true_eq, decide_eq_false_iff_not, Bool.not_eq_true', Bool.not_eq_false'] at h7)
    subst h7
    refine run_seq (run_sub Sub.nil (run_region (id := 2) ?_))
    refine ops_quiet rfl (Pure.q (p_assign rfl)) ?_
    refine ops_nil ?_
    refine rets_one rfl rfl rfl ?_
    (try simp only [meetR, *, eq_self, Bool.false_eq_true, if_true, if_false])
    (repeat' first | exact Goes.nil | with_reducible apply Goes.exi | with_reducible apply Goes.all | with_reducible apply Goes.pur | ((with_reducible apply Goes.cons); focus ((repeat' constructor); done)) | with_reducible apply dsk_goes | with_reducible apply odk_goes) <;> (first | rfl | assumption | omega | (simp [*]; done) | skip)
    all_goals first | exact hA' _ | exact hO' _
  · (try simp only [decide_eq_true_eq, decide_eq_false_iff_not, Bool.not_eq_true', Bool.not_eq_false'] at h7)
    subst h7
    refine run_skip (run_seq (run_seq (run_sub (sc 0 rfl Sub.nil) (run_region (id := 3) ?_))))
    refine ops_quiet rfl (Pure.q (p_move rfl)) ?_
    (first | refine ops_quiet rfl (Pure.q (p_nil_ptr rfl)) ?_ | refine ops_quiet rfl (Pure.q (p_nilE rfl (by (first | omega | (simp only [List.length_cons, List.length_nil, List.length_take, List.length_drop, List.length_append, List.length_map, List.length_replicate, List.length_set]; omega) | (simp; done) | (simp; omega) | rfl)))) ?_ | refine ops_quiet rfl (k_nil rfl (by (first | omega | (simp only [List.length_cons, List.length_nil, List.length_take, List.length_drop, List.length_append, List.length_map, List.length_replicate, List.length_set]; omega) | (simp; done) | (simp; omega) | rfl))) ?_ | refine ops_quiet rfl (Pure.q (p_nil_func rfl)) ?_)
    (first | refine ops_quiet rfl (Pure.q (p_fieldAddr rfl)) ?_ | refine ops_quiet rfl (Pure.q (p_fieldE rfl (by (first | omega | (simp only [List.length_cons, List.length_nil, List.length_take, List.length_drop, List.length_append, List.length_map, List.length_replicate, List.length_set]; omega) | (simp; done) | (simp; omega) | rfl)))) ?_ | refine ops_quiet rfl (k_field rfl (by (first | omega | (simp only [List.length_cons, List.length_nil, List.length_take, List.length_drop, List.length_append, List.length_map, List.length_replicate, List.length_set]; omega) | (simp; done) | (simp; omega) | rfl))) ?_)
    (first | refine ops_quiet rfl (k_load rfl rfl) ?_ | refine ops_quiet rfl (k_loadM rfl (by (first | omega | (simp only [List.length_cons, List.length_nil, List.length_take, List.length_drop, List.length_append, List.length_map, List.length_replicate, List.length_set]; omega) | (simp; done) | (simp; omega) | rfl))) ?_ | refine ops_quiet rfl (k_loadS rfl (by (first | rfl | assumption | (apply hel; omega) | (apply hel2; omega) | (apply hel3; omega)))) ?_)
    (first | refine ops_quiet rfl (Pure.q (p_lenL rfl)) ?_ | refine ops_quiet rfl (k_len rfl) ?_ | refine ops_quiet rfl (Pure.q (p_len_slice rfl)) ?_)
    refine ops_quiet rfl (Pure.q (p_eql rfl rfl)) ?_
    refine ops_nil ?_
    refine run_case 13 rfl (fun h13 => run_cond_t rfl ?_) (fun h13 => run_cond_f rfl ?_)
    · (try simp only [decide_eq_true_eq, decide_eq_false_iff_not, Bool.not_eq_true', Bool.not_eq_false'] at h13)
      cases plan with | cons c p => (exfalso; revert h13; simp; try omega) | nil => ?_
      refine run_seq (run_sub Sub.nil (run_region (id := 4) ?_))
      refine ops_quiet rfl (Pure.q (p_assign rfl)) ?_
      refine ops_nil ?_
      refine rets_one rfl rfl rfl ?_
      (try simp only [meetR, *, eq_self, Bool.false_eq_true, if_true, if_false])
      (repeat' first | exact Goes.nil | with_reducible apply Goes.exi | with_reducible apply Goes.all | with_reducible apply Goes.pur | ((with_reducible apply Goes.cons); focus ((repeat' constructor); done)) | with_reducible apply dsk_goes | with_reducible apply odk_goes) <;> (first | rfl | assumption | omega | (simp [*]; done) | skip)
      all_goals first | exact hA' _ | exact hO' _
    · (try simp only [decide_eq_true_eq, decide_eq_false_iff_not, Bool.not_eq_true', Bool.not_eq_false'] at h13)
      cases plan with | nil => (exfalso; revert h13; simp; try omega) | cons c p => ?_
      have hA' := fun b => hA.less p (Nat.le_succ _) b
      have hO' := fun b => hO.less p b
      refine run_skip (run_seq (run_sub (sc 0 rfl Sub.nil) (run_region (id := 5) ?_)))
      refine ops_quiet rfl (Pure.q (p_move rfl)) ?_
      (first | refine ops_quiet rfl (Pure.q (p_nil_ptr rfl)) ?_ | refine ops_quiet rfl (Pure.q (p_nilE rfl (by (first | omega | (simp only [List.length_cons, List.length_nil, List.length_take, List.length_drop, List.length_append, List.length_map, List.length_replicate, List.length_set]; omega) | (simp; done) | (simp; omega) | rfl)))) ?_ | refine ops_quiet rfl (k_nil rfl (by (first | omega | (simp only [List.length_cons, List.length_nil, List.length_take, List.length_drop, List.length_append, List.length_map, List.length_replicate, List.length_set]; omega) | (simp; done) | (simp; omega) | rfl))) ?_ | refine ops_quiet rfl (Pure.q (p_nil_func rfl)) ?_)
      (first | refine ops_quiet rfl (Pure.q (p_fieldAddr rfl)) ?_ | refine ops_quiet rfl (Pure.q (p_fieldE rfl (by (first | omega | (simp only [List.length_cons, List.length_nil, List.length_take, List.length_drop, List.length_append, List.length_map, List.length_replicate, List.length_set]; omega) | (simp; done) | (simp; omega) | rfl)))) ?_ | refine ops_quiet rfl (k_field rfl (by (first | omega | (simp only [List.length_cons, List.length_nil, List.length_take, List.length_drop, List.length_append, List.length_map, List.length_replicate, List.length_set]; omega) | (simp; done) | (simp; omega) | rfl))) ?_)
      (first | refine ops_quiet rfl (k_load rfl rfl) ?_ | refine ops_quiet rfl (k_loadM rfl (by (first | omega | (simp only [List.length_cons, List.length_nil, List.length_take, List.length_drop, List.length_append, List.length_map, List.length_replicate, List.length_set]; omega) | (simp; done) | (simp; omega) | rfl))) ?_ | refine ops_quiet rfl (k_loadS rfl (by (first | rfl | assumption | (apply hel; omega) | (apply hel2; omega) | (apply hel3; omega)))) ?_)
      (first | refine ops_quiet rfl (Pure.q (p_indexL1 rfl rfl (by (first | omega | (simp only [List.length_cons, List.length_nil, List.length_take, List.length_drop, List.length_append, List.length_map, List.length_replicate, List.length_set]; omega) | (simp; done) | (simp; omega) | rfl)) (by (first | omega | (simp only [List.length_cons, List.length_nil, List.length_take, List.length_drop, List.length_append, List.length_map, List.length_replicate, List.length_set]; omega) | (simp; done) | (simp; omega) | rfl)))) ?_ | refine ops_quiet rfl (k_index1 rfl rfl (by (first | omega | (simp only [List.length_cons, List.length_nil, List.length_take, List.length_drop, List.length_append, List.length_map, List.length_replicate, List.length_set]; omega) | (simp; done) | (simp; omega) | rfl)) (by (first | omega | (simp only [List.length_cons, List.length_nil, List.length_take, List.length_drop, List.length_append, List.length_map, List.length_replicate, List.length_set]; omega) | (simp; done) | (simp; omega) | rfl))) ?_)
      (first | refine ops_quiet rfl (k_load rfl rfl) ?_ | refine ops_quiet rfl (k_loadM rfl (by (first | omega | (simp only [List.length_cons, List.length_nil, List.length_take, List.length_drop, List.length_append, List.length_map, List.length_replicate, List.length_set]; omega) | (simp; done) | (simp; omega) | rfl))) ?_ | refine ops_quiet rfl (k_loadS rfl (by (first | rfl | assumption | (apply hel; omega) | (apply hel2; omega) | (apply hel3; omega)))) ?_)
      refine ops_quiet rfl (Pure.q (p_assign rfl)) ?_
      refine ops_nil ?_
      refine run_seq (run_sub (sc 0 rfl (sc 3 rfl Sub.nil)) (run_region (id := 6) ?_))
      refine ops_quiet rfl (Pure.q (p_move rfl)) ?_
      refine ops_quiet rfl (Pure.q (p_move rfl)) ?_
      (first | refine ops_quiet rfl (Pure.q (p_nil_ptr rfl)) ?_ | refine ops_quiet rfl (Pure.q (p_nilE rfl (by (first | omega | (simp only [List.length_cons, List.length_nil, List.length_take, List.length_drop, List.length_append, List.length_map, List.length_replicate, List.length_set]; omega) | (simp; done) | (simp; omega) | rfl)))) ?_ | refine ops_quiet rfl (k_nil rfl (by (first | omega | (simp only [List.length_cons, List.length_nil, List.length_take, List.length_drop, List.length_append, List.length_map, List.length_replicate, List.length_set]; omega) | (simp; done) | (simp; omega) | rfl))) ?_ | refine ops_quiet rfl (Pure.q (p_nil_func rfl)) ?_)
      (first | refine ops_quiet rfl (Pure.q (p_fieldAddr rfl)) ?_ | refine ops_quiet rfl (Pure.q (p_fieldE rfl (by (first | omega | (simp only [List.length_cons, List.length_nil, List.length_take, List.length_drop, List.length_append, List.length_map, List.length_replicate, List.length_set]; omega) | (simp; done) | (simp; omega) | rfl)))) ?_ | refine ops_quiet rfl (k_field rfl (by (first | omega | (simp only [List.length_cons, List.length_nil, List.length_take, List.length_drop, List.length_append, List.length_map, List.length_replicate, List.length_set]; omega) | (simp; done) | (simp; omega) | rfl))) ?_)
      (first | refine ops_quiet rfl (k_load rfl rfl) ?_ | refine ops_quiet rfl (k_loadM rfl (by (first | omega | (simp only [List.length_cons, List.length_nil, List.length_take, List.length_drop, List.length_append, List.length_map, List.length_replicate, List.length_set]; omega) | (simp; done) | (simp; omega) | rfl))) ?_ | refine ops_quiet rfl (k_loadS rfl (by (first | rfl | assumption | (apply hel; omega) | (apply hel2; omega) | (apply hel3; omega)))) ?_)
      refine ops_step rfl (g_tail rfl rfl (by (first | omega | (simp only [List.length_cons, List.length_nil, List.length_take, List.length_drop, List.length_append, List.length_map, List.length_replicate, List.length_set]; omega) | (simp; done) | (simp; omega) | rfl)) (by (first | omega | (simp only [List.length_cons, List.length_nil, List.length_take, List.length_drop, List.length_append, List.length_map, List.length_replicate, List.length_set]; omega) | (simp; done) | (simp; omega) | rfl))) (fun v25 => ?_)
      (try refine ops_ln fun _ => ?_)
      (first | refine ops_quiet rfl (Pure.q (p_nil_ptr rfl)) ?_ | refine ops_quiet rfl (Pure.q (p_nilE rfl (by (first | omega | (simp only [List.length_cons, List.length_nil, List.length_take, List.length_drop, List.length_append, List.length_map, List.length_replicate, List.length_set]; omega) | (simp; done) | (simp; omega) | rfl)))) ?_ | refine ops_quiet rfl (k_nil rfl (by (first | omega | (simp only [List.length_cons, List.length_nil, List.length_take, List.length_drop, List.length_append, List.length_map, List.length_replicate, List.length_set]; omega) | (simp; done) | (simp; omega) | rfl))) ?_ | refine ops_quiet rfl (Pure.q (p_nil_func rfl)) ?_)
      (first | refine ops_quiet rfl (Pure.q (p_fieldAddr rfl)) ?_ | refine ops_quiet rfl (Pure.q (p_fieldE rfl (by (first | omega | (simp only [List.length_cons, List.length_nil, List.length_take, List.length_drop, List.length_append, List.length_map, List.length_replicate, List.length_set]; omega) | (simp; done) | (simp; omega) | rfl)))) ?_ | refine ops_quiet rfl (k_field rfl (by (first | omega | (simp only [List.length_cons, List.length_nil, List.length_take, List.length_drop, List.length_append, List.length_map, List.length_replicate, List.length_set]; omega) | (simp; done) | (simp; omega) | rfl))) ?_)
      (first | refine ops_step rfl (g_store rfl rfl rfl) (fun _ => ?_) | refine ops_step rfl (g_storeM rfl rfl (by (first | omega | (simp only [List.length_cons, List.length_nil, List.length_take, List.length_drop, List.length_append, List.length_map, List.length_replicate, List.length_set]; omega) | (simp; done) | (simp; omega) | rfl))) (fun _ => ?_) | refine ops_step rfl (g_storeS rfl rfl (by (first | omega | (simp only [List.length_cons, List.length_nil, List.length_take, List.length_drop, List.length_append, List.length_map, List.length_replicate, List.length_set]; omega) | (simp; done) | (simp; omega) | rfl))) (fun _ => ?_))
      refine ops_nil ?_
      refine run_seq (run_seq (run_sub (sc 0 rfl (sc 3 rfl Sub.nil)) (run_region (id := 7) ?_)))
      refine ops_quiet rfl (Pure.q (p_move rfl)) ?_
      refine ops_nil ?_
      refine run_block (run_seq (run_sub (sc 0 rfl (sc 28 rfl Sub.nil)) (run_region (id := 8) ?_)))
      refine ops_quiet rfl (Pure.q (p_eql rfl rfl)) ?_
      refine ops_quiet rfl (Pure.q (p_assign rfl)) ?_
      refine ops_nil ?_
      refine run_case 29 rfl (fun h29 => run_cond_t rfl ?_) (fun h29 => run_cond_f rfl ?_)
      · (try simp only [decide_eq_true_eq, decide_eq_false_iff_not, Bool.not_eq_true', Bool.not_eq_false'] at h29)
        obtain rfl : c = 1 := u8_is h29
        refine run_seq (run_sub Sub.nil (run_region (id := 9) ?_))
        refine ops_quiet rfl (Pure.q (p_assign rfl)) ?_
        refine ops_nil ?_
        refine rets_one rfl rfl rfl ?_
        (try simp only [meetR, *, eq_self, Bool.false_eq_true, if_true, if_false])
        (repeat' first | exact Goes.nil | with_reducible apply Goes.exi | with_reducible apply Goes.all | with_reducible apply Goes.pur | ((with_reducible apply Goes.cons); focus ((repeat' constructor); done)) | with_reducible apply dsk_goes | with_reducible apply odk_goes) <;> (first | rfl | assumption | omega | (simp [*]; done) | skip)
        all_goals first | exact hA' _ | exact hO' _
      · (try simp only [decide_eq_true_eq, decide_eq_false_iff_not, Bool.not_eq_true', Bool.not_eq_false'] at h29)
        have hc1 : c ≠ 1 := fun h => h29 (by rw [h]; rfl)
        refine run_seq (run_sub (sc 0 rfl (sc 28 rfl Sub.nil)) (run_region (id := 10) ?_))
        refine ops_quiet rfl (Pure.q (p_eql rfl rfl)) ?_
        refine ops_quiet rfl (Pure.q (p_assign rfl)) ?_
        refine ops_nil ?_
        refine run_case 31 rfl (fun h31 => run_cond_t rfl ?_) (fun h31 => run_cond_f rfl ?_)
        · (try simp only [decide_eq_true_eq, decide_eq_false_iff_not, Bool.not_eq_true', Bool.not_eq_false'] at h31)
          obtain rfl : c = 2 := u8_is h31
          refine run_seq (run_sub (sc 0 rfl Sub.nil) (run_region (id := 11) ?_))
          refine ops_quiet rfl (Pure.q (p_move rfl)) ?_
          (first | refine ops_quiet rfl (Pure.q (p_nil_ptr rfl)) ?_ | refine ops_quiet rfl (Pure.q (p_nilE rfl (by (first | omega | (simp only [List.length_cons, List.length_nil, List.length_take, List.length_drop, List.length_append, List.length_map, List.length_replicate, List.length_set]; omega) | (simp; done) | (simp; omega) | rfl)))) ?_ | refine ops_quiet rfl (k_nil rfl (by (first | omega | (simp only [List.length_cons, List.length_nil, List.length_take, List.length_drop, List.length_append, List.length_map, List.length_replicate, List.length_set]; omega) | (simp; done) | (simp; omega) | rfl))) ?_ | refine ops_quiet rfl (Pure.q (p_nil_func rfl)) ?_)
          (first | refine ops_quiet rfl (Pure.q (p_fieldAddr rfl)) ?_ | refine ops_quiet rfl (Pure.q (p_fieldE rfl (by (first | omega | (simp only [List.length_cons, List.length_nil, List.length_take, List.length_drop, List.length_append, List.length_map, List.length_replicate, List.length_set]; omega) | (simp; done) | (simp; omega) | rfl)))) ?_ | refine ops_quiet rfl (k_field rfl (by (first | omega | (simp only [List.length_cons, List.length_nil, List.length_take, List.length_drop, List.length_append, List.length_map, List.length_replicate, List.length_set]; omega) | (simp; done) | (simp; omega) | rfl))) ?_)
          (first | refine ops_step rfl (g_store rfl rfl rfl) (fun _ => ?_) | refine ops_step rfl (g_storeM rfl rfl (by (first | omega | (simp only [List.length_cons, List.length_nil, List.length_take, List.length_drop, List.length_append, List.length_map, List.length_replicate, List.length_set]; omega) | (simp; done) | (simp; omega) | rfl))) (fun _ => ?_) | refine ops_step rfl (g_storeS rfl rfl (by (first | omega | (simp only [List.length_cons, List.length_nil, List.length_take, List.length_drop, List.length_append, List.length_map, List.length_replicate, List.length_set]; omega) | (simp; done) | (simp; omega) | rfl))) (fun _ => ?_))
          refine ops_nil ?_
          refine run_seq (run_sub Sub.nil (run_region (id := 12) ?_))
          refine ops_quiet rfl (Pure.q (p_assign rfl)) ?_
          refine ops_nil ?_
          refine rets_one rfl rfl rfl ?_
          (try simp only [meetR, *, eq_self, Bool.false_eq_true, if_true, if_false])
          (repeat' first | exact Goes.nil | with_reducible apply Goes.exi | with_reducible apply Goes.all | with_reducible apply Goes.pur | ((with_reducible apply Goes.cons); focus ((repeat' constructor); done)) | with_reducible apply dsk_goes | with_reducible apply odk_goes) <;> (first | rfl | assumption | omega | (simp [*]; done) | skip)
          all_goals first | exact hA' _ | exact hO' _
        · (try simp only [decide_eq_true_eq, decide_eq_false_iff_not, Bool.not_eq_true', Bool.not_eq_false'] at h31)
          have hc2 : c ≠ 2 := fun h => h31 (by rw [h]; rfl)
          refine run_skip (run_inBlock (run_seq (run_sub Sub.nil (run_region (id := 13) ?_))))
          refine ops_quiet rfl (Pure.q (p_assign rfl)) ?_
          refine ops_nil ?_
          refine rets_one rfl rfl rfl ?_
          (try simp only [meetR, *, eq_self, Bool.false_eq_true, if_true, if_false])
          (repeat' first | exact Goes.nil | with_reducible apply Goes.exi | with_reducible apply Goes.all | with_reducible apply Goes.pur | ((with_reducible apply Goes.cons); focus ((repeat' constructor); done)) | with_reducible apply dsk_goes | with_reducible apply odk_goes) <;> (first | rfl | assumption | omega | (simp [*]; done) | skip)
          all_goals first | exact hA' _ | exact hO' _
end Go.Proofs.YtaibgfnfmkpibaaGreatDoor.SL
