/- The disk by hand is the disk. -/
import Derived.Test.YtaibgfnfmkpibaaGreatDoorDskM
namespace Go.Proofs.YtaibgfnfmkpibaaGreatDoor.SL
open Go
attribute [local irreducible] mp mit blk rbk pt exi pur ob orb sv pv own rsl rxs elp sub st Pure Quiet Step Run Ops Dp Fn Ent Tk Holds
attribute [local irreducible] dsk odk

theorem decide_ne_self {α : Type} (a : α) [d : Decidable (a ≠ a)] : decide (a ≠ a) = false := by simp
theorem bne_self_not (b : Bool) : (!(b == b)) = false := by cases b <;> rfl
theorem dirtyL_succ (A : Dk) (k : Nat) : dirtyL A (k + 1) = dirtyL A k ++ if A.dirty.getD k false = true then [(k : Int)] else [] := by
  unfold dirtyL
  rw [List.range_succ, List.filter_append, List.map_append]
  congr 1
  simp only [List.filter_cons, List.filter_nil]
  split <;> rfl

theorem same_spec (y x : Nat) (A : Dk) (n : Nat) (hn : n ≤ 12) :
    Fn Tryz.prog 17 #[.pointer (some ⟨y, 0, none⟩), .pointer (some ⟨x, 0, none⟩)] [odk y A n, dsk x A n]
      (fun u => [pur (u = .bool true), odk y A n, dsk x A n]) := by
  obtain ⟨now, sure, dirty, plan, off⟩ := A
  refine fn_of_run Tryz.func17 rfl Tryz.ntmps17 (by simp) fun F => ?_
  refine run_odk fun vn vs vd vp hA => ?_
  refine run_facts vn fun _ => run_facts vd fun _ => ?_
  have hln := hA.now
  have hld := hA.dirty
  dsimp only at hln hld ⊢
  simp only [List.zipIdx_cons, List.zipIdx_nil, List.map_cons, List.map_nil, Nat.zero_add, Nat.reduceAdd]
  refine run_seq (run_sub (sc 0 rfl (sc 1 rfl Sub.nil)) (run_region (id := 0) ?_))
  refine ops_quiet rfl (Pure.q (p_assign rfl)) ?_
  refine ops_nil ?_
  refine run_seq (run_sub (sc 0 rfl (sc 1 rfl Sub.nil)) (run_region (id := 1) ?_))
  refine ops_quiet rfl (Pure.q (p_assign rfl)) ?_
  refine ops_nil ?_
  refine run_seq (run_seq (run_sub (sc 0 rfl (sc 1 rfl (sc 5 rfl Sub.nil))) (run_region (id := 2) ?_)))
  refine ops_quiet rfl (Pure.q (p_move rfl)) ?_
  (first | refine ops_quiet rfl (Pure.q (p_nil_ptr rfl)) ?_ | refine ops_quiet rfl (Pure.q (p_nilE rfl (by (first | omega | (simp only [List.length_cons, List.length_nil, List.length_take, List.length_drop, List.length_append, List.length_map, List.length_replicate, List.length_set]; omega) | (simp; done) | (simp; omega) | rfl)))) ?_ | refine ops_quiet rfl (k_nil rfl (by (first | omega | (simp only [List.length_cons, List.length_nil, List.length_take, List.length_drop, List.length_append, List.length_map, List.length_replicate, List.length_set]; omega) | (simp; done) | (simp; omega) | rfl))) ?_ | refine ops_quiet rfl (Pure.q (p_nil_func rfl)) ?_)
  (first | refine ops_quiet rfl (Pure.q (p_fieldAddr rfl)) ?_ | refine ops_quiet rfl (Pure.q (p_fieldE rfl (by (first | omega | (simp only [List.length_cons, List.length_nil, List.length_take, List.length_drop, List.length_append, List.length_map, List.length_replicate, List.length_set]; omega) | (simp; done) | (simp; omega) | rfl)))) ?_ | refine ops_quiet rfl (k_field rfl (by (first | omega | (simp only [List.length_cons, List.length_nil, List.length_take, List.length_drop, List.length_append, List.length_map, List.length_replicate, List.length_set]; omega) | (simp; done) | (simp; omega) | rfl))) ?_)
  (first | refine ops_quiet rfl (k_load rfl rfl) ?_ | refine ops_quiet rfl (k_loadM rfl (by (first | omega | (simp only [List.length_cons, List.length_nil, List.length_take, List.length_drop, List.length_append, List.length_map, List.length_replicate, List.length_set]; omega) | (simp; done) | (simp; omega) | rfl))) ?_ | refine ops_quiet rfl (k_loadS rfl (by (first | rfl | assumption | (apply hel; omega) | (apply hel2; omega) | (apply hel3; omega)))) ?_)
  (first | refine ops_quiet rfl (Pure.q (p_lenL rfl)) ?_ | refine ops_quiet rfl (k_len rfl) ?_ | refine ops_quiet rfl (Pure.q (p_len_slice rfl)) ?_)
  refine ops_quiet rfl (Pure.q (p_move rfl)) ?_
  refine ops_nil ?_
  refine run_block ?_
  refine runs_loop (fun q : Nat × Value => [(0, .pointer (some ⟨y, 0, none⟩)), (1, .pointer (some ⟨x, 0, none⟩)), (5, q.2), (15, .int .i64 n), (16, .int .i64 q.1)])
    (fun q => [own 3 1 q.2 (dirtyL ⟨now, sure, dirty, plan, off⟩ q.1).length ((dirtyL ⟨now, sure, dirty, plan, off⟩ q.1).map (Value.int .i64)), blk y 43 [vn, vs, vd, vp, .bool off], own 9 1 vn n (now.map st), own 9 1 vs n (sure.map st), own 4 1 vd n (dirty.map .bool), own 5 1 vp plan.length (plan.map u8), dsk x ⟨now, sure, dirty, plan, off⟩ n])
    (fun q => q.1 ≤ n) (fun q => n - q.1) (0, .slice none 0 0) (Nat.zero_le _) (by (repeat (first | exact Sub.nil | refine Sub.cons rfl ?_))) (by repeat' first | exact Goes.nil | with_reducible apply Goes.exi | with_reducible apply Goes.all | with_reducible apply Goes.pur | ((with_reducible apply Goes.cons); focus ((repeat' constructor); done)) | with_reducible apply dsk_goes | with_reducible apply odk_goes) ?_
  rintro ⟨k, v5⟩ (hk : k ≤ n)
  (try dsimp only)
  refine run_facts v5 fun _ => ?_
  have hdl := dirtyL_len ⟨now, sure, dirty, plan, off⟩ k
  have hds := dirtyL_succ ⟨now, sure, dirty, plan, off⟩ k
  refine run_seq (run_sub (sc 0 rfl (sc 1 rfl (sc 5 rfl (sc 15 rfl (sc 16 rfl Sub.nil))))) (run_region (id := 3) ?_))
  refine ops_quiet rfl (Pure.q (p_lss rfl rfl)) ?_
  refine ops_nil ?_
  refine run_seq ?_
  refine run_case 17 rfl (fun h17 => run_cond_t rfl ?_) (fun h17 => run_cond_f rfl ?_)
  · (try simp only [decide_eq_true_eq, decide_eq_false_iff_not, Bool.not_eq_true', Bool.not_eq_false'] at h17)
    refine run_skip (run_seq (run_block (run_seq (run_sub (sc 0 rfl (sc 1 rfl (sc 5 rfl (sc 15 rfl (sc 16 rfl Sub.nil))))) (run_region (id := 4) ?_)))))
    refine ops_quiet rfl (Pure.q (p_move rfl)) ?_
    refine ops_quiet rfl (Pure.q (p_assign rfl)) ?_
    refine ops_nil ?_
    refine run_seq (run_sub (sc 0 rfl (sc 1 rfl (sc 5 rfl (sc 6 rfl (sc 15 rfl (sc 16 rfl Sub.nil)))))) (run_region (id := 5) ?_))
    refine ops_quiet rfl (Pure.q (p_move rfl)) ?_
    refine ops_quiet rfl (Pure.q (p_move rfl)) ?_
    refine ops_step rfl (g_call (.cons rfl (.cons rfl .nil)) (by (repeat' constructor); done) (read_spec _ _ _ _)) (fun u22 => ?_)
    refine ops_exi fun v22 => ops_allt (ops_pur fun h22 => ?_)
    subst h22
    refine ops_ln fun _ => ?_
    refine ops_quiet rfl (Pure.q (p_move rfl)) ?_
    (first | refine ops_quiet rfl (Pure.q (p_extractL rfl rfl)) ?_ | refine ops_quiet rfl (Pure.q (p_extract rfl rfl)) ?_)
    (first | refine ops_quiet rfl (Pure.q (p_extractL rfl rfl)) ?_ | refine ops_quiet rfl (Pure.q (p_extract rfl rfl)) ?_)
    refine ops_quiet rfl (Pure.q (p_assign rfl)) ?_
    refine ops_quiet rfl (Pure.q (p_assign rfl)) ?_
    refine ops_nil ?_
    refine run_seq (run_seq (run_sub (sc 0 rfl (sc 1 rfl (sc 5 rfl (sc 6 rfl (sc 7 rfl (sc 8 rfl (sc 15 rfl (sc 16 rfl Sub.nil)))))))) (run_draw (id := 6) ⟨[3, 17, 24, 28, 31], [0, 1, 2, 4, 5, 6, 7, 8, 9, 10, 11, 12, 13, 14, 15, 16, 18, 19, 20, 21, 22, 23, 25, 26, 27, 29, 30, 32, 33, 34, 35], []⟩ (.cons 0 (.cons 1 (.cons 2 (.cons 3 (.cons 4 (.cons 5 (.cons 6 (.cons 7 (.cons 8 (.cons 9 (.cons 10 (.cons 11 (.cons 12 (.cons 13 (.cons 14 (.cons 15 (.cons 16 (.cons 17 (.cons 18 (.cons 19 (.cons 20 (.cons 21 (.cons 22 (.cons 23 (.cons 24 (.cons 25 (.cons 26 (.cons 27 (.cons 28 (.cons 29 (.cons 30 (.cons 31 (.cons 32 (.cons 33 (.cons 34 (.cons 35 .nil)))))))))))))))))))))))))))))))))))) _ (Ent.refl _) mixed (by kernel_rfl) panOk_body (by rfl) (by kernel_rfl) ?_)))
    refine dp_pure rfl rfl rfl rfl rfl (p_move rfl) ?_
    (first | refine dp_pure rfl rfl rfl rfl rfl (p_nil_ptr rfl) ?_ | refine dp_pure rfl rfl rfl rfl rfl (p_nilE rfl (by (first | omega | (simp only [List.length_cons, List.length_nil, List.length_take, List.length_drop, List.length_append, List.length_map, List.length_replicate, List.length_set]; omega) | (simp; done) | (simp; omega) | rfl))) ?_ | refine dp_pure rfl rfl rfl rfl rfl (p_nil_func rfl) ?_)
    (first | refine dp_pure rfl rfl rfl rfl rfl (p_fieldAddr rfl) ?_ | refine dp_pure rfl rfl rfl rfl rfl (p_fieldE rfl (by (first | omega | (simp only [List.length_cons, List.length_nil, List.length_take, List.length_drop, List.length_append, List.length_map, List.length_replicate, List.length_set]; omega) | (simp; done) | (simp; omega) | rfl))) ?_)
    (first | refine dp_quiet rfl rfl rfl rfl (k_load rfl rfl) ?_ | refine dp_quiet rfl rfl rfl rfl (k_loadM rfl (by (first | omega | (simp only [List.length_cons, List.length_nil, List.length_take, List.length_drop, List.length_append, List.length_map, List.length_replicate, List.length_set]; omega) | (simp; done) | (simp; omega) | rfl))) ?_ | refine dp_quiet rfl rfl rfl rfl (k_loadS rfl (by (first | rfl | assumption | (apply hel; omega) | (apply hel2; omega) | (apply hel3; omega)))) ?_)
    refine dp_pure rfl rfl rfl rfl rfl (p_move rfl) ?_
    refine dp_case 29 rfl (fun hg29 => ?_) (fun hg29 => ?_)
    · (try simp only [decide_eq_true_eq, decide_eq_false_iff_not, Bool.not_eq_true', Bool.not_eq_false'] at hg29)
      subst hg29
      rw [show readR ⟨now, sure, dirty, plan, true⟩ n k = (7, []) from if_pos rfl]
      refine dp_pure rfl rfl rfl rfl rfl (p_move rfl) ?_
      refine dp_pure rfl rfl rfl rfl rfl (p_neq rfl rfl) ?_
      refine dp_pure rfl rfl rfl rfl rfl (p_move rfl) ?_
      refine dp_pure rfl rfl rfl rfl rfl (p_move rfl) ?_
      (first | refine dp_pure rfl rfl rfl rfl rfl (p_lenL rfl) ?_ | refine dp_pure rfl rfl rfl rfl rfl (p_len_slice rfl) ?_)
      refine dp_pure rfl rfl rfl rfl rfl (p_gtr rfl rfl) ?_
      refine dp_pure rfl rfl rfl rfl rfl (p_pick_f rfl rfl) ?_
      refine dp_pure rfl rfl rfl rfl rfl (p_pick_t rfl rfl) ?_
      refine dp_pure rfl rfl rfl rfl rfl (p_move rfl) ?_
      refine dp_pure rfl rfl rfl rfl rfl (p_move rfl) ?_
      (first | refine dp_pure rfl rfl rfl rfl rfl (p_nil_ptr rfl) ?_ | refine dp_pure rfl rfl rfl rfl rfl (p_nilE rfl (by (first | omega | (simp only [List.length_cons, List.length_nil, List.length_take, List.length_drop, List.length_append, List.length_map, List.length_replicate, List.length_set]; omega) | (simp; done) | (simp; omega) | rfl))) ?_ | refine dp_pure rfl rfl rfl rfl rfl (p_nil_func rfl) ?_)
      (first | refine dp_pure rfl rfl rfl rfl rfl (p_fieldAddr rfl) ?_ | refine dp_pure rfl rfl rfl rfl rfl (p_fieldE rfl (by (first | omega | (simp only [List.length_cons, List.length_nil, List.length_take, List.length_drop, List.length_append, List.length_map, List.length_replicate, List.length_set]; omega) | (simp; done) | (simp; omega) | rfl))) ?_)
      (first | refine dp_quiet rfl rfl rfl rfl (k_load rfl rfl) ?_ | refine dp_quiet rfl rfl rfl rfl (k_loadM rfl (by (first | omega | (simp only [List.length_cons, List.length_nil, List.length_take, List.length_drop, List.length_append, List.length_map, List.length_replicate, List.length_set]; omega) | (simp; done) | (simp; omega) | rfl))) ?_ | refine dp_quiet rfl rfl rfl rfl (k_loadS rfl (by (first | rfl | assumption | (apply hel; omega) | (apply hel2; omega) | (apply hel3; omega)))) ?_)
      refine dp_pure rfl rfl rfl rfl rfl (p_not rfl) ?_
      refine dp_pure rfl rfl rfl rfl rfl (p_move rfl) ?_
      refine dp_not rfl rfl rfl rfl rfl ?_
      refine dp_not rfl rfl rfl rfl rfl ?_
      refine dp_not rfl rfl rfl rfl rfl ?_
      refine dp_not rfl rfl rfl rfl rfl ?_
      refine dp_notQ rfl rfl rfl rfl ?_
      refine dp_not rfl rfl rfl rfl rfl ?_
      refine dp_not rfl rfl rfl rfl rfl ?_
      refine dp_not rfl rfl rfl rfl rfl ?_
      refine dp_notQ rfl rfl rfl rfl ?_
      refine dp_not rfl rfl rfl rfl rfl ?_
      refine dp_not rfl rfl rfl rfl rfl ?_
      refine dp_notQ rfl rfl rfl rfl ?_
      refine dp_not rfl rfl rfl rfl rfl ?_
      refine dp_not rfl rfl rfl rfl rfl ?_
      refine dp_pure rfl rfl rfl rfl rfl (p_pick_f rfl rfl) ?_
      refine dp_pure rfl rfl rfl rfl rfl (p_pick_f rfl rfl) ?_
      refine dp_nil ?_
      refine run_cond_f rfl (run_skip (run_seq (run_sub (sc 0 rfl (sc 1 rfl (sc 5 rfl (sc 6 rfl (sc 15 rfl (sc 16 rfl Sub.nil)))))) (run_region (id := 8) ?_))))
      refine ops_quiet rfl (Pure.q (p_move rfl)) ?_
      (first | refine ops_quiet rfl (Pure.q (p_nil_ptr rfl)) ?_ | refine ops_quiet rfl (Pure.q (p_nilE rfl (by (first | omega | (simp only [List.length_cons, List.length_nil, List.length_take, List.length_drop, List.length_append, List.length_map, List.length_replicate, List.length_set]; omega) | (simp; done) | (simp; omega) | rfl)))) ?_ | refine ops_quiet rfl (k_nil rfl (by (first | omega | (simp only [List.length_cons, List.length_nil, List.length_take, List.length_drop, List.length_append, List.length_map, List.length_replicate, List.length_set]; omega) | (simp; done) | (simp; omega) | rfl))) ?_ | refine ops_quiet rfl (Pure.q (p_nil_func rfl)) ?_)
      (first | refine ops_quiet rfl (Pure.q (p_fieldAddr rfl)) ?_ | refine ops_quiet rfl (Pure.q (p_fieldE rfl (by (first | omega | (simp only [List.length_cons, List.length_nil, List.length_take, List.length_drop, List.length_append, List.length_map, List.length_replicate, List.length_set]; omega) | (simp; done) | (simp; omega) | rfl)))) ?_ | refine ops_quiet rfl (k_field rfl (by (first | omega | (simp only [List.length_cons, List.length_nil, List.length_take, List.length_drop, List.length_append, List.length_map, List.length_replicate, List.length_set]; omega) | (simp; done) | (simp; omega) | rfl))) ?_)
      (first | refine ops_quiet rfl (k_load rfl rfl) ?_ | refine ops_quiet rfl (k_loadM rfl (by (first | omega | (simp only [List.length_cons, List.length_nil, List.length_take, List.length_drop, List.length_append, List.length_map, List.length_replicate, List.length_set]; omega) | (simp; done) | (simp; omega) | rfl))) ?_ | refine ops_quiet rfl (k_loadS rfl (by (first | rfl | assumption | (apply hel; omega) | (apply hel2; omega) | (apply hel3; omega)))) ?_)
      refine ops_quiet rfl (Pure.q (p_move rfl)) ?_
      (first | refine ops_quiet rfl (Pure.q (p_indexL1 rfl rfl (by (first | omega | (simp only [List.length_cons, List.length_nil, List.length_take, List.length_drop, List.length_append, List.length_map, List.length_replicate, List.length_set]; omega) | (simp; done) | (simp; omega) | rfl)) (by (first | omega | (simp only [List.length_cons, List.length_nil, List.length_take, List.length_drop, List.length_append, List.length_map, List.length_replicate, List.length_set]; omega) | (simp; done) | (simp; omega) | rfl)))) ?_ | refine ops_quiet rfl (k_index1 rfl rfl (by (first | omega | (simp only [List.length_cons, List.length_nil, List.length_take, List.length_drop, List.length_append, List.length_map, List.length_replicate, List.length_set]; omega) | (simp; done) | (simp; omega) | rfl)) (by (first | omega | (simp only [List.length_cons, List.length_nil, List.length_take, List.length_drop, List.length_append, List.length_map, List.length_replicate, List.length_set]; omega) | (simp; done) | (simp; omega) | rfl))) ?_)
      (first | refine ops_quiet rfl (k_load rfl rfl) ?_ | refine ops_quiet rfl (k_loadM rfl (by (first | omega | (simp only [List.length_cons, List.length_nil, List.length_take, List.length_drop, List.length_append, List.length_map, List.length_replicate, List.length_set]; omega) | (simp; done) | (simp; omega) | rfl))) ?_ | refine ops_quiet rfl (k_loadS rfl (by (first | rfl | assumption | (apply hel; omega) | (apply hel2; omega) | (apply hel3; omega)))) ?_)
      refine ops_nil ?_
      refine run_case 67 rfl (fun h67 => run_cond_t rfl ?_) (fun h67 => run_cond_f rfl ?_)
      · (try simp only [decide_eq_true_eq, decide_eq_false_iff_not, Bool.not_eq_true', Bool.not_eq_false'] at h67)
        rw [show (dirty.getD k false) = true from h67, if_pos rfl] at hds
        refine run_sub (sc 0 rfl (sc 1 rfl (sc 5 rfl (sc 6 rfl (sc 15 rfl (sc 16 rfl Sub.nil)))))) (run_region (id := 9) ?_)
        refine ops_quiet rfl (Pure.q (p_move rfl)) ?_
        refine ops_quiet rfl (Pure.q (p_move rfl)) ?_
        (first | refine ops_step rfl (g_buildSliceM rfl (.cons rfl inferInstance .nil) rfl rfl rfl) (fun v70 => ?_) | refine ops_step rfl (g_buildSlice rfl (.cons rfl inferInstance .nil) rfl rfl rfl) (fun v70 => ?_))
        (try refine ops_ln fun _ => ?_)
        (first | refine ops_step rfl (g_append0 rfl rfl (by (first | omega | (simp only [List.length_cons, List.length_nil, List.length_take, List.length_drop, List.length_append, List.length_map, List.length_replicate, List.length_set]; omega) | (simp; done) | (simp; omega) | rfl)) (by (first | omega | (simp only [List.length_cons, List.length_nil, List.length_take, List.length_drop, List.length_append, List.length_map, List.length_replicate, List.length_set]; omega) | (simp; done) | (simp; omega) | rfl)) rfl) (fun v71 => ?_) | refine ops_step rfl (g_appendM rfl rfl (by (first | omega | (simp only [List.length_cons, List.length_nil, List.length_take, List.length_drop, List.length_append, List.length_map, List.length_replicate, List.length_set]; omega) | (simp; done) | (simp; omega) | rfl)) (by (first | omega | (simp only [List.length_cons, List.length_nil, List.length_take, List.length_drop, List.length_append, List.length_map, List.length_replicate, List.length_set]; omega) | (simp; done) | (simp; omega) | rfl)) rfl) (fun v71 => ?_) | refine ops_step rfl (g_appendNilM rfl rfl (by (first | omega | (simp only [List.length_cons, List.length_nil, List.length_take, List.length_drop, List.length_append, List.length_map, List.length_replicate, List.length_set]; omega) | (simp; done) | (simp; omega) | rfl)) (by (first | omega | (simp only [List.length_cons, List.length_nil, List.length_take, List.length_drop, List.length_append, List.length_map, List.length_replicate, List.length_set]; omega) | (simp; done) | (simp; omega) | rfl)) rfl) (fun v71 => ?_) | refine ops_step rfl (g_append rfl rfl (by (first | omega | (simp only [List.length_cons, List.length_nil, List.length_take, List.length_drop, List.length_append, List.length_map, List.length_replicate, List.length_set]; omega) | (simp; done) | (simp; omega) | rfl)) (by (first | omega | (simp only [List.length_cons, List.length_nil, List.length_take, List.length_drop, List.length_append, List.length_map, List.length_replicate, List.length_set]; omega) | (simp; done) | (simp; omega) | rfl)) rfl) (fun v71 => ?_) | refine ops_step rfl (g_appendNil rfl rfl (by (first | omega | (simp only [List.length_cons, List.length_nil, List.length_take, List.length_drop, List.length_append, List.length_map, List.length_replicate, List.length_set]; omega) | (simp; done) | (simp; omega) | rfl)) (by (first | omega | (simp only [List.length_cons, List.length_nil, List.length_take, List.length_drop, List.length_append, List.length_map, List.length_replicate, List.length_set]; omega) | (simp; done) | (simp; omega) | rfl)) rfl) (fun v71 => ?_))
        (try refine ops_ln fun _ => ?_)
        refine ops_quiet rfl (Pure.q (p_assign rfl)) ?_
        refine ops_nil ?_
        refine run_inBlock (run_sub (sc 0 rfl (sc 1 rfl (sc 5 rfl (sc 15 rfl (sc 16 rfl Sub.nil))))) (run_region (id := 10) ?_))
        refine ops_quiet rfl (Pure.q (p_add rfl rfl (by (first | exact wrap_byte _ | exact wrap_i64 (by omega) (by omega) | exact wrap_u8 (by omega) (by omega) | exact wrap_u64 (by omega) (by omega) | exact wrap_u32 (by omega) (by omega) | rfl)))) ?_
        refine ops_quiet rfl (Pure.q (p_move rfl)) ?_
        refine ops_nil ?_
        have hlen2 := congrArg List.length hds
        rw [List.length_append] at hlen2
        simp only [List.length_singleton] at hlen2
        rw [← hlen2, ← hds]
        exact runs_is (k + 1, v71) ⟨by omega, by omega⟩ (by (repeat (first | exact Sub.nil | refine Sub.cons rfl ?_))) (by repeat' first | exact Goes.nil | with_reducible apply Goes.exi | with_reducible apply Goes.all | with_reducible apply Goes.pur | ((with_reducible apply Goes.cons); focus ((repeat' constructor); done)) | with_reducible apply dsk_goes | with_reducible apply odk_goes)
      · (try simp only [decide_eq_true_eq, decide_eq_false_iff_not, Bool.not_eq_true', Bool.not_eq_false'] at h67)
        rw [show (dirty.getD k false) = false from h67, if_neg (by simp), List.append_nil] at hds
        rw [← hds]
        refine run_skip (run_inBlock (run_sub (sc 0 rfl (sc 1 rfl (sc 5 rfl (sc 15 rfl (sc 16 rfl Sub.nil))))) (run_region (id := 10) ?_)))
        refine ops_quiet rfl (Pure.q (p_add rfl rfl (by (first | exact wrap_byte _ | exact wrap_i64 (by omega) (by omega) | exact wrap_u8 (by omega) (by omega) | exact wrap_u64 (by omega) (by omega) | exact wrap_u32 (by omega) (by omega) | rfl)))) ?_
        refine ops_quiet rfl (Pure.q (p_move rfl)) ?_
        refine ops_nil ?_
        exact runs_is (k + 1, v5) ⟨by omega, by omega⟩ (by (repeat (first | exact Sub.nil | refine Sub.cons rfl ?_))) (by repeat' first | exact Goes.nil | with_reducible apply Goes.exi | with_reducible apply Goes.all | with_reducible apply Goes.pur | ((with_reducible apply Goes.cons); focus ((repeat' constructor); done)) | with_reducible apply dsk_goes | with_reducible apply odk_goes)
    · (try simp only [decide_eq_true_eq, decide_eq_false_iff_not, Bool.not_eq_true', Bool.not_eq_false'] at hg29)
      subst hg29
      rw [show readR ⟨now, sure, dirty, plan, false⟩ n k = (0, now.getD k default) by unfold readR; rw [if_neg (by simp), if_pos (by omega)]; rfl]
      refine dp_not rfl rfl rfl rfl rfl ?_
      refine dp_not rfl rfl rfl rfl rfl ?_
      refine dp_not rfl rfl rfl rfl rfl ?_
      refine dp_not rfl rfl rfl rfl rfl ?_
      refine dp_not rfl rfl rfl rfl rfl ?_
      refine dp_not rfl rfl rfl rfl rfl ?_
      refine dp_not rfl rfl rfl rfl rfl ?_
      refine dp_pure rfl rfl rfl rfl rfl (p_pick_f rfl rfl) ?_
      refine dp_pure rfl rfl rfl rfl rfl (p_move rfl) ?_
      refine dp_pure rfl rfl rfl rfl rfl (p_move rfl) ?_
      (first | refine dp_pure rfl rfl rfl rfl rfl (p_nil_ptr rfl) ?_ | refine dp_pure rfl rfl rfl rfl rfl (p_nilE rfl (by (first | omega | (simp only [List.length_cons, List.length_nil, List.length_take, List.length_drop, List.length_append, List.length_map, List.length_replicate, List.length_set]; omega) | (simp; done) | (simp; omega) | rfl))) ?_ | refine dp_pure rfl rfl rfl rfl rfl (p_nil_func rfl) ?_)
      (first | refine dp_pure rfl rfl rfl rfl rfl (p_fieldAddr rfl) ?_ | refine dp_pure rfl rfl rfl rfl rfl (p_fieldE rfl (by (first | omega | (simp only [List.length_cons, List.length_nil, List.length_take, List.length_drop, List.length_append, List.length_map, List.length_replicate, List.length_set]; omega) | (simp; done) | (simp; omega) | rfl))) ?_)
      (first | refine dp_quiet rfl rfl rfl rfl (k_load rfl rfl) ?_ | refine dp_quiet rfl rfl rfl rfl (k_loadM rfl (by (first | omega | (simp only [List.length_cons, List.length_nil, List.length_take, List.length_drop, List.length_append, List.length_map, List.length_replicate, List.length_set]; omega) | (simp; done) | (simp; omega) | rfl))) ?_ | refine dp_quiet rfl rfl rfl rfl (k_loadS rfl (by (first | rfl | assumption | (apply hel; omega) | (apply hel2; omega) | (apply hel3; omega)))) ?_)
      refine dp_pure rfl rfl rfl rfl rfl (p_not rfl) ?_
      refine dp_pure rfl rfl rfl rfl rfl (p_move rfl) ?_
      refine dp_pure rfl rfl rfl rfl rfl (p_move rfl) ?_
      refine dp_pure rfl rfl rfl rfl rfl (p_neq rfl rfl) ?_
      refine dp_pure rfl rfl rfl rfl rfl (p_move rfl) ?_
      refine dp_pure rfl rfl rfl rfl rfl (p_move rfl) ?_
      refine dp_quiet rfl rfl rfl rfl (k_bytesStr rfl rfl) ?_
      refine dp_pure rfl rfl rfl rfl rfl (p_move rfl) ?_
      (first | refine dp_pure rfl rfl rfl rfl rfl (p_nil_ptr rfl) ?_ | refine dp_pure rfl rfl rfl rfl rfl (p_nilE rfl (by (first | omega | (simp only [List.length_cons, List.length_nil, List.length_take, List.length_drop, List.length_append, List.length_map, List.length_replicate, List.length_set]; omega) | (simp; done) | (simp; omega) | rfl))) ?_ | refine dp_pure rfl rfl rfl rfl rfl (p_nil_func rfl) ?_)
      (first | refine dp_pure rfl rfl rfl rfl rfl (p_fieldAddr rfl) ?_ | refine dp_pure rfl rfl rfl rfl rfl (p_fieldE rfl (by (first | omega | (simp only [List.length_cons, List.length_nil, List.length_take, List.length_drop, List.length_append, List.length_map, List.length_replicate, List.length_set]; omega) | (simp; done) | (simp; omega) | rfl))) ?_)
      (first | refine dp_quiet rfl rfl rfl rfl (k_load rfl rfl) ?_ | refine dp_quiet rfl rfl rfl rfl (k_loadM rfl (by (first | omega | (simp only [List.length_cons, List.length_nil, List.length_take, List.length_drop, List.length_append, List.length_map, List.length_replicate, List.length_set]; omega) | (simp; done) | (simp; omega) | rfl))) ?_ | refine dp_quiet rfl rfl rfl rfl (k_loadS rfl (by (first | rfl | assumption | (apply hel; omega) | (apply hel2; omega) | (apply hel3; omega)))) ?_)
      refine dp_pure rfl rfl rfl rfl rfl (p_move rfl) ?_
      refine dp_pure rfl rfl rfl rfl rfl (p_indexL1 rfl rfl (by (first | omega | (simp only [List.length_cons, List.length_nil, List.length_take, List.length_drop, List.length_append, List.length_map, List.length_replicate, List.length_set]; omega) | (simp; done) | (simp; omega) | rfl)) (by (first | omega | (simp only [List.length_cons, List.length_nil, List.length_take, List.length_drop, List.length_append, List.length_map, List.length_replicate, List.length_set]; omega) | (simp; done) | (simp; omega) | rfl))) ?_
      (first | refine dp_quiet rfl rfl rfl rfl (k_load rfl rfl) ?_ | refine dp_quiet rfl rfl rfl rfl (k_loadM rfl (by (first | omega | (simp only [List.length_cons, List.length_nil, List.length_take, List.length_drop, List.length_append, List.length_map, List.length_replicate, List.length_set]; omega) | (simp; done) | (simp; omega) | rfl))) ?_ | refine dp_quiet rfl rfl rfl rfl (k_loadS rfl (by (first | rfl | assumption | (apply hel; omega) | (apply hel2; omega) | (apply hel3; omega)))) ?_)
      refine dp_pure rfl rfl rfl rfl rfl (p_neq_st rfl rfl) ?_
      refine dp_pure rfl rfl rfl rfl rfl (p_pick_f rfl rfl) ?_
      refine dp_pure rfl rfl rfl rfl rfl (p_pick_t rfl rfl) ?_
      refine dp_pure rfl rfl rfl rfl rfl (p_pick_f rfl rfl) ?_
      refine dp_nil ?_
      refine run_case 60 rfl (fun h60 => run_cond_t rfl ?_) (fun h60 => run_cond_f rfl ?_)
      · (try simp only [decide_eq_true_eq, decide_eq_false_iff_not, Bool.not_eq_true', Bool.not_eq_false'] at h60)
        exact absurd rfl h60
      · (try simp only [decide_eq_true_eq, decide_eq_false_iff_not, Bool.not_eq_true', Bool.not_eq_false'] at h60)
        refine run_skip (run_seq (run_sub (sc 0 rfl (sc 1 rfl (sc 5 rfl (sc 6 rfl (sc 15 rfl (sc 16 rfl Sub.nil)))))) (run_region (id := 8) ?_)))
        refine ops_quiet rfl (Pure.q (p_move rfl)) ?_
        (first | refine ops_quiet rfl (Pure.q (p_nil_ptr rfl)) ?_ | refine ops_quiet rfl (Pure.q (p_nilE rfl (by (first | omega | (simp only [List.length_cons, List.length_nil, List.length_take, List.length_drop, List.length_append, List.length_map, List.length_replicate, List.length_set]; omega) | (simp; done) | (simp; omega) | rfl)))) ?_ | refine ops_quiet rfl (k_nil rfl (by (first | omega | (simp only [List.length_cons, List.length_nil, List.length_take, List.length_drop, List.length_append, List.length_map, List.length_replicate, List.length_set]; omega) | (simp; done) | (simp; omega) | rfl))) ?_ | refine ops_quiet rfl (Pure.q (p_nil_func rfl)) ?_)
        (first | refine ops_quiet rfl (Pure.q (p_fieldAddr rfl)) ?_ | refine ops_quiet rfl (Pure.q (p_fieldE rfl (by (first | omega | (simp only [List.length_cons, List.length_nil, List.length_take, List.length_drop, List.length_append, List.length_map, List.length_replicate, List.length_set]; omega) | (simp; done) | (simp; omega) | rfl)))) ?_ | refine ops_quiet rfl (k_field rfl (by (first | omega | (simp only [List.length_cons, List.length_nil, List.length_take, List.length_drop, List.length_append, List.length_map, List.length_replicate, List.length_set]; omega) | (simp; done) | (simp; omega) | rfl))) ?_)
        (first | refine ops_quiet rfl (k_load rfl rfl) ?_ | refine ops_quiet rfl (k_loadM rfl (by (first | omega | (simp only [List.length_cons, List.length_nil, List.length_take, List.length_drop, List.length_append, List.length_map, List.length_replicate, List.length_set]; omega) | (simp; done) | (simp; omega) | rfl))) ?_ | refine ops_quiet rfl (k_loadS rfl (by (first | rfl | assumption | (apply hel; omega) | (apply hel2; omega) | (apply hel3; omega)))) ?_)
        refine ops_quiet rfl (Pure.q (p_move rfl)) ?_
        (first | refine ops_quiet rfl (Pure.q (p_indexL1 rfl rfl (by (first | omega | (simp only [List.length_cons, List.length_nil, List.length_take, List.length_drop, List.length_append, List.length_map, List.length_replicate, List.length_set]; omega) | (simp; done) | (simp; omega) | rfl)) (by (first | omega | (simp only [List.length_cons, List.length_nil, List.length_take, List.length_drop, List.length_append, List.length_map, List.length_replicate, List.length_set]; omega) | (simp; done) | (simp; omega) | rfl)))) ?_ | refine ops_quiet rfl (k_index1 rfl rfl (by (first | omega | (simp only [List.length_cons, List.length_nil, List.length_take, List.length_drop, List.length_append, List.length_map, List.length_replicate, List.length_set]; omega) | (simp; done) | (simp; omega) | rfl)) (by (first | omega | (simp only [List.length_cons, List.length_nil, List.length_take, List.length_drop, List.length_append, List.length_map, List.length_replicate, List.length_set]; omega) | (simp; done) | (simp; omega) | rfl))) ?_)
        (first | refine ops_quiet rfl (k_load rfl rfl) ?_ | refine ops_quiet rfl (k_loadM rfl (by (first | omega | (simp only [List.length_cons, List.length_nil, List.length_take, List.length_drop, List.length_append, List.length_map, List.length_replicate, List.length_set]; omega) | (simp; done) | (simp; omega) | rfl))) ?_ | refine ops_quiet rfl (k_loadS rfl (by (first | rfl | assumption | (apply hel; omega) | (apply hel2; omega) | (apply hel3; omega)))) ?_)
        refine ops_nil ?_
        refine run_case 67 rfl (fun h67 => run_cond_t rfl ?_) (fun h67 => run_cond_f rfl ?_)
        · (try simp only [decide_eq_true_eq, decide_eq_false_iff_not, Bool.not_eq_true', Bool.not_eq_false'] at h67)
          rw [show (dirty.getD k false) = true from h67, if_pos rfl] at hds
          refine run_sub (sc 0 rfl (sc 1 rfl (sc 5 rfl (sc 6 rfl (sc 15 rfl (sc 16 rfl Sub.nil)))))) (run_region (id := 9) ?_)
          refine ops_quiet rfl (Pure.q (p_move rfl)) ?_
          refine ops_quiet rfl (Pure.q (p_move rfl)) ?_
          (first | refine ops_step rfl (g_buildSliceM rfl (.cons rfl inferInstance .nil) rfl rfl rfl) (fun v70 => ?_) | refine ops_step rfl (g_buildSlice rfl (.cons rfl inferInstance .nil) rfl rfl rfl) (fun v70 => ?_))
          (try refine ops_ln fun _ => ?_)
          (first | refine ops_step rfl (g_append0 rfl rfl (by (first | omega | (simp only [List.length_cons, List.length_nil, List.length_take, List.length_drop, List.length_append, List.length_map, List.length_replicate, List.length_set]; omega) | (simp; done) | (simp; omega) | rfl)) (by (first | omega | (simp only [List.length_cons, List.length_nil, List.length_take, List.length_drop, List.length_append, List.length_map, List.length_replicate, List.length_set]; omega) | (simp; done) | (simp; omega) | rfl)) rfl) (fun v71 => ?_) | refine ops_step rfl (g_appendM rfl rfl (by (first | omega | (simp only [List.length_cons, List.length_nil, List.length_take, List.length_drop, List.length_append, List.length_map, List.length_replicate, List.length_set]; omega) | (simp; done) | (simp; omega) | rfl)) (by (first | omega | (simp only [List.length_cons, List.length_nil, List.length_take, List.length_drop, List.length_append, List.length_map, List.length_replicate, List.length_set]; omega) | (simp; done) | (simp; omega) | rfl)) rfl) (fun v71 => ?_) | refine ops_step rfl (g_appendNilM rfl rfl (by (first | omega | (simp only [List.length_cons, List.length_nil, List.length_take, List.length_drop, List.length_append, List.length_map, List.length_replicate, List.length_set]; omega) | (simp; done) | (simp; omega) | rfl)) (by (first | omega | (simp only [List.length_cons, List.length_nil, List.length_take, List.length_drop, List.length_append, List.length_map, List.length_replicate, List.length_set]; omega) | (simp; done) | (simp; omega) | rfl)) rfl) (fun v71 => ?_) | refine ops_step rfl (g_append rfl rfl (by (first | omega | (simp only [List.length_cons, List.length_nil, List.length_take, List.length_drop, List.length_append, List.length_map, List.length_replicate, List.length_set]; omega) | (simp; done) | (simp; omega) | rfl)) (by (first | omega | (simp only [List.length_cons, List.length_nil, List.length_take, List.length_drop, List.length_append, List.length_map, List.length_replicate, List.length_set]; omega) | (simp; done) | (simp; omega) | rfl)) rfl) (fun v71 => ?_) | refine ops_step rfl (g_appendNil rfl rfl (by (first | omega | (simp only [List.length_cons, List.length_nil, List.length_take, List.length_drop, List.length_append, List.length_map, List.length_replicate, List.length_set]; omega) | (simp; done) | (simp; omega) | rfl)) (by (first | omega | (simp only [List.length_cons, List.length_nil, List.length_take, List.length_drop, List.length_append, List.length_map, List.length_replicate, List.length_set]; omega) | (simp; done) | (simp; omega) | rfl)) rfl) (fun v71 => ?_))
          (try refine ops_ln fun _ => ?_)
          refine ops_quiet rfl (Pure.q (p_assign rfl)) ?_
          refine ops_nil ?_
          refine run_inBlock (run_sub (sc 0 rfl (sc 1 rfl (sc 5 rfl (sc 15 rfl (sc 16 rfl Sub.nil))))) (run_region (id := 10) ?_))
          refine ops_quiet rfl (Pure.q (p_add rfl rfl (by (first | exact wrap_byte _ | exact wrap_i64 (by omega) (by omega) | exact wrap_u8 (by omega) (by omega) | exact wrap_u64 (by omega) (by omega) | exact wrap_u32 (by omega) (by omega) | rfl)))) ?_
          refine ops_quiet rfl (Pure.q (p_move rfl)) ?_
          refine ops_nil ?_
          have hlen2 := congrArg List.length hds
          rw [List.length_append] at hlen2
          simp only [List.length_singleton] at hlen2
          rw [← hlen2, ← hds]
          exact runs_is (k + 1, v71) ⟨by omega, by omega⟩ (by (repeat (first | exact Sub.nil | refine Sub.cons rfl ?_))) (by repeat' first | exact Goes.nil | with_reducible apply Goes.exi | with_reducible apply Goes.all | with_reducible apply Goes.pur | ((with_reducible apply Goes.cons); focus ((repeat' constructor); done)) | with_reducible apply dsk_goes | with_reducible apply odk_goes)
        · (try simp only [decide_eq_true_eq, decide_eq_false_iff_not, Bool.not_eq_true', Bool.not_eq_false'] at h67)
          rw [show (dirty.getD k false) = false from h67, if_neg (by simp), List.append_nil] at hds
          rw [← hds]
          refine run_skip (run_inBlock (run_sub (sc 0 rfl (sc 1 rfl (sc 5 rfl (sc 15 rfl (sc 16 rfl Sub.nil))))) (run_region (id := 10) ?_)))
          refine ops_quiet rfl (Pure.q (p_add rfl rfl (by (first | exact wrap_byte _ | exact wrap_i64 (by omega) (by omega) | exact wrap_u8 (by omega) (by omega) | exact wrap_u64 (by omega) (by omega) | exact wrap_u32 (by omega) (by omega) | rfl)))) ?_
          refine ops_quiet rfl (Pure.q (p_move rfl)) ?_
          refine ops_nil ?_
          exact runs_is (k + 1, v5) ⟨by omega, by omega⟩ (by (repeat (first | exact Sub.nil | refine Sub.cons rfl ?_))) (by repeat' first | exact Goes.nil | with_reducible apply Goes.exi | with_reducible apply Goes.all | with_reducible apply Goes.pur | ((with_reducible apply Goes.cons); focus ((repeat' constructor); done)) | with_reducible apply dsk_goes | with_reducible apply odk_goes)
  · (try simp only [decide_eq_true_eq, decide_eq_false_iff_not, Bool.not_eq_true', Bool.not_eq_false'] at h17)
    obtain rfl : k = n := by omega
    refine run_exit rfl (run_seq (run_sub (sc 0 rfl (sc 1 rfl (sc 5 rfl Sub.nil))) (run_region (id := 11) ?_)))
    refine ops_quiet rfl (Pure.q (p_move rfl)) ?_
    refine ops_step rfl (g_call (.cons rfl .nil) (by (repeat' constructor); done) (dirty_spec _ _ _ (by omega))) (fun u74 => ?_)
    refine ops_ln fun _ => ?_
    refine ops_quiet rfl (Pure.q (p_assign rfl)) ?_
    refine ops_nil ?_
    refine run_seq (run_seq (run_sub (sc 0 rfl (sc 1 rfl (sc 5 rfl (sc 9 rfl Sub.nil)))) (run_draw (id := 12) ⟨[11, 20], [0, 1, 2, 3, 4, 5, 6, 8, 9, 10, 12, 13, 14, 15, 17, 18, 19, 21, 22, 23], []⟩ (.cons 0 (.cons 1 (.cons 2 (.cons 3 (.cons 4 (.cons 5 (.cons 6 (.cons 8 (.cons 9 (.cons 10 (.cons 11 (.cons 7 (.cons 12 (.cons 13 (.cons 14 (.cons 15 (.cons 17 (.cons 18 (.cons 19 (.cons 20 (.cons 21 (.cons 16 (.cons 22 (.cons 23 .nil)))))))))))))))))))))))) _ (Ent.refl _) mixed (by kernel_rfl) panOk_body (by rfl) (by kernel_rfl) ?_)))
    refine dp_pure rfl rfl rfl rfl rfl (p_move rfl) ?_
    (first | refine dp_pure rfl rfl rfl rfl rfl (p_lenL rfl) ?_ | refine dp_pure rfl rfl rfl rfl rfl (p_len_slice rfl) ?_)
    refine dp_pure rfl rfl rfl rfl rfl (p_move rfl) ?_
    (first | refine dp_pure rfl rfl rfl rfl rfl (p_lenL rfl) ?_ | refine dp_pure rfl rfl rfl rfl rfl (p_len_slice rfl) ?_)
    refine dp_pure rfl rfl rfl rfl rfl (p_neq rfl rfl) ?_
    refine dp_pure rfl rfl rfl rfl rfl (p_move rfl) ?_
    refine dp_case 80 rfl (fun hg80 => ?_) (fun hg80 => ?_)
    · (try simp only [decide_eq_true_eq, decide_eq_false_iff_not, Bool.not_eq_true', Bool.not_eq_false'] at hg80)
      exact absurd rfl hg80
    · (try simp only [decide_eq_true_eq, decide_eq_false_iff_not, Bool.not_eq_true', Bool.not_eq_false'] at hg80)
      refine dp_pure rfl rfl rfl rfl rfl (p_move rfl) ?_
      refine dp_pure rfl rfl rfl rfl rfl (p_move rfl) ?_
      (first | refine dp_pure rfl rfl rfl rfl rfl (p_nil_ptr rfl) ?_ | refine dp_pure rfl rfl rfl rfl rfl (p_nilE rfl (by (first | omega | (simp only [List.length_cons, List.length_nil, List.length_take, List.length_drop, List.length_append, List.length_map, List.length_replicate, List.length_set]; omega) | (simp; done) | (simp; omega) | rfl))) ?_ | refine dp_pure rfl rfl rfl rfl rfl (p_nil_func rfl) ?_)
      (first | refine dp_pure rfl rfl rfl rfl rfl (p_fieldAddr rfl) ?_ | refine dp_pure rfl rfl rfl rfl rfl (p_fieldE rfl (by (first | omega | (simp only [List.length_cons, List.length_nil, List.length_take, List.length_drop, List.length_append, List.length_map, List.length_replicate, List.length_set]; omega) | (simp; done) | (simp; omega) | rfl))) ?_)
      (first | refine dp_quiet rfl rfl rfl rfl (k_load rfl rfl) ?_ | refine dp_quiet rfl rfl rfl rfl (k_loadM rfl (by (first | omega | (simp only [List.length_cons, List.length_nil, List.length_take, List.length_drop, List.length_append, List.length_map, List.length_replicate, List.length_set]; omega) | (simp; done) | (simp; omega) | rfl))) ?_ | refine dp_quiet rfl rfl rfl rfl (k_loadS rfl (by (first | rfl | assumption | (apply hel; omega) | (apply hel2; omega) | (apply hel3; omega)))) ?_)
      refine dp_step rfl rfl rfl rfl (g_call (.cons rfl .nil) (by (repeat' constructor); done) (off_spec _ _ _)) (fun _ => Goes.ent (by repeat' first | exact Goes.nil | with_reducible apply Goes.exi | with_reducible apply Goes.all | with_reducible apply Goes.pur | ((with_reducible apply Goes.cons); focus ((repeat' constructor); done)) | with_reducible apply dsk_goes | with_reducible apply odk_goes)) (fun u82 => ?_)
      refine dp_pur fun h82 => ?_
      subst h82
      refine dp_grow (Goes.ent (by repeat' first | exact Goes.nil | with_reducible apply Goes.exi | with_reducible apply Goes.all | with_reducible apply Goes.pur | ((with_reducible apply Goes.cons); focus ((repeat' constructor); done)) | with_reducible apply dsk_goes | with_reducible apply odk_goes)) ?_
      refine dp_pure rfl rfl rfl rfl rfl (p_neq_b rfl rfl) ?_
      refine dp_pure rfl rfl rfl rfl rfl (p_pick_f rfl rfl) ?_
      refine dp_pure rfl rfl rfl rfl rfl (p_move rfl) ?_
      refine dp_case 89 rfl (fun hg89 => ?_) (fun hg89 => ?_)
      · (try simp only [decide_eq_true_eq, decide_eq_false_iff_not, Bool.not_eq_true', Bool.not_eq_false'] at hg89)
        cases off <;> cases hg89
      · (try simp only [decide_eq_true_eq, decide_eq_false_iff_not, Bool.not_eq_true', Bool.not_eq_false'] at hg89)
        refine dp_pure rfl rfl rfl rfl rfl (p_move rfl) ?_
        refine dp_pure rfl rfl rfl rfl rfl (p_move rfl) ?_
        (first | refine dp_pure rfl rfl rfl rfl rfl (p_nil_ptr rfl) ?_ | refine dp_pure rfl rfl rfl rfl rfl (p_nilE rfl (by (first | omega | (simp only [List.length_cons, List.length_nil, List.length_take, List.length_drop, List.length_append, List.length_map, List.length_replicate, List.length_set]; omega) | (simp; done) | (simp; omega) | rfl))) ?_ | refine dp_pure rfl rfl rfl rfl rfl (p_nil_func rfl) ?_)
        (first | refine dp_pure rfl rfl rfl rfl rfl (p_fieldAddr rfl) ?_ | refine dp_pure rfl rfl rfl rfl rfl (p_fieldE rfl (by (first | omega | (simp only [List.length_cons, List.length_nil, List.length_take, List.length_drop, List.length_append, List.length_map, List.length_replicate, List.length_set]; omega) | (simp; done) | (simp; omega) | rfl))) ?_)
        (first | refine dp_quiet rfl rfl rfl rfl (k_load rfl rfl) ?_ | refine dp_quiet rfl rfl rfl rfl (k_loadM rfl (by (first | omega | (simp only [List.length_cons, List.length_nil, List.length_take, List.length_drop, List.length_append, List.length_map, List.length_replicate, List.length_set]; omega) | (simp; done) | (simp; omega) | rfl))) ?_ | refine dp_quiet rfl rfl rfl rfl (k_loadS rfl (by (first | rfl | assumption | (apply hel; omega) | (apply hel2; omega) | (apply hel3; omega)))) ?_)
        (first | refine dp_pure rfl rfl rfl rfl rfl (p_lenL rfl) ?_ | refine dp_pure rfl rfl rfl rfl rfl (p_len_slice rfl) ?_)
        refine dp_step rfl rfl rfl rfl (g_call (.cons rfl .nil) (by (repeat' constructor); done) (len_spec _ _ _)) (fun _ => Goes.ent (by repeat' first | exact Goes.nil | with_reducible apply Goes.exi | with_reducible apply Goes.all | with_reducible apply Goes.pur | ((with_reducible apply Goes.cons); focus ((repeat' constructor); done)) | with_reducible apply dsk_goes | with_reducible apply odk_goes)) (fun u91 => ?_)
        refine dp_pur fun h91 => ?_
        subst h91
        refine dp_pure rfl rfl rfl rfl rfl (p_neq rfl rfl) ?_
        refine dp_pure rfl rfl rfl rfl rfl (p_pick_f rfl rfl) ?_
        refine dp_nil ?_
        refine run_case 98 rfl (fun h98 => run_cond_t rfl ?_) (fun h98 => run_cond_f rfl ?_)
        · (try simp only [decide_eq_true_eq, decide_eq_false_iff_not, Bool.not_eq_true', Bool.not_eq_false'] at h98)
          exact absurd rfl h98
        · (try simp only [decide_eq_true_eq, decide_eq_false_iff_not, Bool.not_eq_true', Bool.not_eq_false'] at h98)
          refine run_skip (run_seq (run_seq (run_sub (sc 5 rfl (sc 9 rfl Sub.nil)) (run_region (id := 14) ?_))))
          refine ops_quiet rfl (Pure.q (p_move rfl)) ?_
          (first | refine ops_quiet rfl (Pure.q (p_lenL rfl)) ?_ | refine ops_quiet rfl (k_len rfl) ?_ | refine ops_quiet rfl (Pure.q (p_len_slice rfl)) ?_)
          refine ops_quiet rfl (Pure.q (p_move rfl)) ?_
          refine ops_nil ?_
          refine run_block ?_
          refine runs_loop (fun i : Nat => [(5, v5), (9, u74), (100, .int .i64 (dirtyL ⟨now, sure, dirty, plan, off⟩ k).length), (101, .int .i64 i)])
            (fun _ => [own 3 1 u74 (dirtyL ⟨now, sure, dirty, plan, off⟩ k).length ((dirtyL ⟨now, sure, dirty, plan, off⟩ k).map (Value.int .i64)), own 3 1 v5 (dirtyL ⟨now, sure, dirty, plan, off⟩ k).length ((dirtyL ⟨now, sure, dirty, plan, off⟩ k).map (Value.int .i64)), blk y 43 [vn, vs, vd, vp, .bool off], own 9 1 vn k (now.map st), own 9 1 vs k (sure.map st), own 4 1 vd k (dirty.map .bool), own 5 1 vp plan.length (plan.map u8), dsk x ⟨now, sure, dirty, plan, off⟩ k])
            (fun i => i ≤ (dirtyL ⟨now, sure, dirty, plan, off⟩ k).length) (fun i => (dirtyL ⟨now, sure, dirty, plan, off⟩ k).length - i) 0 (Nat.zero_le _) (by (repeat (first | exact Sub.nil | refine Sub.cons rfl ?_))) (by repeat' first | exact Goes.nil | with_reducible apply Goes.exi | with_reducible apply Goes.all | with_reducible apply Goes.pur | ((with_reducible apply Goes.cons); focus ((repeat' constructor); done)) | with_reducible apply dsk_goes | with_reducible apply odk_goes) ?_
          rintro i (hi : i ≤ (dirtyL ⟨now, sure, dirty, plan, off⟩ k).length)
          (try dsimp only)
          refine run_seq (run_sub (sc 5 rfl (sc 9 rfl (sc 100 rfl (sc 101 rfl Sub.nil)))) (run_region (id := 15) ?_))
          refine ops_quiet rfl (Pure.q (p_lss rfl rfl)) ?_
          refine ops_nil ?_
          refine run_seq ?_
          refine run_case 102 rfl (fun h102 => run_cond_t rfl ?_) (fun h102 => run_cond_f rfl ?_)
          · (try simp only [decide_eq_true_eq, decide_eq_false_iff_not, Bool.not_eq_true', Bool.not_eq_false'] at h102)
            refine run_skip (run_seq (run_block (run_seq (run_sub (sc 5 rfl (sc 9 rfl (sc 100 rfl (sc 101 rfl Sub.nil)))) (run_region (id := 16) ?_)))))
            refine ops_quiet rfl (Pure.q (p_move rfl)) ?_
            refine ops_quiet rfl (Pure.q (p_assign rfl)) ?_
            refine ops_nil ?_
            refine run_seq (run_sub (sc 5 rfl (sc 9 rfl (sc 10 rfl (sc 100 rfl (sc 101 rfl Sub.nil))))) (run_draw (id := 17) ⟨[3, 7], [0, 1, 2, 4, 5, 6, 8], []⟩ (.cons 0 (.cons 1 (.cons 2 (.cons 3 (.cons 4 (.cons 5 (.cons 6 (.cons 7 (.cons 8 .nil))))))))) _ (Ent.refl _) mixed (by kernel_rfl) panOk_body (by rfl) (by kernel_rfl) ?_))
            refine dp_pure rfl rfl rfl rfl rfl (p_move rfl) ?_
            refine dp_pure rfl rfl rfl rfl rfl (p_move rfl) ?_
            refine dp_pure rfl rfl rfl rfl rfl (p_indexL1 rfl rfl (by (first | omega | (simp only [List.length_cons, List.length_nil, List.length_take, List.length_drop, List.length_append, List.length_map, List.length_replicate, List.length_set]; omega) | (simp; done) | (simp; omega) | rfl)) (by (first | omega | (simp only [List.length_cons, List.length_nil, List.length_take, List.length_drop, List.length_append, List.length_map, List.length_replicate, List.length_set]; omega) | (simp; done) | (simp; omega) | rfl))) ?_
            (first | refine dp_quiet rfl rfl rfl rfl (k_load rfl rfl) ?_ | refine dp_quiet rfl rfl rfl rfl (k_loadM rfl (by (first | omega | (simp only [List.length_cons, List.length_nil, List.length_take, List.length_drop, List.length_append, List.length_map, List.length_replicate, List.length_set]; omega) | (simp; done) | (simp; omega) | rfl))) ?_ | refine dp_quiet rfl rfl rfl rfl (k_loadS rfl (by (first | rfl | assumption | (apply hel; omega) | (apply hel2; omega) | (apply hel3; omega)))) ?_)
            refine dp_pure rfl rfl rfl rfl rfl (p_move rfl) ?_
            refine dp_pure rfl rfl rfl rfl rfl (p_move rfl) ?_
            refine dp_pure rfl rfl rfl rfl rfl (p_indexL1 rfl rfl (by (first | omega | (simp only [List.length_cons, List.length_nil, List.length_take, List.length_drop, List.length_append, List.length_map, List.length_replicate, List.length_set]; omega) | (simp; done) | (simp; omega) | rfl)) (by (first | omega | (simp only [List.length_cons, List.length_nil, List.length_take, List.length_drop, List.length_append, List.length_map, List.length_replicate, List.length_set]; omega) | (simp; done) | (simp; omega) | rfl))) ?_
            (first | refine dp_quiet rfl rfl rfl rfl (k_load rfl rfl) ?_ | refine dp_quiet rfl rfl rfl rfl (k_loadM rfl (by (first | omega | (simp only [List.length_cons, List.length_nil, List.length_take, List.length_drop, List.length_append, List.length_map, List.length_replicate, List.length_set]; omega) | (simp; done) | (simp; omega) | rfl))) ?_ | refine dp_quiet rfl rfl rfl rfl (k_loadS rfl (by (first | rfl | assumption | (apply hel; omega) | (apply hel2; omega) | (apply hel3; omega)))) ?_)
            refine dp_pure rfl rfl rfl rfl rfl (p_neq rfl rfl) ?_
            refine dp_nil ?_
            refine run_case 112 rfl (fun h112 => run_cond_t rfl ?_) (fun h112 => run_cond_f rfl ?_)
            · (try simp only [decide_eq_true_eq, decide_eq_false_iff_not, Bool.not_eq_true', Bool.not_eq_false'] at h112)
              exact absurd rfl h112
            · (try simp only [decide_eq_true_eq, decide_eq_false_iff_not, Bool.not_eq_true', Bool.not_eq_false'] at h112)
              refine run_skip (run_inBlock (run_sub (sc 5 rfl (sc 9 rfl (sc 100 rfl (sc 101 rfl Sub.nil)))) (run_region (id := 19) ?_)))
              refine ops_quiet rfl (Pure.q (p_add rfl rfl (by (first | exact wrap_byte _ | exact wrap_i64 (by omega) (by omega) | exact wrap_u8 (by omega) (by omega) | exact wrap_u64 (by omega) (by omega) | exact wrap_u32 (by omega) (by omega) | rfl)))) ?_
              refine ops_quiet rfl (Pure.q (p_move rfl)) ?_
              refine ops_nil ?_
              exact runs_is (i + 1) ⟨by omega, by omega⟩ (by (repeat (first | exact Sub.nil | refine Sub.cons rfl ?_))) (by repeat' first | exact Goes.nil | with_reducible apply Goes.exi | with_reducible apply Goes.all | with_reducible apply Goes.pur | ((with_reducible apply Goes.cons); focus ((repeat' constructor); done)) | with_reducible apply dsk_goes | with_reducible apply odk_goes)
          · (try simp only [decide_eq_true_eq, decide_eq_false_iff_not, Bool.not_eq_true', Bool.not_eq_false'] at h102)
            refine run_exit rfl (run_seq (run_sub Sub.nil (run_region (id := 20) ?_)))
            refine ops_quiet rfl (Pure.q (p_assign rfl)) ?_
            refine ops_nil ?_
            refine rets_one rfl rfl rfl ?_
            (repeat' first | exact Goes.nil | with_reducible apply Goes.exi | with_reducible apply Goes.all | with_reducible apply Goes.pur | ((with_reducible apply Goes.cons); focus ((repeat' constructor); done)) | with_reducible apply dsk_goes | with_reducible apply odk_goes) <;> (first | rfl | assumption | omega | (simp [*]; done) | skip)
end Go.Proofs.YtaibgfnfmkpibaaGreatDoor.SL
