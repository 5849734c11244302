/- The raw numbers: so many bytes. -/
import Derived.Test.YtaibgfnfmkpibaaGreatDoorRawB
namespace Go.Proofs.YtaibgfnfmkpibaaGreatDoor.SL
open Go
attribute [local irreducible] mp mit blk rbk pt exi pur ob orb sv pv own rsl rxs elp sub st Pure Quiet Step Run Ops Dp Fn Ent Tk Holds

theorem bytes_spec (d : Nat) (ob : Option (Nat × Obj)) (v : Value) (l : List UInt8) (m : Nat) (hm : m ≤ 1000000) :
    Fn Tryz.prog 8 #[.pointer (some ⟨d, 0, none⟩), .int .i64 m] [raw d ob v l] (fun u => [exi fun s : List UInt8 => All [pur (u = st s ∧ s.length = m), raw d ob v l]]) := by
  refine fn_of_run Tryz.func8 rfl Tryz.ntmps8 (by simp) fun F => ?_
  simp only [List.zipIdx_cons, List.zipIdx_nil, List.map_cons, List.map_nil, Nat.zero_add, Nat.reduceAdd]
  refine run_seq (run_sub (sc 0 rfl (sc 1 rfl Sub.nil)) (run_region (id := 0) ?_))
  refine ops_quiet rfl (Pure.q (p_assign rfl)) ?_
  refine ops_nil ?_
  refine run_seq ?_
  refine run_cut (ι := Int × Value) (fun i => [(5, .int .i64 i.1), (6, i.2)]) (fun i => [own 5 1 i.2 m ((List.replicate m (0 : UInt8)).map u8), raw d ob v l]) (fun i => 0 ≤ i.1 ∧ i.1 < 256) ?_ ?_
  · refine run_sub (sc 0 rfl (sc 1 rfl Sub.nil)) (run_draw (id := 1) ⟨[], [0, 2, 4, 5], [1, 3]⟩ (.cons 0 (.cons 2 (.two 1 (.cons 4 (.cons 3 (.cons 5 .nil))) 3 (.cons 1 (.cons 4 (.cons 5 .nil)))))) _ (Ent.refl _) mixed (by kernel_rfl) panOk_body (by rfl) (by kernel_rfl) ?_)
    refine dp_pure rfl rfl rfl rfl rfl (p_move rfl) ?_
    refine dp_pure rfl rfl rfl rfl rfl (p_move rfl) ?_
    refine dp_two ?_ ?_
    · refine de_last rfl rfl rfl rfl (g_call (.cons rfl (.cons rfl .nil)) (by (repeat' constructor); done) (next_spec _ _ _ _ _ (by omega) (by omega))) (fun u9 => ?_)
      refine dp_exi fun i9 => dp_allt (dp_pur fun ⟨h9, hl9, hu9⟩ => ?_)
      subst h9
      refine dp_pure rfl rfl rfl rfl rfl (p_assign rfl) ?_
      refine dp_last rfl rfl rfl rfl rfl (g_makeSliceM rfl rfl (by (first | omega | (simp only [List.length_cons, List.length_nil, List.length_take, List.length_drop, List.length_append, List.length_map, List.length_replicate, List.length_set]; omega) | (simp; done) | (simp; omega) | rfl)) (by (first | omega | (simp only [List.length_cons, List.length_nil, List.length_take, List.length_drop, List.length_append, List.length_map, List.length_replicate, List.length_set]; omega) | (simp; done) | (simp; omega) | rfl)) (by (first | omega | (simp only [List.length_cons, List.length_nil, List.length_take, List.length_drop, List.length_append, List.length_map, List.length_replicate, List.length_set]; omega) | (simp; done) | (simp; omega) | rfl))) (fun v11 => ?_)
      (try refine dp_ln fun _ => ?_)
      refine dp_pure rfl rfl rfl rfl rfl (p_assign rfl) ?_
      refine dp_nil ?_
      exact runs_is (i9, v11) ⟨hl9, hu9⟩ (by (repeat (first | exact Sub.nil | refine Sub.cons rfl ?_))) (by repeat' first | exact Goes.nil | with_reducible apply Goes.exi | with_reducible apply Goes.all | with_reducible apply Goes.pur | ((with_reducible apply Goes.cons); focus ((repeat' constructor); done)) | fail)
    · refine de_last rfl rfl rfl rfl (g_makeSliceM rfl rfl (by (first | omega | (simp only [List.length_cons, List.length_nil, List.length_take, List.length_drop, List.length_append, List.length_map, List.length_replicate, List.length_set]; omega) | (simp; done) | (simp; omega) | rfl)) (by (first | omega | (simp only [List.length_cons, List.length_nil, List.length_take, List.length_drop, List.length_append, List.length_map, List.length_replicate, List.length_set]; omega) | (simp; done) | (simp; omega) | rfl)) (by (first | omega | (simp only [List.length_cons, List.length_nil, List.length_take, List.length_drop, List.length_append, List.length_map, List.length_replicate, List.length_set]; omega) | (simp; done) | (simp; omega) | rfl))) (fun v11 => ?_)
      (try refine dp_ln fun _ => ?_)
      refine dp_last rfl rfl rfl rfl rfl (g_call (.cons rfl (.cons rfl .nil)) (by (repeat' constructor); done) (next_spec _ _ _ _ _ (by omega) (by omega))) (fun u9 => ?_)
      refine dp_exi fun i9 => dp_allt (dp_pur fun ⟨h9, hl9, hu9⟩ => ?_)
      subst h9
      refine dp_pure rfl rfl rfl rfl rfl (p_assign rfl) ?_
      refine dp_pure rfl rfl rfl rfl rfl (p_assign rfl) ?_
      refine dp_nil ?_
      exact runs_is (i9, v11) ⟨hl9, hu9⟩ (by (repeat (first | exact Sub.nil | refine Sub.cons rfl ?_))) (by repeat' first | exact Goes.nil | with_reducible apply Goes.exi | with_reducible apply Goes.all | with_reducible apply Goes.pur | ((with_reducible apply Goes.cons); focus ((repeat' constructor); done)) | fail)
  · rintro ⟨i9, v11⟩ ⟨hl9 : 0 ≤ i9, hu9 : i9 < 256⟩
    refine run_seq (run_seq (run_sub (sc 5 rfl (sc 6 rfl Sub.nil)) (run_region (id := 2) ?_)))
    refine ops_quiet rfl (Pure.q (p_move rfl)) ?_
    (first | refine ops_quiet rfl (Pure.q (p_lenL rfl)) ?_ | refine ops_quiet rfl (k_len rfl) ?_ | refine ops_quiet rfl (Pure.q (p_len_slice rfl)) ?_)
    refine ops_quiet rfl (Pure.q (p_move rfl)) ?_
    refine ops_nil ?_
    refine run_block ?_
    refine runs_loop (fun q : Nat × List UInt8 => [(14, .int .i64 q.1), (13, .int .i64 m), (6, v11), (5, .int .i64 i9)]) (fun q => [own 5 1 v11 m (q.2.map u8), raw d ob v l]) (fun q => q.1 ≤ m ∧ q.2.length = m) (fun q => m - q.1) (0, List.replicate m 0) ⟨Nat.zero_le _, by simp⟩ (by (repeat (first | exact Sub.nil | refine Sub.cons rfl ?_))) (by repeat' first | exact Goes.nil | with_reducible apply Goes.exi | with_reducible apply Goes.all | with_reducible apply Goes.pur | ((with_reducible apply Goes.cons); focus ((repeat' constructor); done)) | fail) ?_
    rintro ⟨k, s⟩ ⟨hk : k ≤ m, hs : s.length = m⟩
    refine run_seq (run_sub (sc 5 rfl (sc 6 rfl (sc 13 rfl (sc 14 rfl Sub.nil)))) (run_region (id := 3) ?_))
    refine ops_quiet rfl (Pure.q (p_lss rfl rfl)) ?_
    refine ops_nil ?_
    refine run_seq ?_
    refine run_case 15 rfl (fun h15 => run_cond_t rfl ?_) (fun h15 => run_cond_f rfl ?_)
    · (try simp only [decide_eq_true_eq, decide_eq_false_iff_not, Bool.not_eq_true', Bool.not_eq_false'] at h15)
      refine run_skip (run_seq (run_block (run_seq (run_sub (sc 5 rfl (sc 6 rfl (sc 13 rfl (sc 14 rfl Sub.nil)))) (run_region (id := 4) ?_)))))
      refine ops_quiet rfl (Pure.q (p_move rfl)) ?_
      refine ops_quiet rfl (Pure.q (p_assign rfl)) ?_
      refine ops_nil ?_
      refine run_sub (sc 5 rfl (sc 6 rfl (sc 7 rfl (sc 13 rfl (sc 14 rfl Sub.nil))))) (run_region (id := 5) ?_)
      refine ops_quiet rfl (Pure.q (p_move rfl)) ?_
      refine ops_quiet rfl (Pure.q (p_move rfl)) ?_
      refine ops_quiet rfl (Pure.q (p_move rfl)) ?_
      refine ops_quiet rfl (Pure.q (p_move rfl)) ?_
      refine ops_quiet rfl (Pure.q (p_mul rfl rfl (by (first | exact wrap_byte _ | exact wrap_i64 (by omega) (by omega) | exact wrap_u8 (by omega) (by omega) | exact wrap_u64 (by omega) (by omega) | exact wrap_u32 (by omega) (by omega) | rfl)))) ?_
      refine ops_quiet rfl (Pure.q (p_add rfl rfl (by (first | exact wrap_byte _ | exact wrap_i64 (by omega) (by omega) | exact wrap_u8 (by omega) (by omega) | exact wrap_u64 (by omega) (by omega) | exact wrap_u32 (by omega) (by omega) | rfl)))) ?_
      refine ops_quiet rfl (Pure.q (p_conv rfl (by (first | exact wrap_byte _ | exact wrap_i64 (by omega) (by omega) | exact wrap_u8 (by omega) (by omega) | exact wrap_u64 (by omega) (by omega) | exact wrap_u32 (by omega) (by omega) | rfl)))) ?_
      (first | refine ops_quiet rfl (Pure.q (p_indexL1 rfl rfl (by (first | omega | (simp only [List.length_cons, List.length_nil, List.length_take, List.length_drop, List.length_append, List.length_map, List.length_replicate, List.length_set]; omega) | (simp; done) | (simp; omega) | rfl)) (by (first | omega | (simp only [List.length_cons, List.length_nil, List.length_take, List.length_drop, List.length_append, List.length_map, List.length_replicate, List.length_set]; omega) | (simp; done) | (simp; omega) | rfl)))) ?_ | refine ops_quiet rfl (k_index1 rfl rfl (by (first | omega | (simp only [List.length_cons, List.length_nil, List.length_take, List.length_drop, List.length_append, List.length_map, List.length_replicate, List.length_set]; omega) | (simp; done) | (simp; omega) | rfl)) (by (first | omega | (simp only [List.length_cons, List.length_nil, List.length_take, List.length_drop, List.length_append, List.length_map, List.length_replicate, List.length_set]; omega) | (simp; done) | (simp; omega) | rfl))) ?_)
      (first | refine ops_step rfl (g_store rfl rfl rfl) (fun _ => ?_) | refine ops_step rfl (g_storeM rfl rfl (by (first | omega | (simp only [List.length_cons, List.length_nil, List.length_take, List.length_drop, List.length_append, List.length_map, List.length_replicate, List.length_set]; omega) | (simp; done) | (simp; omega) | rfl))) (fun _ => ?_) | refine ops_step rfl (g_storeS rfl rfl (by (first | omega | (simp only [List.length_cons, List.length_nil, List.length_take, List.length_drop, List.length_append, List.length_map, List.length_replicate, List.length_set]; omega) | (simp; done) | (simp; omega) | rfl))) (fun _ => ?_))
      refine ops_nil ?_
      refine run_inBlock (run_sub (sc 5 rfl (sc 6 rfl (sc 13 rfl (sc 14 rfl Sub.nil)))) (run_region (id := 6) ?_))
      refine ops_quiet rfl (Pure.q (p_add rfl rfl (by (first | exact wrap_byte _ | exact wrap_i64 (by omega) (by omega) | exact wrap_u8 (by omega) (by omega) | exact wrap_u64 (by omega) (by omega) | exact wrap_u32 (by omega) (by omega) | rfl)))) ?_
      refine ops_quiet rfl (Pure.q (p_move rfl)) ?_
      refine ops_nil ?_
      exact runs_is (k + 1, s.set k _) ⟨⟨by omega, by simpa using hs⟩, show m - (k + 1) < m - k by omega⟩ (by (repeat (first | exact Sub.nil | refine Sub.cons rfl ?_))) (by repeat' first | exact Goes.nil | with_reducible apply Goes.exi | with_reducible apply Goes.all | with_reducible apply Goes.pur | ((with_reducible apply Goes.cons); focus ((repeat' constructor); done)) | fail)
    · (try simp only [decide_eq_true_eq, decide_eq_false_iff_not, Bool.not_eq_true', Bool.not_eq_false'] at h15)
      refine run_exit rfl (run_seq (run_sub (sc 6 rfl Sub.nil) (run_region (id := 7) ?_)))
      refine ops_quiet rfl (Pure.q (p_move rfl)) ?_
      refine ops_quiet rfl (k_bytesStr rfl rfl) ?_
      refine ops_quiet rfl (Pure.q (p_assign rfl)) ?_
      refine ops_nil ?_
      refine rets_one rfl rfl rfl ?_
      refine Goes.exi (x := s) (Goes.all (Goes.pur ⟨rfl, hs⟩ ?_))
      (repeat' first | exact Goes.nil | with_reducible apply Goes.exi | with_reducible apply Goes.all | with_reducible apply Goes.pur | ((with_reducible apply Goes.cons); focus ((repeat' constructor); done)) | fail) <;> (first | rfl | assumption | omega | (simp [*]; done) | skip)
end Go.Proofs.YtaibgfnfmkpibaaGreatDoor.SL
