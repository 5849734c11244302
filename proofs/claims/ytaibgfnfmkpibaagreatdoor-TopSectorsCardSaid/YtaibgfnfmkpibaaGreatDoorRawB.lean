/- The raw numbers, taken one after another. -/
import Derived.Test.YtaibgfnfmkpibaaGreatDoorDskA
namespace Go.Proofs.YtaibgfnfmkpibaaGreatDoor.SL
open Go
attribute [local irreducible] mp mit blk rbk pt exi pur ob orb sv pv own rsl rxs elp sub st Pure Quiet Step Run Ops Dp Fn Ent Tk Holds

/-- The raw numbers: these bytes; some are taken. -/
def raw (d : Nat) (ob : Option (Nat × Obj)) (v : Value) (l : List UInt8) : HProp :=
  exi fun a : Nat => All [pur (a ≤ l.length ∧ l.length ≤ 140737488355328), blk d 26 [v, .int .i64 a], rxs ob 1 v l.length (l.map u8)]

theorem next_spec (d : Nat) (ob : Option (Nat × Obj)) (v : Value) (l : List UInt8) (m : Int) (hm : 0 < m) (hm' : m ≤ 9223372036854775807) :
    Fn Tryz.prog 5 #[.pointer (some ⟨d, 0, none⟩), .int .i64 m] [raw d ob v l] (fun u => [exi fun i : Int => All [pur (u = .int .i64 i ∧ 0 ≤ i ∧ i < m), raw d ob v l]]) := by
  refine fn_of_run Tryz.func5 rfl Tryz.ntmps5 (by simp) fun F => ?_
  unfold raw
  refine run_exi fun a => run_allt (run_pur fun ⟨ha, hl⟩ => ?_)
  refine run_facts v fun _ => ?_
  simp only [List.zipIdx_cons, List.zipIdx_nil, List.map_cons, List.map_nil, Nat.zero_add, Nat.reduceAdd]
  refine run_seq (run_sub (sc 0 rfl (sc 1 rfl Sub.nil)) (run_region (id := 0) ?_))
  refine ops_quiet rfl (Pure.q (p_assign rfl)) ?_
  refine ops_nil ?_
  refine run_seq (run_seq (run_sub (sc 0 rfl (sc 1 rfl Sub.nil)) (run_draw (id := 1) ⟨[3, 7], [0, 1, 2, 4, 5, 6, 8, 9], []⟩ (.cons 0 (.cons 1 (.cons 2 (.cons 3 (.cons 4 (.cons 5 (.cons 6 (.cons 7 (.cons 8 (.cons 9 .nil)))))))))) _ (Ent.refl _) mixed (by kernel_rfl) panOk_body (by rfl) (by kernel_rfl) ?_)))
  refine dp_pure rfl rfl rfl rfl rfl (p_move rfl) ?_
  (first | refine dp_pure rfl rfl rfl rfl rfl (p_nil_ptr rfl) ?_ | refine dp_pure rfl rfl rfl rfl rfl (p_nilE rfl (by (first | omega | (simp only [List.length_cons, List.length_nil, List.length_take, List.length_drop, List.length_append, List.length_map, List.length_replicate, List.length_set]; omega) | (simp; done) | (simp; omega) | rfl))) ?_ | refine dp_pure rfl rfl rfl rfl rfl (p_nil_func rfl) ?_)
  (first | refine dp_pure rfl rfl rfl rfl rfl (p_fieldAddr rfl) ?_ | refine dp_pure rfl rfl rfl rfl rfl (p_fieldE rfl (by (first | omega | (simp only [List.length_cons, List.length_nil, List.length_take, List.length_drop, List.length_append, List.length_map, List.length_replicate, List.length_set]; omega) | (simp; done) | (simp; omega) | rfl))) ?_)
  (first | refine dp_quiet rfl rfl rfl rfl (k_load rfl rfl) ?_ | refine dp_quiet rfl rfl rfl rfl (k_loadM rfl (by (first | omega | (simp only [List.length_cons, List.length_nil, List.length_take, List.length_drop, List.length_append, List.length_map, List.length_replicate, List.length_set]; omega) | (simp; done) | (simp; omega) | rfl))) ?_ | refine dp_quiet rfl rfl rfl rfl (k_loadS rfl (by (first | rfl | assumption | (apply hel; omega) | (apply hel2; omega) | (apply hel3; omega)))) ?_)
  refine dp_pure rfl rfl rfl rfl rfl (p_move rfl) ?_
  (first | refine dp_pure rfl rfl rfl rfl rfl (p_nil_ptr rfl) ?_ | refine dp_pure rfl rfl rfl rfl rfl (p_nilE rfl (by (first | omega | (simp only [List.length_cons, List.length_nil, List.length_take, List.length_drop, List.length_append, List.length_map, List.length_replicate, List.length_set]; omega) | (simp; done) | (simp; omega) | rfl))) ?_ | refine dp_pure rfl rfl rfl rfl rfl (p_nil_func rfl) ?_)
  (first | refine dp_pure rfl rfl rfl rfl rfl (p_fieldAddr rfl) ?_ | refine dp_pure rfl rfl rfl rfl rfl (p_fieldE rfl (by (first | omega | (simp only [List.length_cons, List.length_nil, List.length_take, List.length_drop, List.length_append, List.length_map, List.length_replicate, List.length_set]; omega) | (simp; done) | (simp; omega) | rfl))) ?_)
  (first | refine dp_quiet rfl rfl rfl rfl (k_load rfl rfl) ?_ | refine dp_quiet rfl rfl rfl rfl (k_loadM rfl (by (first | omega | (simp only [List.length_cons, List.length_nil, List.length_take, List.length_drop, List.length_append, List.length_map, List.length_replicate, List.length_set]; omega) | (simp; done) | (simp; omega) | rfl))) ?_ | refine dp_quiet rfl rfl rfl rfl (k_loadS rfl (by (first | rfl | assumption | (apply hel; omega) | (apply hel2; omega) | (apply hel3; omega)))) ?_)
  (first | refine dp_pure rfl rfl rfl rfl rfl (p_lenL rfl) ?_ | refine dp_pure rfl rfl rfl rfl rfl (p_len_slice rfl) ?_)
  refine dp_pure rfl rfl rfl rfl rfl (p_geq rfl rfl) ?_
  refine dp_nil ?_
  refine run_case 14 rfl (fun h14 => run_cond_t rfl ?_) (fun h14 => run_cond_f rfl ?_)
  · (try simp only [decide_eq_true_eq, decide_eq_false_iff_not, Bool.not_eq_true', Bool.not_eq_false'] at h14)
    refine run_seq (run_sub Sub.nil (run_region (id := 2) ?_))
    refine ops_quiet rfl (Pure.q (p_assign rfl)) ?_
    refine ops_nil ?_
    refine rets_one rfl rfl rfl ?_
    refine Goes.exi (x := 0) (Goes.all (Goes.pur ⟨rfl, Int.le_refl _, hm⟩ ?_))
    (repeat' first | exact Goes.nil | with_reducible apply Goes.exi | with_reducible apply Goes.all | with_reducible apply Goes.pur | ((with_reducible apply Goes.cons); focus ((repeat' constructor); done)) | fail) <;> (first | rfl | assumption | omega | (simp [*]; done) | skip)
  · (try simp only [decide_eq_true_eq, decide_eq_false_iff_not, Bool.not_eq_true', Bool.not_eq_false'] at h14)
    refine run_skip (run_seq (run_sub (sc 0 rfl (sc 1 rfl Sub.nil)) (run_region (id := 3) ?_)))
    refine ops_quiet rfl (Pure.q (p_move rfl)) ?_
    (first | refine ops_quiet rfl (Pure.q (p_nil_ptr rfl)) ?_ | refine ops_quiet rfl (Pure.q (p_nilE rfl (by (first | omega | (simp only [List.length_cons, List.length_nil, List.length_take, List.length_drop, List.length_append, List.length_map, List.length_replicate, List.length_set]; omega) | (simp; done) | (simp; omega) | rfl)))) ?_ | refine ops_quiet rfl (k_nil rfl (by (first | omega | (simp only [List.length_cons, List.length_nil, List.length_take, List.length_drop, List.length_append, List.length_map, List.length_replicate, List.length_set]; omega) | (simp; done) | (simp; omega) | rfl))) ?_ | refine ops_quiet rfl (Pure.q (p_nil_func rfl)) ?_)
    (first | refine ops_quiet rfl (Pure.q (p_fieldAddr rfl)) ?_ | refine ops_quiet rfl (Pure.q (p_fieldE rfl (by (first | omega | (simp only [List.length_cons, List.length_nil, List.length_take, List.length_drop, List.length_append, List.length_map, List.length_replicate, List.length_set]; omega) | (simp; done) | (simp; omega) | rfl)))) ?_ | refine ops_quiet rfl (k_field rfl (by (first | omega | (simp only [List.length_cons, List.length_nil, List.length_take, List.length_drop, List.length_append, List.length_map, List.length_replicate, List.length_set]; omega) | (simp; done) | (simp; omega) | rfl))) ?_)
    (first | refine ops_quiet rfl (k_load rfl rfl) ?_ | refine ops_quiet rfl (k_loadM rfl (by (first | omega | (simp only [List.length_cons, List.length_nil, List.length_take, List.length_drop, List.length_append, List.length_map, List.length_replicate, List.length_set]; omega) | (simp; done) | (simp; omega) | rfl))) ?_ | refine ops_quiet rfl (k_loadS rfl (by (first | rfl | assumption | (apply hel; omega) | (apply hel2; omega) | (apply hel3; omega)))) ?_)
    refine ops_quiet rfl (Pure.q (p_add rfl rfl (by (first | exact wrap_byte _ | exact wrap_i64 (by omega) (by omega) | exact wrap_u8 (by omega) (by omega) | exact wrap_u64 (by omega) (by omega) | exact wrap_u32 (by omega) (by omega) | rfl)))) ?_
    (first | refine ops_quiet rfl (Pure.q (p_nil_ptr rfl)) ?_ | refine ops_quiet rfl (Pure.q (p_nilE rfl (by (first | omega | (simp only [List.length_cons, List.length_nil, List.length_take, List.length_drop, List.length_append, List.length_map, List.length_replicate, List.length_set]; omega) | (simp; done) | (simp; omega) | rfl)))) ?_ | refine ops_quiet rfl (k_nil rfl (by (first | omega | (simp only [List.length_cons, List.length_nil, List.length_take, List.length_drop, List.length_append, List.length_map, List.length_replicate, List.length_set]; omega) | (simp; done) | (simp; omega) | rfl))) ?_ | refine ops_quiet rfl (Pure.q (p_nil_func rfl)) ?_)
    (first | refine ops_quiet rfl (Pure.q (p_fieldAddr rfl)) ?_ | refine ops_quiet rfl (Pure.q (p_fieldE rfl (by (first | omega | (simp only [List.length_cons, List.length_nil, List.length_take, List.length_drop, List.length_append, List.length_map, List.length_replicate, List.length_set]; omega) | (simp; done) | (simp; omega) | rfl)))) ?_ | refine ops_quiet rfl (k_field rfl (by (first | omega | (simp only [List.length_cons, List.length_nil, List.length_take, List.length_drop, List.length_append, List.length_map, List.length_replicate, List.length_set]; omega) | (simp; done) | (simp; omega) | rfl))) ?_)
    (first | refine ops_step rfl (g_store rfl rfl rfl) (fun _ => ?_) | refine ops_step rfl (g_storeM rfl rfl (by (first | omega | (simp only [List.length_cons, List.length_nil, List.length_take, List.length_drop, List.length_append, List.length_map, List.length_replicate, List.length_set]; omega) | (simp; done) | (simp; omega) | rfl))) (fun _ => ?_) | refine ops_step rfl (g_storeS rfl rfl (by (first | omega | (simp only [List.length_cons, List.length_nil, List.length_take, List.length_drop, List.length_append, List.length_map, List.length_replicate, List.length_set]; omega) | (simp; done) | (simp; omega) | rfl))) (fun _ => ?_))
    refine ops_nil ?_
    refine run_seq (run_sub (sc 0 rfl (sc 1 rfl Sub.nil)) (run_draw (id := 4) ⟨[3, 7, 10], [0, 1, 2, 4, 5, 6, 8, 9, 11, 12, 13, 14], []⟩ (.cons 0 (.cons 1 (.cons 2 (.cons 3 (.cons 4 (.cons 5 (.cons 6 (.cons 7 (.cons 8 (.cons 9 (.cons 10 (.cons 11 (.cons 12 (.cons 13 (.cons 14 .nil))))))))))))))) _ (Ent.refl _) mixed (by kernel_rfl) panOk_body (by rfl) (by kernel_rfl) ?_))
    refine dp_pure rfl rfl rfl rfl rfl (p_move rfl) ?_
    (first | refine dp_pure rfl rfl rfl rfl rfl (p_nil_ptr rfl) ?_ | refine dp_pure rfl rfl rfl rfl rfl (p_nilE rfl (by (first | omega | (simp only [List.length_cons, List.length_nil, List.length_take, List.length_drop, List.length_append, List.length_map, List.length_replicate, List.length_set]; omega) | (simp; done) | (simp; omega) | rfl))) ?_ | refine dp_pure rfl rfl rfl rfl rfl (p_nil_func rfl) ?_)
    (first | refine dp_pure rfl rfl rfl rfl rfl (p_fieldAddr rfl) ?_ | refine dp_pure rfl rfl rfl rfl rfl (p_fieldE rfl (by (first | omega | (simp only [List.length_cons, List.length_nil, List.length_take, List.length_drop, List.length_append, List.length_map, List.length_replicate, List.length_set]; omega) | (simp; done) | (simp; omega) | rfl))) ?_)
    (first | refine dp_quiet rfl rfl rfl rfl (k_load rfl rfl) ?_ | refine dp_quiet rfl rfl rfl rfl (k_loadM rfl (by (first | omega | (simp only [List.length_cons, List.length_nil, List.length_take, List.length_drop, List.length_append, List.length_map, List.length_replicate, List.length_set]; omega) | (simp; done) | (simp; omega) | rfl))) ?_ | refine dp_quiet rfl rfl rfl rfl (k_loadS rfl (by (first | rfl | assumption | (apply hel; omega) | (apply hel2; omega) | (apply hel3; omega)))) ?_)
    refine dp_pure rfl rfl rfl rfl rfl (p_move rfl) ?_
    (first | refine dp_pure rfl rfl rfl rfl rfl (p_nil_ptr rfl) ?_ | refine dp_pure rfl rfl rfl rfl rfl (p_nilE rfl (by (first | omega | (simp only [List.length_cons, List.length_nil, List.length_take, List.length_drop, List.length_append, List.length_map, List.length_replicate, List.length_set]; omega) | (simp; done) | (simp; omega) | rfl))) ?_ | refine dp_pure rfl rfl rfl rfl rfl (p_nil_func rfl) ?_)
    (first | refine dp_pure rfl rfl rfl rfl rfl (p_fieldAddr rfl) ?_ | refine dp_pure rfl rfl rfl rfl rfl (p_fieldE rfl (by (first | omega | (simp only [List.length_cons, List.length_nil, List.length_take, List.length_drop, List.length_append, List.length_map, List.length_replicate, List.length_set]; omega) | (simp; done) | (simp; omega) | rfl))) ?_)
    (first | refine dp_quiet rfl rfl rfl rfl (k_load rfl rfl) ?_ | refine dp_quiet rfl rfl rfl rfl (k_loadM rfl (by (first | omega | (simp only [List.length_cons, List.length_nil, List.length_take, List.length_drop, List.length_append, List.length_map, List.length_replicate, List.length_set]; omega) | (simp; done) | (simp; omega) | rfl))) ?_ | refine dp_quiet rfl rfl rfl rfl (k_loadS rfl (by (first | rfl | assumption | (apply hel; omega) | (apply hel2; omega) | (apply hel3; omega)))) ?_)
    refine dp_pure rfl rfl rfl rfl rfl (p_sub rfl rfl (by (first | exact wrap_byte _ | exact wrap_i64 (by omega) (by omega) | exact wrap_u8 (by omega) (by omega) | exact wrap_u64 (by omega) (by omega) | exact wrap_u32 (by omega) (by omega) | rfl))) ?_
    refine dp_pure rfl rfl rfl rfl rfl (p_indexL1 rfl rfl (by (first | omega | (simp only [List.length_cons, List.length_nil, List.length_take, List.length_drop, List.length_append, List.length_map, List.length_replicate, List.length_set]; omega) | (simp; done) | (simp; omega) | rfl)) (by (first | omega | (simp only [List.length_cons, List.length_nil, List.length_take, List.length_drop, List.length_append, List.length_map, List.length_replicate, List.length_set]; omega) | (simp; done) | (simp; omega) | rfl))) ?_
    (first | refine dp_quiet rfl rfl rfl rfl (k_load rfl rfl) ?_ | refine dp_quiet rfl rfl rfl rfl (k_loadM rfl (by (first | omega | (simp only [List.length_cons, List.length_nil, List.length_take, List.length_drop, List.length_append, List.length_map, List.length_replicate, List.length_set]; omega) | (simp; done) | (simp; omega) | rfl))) ?_ | refine dp_quiet rfl rfl rfl rfl (k_loadS rfl (by (first | rfl | assumption | (apply hel; omega) | (apply hel2; omega) | (apply hel3; omega)))) ?_)
    refine dp_pure rfl rfl rfl rfl rfl (p_conv rfl (by (first | exact wrap_byte _ | exact wrap_i64 (by omega) (by omega) | exact wrap_u8 (by omega) (by omega) | exact wrap_u64 (by omega) (by omega) | exact wrap_u32 (by omega) (by omega) | rfl))) ?_
    refine dp_pure rfl rfl rfl rfl rfl (p_move rfl) ?_
    refine dp_pure rfl rfl rfl rfl rfl (p_rem rfl rfl (by (first | omega | (simp only [List.length_cons, List.length_nil, List.length_take, List.length_drop, List.length_append, List.length_map, List.length_replicate, List.length_set]; omega) | (simp; done) | (simp; omega) | rfl)) rfl) ?_
    refine dp_pure rfl rfl rfl rfl rfl (p_assign rfl) ?_
    refine dp_nil ?_
    refine rets_one rfl rfl rfl ?_
    have h0 : (0 : Int) ≤ ((l.getD a default).toNat : Int) := by omega
    refine Goes.exi (x := ((l.getD a default).toNat : Int).tmod m) (Goes.all (Goes.pur ⟨?_, Int.tmod_nonneg _ h0, ?_⟩ (Goes.exi (x := a + 1) (Goes.all (Goes.pur ⟨by omega, hl⟩ ?_)))))
    · (repeat' first | exact Goes.nil | with_reducible apply Goes.exi | with_reducible apply Goes.all | with_reducible apply Goes.pur | ((with_reducible apply Goes.cons); focus ((repeat' constructor); done)) | fail) <;> (first | rfl | assumption | omega | (simp [*]; done) | skip)
    · rw [show (↑a + 1 - 1 : Int).toNat = a by omega]
    · rw [Int.tmod_eq_emod_of_nonneg h0]; exact Int.emod_lt_of_pos _ hm
end Go.Proofs.YtaibgfnfmkpibaaGreatDoor.SL
