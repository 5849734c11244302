/- Whole numbers sorted: the ways there. -/
import Derived.Test.YtaibgfnfmkpibaaGreatDoorSrtA
namespace Go.Proofs.YtaibgfnfmkpibaaGreatDoor.SL
open Go
attribute [local irreducible] mp mit blk rbk pt exi pur ob orb sv pv own rsl rxs elp sub st Pure Quiet Step Run Ops Dp Fn Ent Tk Holds

theorem len64_spec (x : Int) (h0 : 0 ≤ x) (h1 : x < 256) : Fn Tryz.prog 98 #[.int .u64 x] [] (fun u => [exi fun i => pur (u = .int .i64 i)]) := by
  refine fn_of_run Tryz.func98 rfl Tryz.ntmps98 (by simp) fun F => ?_
  simp only [List.zipIdx_cons, List.zipIdx_nil, List.map_cons, List.map_nil, Nat.zero_add, Nat.reduceAdd]
  refine run_seq (run_sub (sc 0 rfl Sub.nil) (run_region (id := 0) ?_))
  refine ops_quiet rfl (Pure.q (p_assign rfl)) ?_
  refine ops_nil ?_
  refine run_seq (run_seq (run_sub (sc 0 rfl (sc 2 rfl Sub.nil)) (run_region (id := 1) ?_)))
  refine ops_quiet rfl (Pure.q (p_move rfl)) ?_
  refine ops_quiet rfl (Pure.q (p_geq rfl rfl)) ?_
  refine ops_nil ?_
  refine run_case 4 rfl (fun h4 => run_cond_t rfl ?_) (fun h4 => run_cond_f rfl ?_)
  · (try simp only [decide_eq_true_eq, decide_eq_false_iff_not, Bool.not_eq_true', Bool.not_eq_false'] at h4)
    exact absurd h4 (by omega)
  · (try simp only [decide_eq_true_eq, decide_eq_false_iff_not, Bool.not_eq_true', Bool.not_eq_false'] at h4)
    refine run_skip (run_seq (run_seq (run_sub (sc 0 rfl (sc 2 rfl Sub.nil)) (run_region (id := 4) ?_))))
    refine ops_quiet rfl (Pure.q (p_move rfl)) ?_
    refine ops_quiet rfl (Pure.q (p_geq rfl rfl)) ?_
    refine ops_nil ?_
    refine run_case 8 rfl (fun h8 => run_cond_t rfl ?_) (fun h8 => run_cond_f rfl ?_)
    · (try simp only [decide_eq_true_eq, decide_eq_false_iff_not, Bool.not_eq_true', Bool.not_eq_false'] at h8)
      exact absurd h8 (by omega)
    · (try simp only [decide_eq_true_eq, decide_eq_false_iff_not, Bool.not_eq_true', Bool.not_eq_false'] at h8)
      refine run_skip (run_seq (run_seq (run_sub (sc 0 rfl (sc 2 rfl Sub.nil)) (run_region (id := 7) ?_))))
      refine ops_quiet rfl (Pure.q (p_move rfl)) ?_
      refine ops_quiet rfl (Pure.q (p_geq rfl rfl)) ?_
      refine ops_nil ?_
      refine run_case 14 rfl (fun h14 => run_cond_t rfl ?_) (fun h14 => run_cond_f rfl ?_)
      · (try simp only [decide_eq_true_eq, decide_eq_false_iff_not, Bool.not_eq_true', Bool.not_eq_false'] at h14)
        exact absurd h14 (by omega)
      · (try simp only [decide_eq_true_eq, decide_eq_false_iff_not, Bool.not_eq_true', Bool.not_eq_false'] at h14)
        refine run_skip (run_seq (run_sub (sc 0 rfl (sc 2 rfl Sub.nil)) (run_region (id := 10) ?_)))
        refine ops_quiet rfl (Pure.q (p_move rfl)) ?_
        refine ops_quiet rfl (Pure.q (p_move rfl)) ?_
        refine ops_quiet rfl (Pure.q (p_conv rfl (by (first | exact wrap_byte _ | exact wrap_i64 (by omega) (by omega) | exact wrap_u8 (by omega) (by omega) | exact wrap_u64 (by omega) (by omega) | exact wrap_u32 (by omega) (by omega) | rfl)))) ?_
        refine ops_quiet rfl (Pure.q (p_index_str rfl rfl (by omega) (List.getElem?_eq_getElem (Nat.lt_of_lt_of_eq (m := 256) (by omega) (by kernel_rfl))))) ?_
        refine ops_quiet rfl (Pure.q (p_conv rfl (by (first | exact wrap_byte _ | exact wrap_i64 (by omega) (by omega) | exact wrap_u8 (by omega) (by omega) | exact wrap_u64 (by omega) (by omega) | exact wrap_u32 (by omega) (by omega) | rfl)))) ?_
        refine ops_quiet rfl (Pure.q (p_add rfl rfl (by (first | exact wrap_byte _ | exact wrap_i64 (by omega) (by omega) | exact wrap_u8 (by omega) (by omega) | exact wrap_u64 (by omega) (by omega) | exact wrap_u32 (by omega) (by omega) | rfl)))) ?_
        refine ops_quiet rfl (Pure.q (p_assign rfl)) ?_
        refine ops_nil ?_
        refine rets_one rfl rfl rfl ?_
        (repeat' first | exact Goes.nil | with_reducible apply Goes.exi | with_reducible apply Goes.all | with_reducible apply Goes.pur | ((with_reducible apply Goes.cons); focus ((repeat' constructor); done)) | fail) <;> (first | rfl | assumption | omega | (simp [*]; done) | skip)

theorem len_bits (x : Int) (h0 : 0 ≤ x) (h1 : x < 256) : Fn Tryz.prog 77 #[.int .u64 x] [] (fun u => [exi fun i => pur (u = .int .i64 i)]) := by
  refine fn_of_run Tryz.func77 rfl Tryz.ntmps77 (by simp) fun F => ?_
  simp only [List.zipIdx_cons, List.zipIdx_nil, List.map_cons, List.map_nil, Nat.zero_add, Nat.reduceAdd]
  refine run_seq (run_sub (sc 0 rfl Sub.nil) (run_region (id := 0) ?_))
  refine ops_quiet rfl (Pure.q (p_assign rfl)) ?_
  refine ops_nil ?_
  refine run_seq (run_cond_f rfl (run_skip (run_seq (run_sub (sc 0 rfl Sub.nil) (run_region (id := 2) ?_)))))
  refine ops_quiet rfl (Pure.q (p_move rfl)) ?_
  refine ops_step rfl (g_call (.cons rfl .nil) (by (repeat' constructor); done) (len64_spec _ (by omega) (by omega))) (fun u7 => ?_)
  refine ops_exi fun i7 => ops_pur fun h7 => ?_
  subst h7
  refine ops_quiet rfl (Pure.q (p_assign rfl)) ?_
  refine ops_nil ?_
  refine rets_one rfl rfl rfl ?_
  (repeat' first | exact Goes.nil | with_reducible apply Goes.exi | with_reducible apply Goes.all | with_reducible apply Goes.pur | ((with_reducible apply Goes.cons); focus ((repeat' constructor); done)) | fail) <;> (first | rfl | assumption | omega | (simp [*]; done) | skip)

theorem pdq_spec (v : Value) (l : List Int) (n : Nat) (lim : Int) (hl : l.length = n) (hn : n ≤ 12) :
    Fn Tryz.prog 81 #[v, .int .i64 0, .int .i64 n, .int .i64 lim] [own 3 1 v n (l.map (Value.int .i64))]
      (fun _ => [exi fun l' => All [pur (l'.Perm l ∧ Upto l' n), own 3 1 v n (l'.map (Value.int .i64))]]) := by
  refine fn_of_run Tryz.func81 rfl Tryz.ntmps81 (by simp) fun F => ?_
  simp only [List.zipIdx_cons, List.zipIdx_nil, List.map_cons, List.map_nil, Nat.zero_add, Nat.reduceAdd]
  refine run_seq (run_sub (sc 0 rfl (sc 1 rfl (sc 2 rfl (sc 3 rfl Sub.nil)))) (run_region (id := 0) ?_))
  refine ops_quiet rfl (Pure.q (p_assign rfl)) ?_
  refine ops_nil ?_
  refine run_seq (run_sub (sc 0 rfl (sc 1 rfl (sc 2 rfl (sc 3 rfl (sc 8 rfl Sub.nil))))) (run_region (id := 1) ?_))
  refine ops_quiet rfl (Pure.q (p_assign rfl)) ?_
  refine ops_nil ?_
  refine run_block ?_
  refine run_unroll 1 (run_round ?_)
  refine run_block (run_seq (run_sub (sc 0 rfl (sc 1 rfl (sc 2 rfl (sc 3 rfl (sc 8 rfl (sc 9 rfl Sub.nil)))))) (run_region (id := 2) ?_)))
  refine ops_quiet rfl (Pure.q (p_move rfl)) ?_
  refine ops_quiet rfl (Pure.q (p_move rfl)) ?_
  refine ops_quiet rfl (Pure.q (p_sub rfl rfl (by (first | exact wrap_byte _ | exact wrap_i64 (by omega) (by omega) | exact wrap_u8 (by omega) (by omega) | exact wrap_u64 (by omega) (by omega) | exact wrap_u32 (by omega) (by omega) | rfl)))) ?_
  refine ops_quiet rfl (Pure.q (p_assign rfl)) ?_
  refine ops_nil ?_
  refine run_seq (run_seq (run_sub (sc 0 rfl (sc 1 rfl (sc 2 rfl (sc 3 rfl (sc 8 rfl (sc 9 rfl (sc 10 rfl Sub.nil))))))) (run_region (id := 3) ?_)))
  refine ops_quiet rfl (Pure.q (p_move rfl)) ?_
  refine ops_quiet rfl (Pure.q (p_leq rfl rfl)) ?_
  refine ops_nil ?_
  refine run_case 23 rfl (fun h23 => run_cond_t rfl ?_) (fun h23 => run_cond_f rfl ?_)
  · (try simp only [decide_eq_true_eq, decide_eq_false_iff_not, Bool.not_eq_true', Bool.not_eq_false'] at h23)
    refine run_seq (run_sub (sc 0 rfl (sc 1 rfl (sc 2 rfl Sub.nil))) (run_region (id := 4) ?_))
    refine ops_quiet rfl (Pure.q (p_move rfl)) ?_
    refine ops_quiet rfl (Pure.q (p_move rfl)) ?_
    refine ops_quiet rfl (Pure.q (p_move rfl)) ?_
    refine ops_step rfl (g_call (.cons rfl (.cons rfl (.cons rfl .nil))) (by (repeat' constructor); done) (insertion_spec _ _ _ (by assumption) (by omega))) (fun u27 => ?_)
    refine ops_exi fun l27 => ops_allt (ops_pur fun ⟨hp27, hs27⟩ => ?_)
    refine ops_nil ?_
    refine rets_none rfl rfl ?_
    refine Goes.exi (x := l27) (Goes.all (Goes.pur ⟨hp27, hs27⟩ ?_))
    (repeat' first | exact Goes.nil | with_reducible apply Goes.exi | with_reducible apply Goes.all | with_reducible apply Goes.pur | ((with_reducible apply Goes.cons); focus ((repeat' constructor); done)) | fail) <;> (first | rfl | assumption | omega | (simp [*]; done) | skip)
  · (try simp only [decide_eq_true_eq, decide_eq_false_iff_not, Bool.not_eq_true', Bool.not_eq_false'] at h23)
    exact absurd h23 (by omega)

theorem sort_spec (v : Value) (l : List Int) (n : Nat) (hl : l.length = n) (hn : n ≤ 12) :
    Fn Tryz.prog 59 #[v] [own 3 1 v n (l.map (Value.int .i64))]
      (fun _ => [exi fun l' => All [pur (l'.Perm l ∧ Upto l' n), own 3 1 v n (l'.map (Value.int .i64))]]) := by
  refine fn_of_run Tryz.func59 rfl Tryz.ntmps59 (by simp) fun F => ?_
  refine run_facts v fun _ => ?_
  simp only [List.zipIdx_cons, List.zipIdx_nil, List.map_cons, List.map_nil, Nat.zero_add, Nat.reduceAdd]
  refine run_seq (run_sub (sc 0 rfl Sub.nil) (run_region (id := 0) ?_))
  refine ops_quiet rfl (Pure.q (p_move rfl)) ?_
  (first | refine ops_quiet rfl (Pure.q (p_lenL rfl)) ?_ | refine ops_quiet rfl (k_len rfl) ?_ | refine ops_quiet rfl (Pure.q (p_len_slice rfl)) ?_)
  refine ops_quiet rfl (Pure.q (p_assign rfl)) ?_
  refine ops_nil ?_
  refine run_sub (sc 0 rfl (sc 2 rfl Sub.nil)) (run_region (id := 1) ?_)
  refine ops_quiet rfl (Pure.q (p_move rfl)) ?_
  refine ops_quiet rfl (Pure.q (p_move rfl)) ?_
  refine ops_quiet rfl (Pure.q (p_move rfl)) ?_
  refine ops_quiet rfl (Pure.q (p_conv rfl (by (first | exact wrap_byte _ | exact wrap_i64 (by omega) (by omega) | exact wrap_u8 (by omega) (by omega) | exact wrap_u64 (by omega) (by omega) | exact wrap_u32 (by omega) (by omega) | rfl)))) ?_
  refine ops_step rfl (g_call (.cons rfl .nil) (by (repeat' constructor); done) (len_bits _ (by omega) (by omega))) (fun u9 => ?_)
  refine ops_exi fun i9 => ops_pur fun h9 => ?_
  subst h9
  refine ops_step rfl (g_call (.cons rfl (.cons rfl (.cons rfl (.cons rfl .nil)))) (by (repeat' constructor); done) (pdq_spec _ _ _ _ (by assumption) (by omega))) (fun u10 => ?_)
  refine ops_exi fun l10 => ops_allt (ops_pur fun ⟨hp10, hs10⟩ => ?_)
  refine ops_nil ?_
  refine ends_none rfl rfl ?_
  refine Goes.exi (x := l10) (Goes.all (Goes.pur ⟨hp10, hs10⟩ ?_))
  (repeat' first | exact Goes.nil | with_reducible apply Goes.exi | with_reducible apply Goes.all | with_reducible apply Goes.pur | ((with_reducible apply Goes.cons); focus ((repeat' constructor); done)) | fail) <;> (first | rfl | assumption | omega | (simp [*]; done) | skip)
end Go.Proofs.YtaibgfnfmkpibaaGreatDoor.SL
