/- Whole numbers sorted: up to twelve. -/
import Derived.Test.YtaibgfnfmkpibaaGreatDoorDskA
namespace Go.Proofs.YtaibgfnfmkpibaaGreatDoor.SL
open Go
attribute [local irreducible] mp mit blk rbk pt exi pur ob orb sv pv own rsl rxs elp sub st Pure Quiet Step Run Ops Dp Fn Ent Tk Holds

theorem isNaN_spec (a : Int) : Fn Tryz.prog 79 #[.int .i64 a] [] (fun u => [pur (u = .bool false)]) := by
  refine fn_of_run Tryz.func79 rfl Tryz.ntmps79 (by simp) fun F => ?_
  simp only [List.zipIdx_cons, List.zipIdx_nil, List.map_cons, List.map_nil, Nat.zero_add, Nat.reduceAdd]
  refine run_seq (run_sub (sc 0 rfl Sub.nil) (run_region (id := 0) ?_))
  refine ops_quiet rfl (Pure.q (p_assign rfl)) ?_
  refine ops_nil ?_
  refine run_seq (run_sub (sc 0 rfl Sub.nil) (run_region (id := 1) ?_))
  refine ops_quiet rfl (Pure.q (p_move rfl)) ?_
  refine ops_quiet rfl (Pure.q (p_move rfl)) ?_
  refine ops_quiet rfl (Pure.q (p_neq rfl rfl)) ?_
  refine ops_quiet rfl (Pure.q (p_assign rfl)) ?_
  refine ops_nil ?_
  refine rets_one rfl rfl rfl ?_
  (repeat' first | exact Goes.nil | with_reducible apply Goes.exi | with_reducible apply Goes.all | with_reducible apply Goes.pur | ((with_reducible apply Goes.cons); focus ((repeat' constructor); done)) | fail) <;> (first | rfl | assumption | omega | (simp [*]; done) | skip)

theorem less_spec (a b : Int) : Fn Tryz.prog 105 #[.int .i64 a, .int .i64 b] [] (fun u => [pur (u = .bool (decide (a < b)))]) := by
  refine fn_of_run Tryz.func105 rfl Tryz.ntmps105 (by simp) fun F => ?_
  simp only [List.zipIdx_cons, List.zipIdx_nil, List.map_cons, List.map_nil, Nat.zero_add, Nat.reduceAdd]
  refine run_seq (run_sub (sc 0 rfl (sc 1 rfl Sub.nil)) (run_region (id := 0) ?_))
  refine ops_quiet rfl (Pure.q (p_assign rfl)) ?_
  refine ops_nil ?_
  refine run_seq (run_sub (sc 0 rfl (sc 1 rfl Sub.nil)) (run_region (id := 1) ?_))
  refine ops_quiet rfl (Pure.q (p_move rfl)) ?_
  refine ops_step rfl (g_call (.cons rfl .nil) (by (repeat' constructor); done) (isNaN_spec _)) (fun u6 => ?_)
  refine ops_pur fun h6 => ?_
  subst h6
  refine ops_quiet rfl (Pure.q (p_move rfl)) ?_
  refine ops_no rfl rfl ?_
  refine ops_no rfl rfl ?_
  refine ops_no rfl rfl ?_
  refine ops_quiet rfl (Pure.q (p_pick_f rfl rfl)) ?_
  refine ops_quiet rfl (Pure.q (p_move rfl)) ?_
  refine ops_yes rfl ?_
  refine ops_quiet rfl (Pure.q (p_move rfl)) ?_
  refine ops_yes rfl ?_
  refine ops_quiet rfl (Pure.q (p_move rfl)) ?_
  refine ops_yes rfl ?_
  refine ops_quiet rfl (Pure.q (p_lss rfl rfl)) ?_
  refine ops_quiet rfl (Pure.q (p_pick_f rfl rfl)) ?_
  refine ops_quiet rfl (Pure.q (p_assign rfl)) ?_
  refine ops_nil ?_
  refine rets_one rfl rfl rfl ?_
  (repeat' first | exact Goes.nil | with_reducible apply Goes.exi | with_reducible apply Goes.all | with_reducible apply Goes.pur | ((with_reducible apply Goes.cons); focus ((repeat' constructor); done)) | fail) <;> (first | rfl | assumption | omega | (simp [*]; done) | skip)

/-- Sorted but for one that is on its way. -/
def But (l : List Int) (i j : Nat) : Prop := ∀ p q, p < q → q < i → q ≠ j → l.getD p default ≤ l.getD q default
def Upto (l : List Int) (i : Nat) : Prop := ∀ p q, p < q → q < i → l.getD p default ≤ l.getD q default
theorem upto_but {l : List Int} {i : Nat} (h : Upto l i) : But l (i + 1) i := fun p q h1 h2 h3 => h p q h1 (by omega)
theorem but_upto {l : List Int} {i j : Nat} (h : But l i j) (hj : j = 0 ∨ l.getD (j - 1) default ≤ l.getD j default) : Upto l i := by
  intro p q h1 h2
  by_cases e : q = j
  · subst e
    rcases hj with hj | hj
    · omega
    · by_cases e2 : p = q - 1
      · subst e2; exact hj
      · exact Int.le_trans (h p (q - 1) (by omega) (by omega) (by omega)) hj
  · exact h p q h1 h2 e
theorem but_swap {l : List Int} {i j : Nat} (h : But l i j) (hj : 0 < j) (hi : j < i) (hl : i ≤ l.length) (hlt : l.getD j default < l.getD (j - 1) default) :
    But ((l.set j (l.getD (j - 1) default)).set (j - 1) (l.getD j default)) i (j - 1) := by
  have e : ∀ p, ((l.set j (l.getD (j - 1) default)).set (j - 1) (l.getD j default)).getD p default = if p = j - 1 then l.getD j default else if p = j then l.getD (j - 1) default else l.getD p default := by
    intro p
    rw [getD_set _ _ _ _ _ (by rw [List.length_set]; omega), getD_set _ _ _ _ _ (by omega)]
  intro p q h1 h2 h3
  rw [e p, e q, if_neg h3]
  by_cases hq : q = j
  · rw [if_pos hq]
    by_cases hp : p = j - 1
    · rw [if_pos hp]; omega
    · rw [if_neg hp, if_neg (by omega)]; exact h p (j - 1) (by omega) (by omega) (by omega)
  · rw [if_neg hq]
    by_cases hp : p = j - 1
    · rw [if_pos hp]; exact h j q (by omega) h2 hq
    · rw [if_neg hp]
      by_cases hp2 : p = j
      · rw [if_pos hp2]; exact h (j - 1) q (by omega) h2 hq
      · rw [if_neg hp2]; exact h p q h1 h2 hq
theorem swap_perm {l : List Int} {j k : Nat} (hj : j < l.length) (hk : k < l.length) : ((l.set j (l.getD k default)).set k (l.getD j default)).Perm l := by
  have h1 : l.getD k default = l[k] := by simp [List.getD_eq_getElem?_getD, hk]
  have h2 : l.getD j default = l[j] := by simp [List.getD_eq_getElem?_getD, hj]
  rw [h1, h2]
  exact List.set_set_perm hj hk

theorem insertion_spec (v : Value) (l : List Int) (n : Nat) (hl : l.length = n) (hn : n ≤ 1000) :
    Fn Tryz.prog 99 #[v, .int .i64 0, .int .i64 n] [own 3 1 v n (l.map (Value.int .i64))]
      (fun _ => [exi fun l' => All [pur (l'.Perm l ∧ Upto l' n), own 3 1 v n (l'.map (Value.int .i64))]]) := by
  refine fn_of_run Tryz.func99 rfl Tryz.ntmps99 (by simp) fun F => ?_
  refine run_facts v fun _ => ?_
  simp only [List.zipIdx_cons, List.zipIdx_nil, List.map_cons, List.map_nil, Nat.zero_add, Nat.reduceAdd]
  refine run_seq (run_sub (sc 0 rfl (sc 1 rfl (sc 2 rfl Sub.nil))) (run_region (id := 0) ?_))
  refine ops_quiet rfl (Pure.q (p_move rfl)) ?_
  refine ops_quiet rfl (Pure.q (p_add rfl rfl (by (first | exact wrap_byte _ | exact wrap_i64 (by omega) (by omega) | exact wrap_u8 (by omega) (by omega) | exact wrap_u64 (by omega) (by omega) | exact wrap_u32 (by omega) (by omega) | rfl)))) ?_
  refine ops_quiet rfl (Pure.q (p_assign rfl)) ?_
  refine ops_nil ?_
  refine run_block ?_
  refine runs_loop (fun q : Nat × List Int => [(0, v), (1, .int .i64 0), (2, .int .i64 n), (6, .int .i64 (q.1 : Nat))]) (fun q => [own 3 1 v n (q.2.map (Value.int .i64))]) (fun q => 1 ≤ q.1 ∧ (q.1 ≤ n ∨ q.1 = 1) ∧ q.2.Perm l ∧ Upto q.2 q.1) (fun q => n + 1 - q.1) (1, l) ⟨Nat.le_refl _, .inr rfl, .refl _, fun p q h1 h2 => by omega⟩ (by (repeat (first | exact Sub.nil | refine Sub.cons rfl ?_))) (by repeat' first | exact Goes.nil | with_reducible apply Goes.exi | with_reducible apply Goes.all | with_reducible apply Goes.pur | ((with_reducible apply Goes.cons); focus ((repeat' constructor); done)) | fail) ?_
  rintro ⟨i, l1⟩ ⟨hi : 1 ≤ i, hi2 : i ≤ n ∨ i = 1, hp : l1.Perm l, hu : Upto l1 i⟩
  have hl1 : l1.length = n := by rw [hp.length_eq]; exact hl
  dsimp only
  refine run_seq (run_seq (run_sub (sc 0 rfl (sc 1 rfl (sc 2 rfl (sc 6 rfl Sub.nil)))) (run_region (id := 1) ?_)))
  refine ops_quiet rfl (Pure.q (p_move rfl)) ?_
  refine ops_quiet rfl (Pure.q (p_move rfl)) ?_
  refine ops_quiet rfl (Pure.q (p_lss rfl rfl)) ?_
  refine ops_nil ?_
  refine run_case 12 rfl (fun h12 => run_cond_t rfl ?_) (fun h12 => run_cond_f rfl ?_)
  · (try simp only [decide_eq_true_eq, decide_eq_false_iff_not, Bool.not_eq_true', Bool.not_eq_false'] at h12)
    refine run_skip (run_seq (run_block (run_seq (run_sub (sc 0 rfl (sc 1 rfl (sc 2 rfl (sc 6 rfl Sub.nil)))) (run_region (id := 3) ?_)))))
    refine ops_quiet rfl (Pure.q (p_move rfl)) ?_
    refine ops_quiet rfl (Pure.q (p_assign rfl)) ?_
    refine ops_nil ?_
    refine run_block ?_
    refine runs_loop (fun q : Nat × List Int => [(0, v), (1, .int .i64 0), (2, .int .i64 n), (6, .int .i64 (i : Nat)), (7, .int .i64 (q.1 : Nat))]) (fun q => [own 3 1 v n (q.2.map (Value.int .i64))]) (fun q => q.1 ≤ i ∧ q.2.Perm l ∧ But q.2 (i + 1) q.1) (fun q => q.1) (i, l1) ⟨Nat.le_refl _, hp, upto_but hu⟩ (by (repeat (first | exact Sub.nil | refine Sub.cons rfl ?_))) (by repeat' first | exact Goes.nil | with_reducible apply Goes.exi | with_reducible apply Goes.all | with_reducible apply Goes.pur | ((with_reducible apply Goes.cons); focus ((repeat' constructor); done)) | fail) ?_
    rintro ⟨j, l2⟩ ⟨hj : j ≤ i, hp2 : l2.Perm l, hb : But l2 (i + 1) j⟩
    have hl2 : l2.length = n := by rw [hp2.length_eq]; exact hl
    dsimp only
    refine run_seq (run_seq (run_sub (sc 0 rfl (sc 1 rfl (sc 2 rfl (sc 6 rfl (sc 7 rfl Sub.nil))))) (run_draw (id := 4) ⟨[7, 12], [0, 1, 2, 3, 4, 5, 6, 8, 9, 10, 11, 14], [13]⟩ (.cons 0 (.cons 1 (.cons 2 (.cons 3 (.cons 4 (.cons 5 (.cons 6 (.cons 7 (.cons 8 (.cons 9 (.cons 10 (.cons 11 (.cons 12 (.cons 13 (.cons 14 .nil))))))))))))))) _ (Ent.refl _) mixed (by kernel_rfl) panOk_body (by rfl) (by kernel_rfl) ?_)))
    refine dp_pure rfl rfl rfl rfl rfl (p_move rfl) ?_
    refine dp_pure rfl rfl rfl rfl rfl (p_move rfl) ?_
    refine dp_pure rfl rfl rfl rfl rfl (p_gtr rfl rfl) ?_
    refine dp_pure rfl rfl rfl rfl rfl (p_move rfl) ?_
    refine dp_case 19 rfl (fun hg19 => ?_) (fun hg19 => ?_)
    · (try simp only [decide_eq_true_eq, decide_eq_false_iff_not, Bool.not_eq_true', Bool.not_eq_false'] at hg19)
      refine dp_pure rfl rfl rfl rfl rfl (p_move rfl) ?_
      refine dp_pure rfl rfl rfl rfl rfl (p_move rfl) ?_
      refine dp_pure rfl rfl rfl rfl rfl (p_indexL1 rfl rfl (by (first | omega | (simp only [List.length_cons, List.length_nil, List.length_take, List.length_drop, List.length_append, List.length_map, List.length_replicate, List.length_set]; omega) | (simp; done) | (simp; omega) | rfl)) (by (first | omega | (simp only [List.length_cons, List.length_nil, List.length_take, List.length_drop, List.length_append, List.length_map, List.length_replicate, List.length_set]; omega) | (simp; done) | (simp; omega) | rfl))) ?_
      (first | refine dp_quiet rfl rfl rfl rfl (k_load rfl rfl) ?_ | refine dp_quiet rfl rfl rfl rfl (k_loadM rfl (by (first | omega | (simp only [List.length_cons, List.length_nil, List.length_take, List.length_drop, List.length_append, List.length_map, List.length_replicate, List.length_set]; omega) | (simp; done) | (simp; omega) | rfl))) ?_ | refine dp_quiet rfl rfl rfl rfl (k_loadS rfl (by (first | rfl | assumption | (apply hel; omega) | (apply hel2; omega) | (apply hel3; omega)))) ?_)
      refine dp_pure rfl rfl rfl rfl rfl (p_move rfl) ?_
      refine dp_pure rfl rfl rfl rfl rfl (p_move rfl) ?_
      refine dp_pure rfl rfl rfl rfl rfl (p_sub rfl rfl (by (first | exact wrap_byte _ | exact wrap_i64 (by omega) (by omega) | exact wrap_u8 (by omega) (by omega) | exact wrap_u64 (by omega) (by omega) | exact wrap_u32 (by omega) (by omega) | rfl))) ?_
      refine dp_pure rfl rfl rfl rfl rfl (p_indexL1 rfl rfl (by (first | omega | (simp only [List.length_cons, List.length_nil, List.length_take, List.length_drop, List.length_append, List.length_map, List.length_replicate, List.length_set]; omega) | (simp; done) | (simp; omega) | rfl)) (by (first | omega | (simp only [List.length_cons, List.length_nil, List.length_take, List.length_drop, List.length_append, List.length_map, List.length_replicate, List.length_set]; omega) | (simp; done) | (simp; omega) | rfl))) ?_
      (first | refine dp_quiet rfl rfl rfl rfl (k_load rfl rfl) ?_ | refine dp_quiet rfl rfl rfl rfl (k_loadM rfl (by (first | omega | (simp only [List.length_cons, List.length_nil, List.length_take, List.length_drop, List.length_append, List.length_map, List.length_replicate, List.length_set]; omega) | (simp; done) | (simp; omega) | rfl))) ?_ | refine dp_quiet rfl rfl rfl rfl (k_loadS rfl (by (first | rfl | assumption | (apply hel; omega) | (apply hel2; omega) | (apply hel3; omega)))) ?_)
      refine dp_last rfl rfl rfl rfl rfl (g_call (.cons rfl (.cons rfl .nil)) (by (repeat' constructor); done) (less_spec _ _)) (fun u29 => ?_)
      refine dp_pur fun h29 => ?_
      subst h29
      refine dp_pure rfl rfl rfl rfl rfl (p_pick_t rfl rfl) ?_
      refine dp_nil ?_
      refine run_case 30 rfl (fun h30 => run_cond_t rfl ?_) (fun h30 => run_cond_f rfl ?_)
      · (try simp only [decide_eq_true_eq, decide_eq_false_iff_not, Bool.not_eq_true', Bool.not_eq_false'] at h30)
        refine run_skip (run_seq (run_block (run_sub (sc 0 rfl (sc 1 rfl (sc 2 rfl (sc 6 rfl (sc 7 rfl Sub.nil))))) (run_draw (id := 6) ⟨[9, 13], [0, 1, 2, 3, 4, 5, 6, 7, 8, 10, 11, 12, 14, 16], [15, 17]⟩ (.cons 0 (.cons 1 (.cons 2 (.cons 3 (.cons 4 (.cons 5 (.cons 6 (.cons 7 (.cons 8 (.cons 9 (.cons 10 (.cons 11 (.cons 12 (.cons 13 (.cons 14 (.cons 15 (.cons 16 (.cons 17 .nil)))))))))))))))))) _ (Ent.refl _) mixed (by kernel_rfl) panOk_body (by rfl) (by kernel_rfl) ?_))))
        refine dp_pure rfl rfl rfl rfl rfl (p_move rfl) ?_
        refine dp_pure rfl rfl rfl rfl rfl (p_move rfl) ?_
        refine dp_pure rfl rfl rfl rfl rfl (p_move rfl) ?_
        refine dp_pure rfl rfl rfl rfl rfl (p_move rfl) ?_
        refine dp_pure rfl rfl rfl rfl rfl (p_sub rfl rfl (by (first | exact wrap_byte _ | exact wrap_i64 (by omega) (by omega) | exact wrap_u8 (by omega) (by omega) | exact wrap_u64 (by omega) (by omega) | exact wrap_u32 (by omega) (by omega) | rfl))) ?_
        refine dp_pure rfl rfl rfl rfl rfl (p_move rfl) ?_
        refine dp_pure rfl rfl rfl rfl rfl (p_move rfl) ?_
        refine dp_pure rfl rfl rfl rfl rfl (p_sub rfl rfl (by (first | exact wrap_byte _ | exact wrap_i64 (by omega) (by omega) | exact wrap_u8 (by omega) (by omega) | exact wrap_u64 (by omega) (by omega) | exact wrap_u32 (by omega) (by omega) | rfl))) ?_
        refine dp_pure rfl rfl rfl rfl rfl (p_indexL1 rfl rfl (by (first | omega | (simp only [List.length_cons, List.length_nil, List.length_take, List.length_drop, List.length_append, List.length_map, List.length_replicate, List.length_set]; omega) | (simp; done) | (simp; omega) | rfl)) (by (first | omega | (simp only [List.length_cons, List.length_nil, List.length_take, List.length_drop, List.length_append, List.length_map, List.length_replicate, List.length_set]; omega) | (simp; done) | (simp; omega) | rfl))) ?_
        (first | refine dp_quiet rfl rfl rfl rfl (k_load rfl rfl) ?_ | refine dp_quiet rfl rfl rfl rfl (k_loadM rfl (by (first | omega | (simp only [List.length_cons, List.length_nil, List.length_take, List.length_drop, List.length_append, List.length_map, List.length_replicate, List.length_set]; omega) | (simp; done) | (simp; omega) | rfl))) ?_ | refine dp_quiet rfl rfl rfl rfl (k_loadS rfl (by (first | rfl | assumption | (apply hel; omega) | (apply hel2; omega) | (apply hel3; omega)))) ?_)
        refine dp_pure rfl rfl rfl rfl rfl (p_move rfl) ?_
        refine dp_pure rfl rfl rfl rfl rfl (p_move rfl) ?_
        refine dp_pure rfl rfl rfl rfl rfl (p_indexL1 rfl rfl (by (first | omega | (simp only [List.length_cons, List.length_nil, List.length_take, List.length_drop, List.length_append, List.length_map, List.length_replicate, List.length_set]; omega) | (simp; done) | (simp; omega) | rfl)) (by (first | omega | (simp only [List.length_cons, List.length_nil, List.length_take, List.length_drop, List.length_append, List.length_map, List.length_replicate, List.length_set]; omega) | (simp; done) | (simp; omega) | rfl))) ?_
        (first | refine dp_quiet rfl rfl rfl rfl (k_load rfl rfl) ?_ | refine dp_quiet rfl rfl rfl rfl (k_loadM rfl (by (first | omega | (simp only [List.length_cons, List.length_nil, List.length_take, List.length_drop, List.length_append, List.length_map, List.length_replicate, List.length_set]; omega) | (simp; done) | (simp; omega) | rfl))) ?_ | refine dp_quiet rfl rfl rfl rfl (k_loadS rfl (by (first | rfl | assumption | (apply hel; omega) | (apply hel2; omega) | (apply hel3; omega)))) ?_)
        refine dp_pure rfl rfl rfl rfl rfl (p_indexL1 rfl rfl (by (first | omega | (simp only [List.length_cons, List.length_nil, List.length_take, List.length_drop, List.length_append, List.length_map, List.length_replicate, List.length_set]; omega) | (simp; done) | (simp; omega) | rfl)) (by (first | omega | (simp only [List.length_cons, List.length_nil, List.length_take, List.length_drop, List.length_append, List.length_map, List.length_replicate, List.length_set]; omega) | (simp; done) | (simp; omega) | rfl))) ?_
        (first | refine dp_last rfl rfl rfl rfl rfl (g_store rfl rfl rfl) (fun _ => ?_) | refine dp_last rfl rfl rfl rfl rfl (g_storeM rfl rfl (by (first | omega | (simp only [List.length_cons, List.length_nil, List.length_take, List.length_drop, List.length_append, List.length_map, List.length_replicate, List.length_set]; omega) | (simp; done) | (simp; omega) | rfl))) (fun _ => ?_) | refine dp_last rfl rfl rfl rfl rfl (g_storeS rfl rfl (by (first | omega | (simp only [List.length_cons, List.length_nil, List.length_take, List.length_drop, List.length_append, List.length_map, List.length_replicate, List.length_set]; omega) | (simp; done) | (simp; omega) | rfl))) (fun _ => ?_))
        refine dp_pure rfl rfl rfl rfl rfl (p_indexL1 rfl rfl (by (first | omega | (simp only [List.length_cons, List.length_nil, List.length_take, List.length_drop, List.length_append, List.length_map, List.length_replicate, List.length_set]; omega) | (simp; done) | (simp; omega) | rfl)) (by (first | omega | (simp only [List.length_cons, List.length_nil, List.length_take, List.length_drop, List.length_append, List.length_map, List.length_replicate, List.length_set]; omega) | (simp; done) | (simp; omega) | rfl))) ?_
        (first | refine dp_last rfl rfl rfl rfl rfl (g_store rfl rfl rfl) (fun _ => ?_) | refine dp_last rfl rfl rfl rfl rfl (g_storeM rfl rfl (by (first | omega | (simp only [List.length_cons, List.length_nil, List.length_take, List.length_drop, List.length_append, List.length_map, List.length_replicate, List.length_set]; omega) | (simp; done) | (simp; omega) | rfl))) (fun _ => ?_) | refine dp_last rfl rfl rfl rfl rfl (g_storeS rfl rfl (by (first | omega | (simp only [List.length_cons, List.length_nil, List.length_take, List.length_drop, List.length_append, List.length_map, List.length_replicate, List.length_set]; omega) | (simp; done) | (simp; omega) | rfl))) (fun _ => ?_))
        refine dp_nil ?_
        refine run_inBlock (run_sub (sc 0 rfl (sc 1 rfl (sc 2 rfl (sc 6 rfl (sc 7 rfl Sub.nil))))) (run_region (id := 5) ?_))
        refine ops_quiet rfl (Pure.q (p_move rfl)) ?_
        refine ops_quiet rfl (Pure.q (p_sub rfl rfl (by (first | exact wrap_byte _ | exact wrap_i64 (by omega) (by omega) | exact wrap_u8 (by omega) (by omega) | exact wrap_u64 (by omega) (by omega) | exact wrap_u32 (by omega) (by omega) | rfl)))) ?_
        refine ops_quiet rfl (Pure.q (p_assign rfl)) ?_
        refine ops_nil ?_
        rw [show (j : Int) - 1 = ((j - 1 : Nat) : Int) by omega] at h30 ⊢
        exact runs_is (j - 1, (l2.set j (l2.getD (j - 1) default)).set (j - 1) (l2.getD j default)) ⟨⟨by omega, (swap_perm (by omega) (by omega)).trans hp2, but_swap hb (by omega) (by omega) (by omega) h30⟩, show j - 1 < j by omega⟩ (by (repeat (first | exact Sub.nil | refine Sub.cons rfl ?_))) (by repeat' first | exact Goes.nil | with_reducible apply Goes.exi | with_reducible apply Goes.all | with_reducible apply Goes.pur | ((with_reducible apply Goes.cons); focus ((repeat' constructor); done)) | fail)
      · (try simp only [decide_eq_true_eq, decide_eq_false_iff_not, Bool.not_eq_true', Bool.not_eq_false'] at h30)
        refine run_exit rfl (run_inBlock (run_sub (sc 0 rfl (sc 1 rfl (sc 2 rfl (sc 6 rfl Sub.nil)))) (run_region (id := 2) ?_)))
        refine ops_quiet rfl (Pure.q (p_move rfl)) ?_
        refine ops_quiet rfl (Pure.q (p_add rfl rfl (by (first | exact wrap_byte _ | exact wrap_i64 (by omega) (by omega) | exact wrap_u8 (by omega) (by omega) | exact wrap_u64 (by omega) (by omega) | exact wrap_u32 (by omega) (by omega) | rfl)))) ?_
        refine ops_quiet rfl (Pure.q (p_assign rfl)) ?_
        refine ops_nil ?_
        refine runs_is (i + 1, l2) ⟨⟨by omega, by omega, hp2, but_upto hb ?_⟩, show n + 1 - (i + 1) < n + 1 - i by omega⟩ (by (repeat (first | exact Sub.nil | refine Sub.cons rfl ?_))) (by repeat' first | exact Goes.nil | with_reducible apply Goes.exi | with_reducible apply Goes.all | with_reducible apply Goes.pur | ((with_reducible apply Goes.cons); focus ((repeat' constructor); done)) | fail)
        first
          | exact .inl (by omega)
          | rw [show (j : Int) - 1 = ((j - 1 : Nat) : Int) by omega] at h30
            exact .inr (Int.not_lt.1 h30)
    · (try simp only [decide_eq_true_eq, decide_eq_false_iff_not, Bool.not_eq_true', Bool.not_eq_false'] at hg19)
      refine dp_not rfl rfl rfl rfl rfl ?_
      refine dp_not rfl rfl rfl rfl rfl ?_
      refine dp_not rfl rfl rfl rfl rfl ?_
      refine dp_notQ rfl rfl rfl rfl ?_
      refine dp_not rfl rfl rfl rfl rfl ?_
      refine dp_not rfl rfl rfl rfl rfl ?_
      refine dp_not rfl rfl rfl rfl rfl ?_
      refine dp_not rfl rfl rfl rfl rfl ?_
      refine dp_notQ rfl rfl rfl rfl ?_
      refine dp_skipL rfl rfl rfl rfl rfl ?_
      refine dp_pure rfl rfl rfl rfl rfl (p_pick_f rfl rfl) ?_
      refine dp_nil ?_
      refine run_cond_f rfl (run_exit rfl (run_inBlock (run_sub (sc 0 rfl (sc 1 rfl (sc 2 rfl (sc 6 rfl Sub.nil)))) (run_region (id := 2) ?_))))
      refine ops_quiet rfl (Pure.q (p_move rfl)) ?_
      refine ops_quiet rfl (Pure.q (p_add rfl rfl (by (first | exact wrap_byte _ | exact wrap_i64 (by omega) (by omega) | exact wrap_u8 (by omega) (by omega) | exact wrap_u64 (by omega) (by omega) | exact wrap_u32 (by omega) (by omega) | rfl)))) ?_
      refine ops_quiet rfl (Pure.q (p_assign rfl)) ?_
      refine ops_nil ?_
      refine runs_is (i + 1, l2) ⟨⟨by omega, by omega, hp2, but_upto hb ?_⟩, show n + 1 - (i + 1) < n + 1 - i by omega⟩ (by (repeat (first | exact Sub.nil | refine Sub.cons rfl ?_))) (by repeat' first | exact Goes.nil | with_reducible apply Goes.exi | with_reducible apply Goes.all | with_reducible apply Goes.pur | ((with_reducible apply Goes.cons); focus ((repeat' constructor); done)) | fail)
      first
        | exact .inl (by omega)
        | rw [show (j : Int) - 1 = ((j - 1 : Nat) : Int) by omega] at h30
          exact .inr (Int.not_lt.1 h30)
  · (try simp only [decide_eq_true_eq, decide_eq_false_iff_not, Bool.not_eq_true', Bool.not_eq_false'] at h12)
    refine run_exit rfl ?_
    refine ends_none rfl rfl ?_
    refine Goes.exi (x := l1) (Goes.all (Goes.pur ⟨hp, fun p q h1 h2 => hu p q h1 (by omega)⟩ ?_))
    (repeat' first | exact Goes.nil | with_reducible apply Goes.exi | with_reducible apply Goes.all | with_reducible apply Goes.pur | ((with_reducible apply Goes.cons); focus ((repeat' constructor); done)) | fail) <;> (first | rfl | assumption | omega | (simp [*]; done) | skip)
end Go.Proofs.YtaibgfnfmkpibaaGreatDoor.SL
