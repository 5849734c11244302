/- Of a map that has nothing, nothing is handed over. -/
import Derived.Test.YtaibgfnfmkpibaaGreatDoorRngA
namespace Go.Proofs.YtaibgfnfmkpibaaGreatDoor.SL
open Go
attribute [local irreducible] mp mit blk rbk pt exi pur ob orb sv pv own rsl rxs elp sub st Pure Quiet Step Run Ops Dp Fn Ent Tk Holds

theorem mapValues_iter (b r clk : Nat) (T : TypeId) :
    Iter Tryz.prog 121 #[.pointer (some ⟨b, 0, none⟩)] [blk b T [.map (some r)], pt r (.map #[] clk)] (fun seq => seq = []) := by
  intro l I hY
  refine fn_of_run (args := [yv l, .pointer (some ⟨b, 0, none⟩)]) Tryz.func121 rfl Tryz.ntmps121 (by simp) fun F => ?_
  refine run_ent (L' := blk b T [.map (some r)] :: pt r (.map #[] clk) :: I []) (.refl _) ?_
  simp only [List.zipIdx_cons, List.zipIdx_nil, List.map_cons, List.map_nil, Nat.zero_add, Nat.reduceAdd]
  refine run_seq (run_sub (sc 0 rfl (sc 1 rfl Sub.nil)) (run_region (id := 0) ?_))
  (first | refine ops_quiet rfl (k_load rfl rfl) ?_ | refine ops_quiet rfl (k_loadM rfl (by (first | omega | (simp only [List.length_cons, List.length_nil, List.length_take, List.length_drop, List.length_append, List.length_map, List.length_replicate, List.length_set]; omega) | (simp; done) | (simp; omega) | rfl))) ?_ | refine ops_quiet rfl (k_loadS rfl (by (first | rfl | assumption | (apply hel; omega) | (apply hel2; omega) | (apply hel3; omega)))) ?_)
  refine ops_step rfl (s_range (es := #[]) (clk := clk) (r := r) (R := blk b T [.map (some r)] :: I []) rfl Ent.swap) (fun b6 => ?_)
  refine ops_nil ?_
  refine run_block ?_
  refine run_unroll 1 (run_round ?_)
  refine run_seq (run_sub (sc 0 rfl (sc 6 rfl Sub.nil)) (run_region (id := 1) ?_))
  refine ops_step rfl (s_next (es := #[]) (clk := clk) (r := r) (R := blk b T [.map (some r)] :: I []) rfl (.refl _) (by simp) (by simp)) (fun o7 => ?_)
  rcases o7 with _ | e
  · dsimp only
    refine ops_pur fun _ => ?_
    (first | refine ops_quiet rfl (Pure.q (p_extractL rfl rfl)) ?_ | refine ops_quiet rfl (Pure.q (p_extract rfl rfl)) ?_)
    refine ops_nil ?_
    refine run_seq (run_cond_f rfl (run_exit rfl ?_))
    refine ends_none rfl rfl ?_
    refine ⟨[pt b6 (.mapIter (some r) clk #[] clk)], Tk.exi [] (Tk.all (Tk.pur rfl (Tk.perm ?_)))⟩
    simp only [List.append_eq, List.append_nil, List.cons_append, List.nil_append]
    refine (List.perm_append_comm (l₁ := [_]) (l₂ := _)).trans ?_
    exact List.Perm.append_right _ (List.Perm.swap _ _ _)
  · dsimp only
    refine ops_pur fun he => ?_
    simp [left] at he

theorem appendSeqE_spec (f : FuncId) [BD Tryz.prog f] (cap : Array Value) (C : List HProp) (hit : Iter Tryz.prog f cap C (fun seq => seq = [])) :
    Fn Tryz.prog 124 #[.slice none 0 0, .func (.func f) #[] cap] C (fun v => pur (v = .slice none 0 0) :: C) := by
  refine fn_of_run_m (args := [.slice none 0 0, .func (.func f) #[] cap]) Tryz.func124 rfl Tryz.ntmps124 (by simp) fun F => ?_
  simp only [List.zipIdx_cons, List.zipIdx_nil, List.map_cons, List.map_nil, Nat.zero_add, Nat.reduceAdd]
  refine run_seq (run_sub (sc 0 rfl (sc 1 rfl Sub.nil)) (run_region (id := 0) ?_))
  refine ops_step rfl (s_box rfl rfl) (fun b2 => ?_)
  refine ops_quiet rfl (Pure.q (p_assign rfl)) ?_
  refine ops_nil ?_
  refine run_seq (run_seq (run_sub (sc 1 rfl (sc 2 rfl Sub.nil)) (run_region (id := 1) ?_)))
  refine ops_quiet rfl (Pure.q (p_move rfl)) ?_
  refine ops_nil ?_
  refine run_block ?_
  refine run_sub (fr' := [(2, .pointer (some ⟨b2, 0, none⟩)), (6, .func (.func f) #[] cap)]) (by (repeat (first | exact Sub.nil | refine Sub.cons rfl ?_))) ?_
  refine run_range (C := C) (S := fun seq => seq = []) (J := fun hist => [blk b2 120 [.slice none 0 0]]) rfl hit Ent.back1 ?_ ?_
  · intro l d fn tmps hist vs rest hsz hg hs
    simp at hs
  · intro d seq hs
    refine run_ent (Ent.front1 (L := pt d _ :: C)) ?_
    (repeat (first | refine run_seq ?_ | refine run_block ?_ | refine run_skip ?_ | refine run_label ?_ | refine run_inBlock ?_ | refine run_exit rfl ?_))
    refine run_sub (sc 2 rfl Sub.nil) (run_region (id := 4) ?_)
    (first | refine ops_quiet rfl (k_load rfl rfl) ?_ | refine ops_quiet rfl (k_loadM rfl (by (first | omega | (simp only [List.length_cons, List.length_nil, List.length_take, List.length_drop, List.length_append, List.length_map, List.length_replicate, List.length_set]; omega) | (simp; done) | (simp; omega) | rfl))) ?_ | refine ops_quiet rfl (k_loadS rfl (by (first | rfl | assumption | (apply hel; omega) | (apply hel2; omega) | (apply hel3; omega)))) ?_)
    refine ops_quiet rfl (Pure.q (p_assign rfl)) ?_
    refine ops_nil ?_
    refine rets_onem rfl rfl rfl (by (repeat' constructor); done) ?_
    exact ⟨[blk b2 120 [.slice none 0 0]], Tk.pur rfl Tk.tail1⟩

theorem collectE_spec (f : FuncId) [BD Tryz.prog f] (cap : Array Value) (C : List HProp) (hit : Iter Tryz.prog f cap C (fun seq => seq = [])) :
    Fn Tryz.prog 119 #[.func (.func f) #[] cap] C (fun v => pur (v = .slice none 0 0) :: C) := by
  refine fn_of_run (args := [.func (.func f) #[] cap]) Tryz.func119 rfl Tryz.ntmps119 (by simp) fun F => ?_
  simp only [List.zipIdx_cons, List.zipIdx_nil, List.map_cons, List.map_nil, Nat.zero_add, Nat.reduceAdd]
  refine run_seq (run_sub (sc 0 rfl Sub.nil) (run_region (id := 0) ?_))
  refine ops_quiet rfl (Pure.q (p_assign rfl)) ?_
  refine ops_nil ?_
  refine run_seq (run_sub (sc 0 rfl Sub.nil) (run_region (id := 1) ?_))
  refine ops_quiet rfl (Pure.q (p_move rfl)) ?_
  refine ops_step rfl (s_call (vs := [.slice none 0 0, .func (.func f) #[] cap]) (.cons rfl (.cons rfl .nil)) (appendSeqE_spec f cap C hit) (R := []) (Tk.mk (by rw [List.append_nil]; exact .refl _))) (fun v => ?_)
  refine ops_pur fun hv => ?_
  subst hv
  refine ops_quiet rfl (Pure.q (p_assign rfl)) ?_
  refine ops_nil ?_
  refine rets_one rfl rfl rfl ?_
  exact ⟨[], Tk.pur rfl (Tk.mk (.refl _))⟩
end Go.Proofs.YtaibgfnfmkpibaaGreatDoor.SL
