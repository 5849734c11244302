/- All of a slice, handed over one after another; and collected. -/
import Derived.Test.YtaibgfnfmkpibaaGreatDoorDskA
namespace Go.Proofs.YtaibgfnfmkpibaaGreatDoor.SL
open Go
attribute [local irreducible] mp mit blk rbk pt exi pur ob orb sv pv own rsl rxs elp sub st Pure Quiet Step Run Ops Dp Fn Ent Tk Holds

theorem values_iter (b : Nat) (T T' : TypeId) (v : Value) (n : Nat) (xs : List Value) (hn : n ≤ 140737488355328) :
    Iter Tryz.prog 60 #[.pointer (some ⟨b, 0, none⟩)] [blk b T [v], own T' 1 v n xs] (fun seq => seq = xs.map fun x => [x]) := by
  intro l I hY
  refine fn_of_run (args := [yv l, .pointer (some ⟨b, 0, none⟩)]) Tryz.func60 rfl Tryz.ntmps60 (by simp) fun F => ?_
  refine run_ent (L' := pur (xs.length = n * 1 ∧ ∀ x ∈ xs, Value.oneCell' x = true) :: own T' 1 v n xs :: blk b T [v] :: I []) (Ent.trans (Ent.perm (List.Perm.swap _ _ _)) Ent.ownFacts) (run_pur fun ⟨hl, ho⟩ => ?_)
  simp only [List.zipIdx_cons, List.zipIdx_nil, List.map_cons, List.map_nil, Nat.zero_add, Nat.reduceAdd]
  refine run_facts v fun _ => ?_
  refine run_seq (run_sub (sc 0 rfl (sc 1 rfl Sub.nil)) (run_region (id := 0) ?_))
  (first | refine ops_quiet rfl (k_load rfl rfl) ?_ | refine ops_quiet rfl (k_loadM rfl (by (first | omega | (simp only [List.length_cons, List.length_nil, List.length_take, List.length_drop, List.length_append, List.length_map, List.length_replicate, List.length_set]; omega) | (simp; done) | (simp; omega) | rfl))) ?_ | refine ops_quiet rfl (k_loadS rfl (by (first | rfl | assumption | (apply hel; omega) | (apply hel2; omega) | (apply hel3; omega)))) ?_)
  (first | refine ops_quiet rfl (Pure.q (p_lenL rfl)) ?_ | refine ops_quiet rfl (k_len rfl) ?_ | refine ops_quiet rfl (Pure.q (p_len_slice rfl)) ?_)
  refine ops_quiet rfl (Pure.q (p_move rfl)) ?_
  refine ops_nil ?_
  refine run_block ?_
  refine runs_loop (fun k : Nat => [(7, .int .i64 k), (0, yv l), (5, v), (6, .int .i64 n)]) (fun k => own T' 1 v n xs :: blk b T [v] :: I ((xs.take k).map fun x => [x])) (fun k => k ≤ n) (fun k => n - k) 0 (Nat.zero_le _) (by (repeat (first | exact Sub.nil | refine Sub.cons rfl ?_))) ⟨[], Tk.mk (by rw [List.append_nil]; exact .refl _)⟩ fun k hk => ?_
  try dsimp only
  refine run_seq (run_sub (sc 0 rfl (sc 5 rfl (sc 6 rfl (sc 7 rfl Sub.nil)))) (run_region (id := 1) ?_))
  refine ops_quiet rfl (Pure.q (p_lss rfl rfl)) ?_
  refine ops_nil ?_
  refine run_seq ?_
  refine run_case 8 rfl (fun h8 => run_cond_t rfl ?_) (fun h8 => run_cond_f rfl ?_)
  · (try simp only [decide_eq_true_eq, decide_eq_false_iff_not, Bool.not_eq_true', Bool.not_eq_false'] at h8)
    refine run_skip (run_seq (run_block (run_seq ?_)))
    have hkn : k < n := by omega
    have hlt : k < xs.length := by omega
    have hel : ∀ j, j = k → xs[j]? = some xs[k] := by rintro j rfl; simp [hlt]
    refine run_sub (sc 0 rfl (sc 5 rfl (sc 6 rfl (sc 7 rfl Sub.nil)))) (run_region (id := 2) ?_)
    (first | refine ops_quiet rfl (Pure.q (p_indexL1 rfl rfl (by (first | omega | (simp only [List.length_cons, List.length_nil, List.length_take, List.length_drop, List.length_append, List.length_map, List.length_replicate, List.length_set]; omega) | (simp; done) | (simp; omega) | rfl)) (by (first | omega | (simp only [List.length_cons, List.length_nil, List.length_take, List.length_drop, List.length_append, List.length_map, List.length_replicate, List.length_set]; omega) | (simp; done) | (simp; omega) | rfl)))) ?_ | refine ops_quiet rfl (k_index1 rfl rfl (by (first | omega | (simp only [List.length_cons, List.length_nil, List.length_take, List.length_drop, List.length_append, List.length_map, List.length_replicate, List.length_set]; omega) | (simp; done) | (simp; omega) | rfl)) (by (first | omega | (simp only [List.length_cons, List.length_nil, List.length_take, List.length_drop, List.length_append, List.length_map, List.length_replicate, List.length_set]; omega) | (simp; done) | (simp; omega) | rfl))) ?_)
    refine ops_quiet rfl (k_loadS rfl (hel _ (by omega))) ?_
    refine ops_quiet rfl (Pure.q (p_assign rfl)) ?_
    refine ops_nil ?_
    refine run_seq (run_sub (sc 0 rfl (sc 4 rfl (sc 5 rfl (sc 6 rfl (sc 7 rfl Sub.nil))))) (run_region (id := 3) ?_))
    refine ops_quiet rfl (Pure.q (p_move rfl)) ?_
    refine ops_quiet rfl (Pure.q (p_move rfl)) ?_
    have hsp : xs.take k ++ xs[k] :: xs.drop (k + 1) = xs := by rw [← List.drop_eq_getElem_cons hlt, List.take_append_drop]
    have hy := hY ((xs.take k).map fun x => [x]) [xs[k]] ((xs.drop (k + 1)).map fun x => [x]) ((by rw [← List.map_cons (f := fun x => [x]), ← List.map_append, hsp] : (xs.take k).map (fun x => [x]) ++ [xs[k]] :: (xs.drop (k + 1)).map (fun x => [x]) = xs.map fun x => [x]))
    have htk : (xs.take k).map (fun x => [x]) ++ [[xs[k]]] = (xs.take (k + 1)).map fun x => [x] := by rw [List.take_add_one, List.getElem?_eq_getElem hlt, List.map_append]; rfl
    refine ops_step rfl (s_yield (l := l) rfl (.cons rfl .nil) hy (R := [own T' 1 v n xs, blk b T [v]]) Tk.tail2) (fun u => ?_)
    refine ops_pur fun hu => ?_
    subst hu
    refine ops_ent Ent.front2 ?_
    rw [htk]
    refine ops_quiet rfl (Pure.q (p_not rfl)) ?_
    refine ops_nil ?_
    refine run_cond_f rfl (run_skip (run_inBlock (run_sub (sc 0 rfl (sc 5 rfl (sc 6 rfl (sc 7 rfl Sub.nil)))) (run_region (id := 4) ?_))))
    refine ops_quiet rfl (Pure.q (p_add rfl rfl (by (first | exact wrap_byte _ | exact wrap_i64 (by omega) (by omega) | exact wrap_u8 (by omega) (by omega) | exact wrap_u64 (by omega) (by omega) | exact wrap_u32 (by omega) (by omega) | rfl)))) ?_
    refine ops_quiet rfl (Pure.q (p_move rfl)) ?_
    refine ops_nil ?_
    exact runs_is (k + 1) ⟨by omega, by omega⟩ (by (repeat (first | exact Sub.nil | refine Sub.cons rfl ?_))) ⟨[], Tk.mk (by rw [List.append_nil]; exact .refl _)⟩
  · (try simp only [decide_eq_true_eq, decide_eq_false_iff_not, Bool.not_eq_true', Bool.not_eq_false'] at h8)
    refine run_exit rfl ?_
    refine ends_none rfl rfl ?_
    have hk : k = n := by omega
    subst hk
    rw [show xs.take k = xs by rw [show k = xs.length by omega, List.take_length]]
    refine ⟨[], Tk.exi (xs.map fun x => [x]) (Tk.all (Tk.pur rfl (Tk.perm ?_)))⟩
    simpa using List.Perm.swap _ _ _

def oneRows (seq : List (List Value)) : Prop := (∀ r ∈ seq, r.length = 1 ∧ ∀ x ∈ r, Value.oneCell' x = true) ∧ seq.length ≤ 1000000
def gatheredV (bx : Nat) (seq : List (List Value)) : HProp := exi fun u : Value => All [blk bx 35 [u], own 3 1 u seq.length seq.flatten]

theorem appendSeq_spec (f : FuncId) [BD Tryz.prog f] (cap : Array Value) (C : List HProp) (S : List (List Value) → Prop) (hit : Iter Tryz.prog f cap C S) (hS : ∀ seq, S seq → oneRows seq) :
    Fn Tryz.prog 80 #[.slice none 0 0, .func (.func f) #[] cap] C (fun v => [exi fun seq => All (pur (S seq) :: own 3 1 v seq.length seq.flatten :: C)]) := by
  refine fn_of_run_m Tryz.func80 rfl Tryz.ntmps80 (by simp) fun F => ?_
  simp only [List.zipIdx_cons, List.zipIdx_nil, List.map_cons, List.map_nil, Nat.zero_add, Nat.reduceAdd]
  refine run_seq (run_sub (sc 0 rfl (sc 1 rfl Sub.nil)) (run_region (id := 0) ?_))
  refine ops_step rfl (s_box rfl rfl) (fun b2 => ?_)
  refine ops_quiet rfl (Pure.q (p_assign rfl)) ?_
  refine ops_nil ?_
  refine run_seq (run_seq (run_sub (sc 1 rfl (sc 2 rfl Sub.nil)) (run_region (id := 1) ?_)))
  refine ops_quiet rfl (Pure.q (p_move rfl)) ?_
  refine ops_nil ?_
  refine run_block ?_
  refine run_sub (fr' := [(2, .pointer (some ⟨b2, 0, none⟩)), (6, .func (.func f) #[] cap)]) (by (repeat (first | exact Sub.nil | refine Sub.cons rfl ?_))) ?_
  refine run_range (C := C) (S := S) (J := fun hist => [gatheredV b2 hist]) rfl hit ?_ ?_ ?_
  · refine Ent.trans (Tk.toEnt (C := [gatheredV b2 []]) (R := C) ?_) Ent.back1
    exact Tk.exi (.slice none 0 0) (Tk.all (Tk.mk (Ent.cons _ Ent.nilOwn)))
  · intro l d fn tmps hist vs rest hsz hg hs
    obtain ⟨h1, h2⟩ := hS _ hs
    obtain ⟨h3, h4⟩ := h1 vs (by simp)
    obtain ⟨x, rfl⟩ : ∃ x, vs = [x] := by
      match vs, h3 with
      | [x], _ => exact ⟨x, rfl⟩
    have hx : One x := ⟨h4 x (by simp)⟩
    have hhl : hist.length + 1 ≤ 1000000 := by simp at h2; omega
    refine yl_of_runs1 (n := 13) (fr1 := [(5, x), (2, .pointer (some ⟨b2, 0, none⟩))]) (by decide) hsz hg (fun F => ?_) (fun F => ?_)
    · (repeat (first | refine run_seq ?_ | refine run_block ?_ | refine run_skip ?_ | refine run_label ?_ | refine run_inBlock ?_ | refine run_exit rfl ?_))
      refine run_sub (sc 2 rfl (sc 7 rfl Sub.nil)) (run_region (id := 2) ?_)
      refine ops_quiet rfl (Pure.q (p_assign rfl)) ?_
      refine ops_nil ?_
      exact run_end fun a w hr hh => ⟨rfl, hr.sub (by (repeat (first | exact Sub.nil | refine Sub.cons rfl ?_))), hh⟩
    · generalize pt l _ = PL
      refine run_ent Ent.swap (run_exi fun u => run_allt ?_)
      refine run_facts u fun _ => ?_
      (repeat (first | refine run_seq ?_ | refine run_block ?_ | refine run_skip ?_ | refine run_label ?_ | refine run_inBlock ?_ | refine run_exit rfl ?_))
      refine run_sub (sc 2 rfl (sc 5 rfl Sub.nil)) (run_region (id := 3) ?_)
      (first | refine ops_quiet rfl (k_load rfl rfl) ?_ | refine ops_quiet rfl (k_loadM rfl (by (first | omega | (simp only [List.length_cons, List.length_nil, List.length_take, List.length_drop, List.length_append, List.length_map, List.length_replicate, List.length_set]; omega) | (simp; done) | (simp; omega) | rfl))) ?_ | refine ops_quiet rfl (k_loadS rfl (by (first | rfl | assumption | (apply hel; omega) | (apply hel2; omega) | (apply hel3; omega)))) ?_)
      refine ops_quiet rfl (Pure.q (p_move rfl)) ?_
      refine ops_step rfl (g_buildSlice (zs := [.int .i64 0]) (uss := [[x]]) (vs := [(0, x)]) rfl (.cons rfl inferInstance .nil) rfl rfl rfl) (fun v10 => ?_)
      (try refine ops_ln fun _ => ?_)
      (first | refine ops_step rfl (g_append0 rfl rfl (by (first | omega | (simp only [List.length_cons, List.length_nil, List.length_take, List.length_drop, List.length_append, List.length_map, List.length_replicate, List.length_set]; omega) | (simp; done) | (simp; omega) | rfl)) (by (first | omega | (simp only [List.length_cons, List.length_nil, List.length_take, List.length_drop, List.length_append, List.length_map, List.length_replicate, List.length_set]; omega) | (simp; done) | (simp; omega) | rfl)) rfl) (fun v11 => ?_) | refine ops_step rfl (g_appendM rfl rfl (by (first | omega | (simp only [List.length_cons, List.length_nil, List.length_take, List.length_drop, List.length_append, List.length_map, List.length_replicate, List.length_set]; omega) | (simp; done) | (simp; omega) | rfl)) (by (first | omega | (simp only [List.length_cons, List.length_nil, List.length_take, List.length_drop, List.length_append, List.length_map, List.length_replicate, List.length_set]; omega) | (simp; done) | (simp; omega) | rfl)) rfl) (fun v11 => ?_) | refine ops_step rfl (g_appendNilM rfl rfl (by (first | omega | (simp only [List.length_cons, List.length_nil, List.length_take, List.length_drop, List.length_append, List.length_map, List.length_replicate, List.length_set]; omega) | (simp; done) | (simp; omega) | rfl)) (by (first | omega | (simp only [List.length_cons, List.length_nil, List.length_take, List.length_drop, List.length_append, List.length_map, List.length_replicate, List.length_set]; omega) | (simp; done) | (simp; omega) | rfl)) rfl) (fun v11 => ?_) | refine ops_step rfl (g_append rfl rfl (by (first | omega | (simp only [List.length_cons, List.length_nil, List.length_take, List.length_drop, List.length_append, List.length_map, List.length_replicate, List.length_set]; omega) | (simp; done) | (simp; omega) | rfl)) (by (first | omega | (simp only [List.length_cons, List.length_nil, List.length_take, List.length_drop, List.length_append, List.length_map, List.length_replicate, List.length_set]; omega) | (simp; done) | (simp; omega) | rfl)) rfl) (fun v11 => ?_) | refine ops_step rfl (g_appendNil rfl rfl (by (first | omega | (simp only [List.length_cons, List.length_nil, List.length_take, List.length_drop, List.length_append, List.length_map, List.length_replicate, List.length_set]; omega) | (simp; done) | (simp; omega) | rfl)) (by (first | omega | (simp only [List.length_cons, List.length_nil, List.length_take, List.length_drop, List.length_append, List.length_map, List.length_replicate, List.length_set]; omega) | (simp; done) | (simp; omega) | rfl)) rfl) (fun v11 => ?_))
      (try refine ops_ln fun _ => ?_)
      (first | refine ops_step rfl (g_store rfl rfl rfl) (fun _ => ?_) | refine ops_step rfl (g_storeM rfl rfl (by (first | omega | (simp only [List.length_cons, List.length_nil, List.length_take, List.length_drop, List.length_append, List.length_map, List.length_replicate, List.length_set]; omega) | (simp; done) | (simp; omega) | rfl))) (fun _ => ?_) | refine ops_step rfl (g_storeS rfl rfl (by (first | omega | (simp only [List.length_cons, List.length_nil, List.length_take, List.length_drop, List.length_append, List.length_map, List.length_replicate, List.length_set]; omega) | (simp; done) | (simp; omega) | rfl))) (fun _ => ?_))
      refine ops_nil ?_
      refine run_inBlock ?_
      refine run_end fun a w hr hh => ⟨rfl, ?_⟩
      refine Ent.use (Goes.ent ?_) hh
      refine Goes.cons (by (repeat' constructor); done) (Goes.exi (x := v11) (Goes.all ?_))
      rw [List.length_append, List.flatten_append]
      repeat' first | exact Goes.nil | with_reducible apply Goes.exi | with_reducible apply Goes.all | with_reducible apply Goes.pur | ((with_reducible apply Goes.cons); focus ((repeat' constructor); done)) | fail
  · intro d seq hs
    refine run_ent (Ent.front1 (L := pt d _ :: C)) (run_exi fun u => run_allt ?_)
    (repeat (first | refine run_seq ?_ | refine run_block ?_ | refine run_skip ?_ | refine run_label ?_ | refine run_inBlock ?_ | refine run_exit rfl ?_))
    refine run_sub (sc 2 rfl Sub.nil) (run_region (id := 4) ?_)
    (first | refine ops_quiet rfl (k_load rfl rfl) ?_ | refine ops_quiet rfl (k_loadM rfl (by (first | omega | (simp only [List.length_cons, List.length_nil, List.length_take, List.length_drop, List.length_append, List.length_map, List.length_replicate, List.length_set]; omega) | (simp; done) | (simp; omega) | rfl))) ?_ | refine ops_quiet rfl (k_loadS rfl (by (first | rfl | assumption | (apply hel; omega) | (apply hel2; omega) | (apply hel3; omega)))) ?_)
    refine ops_quiet rfl (Pure.q (p_assign rfl)) ?_
    refine ops_nil ?_
    refine rets_onem rfl rfl rfl (by (repeat' constructor); done) ?_
    refine Goes.exi (x := seq) ⟨[blk b2 35 [u]], Tk.all (Tk.pur hs (Tk.perm ?_))⟩
    simp only [List.append_eq, List.append_nil]
    exact (List.Perm.swap _ _ _).trans (List.Perm.cons _ (List.perm_append_comm (l₁ := [_]) (l₂ := C)))

theorem collect_spec (f : FuncId) [BD Tryz.prog f] (cap : Array Value) (C : List HProp) (S : List (List Value) → Prop) (hit : Iter Tryz.prog f cap C S) (hS : ∀ seq, S seq → oneRows seq) :
    Fn Tryz.prog 58 #[.func (.func f) #[] cap] C (fun v => [exi fun seq => All (pur (S seq) :: own 3 1 v seq.length seq.flatten :: C)]) := by
  refine fn_of_run Tryz.func58 rfl Tryz.ntmps58 (by simp) fun F => ?_
  simp only [List.zipIdx_cons, List.zipIdx_nil, List.map_cons, List.map_nil, Nat.zero_add, Nat.reduceAdd]
  refine run_seq (run_sub (sc 0 rfl Sub.nil) (run_region (id := 0) ?_))
  refine ops_quiet rfl (Pure.q (p_assign rfl)) ?_
  refine ops_nil ?_
  refine run_seq (run_sub (sc 0 rfl Sub.nil) (run_region (id := 1) ?_))
  refine ops_quiet rfl (Pure.q (p_move rfl)) ?_
  refine ops_step rfl (s_call (vs := [.slice none 0 0, .func (.func f) #[] cap]) (.cons rfl (.cons rfl .nil)) (appendSeq_spec f cap C S hit hS) (R := []) (Tk.mk (by rw [List.append_nil]; exact .refl _))) (fun v => ?_)
  refine ops_quiet rfl (Pure.q (p_assign rfl)) ?_
  refine ops_nil ?_
  refine rets_one rfl rfl rfl ?_
  exact ⟨[], Tk.mk (.refl _)⟩
end Go.Proofs.YtaibgfnfmkpibaaGreatDoor.SL
