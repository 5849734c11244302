/- All whole numbers that a sequence has, collected, and sorted; a map's keys. -/
import Derived.Test.YtaibgfnfmkpibaaGreatDoorSrtB
namespace Go.Proofs.YtaibgfnfmkpibaaGreatDoor.SL
open Go
attribute [local irreducible] mp mit blk rbk pt exi pur ob orb sv pv own rsl rxs elp sub st Pure Quiet Step Run Ops Dp Fn Ent Tk Holds

/-- A sequence of single whole numbers. -/
def ones (ks : List Int) : List (List Value) := ks.map fun k => [.int .i64 k]
def gathered (bx : Nat) (seq : List (List Value)) : HProp := exi fun u : Value => exi fun ks : List Int => All [pur (seq = ones ks), blk bx 35 [u], own 3 1 u ks.length (ks.map (Value.int .i64))]
theorem ones_app {hist : List (List Value)} {vs : List Value} {rest : List (List Value)} {ks : List Int} (h : hist ++ vs :: rest = ones ks) : ∃ k ks1 ks2, vs = [.int .i64 k] ∧ hist = ones ks1 ∧ ks = ks1 ++ k :: ks2 := by
  have h := h.symm
  unfold ones at h
  obtain ⟨ks1, ks', h1, h2, h3⟩ := List.map_eq_append_iff.1 h
  obtain ⟨k, ks2, h4, h5, h6⟩ := List.map_eq_cons_iff.1 h3
  exact ⟨k, ks1, ks2, h5.symm, h2.symm, by rw [h1, h4]⟩
theorem ones_inj {a b : List Int} (h : ones a = ones b) : a = b := by
  unfold ones at h
  induction a generalizing b with
  | nil => cases b with
    | nil => rfl
    | cons y b => cases h
  | cons x a ih => cases b with
    | nil => cases h
    | cons y b =>
      simp only [List.map_cons, List.cons.injEq, and_true, Value.int.injEq, true_and] at h
      rw [h.1, ih h.2]

theorem appendInts_spec (f : FuncId) [BD Tryz.prog f] (cap : Array Value) (C : List HProp) (S : List Int → Prop) (hit : Iter Tryz.prog f cap C (fun seq => ∃ ks, seq = ones ks ∧ S ks)) (hS : ∀ ks, S ks → ks.length ≤ 1000000) :
    Fn Tryz.prog 80 #[.slice none 0 0, .func (.func f) #[] cap] C (fun v => [exi fun ks => All (pur (S ks) :: own 3 1 v ks.length (ks.map (Value.int .i64)) :: C)]) := by
  refine fn_of_run_m Tryz.func80 rfl Tryz.ntmps80 (by simp) fun F => ?_
  simp only [List.zipIdx_cons, List.zipIdx_nil, List.map_cons, List.map_nil, Nat.zero_add, Nat.reduceAdd]
  refine run_seq (run_sub (sc 0 rfl (sc 1 rfl Sub.nil)) (run_region (id := 0) ?_))
  refine ops_step rfl (s_box rfl rfl) (fun b2 => ?_)
  refine ops_quiet rfl (Pure.q (p_assign rfl)) ?_
  refine ops_nil ?_
  refine run_seq (run_seq (run_sub (sc 1 rfl (sc 2 rfl Sub.nil)) (run_region (id := 1) ?_)))
  refine ops_quiet rfl (Pure.q (p_move rfl)) ?_
  refine ops_nil ?_
  refine run_block ?_
  refine run_sub (fr' := [(2, .pointer (some ⟨b2, 0, none⟩)), (6, .func (.func f) #[] cap)]) (by (repeat (first | exact Sub.nil | refine Sub.cons rfl ?_))) ?_
  refine run_range (C := C) (S := fun seq => ∃ ks, seq = ones ks ∧ S ks) (J := fun hist => [gathered b2 hist]) rfl hit ?_ ?_ ?_
  · refine Ent.trans (Tk.toEnt (C := [gathered b2 []]) (R := C) ?_) Ent.back1
    exact Tk.exi (.slice none 0 0) (Tk.exi [] (Tk.all (Tk.pur rfl (Tk.mk (Ent.cons _ Ent.nilOwn)))))
  · rintro l d fn tmps hist vs rest hsz hg ⟨ks, hks, hs⟩
    have hlen := hS _ hs
    obtain ⟨x, ks1, ks2, rfl, rfl, rfl⟩ := ones_app hks
    refine yl_of_runs1 (n := 13) (fr1 := [(5, .int .i64 x), (2, .pointer (some ⟨b2, 0, none⟩))]) (by decide) hsz hg (fun F => ?_) (fun F => ?_)
    · (repeat (first | refine run_seq ?_ | refine run_block ?_ | refine run_skip ?_ | refine run_label ?_ | refine run_inBlock ?_ | refine run_exit rfl ?_))
      refine run_sub (sc 2 rfl (sc 7 rfl Sub.nil)) (run_region (id := 2) ?_)
      refine ops_quiet rfl (Pure.q (p_assign rfl)) ?_
      refine ops_nil ?_
      exact run_end fun a w hr hh => ⟨rfl, hr.sub (by (repeat (first | exact Sub.nil | refine Sub.cons rfl ?_))), hh⟩
    · generalize pt l _ = PL
      refine run_ent Ent.swap (run_exi fun u => run_exi fun ks3 => run_allt (run_pur fun he => ?_))
      obtain rfl := ones_inj he
      refine run_facts u fun _ => ?_
      have hl1 : ks1.length + 1 ≤ 1000000 := by simp at hlen; omega
      (repeat (first | refine run_seq ?_ | refine run_block ?_ | refine run_skip ?_ | refine run_label ?_ | refine run_inBlock ?_ | refine run_exit rfl ?_))
      refine run_sub (sc 2 rfl (sc 5 rfl Sub.nil)) (run_region (id := 3) ?_)
      (first | refine ops_quiet rfl (k_load rfl rfl) ?_ | refine ops_quiet rfl (k_loadM rfl (by (first | omega | (simp only [List.length_cons, List.length_nil, List.length_take, List.length_drop, List.length_append, List.length_map, List.length_replicate, List.length_set]; omega) | (simp; done) | (simp; omega) | rfl))) ?_ | refine ops_quiet rfl (k_loadS rfl (by (first | rfl | assumption | (apply hel; omega) | (apply hel2; omega) | (apply hel3; omega)))) ?_)
      refine ops_quiet rfl (Pure.q (p_move rfl)) ?_
      (first | refine ops_step rfl (g_buildSliceM rfl (.cons rfl inferInstance .nil) rfl rfl rfl) (fun v10 => ?_) | refine ops_step rfl (g_buildSlice rfl (.cons rfl inferInstance .nil) rfl rfl rfl) (fun v10 => ?_))
      (try refine ops_ln fun _ => ?_)
      (first | refine ops_step rfl (g_append0 rfl rfl (by (first | omega | (simp only [List.length_cons, List.length_nil, List.length_take, List.length_drop, List.length_append, List.length_map, List.length_replicate, List.length_set]; omega) | (simp; done) | (simp; omega) | rfl)) (by (first | omega | (simp only [List.length_cons, List.length_nil, List.length_take, List.length_drop, List.length_append, List.length_map, List.length_replicate, List.length_set]; omega) | (simp; done) | (simp; omega) | rfl)) rfl) (fun v11 => ?_) | refine ops_step rfl (g_appendM rfl rfl (by (first | omega | (simp only [List.length_cons, List.length_nil, List.length_take, List.length_drop, List.length_append, List.length_map, List.length_replicate, List.length_set]; omega) | (simp; done) | (simp; omega) | rfl)) (by (first | omega | (simp only [List.length_cons, List.length_nil, List.length_take, List.length_drop, List.length_append, List.length_map, List.length_replicate, List.length_set]; omega) | (simp; done) | (simp; omega) | rfl)) rfl) (fun v11 => ?_) | refine ops_step rfl (g_appendNilM rfl rfl (by (first | omega | (simp only [List.length_cons, List.length_nil, List.length_take, List.length_drop, List.length_append, List.length_map, List.length_replicate, List.length_set]; omega) | (simp; done) | (simp; omega) | rfl)) (by (first | omega | (simp only [List.length_cons, List.length_nil, List.length_take, List.length_drop, List.length_append, List.length_map, List.length_replicate, List.length_set]; omega) | (simp; done) | (simp; omega) | rfl)) rfl) (fun v11 => ?_) | refine ops_step rfl (g_append rfl rfl (by (first | omega | (simp only [List.length_cons, List.length_nil, List.length_take, List.length_drop, List.length_append, List.length_map, List.length_replicate, List.length_set]; omega) | (simp; done) | (simp; omega) | rfl)) (by (first | omega | (simp only [List.length_cons, List.length_nil, List.length_take, List.length_drop, List.length_append, List.length_map, List.length_replicate, List.length_set]; omega) | (simp; done) | (simp; omega) | rfl)) rfl) (fun v11 => ?_) | refine ops_step rfl (g_appendNil rfl rfl (by (first | omega | (simp only [List.length_cons, List.length_nil, List.length_take, List.length_drop, List.length_append, List.length_map, List.length_replicate, List.length_set]; omega) | (simp; done) | (simp; omega) | rfl)) (by (first | omega | (simp only [List.length_cons, List.length_nil, List.length_take, List.length_drop, List.length_append, List.length_map, List.length_replicate, List.length_set]; omega) | (simp; done) | (simp; omega) | rfl)) rfl) (fun v11 => ?_))
      (try refine ops_ln fun _ => ?_)
      (first | refine ops_step rfl (g_store rfl rfl rfl) (fun _ => ?_) | refine ops_step rfl (g_storeM rfl rfl (by (first | omega | (simp only [List.length_cons, List.length_nil, List.length_take, List.length_drop, List.length_append, List.length_map, List.length_replicate, List.length_set]; omega) | (simp; done) | (simp; omega) | rfl))) (fun _ => ?_) | refine ops_step rfl (g_storeS rfl rfl (by (first | omega | (simp only [List.length_cons, List.length_nil, List.length_take, List.length_drop, List.length_append, List.length_map, List.length_replicate, List.length_set]; omega) | (simp; done) | (simp; omega) | rfl))) (fun _ => ?_))
      refine ops_nil ?_
      refine run_inBlock ?_
      refine run_end fun a w hr hh => ⟨rfl, ?_⟩
      refine Ent.use (Goes.ent ?_) hh
      refine Goes.cons (by (repeat' constructor); done) (Goes.exi (x := v11) (Goes.exi (x := ks1 ++ [x]) (Goes.all (Goes.pur ?_ ?_))))
      · unfold ones; rw [List.map_append]; rfl
      · rw [List.length_append]
        repeat' first | exact Goes.nil | with_reducible apply Goes.exi | with_reducible apply Goes.all | with_reducible apply Goes.pur | ((with_reducible apply Goes.cons); focus ((repeat' constructor); done)) | fail
  · rintro d seq ⟨ks, rfl, hs⟩
    refine run_ent (Ent.front1 (L := pt d _ :: C)) (run_exi fun u => run_exi fun ks3 => run_allt (run_pur fun he => ?_))
    obtain rfl := ones_inj he
    (repeat (first | refine run_seq ?_ | refine run_block ?_ | refine run_skip ?_ | refine run_label ?_ | refine run_inBlock ?_ | refine run_exit rfl ?_))
    refine run_sub (sc 2 rfl Sub.nil) (run_region (id := 4) ?_)
    (first | refine ops_quiet rfl (k_load rfl rfl) ?_ | refine ops_quiet rfl (k_loadM rfl (by (first | omega | (simp only [List.length_cons, List.length_nil, List.length_take, List.length_drop, List.length_append, List.length_map, List.length_replicate, List.length_set]; omega) | (simp; done) | (simp; omega) | rfl))) ?_ | refine ops_quiet rfl (k_loadS rfl (by (first | rfl | assumption | (apply hel; omega) | (apply hel2; omega) | (apply hel3; omega)))) ?_)
    refine ops_quiet rfl (Pure.q (p_assign rfl)) ?_
    refine ops_nil ?_
    refine rets_onem rfl rfl rfl (by (repeat' constructor); done) ?_
    refine Goes.exi (x := ks) ⟨[blk b2 35 [u]], Tk.all (Tk.pur hs (Tk.perm ?_))⟩
    simp only [List.append_eq, List.append_nil]
    exact (List.Perm.swap _ _ _).trans (List.Perm.cons _ (List.perm_append_comm (l₁ := [_]) (l₂ := C)))

theorem collectInts_spec (f : FuncId) [BD Tryz.prog f] (cap : Array Value) (C : List HProp) (S : List Int → Prop) (hit : Iter Tryz.prog f cap C (fun seq => ∃ ks, seq = ones ks ∧ S ks)) (hS : ∀ ks, S ks → ks.length ≤ 1000000) :
    Fn Tryz.prog 58 #[.func (.func f) #[] cap] C (fun v => [exi fun ks => All (pur (S ks) :: own 3 1 v ks.length (ks.map (Value.int .i64)) :: C)]) := by
  refine fn_of_run Tryz.func58 rfl Tryz.ntmps58 (by simp) fun F => ?_
  simp only [List.zipIdx_cons, List.zipIdx_nil, List.map_cons, List.map_nil, Nat.zero_add, Nat.reduceAdd]
  refine run_seq (run_sub (sc 0 rfl Sub.nil) (run_region (id := 0) ?_))
  refine ops_quiet rfl (Pure.q (p_assign rfl)) ?_
  refine ops_nil ?_
  refine run_seq (run_sub (sc 0 rfl Sub.nil) (run_region (id := 1) ?_))
  refine ops_quiet rfl (Pure.q (p_move rfl)) ?_
  refine ops_step rfl (s_call (vs := [.slice none 0 0, .func (.func f) #[] cap]) (.cons rfl (.cons rfl .nil)) (appendInts_spec f cap C S hit hS) (R := []) (Tk.mk (by rw [List.append_nil]; exact .refl _))) (fun v => ?_)
  refine ops_quiet rfl (Pure.q (p_assign rfl)) ?_
  refine ops_nil ?_
  refine rets_one rfl rfl rfl ?_
  exact ⟨[], Tk.mk (.refl _)⟩

theorem sorted_spec (f : FuncId) [BD Tryz.prog f] (cap : Array Value) (C : List HProp) (S : List Int → Prop) (hit : Iter Tryz.prog f cap C (fun seq => ∃ ks, seq = ones ks ∧ S ks)) (hS : ∀ ks, S ks → ks.length ≤ 12) :
    Fn Tryz.prog 35 #[.func (.func f) #[] cap] C (fun v => [exi fun ks => exi fun l => All (pur (S ks ∧ l.Perm ks ∧ Upto l ks.length) :: own 3 1 v ks.length (l.map (Value.int .i64)) :: C)]) := by
  refine fn_of_run Tryz.func35 rfl Tryz.ntmps35 (by simp) fun F => ?_
  simp only [List.zipIdx_cons, List.zipIdx_nil, List.map_cons, List.map_nil, Nat.zero_add, Nat.reduceAdd]
  refine run_seq (run_sub (sc 0 rfl Sub.nil) (run_region (id := 0) ?_))
  refine ops_quiet rfl (Pure.q (p_assign rfl)) ?_
  refine ops_nil ?_
  refine run_seq (run_sub (sc 0 rfl Sub.nil) (run_region (id := 1) ?_))
  refine ops_quiet rfl (Pure.q (p_move rfl)) ?_
  refine ops_step rfl (s_call (vs := [.func (.func f) #[] cap]) (.cons rfl .nil) (collectInts_spec f cap C S hit (fun ks h => by have := hS ks h; omega)) (R := []) (Tk.mk (by rw [List.append_nil]; exact .refl _))) (fun v => ?_)
  refine ops_exi fun ks => ops_all (ops_pur fun hs => ?_)
  simp only [List.append_eq, List.append_nil]
  have hl := hS ks hs
  have hkl : ks.length = ks.length := rfl
  refine ops_quiet rfl (Pure.q (p_assign rfl)) ?_
  refine ops_nil ?_
  refine run_seq (run_sub (sc 3 rfl Sub.nil) (run_region (id := 2) ?_))
  refine ops_quiet rfl (Pure.q (p_move rfl)) ?_
  refine ops_step rfl (g_call (.cons rfl .nil) (by (repeat' constructor); done) (sort_spec v ks ks.length rfl hl)) (fun u7 => ?_)
  refine ops_exi fun l7 => ops_allt (ops_pur fun ⟨hp7, hs7⟩ => ?_)
  refine ops_nil ?_
  refine run_seq (run_sub (sc 3 rfl Sub.nil) (run_region (id := 3) ?_))
  refine ops_quiet rfl (Pure.q (p_move rfl)) ?_
  refine ops_quiet rfl (Pure.q (p_assign rfl)) ?_
  refine ops_nil ?_
  refine rets_one rfl rfl rfl ?_
  exact ⟨[], Tk.exi ks (Tk.exi l7 (Tk.all (Tk.pur ⟨hs, hp7, hs7⟩ (Tk.mk (by simp only [List.append_eq, List.append_nil]; exact .refl _)))))⟩

section
variable {V : Type} {g : V → Value} {m : List (Int × V)} {r b : Nat}
theorem keys_spec (r : Nat) : Fn Tryz.prog 47 #[.map (some r)] []
    (fun u => [exi fun b => All [pur (u = .func (.func 73) #[] #[.pointer (some ⟨b, 0, none⟩)]), blk b 64 [.map (some r)]]]) := by
  refine fn_of_run Tryz.func47 rfl Tryz.ntmps47 (by simp) fun F => ?_
  simp only [List.zipIdx_cons, List.zipIdx_nil, List.map_cons, List.map_nil, Nat.zero_add, Nat.reduceAdd]
  refine run_seq (run_sub (sc 0 rfl Sub.nil) (run_region (id := 0) ?_))
  refine ops_step rfl (s_box rfl rfl) (fun b1 => ?_)
  refine ops_quiet rfl (Pure.q (p_assign rfl)) ?_
  refine ops_nil ?_
  refine run_seq (run_sub (sc 1 rfl Sub.nil) (run_region (id := 1) ?_))
  refine ops_quiet rfl (Pure.q (p_makeFn rfl)) ?_
  refine ops_quiet rfl (Pure.q (p_assign rfl)) ?_
  refine ops_nil ?_
  refine rets_one rfl rfl rfl ?_
  (repeat' first | exact Goes.nil | with_reducible apply Goes.exi | with_reducible apply Goes.all | with_reducible apply Goes.pur | ((with_reducible apply Goes.cons); focus ((repeat' constructor); done)) | fail) <;> (first | rfl | assumption | omega | (simp [*]; done) | skip)

theorem perm_mdel {p : Int × V} : ∀ {m : List (Int × V)}, p ∈ m → (m.map fun x => x.1).Nodup → (m.map fun x => x.1).Perm (p.1 :: (mdel m p.1).map fun x => x.1)
  | [], h, _ => by cases h
  | q :: m, h, hn => by
    simp only [List.map_cons, List.nodup_cons] at hn
    by_cases e : q.1 = p.1
    · have : mdel (q :: m) p.1 = m := by
        simp only [mdel, List.filter_cons, e, ne_eq, not_true_eq_false, decide_false, Bool.false_eq_true, if_false]
        rw [List.filter_eq_self]
        intro x hx
        have : ¬ x.1 = p.1 := fun h2 => hn.1 (List.mem_map.2 ⟨x, hx, h2.trans e.symm⟩)
        simp [this]
      rw [this, List.map_cons, e]
    · have hm : p ∈ m := by
        rcases List.mem_cons.1 h with rfl | h
        · exact absurd rfl e
        · exact h
      have : mdel (q :: m) p.1 = q :: mdel m p.1 := by simp [mdel, e]
      rw [this, List.map_cons, List.map_cons]
      exact ((perm_mdel hm hn.2).cons q.1).trans (List.Perm.swap _ _ _)

theorem keys_iter (b r : Nat) (hm : (m.map (·.1)).Nodup) :
    Iter Tryz.prog 73 #[.pointer (some ⟨b, 0, none⟩)] [blk b 64 [.map (some r)], mp r (Value.int .i64) g m] (fun seq => ∃ ks, seq = ones ks ∧ ks.Perm (m.map (·.1))) := by
  intro l I hY
  refine fn_of_run Tryz.func73 rfl Tryz.ntmps73 (by simp) fun F => ?_
  refine run_ent (L' := blk b 64 [.map (some r)] :: mp r (Value.int .i64) g m :: I []) (.refl _) ?_
  simp only [List.zipIdx_cons, List.zipIdx_nil, List.map_cons, List.map_nil, Nat.zero_add, Nat.reduceAdd]
  refine run_seq (run_sub (sc 0 rfl (sc 1 rfl Sub.nil)) (run_region (id := 0) ?_))
  (first | refine ops_quiet rfl (k_load rfl rfl) ?_ | refine ops_quiet rfl (k_loadM rfl (by (first | omega | (simp only [List.length_cons, List.length_nil, List.length_take, List.length_drop, List.length_append, List.length_map, List.length_replicate, List.length_set]; omega) | (simp; done) | (simp; omega) | rfl))) ?_ | refine ops_quiet rfl (k_loadS rfl (by (first | rfl | assumption | (apply hel; omega) | (apply hel2; omega) | (apply hel3; omega)))) ?_)
  refine ops_step rfl (m_range rfl) (fun b5 => ?_)
  refine ops_nil ?_
  refine run_block ?_
  refine runs_loop (fun q : List Int × List (Int × V) × Option (Int × V) => [(5, .pointer (some ⟨b5, 0, none⟩)), (0, yv l)]) (fun q => mit b5 r (Value.int .i64) g m q.2.1 q.2.2 :: blk b 64 [.map (some r)] :: I (ones q.1)) (fun q => (q.1 ++ q.2.1.map (·.1)).Perm (m.map (·.1))) (fun q => q.2.1.length) ([], m, none) (.refl _) (by (repeat (first | exact Sub.nil | refine Sub.cons rfl ?_))) ⟨[], Tk.mk (by rw [List.append_nil]; exact .refl _)⟩ ?_
  rintro ⟨hist, rest, last⟩ hp
  replace hp : (hist ++ rest.map (fun x => x.1)).Perm (m.map fun x => x.1) := hp
  dsimp only
  refine run_seq (run_sub (sc 0 rfl (sc 5 rfl Sub.nil)) (run_region (id := 1) ?_))
  refine ops_step rfl (m_next (kt := 3) rfl) (fun o6 => ?_)
  rcases o6 with _ | p
  · dsimp only
    refine ops_pur fun h6 => ?_
    (first | refine ops_quiet rfl (Pure.q (p_extractL rfl rfl)) ?_ | refine ops_quiet rfl (Pure.q (p_extract rfl rfl)) ?_)
    refine ops_nil ?_
    refine run_seq (run_cond_f rfl (run_exit rfl ?_))
    refine ends_none rfl rfl ?_
    subst h6
    have hp' : hist.Perm (m.map fun x => x.1) := by simpa using hp
    exact goes_of mit_mp ⟨[], Tk.exi (ones hist) (Tk.all (Tk.pur ⟨hist, rfl, hp'⟩ (Tk.perm (by simp only [List.append_eq, List.append_nil]; exact List.Perm.swap _ _ _))))⟩
  · dsimp only
    refine ops_pur fun h6 => ?_
    (first | refine ops_quiet rfl (Pure.q (p_extractL rfl rfl)) ?_ | refine ops_quiet rfl (Pure.q (p_extract rfl rfl)) ?_)
    refine ops_nil ?_
    refine run_seq (run_cond_t rfl (run_skip (run_block (run_seq (run_sub (sc 0 rfl (sc 5 rfl Sub.nil)) (run_region (id := 2) ?_))))))
    refine ops_quiet rfl (m_entry rfl) ?_
    (first | refine ops_quiet rfl (Pure.q (p_extractL rfl rfl)) ?_ | refine ops_quiet rfl (Pure.q (p_extract rfl rfl)) ?_)
    refine ops_quiet rfl (Pure.q (p_assign rfl)) ?_
    refine ops_nil ?_
    refine run_seq (run_sub (sc 0 rfl (sc 3 rfl (sc 5 rfl Sub.nil))) (run_region (id := 3) ?_))
    refine ops_quiet rfl (Pure.q (p_move rfl)) ?_
    refine ops_quiet rfl (Pure.q (p_move rfl)) ?_
    have hn : (rest.map fun x => x.1).Nodup := (List.nodup_append.1 (hp.nodup_iff.2 hm)).2.1
    have hpd := perm_mdel h6 hn
    have hp2 : (hist ++ p.1 :: (mdel rest p.1).map fun x => x.1).Perm (m.map fun x => x.1) := (hpd.symm.append_left hist).trans hp
    have hlt : (mdel rest p.1).length < rest.length := by have := hpd.length_eq; simp at this; omega
    have hy := hY (ones hist) [.int .i64 p.1] (ones ((mdel rest p.1).map fun x => x.1)) ⟨_, (by simp [ones] : ones hist ++ [.int .i64 p.1] :: ones ((mdel rest p.1).map fun x => x.1) = ones (hist ++ p.1 :: (mdel rest p.1).map fun x => x.1)), hp2⟩
    have e1 : ones hist ++ [[.int .i64 p.1]] = ones (hist ++ [p.1]) := by simp [ones]
    rw [e1] at hy
    refine ops_step rfl (s_yield (l := l) rfl (.cons rfl .nil) hy (R := [mit b5 r (Value.int .i64) g m (mdel rest p.1) (some p), blk b 64 [.map (some r)]]) Tk.tail2) (fun u => ?_)
    refine ops_pur fun hu => ?_
    subst hu
    refine ops_ent Ent.front2 ?_
    refine ops_quiet rfl (Pure.q (p_not rfl)) ?_
    refine ops_nil ?_
    refine run_cond_f rfl (run_skip (run_inBlock ?_))
    exact runs_is (hist ++ [p.1], mdel rest p.1, some p) ⟨by simpa using hp2, hlt⟩ (by (repeat (first | exact Sub.nil | refine Sub.cons rfl ?_))) ⟨[], Tk.mk (by simp only [List.append_nil]; exact .refl _)⟩
end
end Go.Proofs.YtaibgfnfmkpibaaGreatDoor.SL
