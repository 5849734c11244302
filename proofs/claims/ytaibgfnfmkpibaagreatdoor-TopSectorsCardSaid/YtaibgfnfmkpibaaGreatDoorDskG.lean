/- Bytes copied; a sector read; what is to come. -/
import Derived.Test.YtaibgfnfmkpibaaGreatDoorDskB
namespace Go.Proofs.YtaibgfnfmkpibaaGreatDoor.SL
open Go
attribute [local irreducible] mp mit blk rbk pt exi pur ob orb sv pv own rsl rxs elp sub st Pure Quiet Step Run Ops Dp Fn Ent Tk Holds
attribute [local irreducible] dsk odk

theorem clone_spec {v : Value} {n : Nat} {l : List UInt8} (C : HProp) (hC : Rs C 1 v n (l.map u8)) (hn : n ≤ 140737488355328) :
    Fn Tryz.prog 26 #[v] [C] (fun u => [own 5 1 u n (l.map u8), C]) := by
  refine fn_of_run Tryz.func26 rfl Tryz.ntmps26 (by simp) fun F => ?_
  refine run_facts v fun _ => ?_
  refine run_lenAt v fun hlen => ?_
  simp only [List.zipIdx_cons, List.zipIdx_nil, List.map_cons, List.map_nil, Nat.zero_add, Nat.reduceAdd]
  refine run_seq (run_sub (sc 0 rfl Sub.nil) (run_region (id := 0) ?_))
  refine ops_quiet rfl (Pure.q (p_assign rfl)) ?_
  refine ops_nil ?_
  refine run_seq (run_seq (run_sub (sc 0 rfl Sub.nil) (run_region (id := 1) ?_)))
  refine ops_quiet rfl (Pure.q (p_move rfl)) ?_
  (first | refine ops_quiet rfl (Pure.q (p_eql_nils rfl rfl)) ?_ | refine ops_quiet rfl (k_eql_nils rfl rfl) ?_)
  refine ops_nil ?_
  refine run_case 4 rfl (fun h4 => run_cond_t rfl ?_) (fun h4 => run_cond_f rfl ?_)
  · (try simp only [decide_eq_true_eq, decide_eq_false_iff_not, Bool.not_eq_true', Bool.not_eq_false'] at h4)
    have hn0 : n = 0 := ln_isNil h4
    subst hn0
    have hl0 : l = [] := by simpa using hlen
    subst hl0
    refine run_seq (run_sub Sub.nil (run_region (id := 2) ?_))
    refine ops_quiet rfl (Pure.q (p_assign rfl)) ?_
    refine ops_nil ?_
    refine rets_one rfl rfl rfl ?_
    (repeat' first | exact Goes.nil | with_reducible apply Goes.exi | with_reducible apply Goes.all | with_reducible apply Goes.pur | ((with_reducible apply Goes.cons); focus ((repeat' constructor); done)) | with_reducible apply dsk_goes | with_reducible apply odk_goes) <;> (first | rfl | assumption | omega | (simp [*]; done) | skip)
  · (try simp only [decide_eq_true_eq, decide_eq_false_iff_not, Bool.not_eq_true', Bool.not_eq_false'] at h4)
    refine run_skip (run_seq (run_sub (sc 0 rfl Sub.nil) (run_region (id := 3) ?_)))
    (first | refine ops_step rfl (g_buildSliceM rfl (.nil) rfl rfl rfl) (fun v5 => ?_) | refine ops_step rfl (g_buildSlice rfl (.nil) rfl rfl rfl) (fun v5 => ?_))
    (try refine ops_ln fun _ => ?_)
    refine ops_quiet rfl (Pure.q (p_move rfl)) ?_
    (first | refine ops_step rfl (g_append0 rfl rfl (by (first | omega | (simp only [List.length_cons, List.length_nil, List.length_take, List.length_drop, List.length_append, List.length_map, List.length_replicate, List.length_set]; omega) | (simp; done) | (simp; omega) | rfl)) (by (first | omega | (simp only [List.length_cons, List.length_nil, List.length_take, List.length_drop, List.length_append, List.length_map, List.length_replicate, List.length_set]; omega) | (simp; done) | (simp; omega) | rfl)) rfl) (fun v7 => ?_) | refine ops_step rfl (g_appendM rfl rfl (by (first | omega | (simp only [List.length_cons, List.length_nil, List.length_take, List.length_drop, List.length_append, List.length_map, List.length_replicate, List.length_set]; omega) | (simp; done) | (simp; omega) | rfl)) (by (first | omega | (simp only [List.length_cons, List.length_nil, List.length_take, List.length_drop, List.length_append, List.length_map, List.length_replicate, List.length_set]; omega) | (simp; done) | (simp; omega) | rfl)) rfl) (fun v7 => ?_) | refine ops_step rfl (g_appendNilM rfl rfl (by (first | omega | (simp only [List.length_cons, List.length_nil, List.length_take, List.length_drop, List.length_append, List.length_map, List.length_replicate, List.length_set]; omega) | (simp; done) | (simp; omega) | rfl)) (by (first | omega | (simp only [List.length_cons, List.length_nil, List.length_take, List.length_drop, List.length_append, List.length_map, List.length_replicate, List.length_set]; omega) | (simp; done) | (simp; omega) | rfl)) rfl) (fun v7 => ?_) | refine ops_step rfl (g_append rfl rfl (by (first | omega | (simp only [List.length_cons, List.length_nil, List.length_take, List.length_drop, List.length_append, List.length_map, List.length_replicate, List.length_set]; omega) | (simp; done) | (simp; omega) | rfl)) (by (first | omega | (simp only [List.length_cons, List.length_nil, List.length_take, List.length_drop, List.length_append, List.length_map, List.length_replicate, List.length_set]; omega) | (simp; done) | (simp; omega) | rfl)) rfl) (fun v7 => ?_) | refine ops_step rfl (g_appendNil rfl rfl (by (first | omega | (simp only [List.length_cons, List.length_nil, List.length_take, List.length_drop, List.length_append, List.length_map, List.length_replicate, List.length_set]; omega) | (simp; done) | (simp; omega) | rfl)) (by (first | omega | (simp only [List.length_cons, List.length_nil, List.length_take, List.length_drop, List.length_append, List.length_map, List.length_replicate, List.length_set]; omega) | (simp; done) | (simp; omega) | rfl)) rfl) (fun v7 => ?_))
    (try refine ops_ln fun _ => ?_)
    refine ops_quiet rfl (Pure.q (p_assign rfl)) ?_
    refine ops_nil ?_
    refine rets_one rfl rfl rfl ?_
    (repeat' first | exact Goes.nil | with_reducible apply Goes.exi | with_reducible apply Goes.all | with_reducible apply Goes.pur | ((with_reducible apply Goes.cons); focus ((repeat' constructor); done)) | with_reducible apply dsk_goes | with_reducible apply odk_goes) <;> (first | rfl | assumption | omega | (simp [*]; done) | skip)

def readR (A : Dk) (n : Nat) (k : Int) : Int × List UInt8 := if A.off = true then (7, []) else if 0 ≤ k ∧ k < n then (0, A.now.getD k.toNat default) else (1, [])

theorem read_spec (x : Nat) (A : Dk) (n : Nat) (k : Int) :
    Fn Tryz.prog 16 #[.pointer (some ⟨x, 0, none⟩), .int .i64 k] [dsk x A n]
      (fun u => [exi fun v => All [pur (u = .tuple #[v, .int .i64 (readR A n k).1]), own 5 1 v (readR A n k).2.length ((readR A n k).2.map u8), dsk x A n]]) := by
  refine fn_of_run Tryz.func16 rfl Tryz.ntmps16 (by simp) fun F => ?_
  simp only [List.zipIdx_cons, List.zipIdx_nil, List.map_cons, List.map_nil, Nat.zero_add, Nat.reduceAdd]
  refine run_seq (run_sub (sc 0 rfl (sc 1 rfl Sub.nil)) (run_region (id := 0) ?_))
  refine ops_quiet rfl (Pure.q (p_assign rfl)) ?_
  refine ops_quiet rfl (Pure.q (p_assign rfl)) ?_
  refine ops_nil ?_
  refine run_seq (run_block (run_seq ?_))
  refine run_dsk fun vn vp m om hA hO => ?_
  refine run_sub (sc 0 rfl (sc 1 rfl Sub.nil)) (run_region (id := 1) ?_)
  refine ops_quiet rfl (Pure.q (p_move rfl)) ?_
  (first | refine ops_quiet rfl (Pure.q (p_nil_ptr rfl)) ?_ | refine ops_quiet rfl (Pure.q (p_nilE rfl (by (first | omega | (simp only [List.length_cons, List.length_nil, List.length_take, List.length_drop, List.length_append, List.length_map, List.length_replicate, List.length_set]; omega) | (simp; done) | (simp; omega) | rfl)))) ?_ | refine ops_quiet rfl (k_nil rfl (by (first | omega | (simp only [List.length_cons, List.length_nil, List.length_take, List.length_drop, List.length_append, List.length_map, List.length_replicate, List.length_set]; omega) | (simp; done) | (simp; omega) | rfl))) ?_ | refine ops_quiet rfl (Pure.q (p_nil_func rfl)) ?_)
  (first | refine ops_quiet rfl (Pure.q (p_fieldAddr rfl)) ?_ | refine ops_quiet rfl (Pure.q (p_fieldE rfl (by (first | omega | (simp only [List.length_cons, List.length_nil, List.length_take, List.length_drop, List.length_append, List.length_map, List.length_replicate, List.length_set]; omega) | (simp; done) | (simp; omega) | rfl)))) ?_ | refine ops_quiet rfl (k_field rfl (by (first | omega | (simp only [List.length_cons, List.length_nil, List.length_take, List.length_drop, List.length_append, List.length_map, List.length_replicate, List.length_set]; omega) | (simp; done) | (simp; omega) | rfl))) ?_)
  (first | refine ops_quiet rfl (k_load rfl rfl) ?_ | refine ops_quiet rfl (k_loadM rfl (by (first | omega | (simp only [List.length_cons, List.length_nil, List.length_take, List.length_drop, List.length_append, List.length_map, List.length_replicate, List.length_set]; omega) | (simp; done) | (simp; omega) | rfl))) ?_ | refine ops_quiet rfl (k_loadS rfl (by (first | rfl | assumption | (apply hel; omega) | (apply hel2; omega) | (apply hel3; omega)))) ?_)
  refine ops_quiet rfl (Pure.q (p_assign rfl)) ?_
  refine ops_nil ?_
  refine run_case 6 rfl (fun h6 => run_cond_t rfl ?_) (fun h6 => run_cond_f rfl ?_)
  · (try simp only [decide_eq_true_eq, decide_eq_false_iff_not, Bool.not_eq_true', Bool.not_eq_false'] at h6)
    have e : readR A n k = (7, []) := if_pos h6
    rw [e]
    refine run_seq (run_sub Sub.nil (run_region (id := 2) ?_))
    refine ops_quiet rfl (Pure.q (p_assign rfl)) ?_
    refine ops_quiet rfl (Pure.q (p_assign rfl)) ?_
    refine ops_nil ?_
    refine rets_two rfl rfl rfl rfl ?_
    refine Goes.exi (x := .slice none 0 0) (Goes.all (Goes.pur rfl ?_))
    (repeat' first | exact Goes.nil | with_reducible apply Goes.exi | with_reducible apply Goes.all | with_reducible apply Goes.pur | ((with_reducible apply Goes.cons); focus ((repeat' constructor); done)) | with_reducible apply dsk_goes | with_reducible apply odk_goes) <;> (first | rfl | assumption | omega | (simp [*]; done) | skip)
  · (try simp only [decide_eq_true_eq, decide_eq_false_iff_not, Bool.not_eq_true', Bool.not_eq_false'] at h6)
    have h6' : ¬ A.off = true := by rw [h6]; exact Bool.false_ne_true
    refine run_ent (L' := [dsk x A n]) (Goes.ent (by (repeat' first | exact Goes.nil | with_reducible apply Goes.exi | with_reducible apply Goes.all | with_reducible apply Goes.pur | ((with_reducible apply Goes.cons); focus ((repeat' constructor); done)) | with_reducible apply dsk_goes | with_reducible apply odk_goes) <;> first | assumption | rfl | omega)) ?_
    refine run_seq (run_sub (sc 0 rfl (sc 1 rfl Sub.nil)) (run_region (id := 3) ?_))
    refine ops_quiet rfl (Pure.q (p_move rfl)) ?_
    refine ops_quiet rfl (Pure.q (p_move rfl)) ?_
    refine ops_step rfl (g_call (.cons rfl (.cons rfl .nil)) (by (repeat' constructor); done) (has_spec _ _ _ _)) (fun u14 => ?_)
    refine ops_pur fun h14 => ?_
    subst h14
    refine ops_quiet rfl (Pure.q (p_not rfl)) ?_
    refine ops_quiet rfl (Pure.q (p_assign rfl)) ?_
    refine ops_nil ?_
    refine run_case 11 rfl (fun h11 => run_cond_t rfl ?_) (fun h11 => run_cond_f rfl ?_)
    · (try simp only [decide_eq_true_eq, decide_eq_false_iff_not, Bool.not_eq_true', Bool.not_eq_false'] at h11)
      have e : readR A n k = (1, []) := by unfold readR; rw [if_neg h6', if_neg h11]
      rw [e]
      refine run_seq (run_sub Sub.nil (run_region (id := 4) ?_))
      refine ops_quiet rfl (Pure.q (p_assign rfl)) ?_
      refine ops_quiet rfl (Pure.q (p_assign rfl)) ?_
      refine ops_nil ?_
      refine rets_two rfl rfl rfl rfl ?_
      refine Goes.exi (x := .slice none 0 0) (Goes.all (Goes.pur rfl ?_))
      (repeat' first | exact Goes.nil | with_reducible apply Goes.exi | with_reducible apply Goes.all | with_reducible apply Goes.pur | ((with_reducible apply Goes.cons); focus ((repeat' constructor); done)) | with_reducible apply dsk_goes | with_reducible apply odk_goes) <;> (first | rfl | assumption | omega | (simp [*]; done) | skip)
    · (try simp only [decide_eq_true_eq, decide_eq_false_iff_not, Bool.not_eq_true', Bool.not_eq_false'] at h11)
      have h11 : 0 ≤ k ∧ k < n := by simpa using h11
      have e : readR A n k = (0, A.now.getD k.toNat default) := by unfold readR; rw [if_neg h6', if_pos h11]
      rw [e]
      refine run_dsk fun vn vp m om hA hO => ?_
      refine run_facts vn fun _ => ?_
      refine run_lenAt vn fun hlen => ?_
      have hn := hA.n
      have hk : k.toNat * 128 + 128 * 1 ≤ ((A.now.flatten).map u8).length := by omega
      have hR : Rs (own 69 128 vn n (A.now.flatten.map u8)) 1 (sub vn (k.toNat * 128) 128 128) 128 ((A.now.getD k.toNat default).map u8) := by
        have := rs_sub (T := 69) (sz := 128) (v := vn) (n := n) (c := 128) (m := 128) (sz' := 1) hk (by omega)
        rwa [← List.map_drop, ← List.map_take, Nat.mul_one, flat_row hA.rows (by rw [hA.now]; omega)] at this
      have hlr : (A.now.getD k.toNat default).length = 128 := by
        have h1 : k.toNat < A.now.length := by rw [hA.now]; omega
        rw [List.getD_eq_getElem?_getD, List.getElem?_eq_getElem h1]
        exact hA.rows _ (List.getElem_mem h1)
      refine run_skip (run_inBlock (run_seq (run_sub (sc 0 rfl (sc 1 rfl Sub.nil)) (run_region (id := 5) ?_))))
      refine ops_quiet rfl (Pure.q (p_move rfl)) ?_
      (first | refine ops_quiet rfl (Pure.q (p_nil_ptr rfl)) ?_ | refine ops_quiet rfl (Pure.q (p_nilE rfl (by (first | omega | (simp only [List.length_cons, List.length_nil, List.length_take, List.length_drop, List.length_append, List.length_map, List.length_replicate, List.length_set]; omega) | (simp; done) | (simp; omega) | rfl)))) ?_ | refine ops_quiet rfl (k_nil rfl (by (first | omega | (simp only [List.length_cons, List.length_nil, List.length_take, List.length_drop, List.length_append, List.length_map, List.length_replicate, List.length_set]; omega) | (simp; done) | (simp; omega) | rfl))) ?_ | refine ops_quiet rfl (Pure.q (p_nil_func rfl)) ?_)
      (first | refine ops_quiet rfl (Pure.q (p_fieldAddr rfl)) ?_ | refine ops_quiet rfl (Pure.q (p_fieldE rfl (by (first | omega | (simp only [List.length_cons, List.length_nil, List.length_take, List.length_drop, List.length_append, List.length_map, List.length_replicate, List.length_set]; omega) | (simp; done) | (simp; omega) | rfl)))) ?_ | refine ops_quiet rfl (k_field rfl (by (first | omega | (simp only [List.length_cons, List.length_nil, List.length_take, List.length_drop, List.length_append, List.length_map, List.length_replicate, List.length_set]; omega) | (simp; done) | (simp; omega) | rfl))) ?_)
      (first | refine ops_quiet rfl (k_load rfl rfl) ?_ | refine ops_quiet rfl (k_loadM rfl (by (first | omega | (simp only [List.length_cons, List.length_nil, List.length_take, List.length_drop, List.length_append, List.length_map, List.length_replicate, List.length_set]; omega) | (simp; done) | (simp; omega) | rfl))) ?_ | refine ops_quiet rfl (k_loadS rfl (by (first | rfl | assumption | (apply hel; omega) | (apply hel2; omega) | (apply hel3; omega)))) ?_)
      refine ops_quiet rfl (Pure.q (p_move rfl)) ?_
      (first | refine ops_quiet rfl (Pure.q (p_indexL rfl rfl (by (first | omega | (simp only [List.length_cons, List.length_nil, List.length_take, List.length_drop, List.length_append, List.length_map, List.length_replicate, List.length_set]; omega) | (simp; done) | (simp; omega) | rfl)) (by (first | omega | (simp only [List.length_cons, List.length_nil, List.length_take, List.length_drop, List.length_append, List.length_map, List.length_replicate, List.length_set]; omega) | (simp; done) | (simp; omega) | rfl)))) ?_ | refine ops_quiet rfl (k_index rfl rfl (by (first | omega | (simp only [List.length_cons, List.length_nil, List.length_take, List.length_drop, List.length_append, List.length_map, List.length_replicate, List.length_set]; omega) | (simp; done) | (simp; omega) | rfl)) (by (first | omega | (simp only [List.length_cons, List.length_nil, List.length_take, List.length_drop, List.length_append, List.length_map, List.length_replicate, List.length_set]; omega) | (simp; done) | (simp; omega) | rfl))) ?_)
      (first | refine ops_quiet rfl (Pure.q (p_sliceArrE0 rfl (by (first | omega | (simp only [List.length_cons, List.length_nil, List.length_take, List.length_drop, List.length_append, List.length_map, List.length_replicate, List.length_set]; omega) | (simp; done) | (simp; omega) | rfl)))) ?_ | refine ops_quiet rfl (k_sliceArr0 rfl (by (first | omega | (simp only [List.length_cons, List.length_nil, List.length_take, List.length_drop, List.length_append, List.length_map, List.length_replicate, List.length_set]; omega) | (simp; done) | (simp; omega) | rfl))) ?_ | refine ops_quiet rfl (Pure.q (p_slice_arr0 rfl)) ?_)
      refine ops_step rfl (g_call (.cons rfl .nil) (by (repeat' constructor); done) (clone_spec _ hR (by omega))) (fun u23 => ?_)
      refine ops_ln fun _ => ?_
      refine ops_quiet rfl (Pure.q (p_assign rfl)) ?_
      refine ops_quiet rfl (Pure.q (p_assign rfl)) ?_
      refine ops_nil ?_
      refine rets_two rfl rfl rfl rfl ?_
      refine Goes.exi (Goes.all (Goes.pur rfl ?_))
      simp only [hlr]
      (repeat' first | exact Goes.nil | with_reducible apply Goes.exi | with_reducible apply Goes.all | with_reducible apply Goes.pur | ((with_reducible apply Goes.cons); focus ((repeat' constructor); done)) | with_reducible apply dsk_goes | with_reducible apply odk_goes) <;> (first | rfl | assumption | omega | (simp [*]; done) | skip)

theorem plan_spec (x : Nat) (A : Dk) (n : Nat) (v : Value) (l : List UInt8) (hl : l.length ≤ 100) :
    Fn Tryz.prog 13 #[.pointer (some ⟨x, 0, none⟩), v] [own 5 1 v l.length (l.map u8), dsk x A n]
      (fun _ => [own 5 1 v l.length (l.map u8), dsk x { A with plan := l } n]) := by
  refine fn_of_run Tryz.func13 rfl Tryz.ntmps13 (by simp) fun F => ?_
  refine run_ent Ent.swap (run_dsk fun vn vp m om hA hO => ?_)
  simp only [List.zipIdx_cons, List.zipIdx_nil, List.map_cons, List.map_nil, Nat.zero_add, Nat.reduceAdd]
  refine run_sub (sc 0 rfl (sc 1 rfl Sub.nil)) (run_region (id := 0) ?_)
  refine ops_quiet rfl (Pure.q (p_move rfl)) ?_
  refine ops_quiet rfl (Pure.q (p_move rfl)) ?_
  refine ops_step rfl (g_call (.cons rfl .nil) (by (repeat' constructor); done) (clone_spec (own _ _ _ _ _) inferInstance (by omega))) (fun u6 => ?_)
  refine ops_ln fun _ => ?_
  (first | refine ops_quiet rfl (Pure.q (p_nil_ptr rfl)) ?_ | refine ops_quiet rfl (Pure.q (p_nilE rfl (by (first | omega | (simp only [List.length_cons, List.length_nil, List.length_take, List.length_drop, List.length_append, List.length_map, List.length_replicate, List.length_set]; omega) | (simp; done) | (simp; omega) | rfl)))) ?_ | refine ops_quiet rfl (k_nil rfl (by (first | omega | (simp only [List.length_cons, List.length_nil, List.length_take, List.length_drop, List.length_append, List.length_map, List.length_replicate, List.length_set]; omega) | (simp; done) | (simp; omega) | rfl))) ?_ | refine ops_quiet rfl (Pure.q (p_nil_func rfl)) ?_)
  (first | refine ops_quiet rfl (Pure.q (p_fieldAddr rfl)) ?_ | refine ops_quiet rfl (Pure.q (p_fieldE rfl (by (first | omega | (simp only [List.length_cons, List.length_nil, List.length_take, List.length_drop, List.length_append, List.length_map, List.length_replicate, List.length_set]; omega) | (simp; done) | (simp; omega) | rfl)))) ?_ | refine ops_quiet rfl (k_field rfl (by (first | omega | (simp only [List.length_cons, List.length_nil, List.length_take, List.length_drop, List.length_append, List.length_map, List.length_replicate, List.length_set]; omega) | (simp; done) | (simp; omega) | rfl))) ?_)
  (first | refine ops_step rfl (g_store rfl rfl rfl) (fun _ => ?_) | refine ops_step rfl (g_storeM rfl rfl (by (first | omega | (simp only [List.length_cons, List.length_nil, List.length_take, List.length_drop, List.length_append, List.length_map, List.length_replicate, List.length_set]; omega) | (simp; done) | (simp; omega) | rfl))) (fun _ => ?_) | refine ops_step rfl (g_storeS rfl rfl (by (first | omega | (simp only [List.length_cons, List.length_nil, List.length_take, List.length_drop, List.length_append, List.length_map, List.length_replicate, List.length_set]; omega) | (simp; done) | (simp; omega) | rfl))) (fun _ => ?_))
  refine ops_nil ?_
  refine ends_none rfl rfl ?_
  (repeat' first | exact Goes.nil | with_reducible apply Goes.exi | with_reducible apply Goes.all | with_reducible apply Goes.pur | ((with_reducible apply Goes.cons); focus ((repeat' constructor); done)) | with_reducible apply dsk_goes | with_reducible apply odk_goes) <;> (first | rfl | assumption | omega | (simp [*]; done) | skip)
  exact ⟨hA.now, hA.sure, hA.dirty, hA.rows, hA.rows', hA.clean, hl, hA.n⟩

def dk0 (n : Nat) : Dk := { now := List.replicate n (List.replicate 128 0), sure := List.replicate n (List.replicate 128 0), dirty := List.replicate n false, plan := [], off := false }
theorem dk0_ok {n : Nat} (h : n ≤ 4096) : DkOk (dk0 n) n := by
  refine ⟨by simp [dk0], by simp [dk0], by simp [dk0], ?_, ?_, fun _ _ => rfl, by simp [dk0], h⟩
  · intro r hr; rw [(List.mem_replicate.1 hr).2]; simp
  · intro r hr; rw [(List.mem_replicate.1 hr).2]; simp
theorem zero_rows (n : Nat) : (List.replicate n (List.replicate 128 (Value.int .u8 0))).flatten = ((List.replicate n (List.replicate 128 (0 : UInt8))).flatten).map u8 := by
  rw [List.map_flatten, List.map_replicate, List.map_replicate]; rfl

theorem new_spec (k : Int) :
    Fn Tryz.prog 6 #[.int .i64 k] []
      (fun u => [exi fun x => All (pur (u = .tuple #[if 1 ≤ k ∧ k ≤ 4096 then .pointer (some ⟨x, 0, none⟩) else .pointer none, .int .i64 (if 1 ≤ k ∧ k ≤ 4096 then 0 else 1)]) :: if 1 ≤ k ∧ k ≤ 4096 then [dsk x (dk0 k.toNat) k.toNat] else [])]) := by
  refine fn_of_run Tryz.func6 rfl Tryz.ntmps6 (by simp) fun F => ?_
  simp only [List.zipIdx_cons, List.zipIdx_nil, List.map_cons, List.map_nil, Nat.zero_add, Nat.reduceAdd]
  refine run_seq (run_sub (sc 0 rfl Sub.nil) (run_region (id := 0) ?_))
  refine ops_quiet rfl (Pure.q (p_assign rfl)) ?_
  refine ops_quiet rfl (Pure.q (p_assign rfl)) ?_
  refine ops_nil ?_
  refine run_seq (run_seq (run_sub (sc 0 rfl Sub.nil) (run_region (id := 1) ?_)))
  refine ops_quiet rfl (Pure.q (p_move rfl)) ?_
  refine ops_quiet rfl (Pure.q (p_lss rfl rfl)) ?_
  refine ops_quiet rfl (Pure.q (p_move rfl)) ?_
  refine ops_case 6 rfl (fun hg6 => ?_) (fun hg6 => ?_)
  · (try simp only [decide_eq_true_eq, decide_eq_false_iff_not, Bool.not_eq_true', Bool.not_eq_false'] at hg6)
    have h : ¬ (1 ≤ k ∧ k ≤ 4096) := by omega
    simp only [if_neg h]
    refine ops_no rfl rfl ?_
    refine ops_no rfl rfl ?_
    refine ops_quiet rfl (Pure.q (p_pick_t rfl rfl)) ?_
    refine ops_nil ?_
    refine run_cond_t rfl (run_seq (run_sub Sub.nil (run_region (id := 2) ?_)))
    refine ops_quiet rfl (Pure.q (p_assign rfl)) ?_
    refine ops_quiet rfl (Pure.q (p_assign rfl)) ?_
    refine ops_nil ?_
    refine rets_two rfl rfl rfl rfl ?_
    refine Goes.exi (x := 0) (Goes.all (Goes.pur rfl ?_))
    (repeat' first | exact Goes.nil | with_reducible apply Goes.exi | with_reducible apply Goes.all | with_reducible apply Goes.pur | ((with_reducible apply Goes.cons); focus ((repeat' constructor); done)) | with_reducible apply dsk_goes | with_reducible apply odk_goes) <;> (first | rfl | assumption | omega | (simp [*]; done) | skip)
  · (try simp only [decide_eq_true_eq, decide_eq_false_iff_not, Bool.not_eq_true', Bool.not_eq_false'] at hg6)
    refine ops_yes rfl ?_
    refine ops_quiet rfl (Pure.q (p_move rfl)) ?_
    refine ops_yes rfl ?_
    refine ops_quiet rfl (Pure.q (p_gtr rfl rfl)) ?_
    refine ops_quiet rfl (Pure.q (p_pick_f rfl rfl)) ?_
    refine ops_nil ?_
    refine run_case 9 rfl (fun h9 => run_cond_t rfl ?_) (fun h9 => run_cond_f rfl ?_)
    · (try simp only [decide_eq_true_eq, decide_eq_false_iff_not, Bool.not_eq_true', Bool.not_eq_false'] at h9)
      have h : ¬ (1 ≤ k ∧ k ≤ 4096) := by omega
      simp only [if_neg h]
      refine run_seq (run_sub Sub.nil (run_region (id := 2) ?_))
      refine ops_quiet rfl (Pure.q (p_assign rfl)) ?_
      refine ops_quiet rfl (Pure.q (p_assign rfl)) ?_
      refine ops_nil ?_
      refine rets_two rfl rfl rfl rfl ?_
      refine Goes.exi (x := 0) (Goes.all (Goes.pur rfl ?_))
      (repeat' first | exact Goes.nil | with_reducible apply Goes.exi | with_reducible apply Goes.all | with_reducible apply Goes.pur | ((with_reducible apply Goes.cons); focus ((repeat' constructor); done)) | with_reducible apply dsk_goes | with_reducible apply odk_goes) <;> (first | rfl | assumption | omega | (simp [*]; done) | skip)
    · (try simp only [decide_eq_true_eq, decide_eq_false_iff_not, Bool.not_eq_true', Bool.not_eq_false'] at h9)
      have h : 1 ≤ k ∧ k ≤ 4096 := by omega
      simp only [if_pos h]
      refine run_skip (run_seq (run_sub (sc 0 rfl Sub.nil) (run_region (id := 3) ?_)))
      refine ops_quiet rfl (Pure.q (p_move rfl)) ?_
      refine ops_step rfl (g_makeSlice rfl rfl (by (first | omega | (simp only [List.length_cons, List.length_nil, List.length_take, List.length_drop, List.length_append, List.length_map, List.length_replicate, List.length_set]; omega) | (simp; done) | (simp; omega) | rfl)) (by (first | omega | (simp only [List.length_cons, List.length_nil, List.length_take, List.length_drop, List.length_append, List.length_map, List.length_replicate, List.length_set]; omega) | (simp; done) | (simp; omega) | rfl)) (by (first | omega | (simp only [List.length_cons, List.length_nil, List.length_take, List.length_drop, List.length_append, List.length_map, List.length_replicate, List.length_set]; omega) | (simp; done) | (simp; omega) | rfl)) rfl) (fun v11 => ?_)
      (try refine ops_ln fun _ => ?_)
      refine ops_step rfl (s_makeMap0) (fun b12 => ?_)
      refine ops_quiet rfl (Pure.q (p_buildC rfl (.cons rfl inferInstance (.cons rfl inferInstance .nil)) rfl rfl)) ?_
      refine ops_step rfl (s_box rfl rfl) (fun b14 => ?_)
      refine ops_quiet rfl (Pure.q (p_assign rfl)) ?_
      refine ops_quiet rfl (Pure.q (p_assign rfl)) ?_
      refine ops_nil ?_
      refine rets_two rfl rfl rfl rfl ?_
      refine Goes.exi (Goes.all (Goes.pur rfl ?_))
      simp only [zero_rows, List.length_replicate]
      refine goes_of (Ent.trans (Ent.there Ent.here) (mp_new (f := Value.int .i64) (g := secV))) ?_
      (repeat' first | exact Goes.nil | with_reducible apply Goes.exi | with_reducible apply Goes.all | with_reducible apply Goes.pur | ((with_reducible apply Goes.cons); focus ((repeat' constructor); done)) | with_reducible apply dsk_goes | with_reducible apply odk_goes) <;> (first | rfl | assumption | omega | (simp [*]; done) | skip)
      · exact dk0_ok (by omega)
      · exact olds_nil fun k => falses_getD _ k
end Go.Proofs.YtaibgfnfmkpibaaGreatDoor.SL
