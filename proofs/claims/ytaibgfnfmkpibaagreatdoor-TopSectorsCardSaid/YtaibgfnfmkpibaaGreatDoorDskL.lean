/- The power goes: the disk. -/
import Derived.Test.YtaibgfnfmkpibaaGreatDoorDskK
namespace Go.Proofs.YtaibgfnfmkpibaaGreatDoor.SL
open Go
attribute [local irreducible] mp mit blk rbk pt exi pur ob orb sv pv own rsl rxs elp sub st Pure Quiet Step Run Ops Dp Fn Ent Tk Holds
attribute [local irreducible] dsk odk

theorem crash_spec (x : Nat) (A : Dk) (n : Nat) (vs : Value) (stay : List Bool) (torn cut : Int) (hn : n ≤ 12) :
    Fn Tryz.prog 14 #[.pointer (some ⟨x, 0, none⟩), vs, .int .i64 torn, .int .i64 cut] [own 4 1 vs stay.length (stay.map .bool), dsk x A n]
      (fun _ => [own 4 1 vs stay.length (stay.map .bool), dsk x (crashR A n stay torn cut) n]) := by
  refine fn_of_run Tryz.func14 rfl Tryz.ntmps14 (by simp) fun F => ?_
  refine run_facts vs fun _ => ?_
  simp only [List.zipIdx_cons, List.zipIdx_nil, List.map_cons, List.map_nil, Nat.zero_add, Nat.reduceAdd]
  refine run_seq (run_seq (run_sub (sc 0 rfl (sc 1 rfl (sc 2 rfl (sc 3 rfl Sub.nil)))) (run_region (id := 0) ?_)))
  refine ops_quiet rfl (Pure.q (p_move rfl)) ?_
  refine ops_step rfl (g_call (.cons rfl .nil) (by (repeat' constructor); done) (dirty_spec _ _ _ (by omega))) (fun u13 => ?_)
  refine ops_ln fun _ => ?_
  (first | refine ops_quiet rfl (Pure.q (p_lenL rfl)) ?_ | refine ops_quiet rfl (k_len rfl) ?_ | refine ops_quiet rfl (Pure.q (p_len_slice rfl)) ?_)
  refine ops_quiet rfl (Pure.q (p_move rfl)) ?_
  refine ops_nil ?_
  refine run_block ?_
  refine run_pick (c := dsk x A n) (by (repeat' constructor); done) (run_dsk fun vn vp m om hA hO => ?_)
  refine run_facts vn fun _ => ?_
  have hlen := dirtyL_len A n
  refine runs_loop (fun i : Nat => [(0, .pointer (some ⟨x, 0, none⟩)), (1, vs), (2, .int .i64 torn), (3, .int .i64 cut), (13, u13), (14, .int .i64 (dirtyL A n).length), (15, .int .i64 i)])
    (fun i => [own 69 128 vn n ((rowsIf A n stay torn cut (fun k => A.dirty.getD k false && decide (rank A k < i))).flatten.map u8), blk x 66 [vn, .map (some m), vp, .bool A.off], own 5 1 vp A.plan.length (A.plan.map u8), mp m (Value.int .i64) secV om, own 3 1 u13 (dirtyL A n).length ((dirtyL A n).map (Value.int .i64)), own 4 1 vs stay.length (stay.map .bool)])
    (fun i => i ≤ (dirtyL A n).length) (fun i => (dirtyL A n).length - i) 0 (Nat.zero_le _) (by (repeat (first | exact Sub.nil | refine Sub.cons rfl ?_))) (by rw [show (rowsIf A n stay torn cut (fun k => A.dirty.getD k false && decide (rank A k < 0))) = A.now from (rowsIf_congr (by simp)).trans (rowsIf_none hA)]; repeat' first | exact Goes.nil | with_reducible apply Goes.exi | with_reducible apply Goes.all | with_reducible apply Goes.pur | ((with_reducible apply Goes.cons); focus ((repeat' constructor); done)) | with_reducible apply dsk_goes | with_reducible apply odk_goes) ?_
  rintro i (hi : i ≤ (dirtyL A n).length)
  (try dsimp only)
  refine run_seq (run_sub (sc 0 rfl (sc 1 rfl (sc 2 rfl (sc 3 rfl (sc 13 rfl (sc 14 rfl (sc 15 rfl Sub.nil))))))) (run_region (id := 1) ?_))
  refine ops_quiet rfl (Pure.q (p_lss rfl rfl)) ?_
  refine ops_nil ?_
  refine run_seq ?_
  refine run_case 16 rfl (fun h16 => run_cond_t rfl ?_) (fun h16 => run_cond_f rfl ?_)
  · (try simp only [decide_eq_true_eq, decide_eq_false_iff_not, Bool.not_eq_true', Bool.not_eq_false'] at h16)
    refine run_skip (run_seq (run_block (run_seq (run_sub (sc 0 rfl (sc 1 rfl (sc 2 rfl (sc 3 rfl (sc 13 rfl (sc 14 rfl (sc 15 rfl Sub.nil))))))) (run_region (id := 2) ?_)))))
    refine ops_quiet rfl (Pure.q (p_move rfl)) ?_
    (first | refine ops_quiet rfl (Pure.q (p_indexL1 rfl rfl (by (first | omega | (simp only [List.length_cons, List.length_nil, List.length_take, List.length_drop, List.length_append, List.length_map, List.length_replicate, List.length_set]; omega) | (simp; done) | (simp; omega) | rfl)) (by (first | omega | (simp only [List.length_cons, List.length_nil, List.length_take, List.length_drop, List.length_append, List.length_map, List.length_replicate, List.length_set]; omega) | (simp; done) | (simp; omega) | rfl)))) ?_ | refine ops_quiet rfl (k_index1 rfl rfl (by (first | omega | (simp only [List.length_cons, List.length_nil, List.length_take, List.length_drop, List.length_append, List.length_map, List.length_replicate, List.length_set]; omega) | (simp; done) | (simp; omega) | rfl)) (by (first | omega | (simp only [List.length_cons, List.length_nil, List.length_take, List.length_drop, List.length_append, List.length_map, List.length_replicate, List.length_set]; omega) | (simp; done) | (simp; omega) | rfl))) ?_)
    (first | refine ops_quiet rfl (k_load rfl rfl) ?_ | refine ops_quiet rfl (k_loadM rfl (by (first | omega | (simp only [List.length_cons, List.length_nil, List.length_take, List.length_drop, List.length_append, List.length_map, List.length_replicate, List.length_set]; omega) | (simp; done) | (simp; omega) | rfl))) ?_ | refine ops_quiet rfl (k_loadS rfl (by (first | rfl | assumption | (apply hel; omega) | (apply hel2; omega) | (apply hel3; omega)))) ?_)
    refine ops_quiet rfl (Pure.q (p_assign rfl)) ?_
    refine ops_quiet rfl (Pure.q (p_assign rfl)) ?_
    refine ops_nil ?_
    refine run_seq ?_
    obtain ⟨k, hk1, hk2, hk3, hk4⟩ := dirtyL_at (A := A) (n := n) (i := i) (by omega)
    rw [show (dirtyL A n).getD (Int.toNat (i : Int)) default = (k : Int) from hk1]
    refine run_sub (sc 0 rfl (sc 1 rfl (sc 2 rfl (sc 3 rfl (sc 8 rfl (sc 9 rfl (sc 13 rfl (sc 14 rfl (sc 15 rfl Sub.nil))))))))) (run_region (id := 3) ?_)
    refine ops_quiet rfl (Pure.q (p_assign rfl)) ?_
    refine ops_nil ?_
    refine run_seq ?_
    refine run_cut (ι := Unit) (fun _ => [(0, .pointer (some ⟨x, 0, none⟩)), (1, vs), (2, .int .i64 torn), (3, .int .i64 cut), (13, u13), (14, .int .i64 (dirtyL A n).length), (15, .int .i64 i), (9, .int .i64 k), (10, .int .i64 (stays' stay torn cut i))])
      (fun _ => [own 69 128 vn n ((rowsIf A n stay torn cut (fun k => A.dirty.getD k false && decide (rank A k < i))).flatten.map u8), blk x 66 [vn, .map (some m), vp, .bool A.off], own 5 1 vp A.plan.length (A.plan.map u8), mp m (Value.int .i64) secV om, own 3 1 u13 (dirtyL A n).length ((dirtyL A n).map (Value.int .i64)), own 4 1 vs stay.length (stay.map .bool)])
      (fun _ => True) ?_ ?_
    · refine run_block (run_seq (run_sub (sc 0 rfl (sc 1 rfl (sc 2 rfl (sc 3 rfl (sc 8 rfl (sc 9 rfl (sc 10 rfl (sc 13 rfl (sc 14 rfl (sc 15 rfl Sub.nil)))))))))) (run_region (id := 4) ?_)))
      refine ops_quiet rfl (Pure.q (p_move rfl)) ?_
      refine ops_quiet rfl (Pure.q (p_move rfl)) ?_
      refine ops_quiet rfl (Pure.q (p_eql rfl rfl)) ?_
      refine ops_quiet rfl (Pure.q (p_assign rfl)) ?_
      refine ops_nil ?_
      refine run_case 20 rfl (fun h20 => run_cond_t rfl ?_) (fun h20 => run_cond_f rfl ?_)
      · (try simp only [decide_eq_true_eq, decide_eq_false_iff_not, Bool.not_eq_true', Bool.not_eq_false'] at h20)
        refine run_sub (sc 0 rfl (sc 1 rfl (sc 2 rfl (sc 3 rfl (sc 9 rfl (sc 13 rfl (sc 14 rfl (sc 15 rfl Sub.nil)))))))) (run_region (id := 5) ?_)
        refine ops_quiet rfl (Pure.q (p_move rfl)) ?_
        refine ops_quiet rfl (Pure.q (p_max rfl rfl)) ?_
        refine ops_quiet rfl (Pure.q (p_min rfl rfl)) ?_
        refine ops_quiet rfl (Pure.q (p_assign rfl)) ?_
        refine ops_nil ?_
        refine run_inBlock ?_
        have e : ((stays' stay torn cut i : Nat) : Int) = if 128 < (if cut < 0 then 0 else cut) then 128 else (if cut < 0 then 0 else cut) := by
          unfold stays'; rw [if_pos h20]; split <;> split <;> omega
        rw [← e]
        exact runs_is () trivial (by (repeat (first | exact Sub.nil | refine Sub.cons rfl ?_))) (by repeat' first | exact Goes.nil | with_reducible apply Goes.exi | with_reducible apply Goes.all | with_reducible apply Goes.pur | ((with_reducible apply Goes.cons); focus ((repeat' constructor); done)) | with_reducible apply dsk_goes | with_reducible apply odk_goes)
      · (try simp only [decide_eq_true_eq, decide_eq_false_iff_not, Bool.not_eq_true', Bool.not_eq_false'] at h20)
        refine run_seq (run_sub (sc 0 rfl (sc 1 rfl (sc 2 rfl (sc 3 rfl (sc 8 rfl (sc 9 rfl (sc 10 rfl (sc 13 rfl (sc 14 rfl (sc 15 rfl Sub.nil)))))))))) (run_region (id := 6) ?_))
        refine ops_quiet rfl (Pure.q (p_move rfl)) ?_
        refine ops_quiet rfl (Pure.q (p_move rfl)) ?_
        (first | refine ops_quiet rfl (Pure.q (p_lenL rfl)) ?_ | refine ops_quiet rfl (k_len rfl) ?_ | refine ops_quiet rfl (Pure.q (p_len_slice rfl)) ?_)
        refine ops_quiet rfl (Pure.q (p_lss rfl rfl)) ?_
        refine ops_quiet rfl (Pure.q (p_move rfl)) ?_
        refine ops_case 32 rfl (fun hg32 => ?_) (fun hg32 => ?_)
        · (try simp only [decide_eq_true_eq, decide_eq_false_iff_not, Bool.not_eq_true', Bool.not_eq_false'] at hg32)
          refine ops_yes rfl ?_
          refine ops_quiet rfl (Pure.q (p_move rfl)) ?_
          refine ops_yes rfl ?_
          refine ops_quiet rfl (Pure.q (p_move rfl)) ?_
          refine ops_yes rfl ?_
          (first | refine ops_quiet rfl (Pure.q (p_indexL1 rfl rfl (by (first | omega | (simp only [List.length_cons, List.length_nil, List.length_take, List.length_drop, List.length_append, List.length_map, List.length_replicate, List.length_set]; omega) | (simp; done) | (simp; omega) | rfl)) (by (first | omega | (simp only [List.length_cons, List.length_nil, List.length_take, List.length_drop, List.length_append, List.length_map, List.length_replicate, List.length_set]; omega) | (simp; done) | (simp; omega) | rfl)))) ?_ | refine ops_quiet rfl (k_index1 rfl rfl (by (first | omega | (simp only [List.length_cons, List.length_nil, List.length_take, List.length_drop, List.length_append, List.length_map, List.length_replicate, List.length_set]; omega) | (simp; done) | (simp; omega) | rfl)) (by (first | omega | (simp only [List.length_cons, List.length_nil, List.length_take, List.length_drop, List.length_append, List.length_map, List.length_replicate, List.length_set]; omega) | (simp; done) | (simp; omega) | rfl))) ?_)
          refine ops_yes rfl ?_
          (first | refine ops_quiet rfl (k_load rfl rfl) ?_ | refine ops_quiet rfl (k_loadM rfl (by (first | omega | (simp only [List.length_cons, List.length_nil, List.length_take, List.length_drop, List.length_append, List.length_map, List.length_replicate, List.length_set]; omega) | (simp; done) | (simp; omega) | rfl))) ?_ | refine ops_quiet rfl (k_loadS rfl (by (first | rfl | assumption | (apply hel; omega) | (apply hel2; omega) | (apply hel3; omega)))) ?_)
          refine ops_quiet rfl (Pure.q (p_pick_t rfl rfl)) ?_
          refine ops_quiet rfl (Pure.q (p_assign rfl)) ?_
          refine ops_nil ?_
          refine run_case 27 rfl (fun h27 => run_cond_t rfl ?_) (fun h27 => run_cond_f rfl ?_)
          · (try simp only [decide_eq_true_eq, decide_eq_false_iff_not, Bool.not_eq_true', Bool.not_eq_false'] at h27)
            refine run_sub (sc 0 rfl (sc 1 rfl (sc 2 rfl (sc 3 rfl (sc 9 rfl (sc 13 rfl (sc 14 rfl (sc 15 rfl Sub.nil)))))))) (run_region (id := 7) ?_)
            refine ops_quiet rfl (Pure.q (p_assign rfl)) ?_
            refine ops_nil ?_
            refine run_inBlock ?_
            have e : ((stays' stay torn cut i : Nat) : Int) = 128 := by
              unfold stays'; rw [if_neg h20, if_pos ⟨by omega, h27⟩]; rfl
            rw [← e]
            exact runs_is () trivial (by (repeat (first | exact Sub.nil | refine Sub.cons rfl ?_))) (by repeat' first | exact Goes.nil | with_reducible apply Goes.exi | with_reducible apply Goes.all | with_reducible apply Goes.pur | ((with_reducible apply Goes.cons); focus ((repeat' constructor); done)) | with_reducible apply dsk_goes | with_reducible apply odk_goes)
          · (try simp only [decide_eq_true_eq, decide_eq_false_iff_not, Bool.not_eq_true', Bool.not_eq_false'] at h27)
            refine run_skip (run_inBlock ?_)
            have e : ((stays' stay torn cut i : Nat) : Int) = 0 := by
              unfold stays'; rw [if_neg h20, if_neg]; rfl
              rintro ⟨h1, h2⟩
              first | omega | (rw [show Int.toNat (i : Int) = i from rfl] at h27; rw [h27] at h2; cases h2)
            rw [← e]
            exact runs_is () trivial (by (repeat (first | exact Sub.nil | refine Sub.cons rfl ?_))) (by repeat' first | exact Goes.nil | with_reducible apply Goes.exi | with_reducible apply Goes.all | with_reducible apply Goes.pur | ((with_reducible apply Goes.cons); focus ((repeat' constructor); done)) | with_reducible apply dsk_goes | with_reducible apply odk_goes)
        · (try simp only [decide_eq_true_eq, decide_eq_false_iff_not, Bool.not_eq_true', Bool.not_eq_false'] at hg32)
          refine ops_no rfl rfl ?_
          refine ops_no rfl rfl ?_
          refine ops_no rfl rfl ?_
          refine ops_no rfl rfl ?_
          refine ops_quiet rfl (Pure.q (p_pick_f rfl rfl)) ?_
          refine ops_quiet rfl (Pure.q (p_assign rfl)) ?_
          refine ops_nil ?_
          refine run_cond_f rfl (run_skip (run_inBlock ?_))
          have e : ((stays' stay torn cut i : Nat) : Int) = 0 := by
            unfold stays'; rw [if_neg h20, if_neg]; rfl
            rintro ⟨h1, h2⟩
            first | omega | (rw [show Int.toNat (i : Int) = i from rfl] at h27; rw [h27] at h2; cases h2)
          rw [← e]
          exact runs_is () trivial (by (repeat (first | exact Sub.nil | refine Sub.cons rfl ?_))) (by repeat' first | exact Goes.nil | with_reducible apply Goes.exi | with_reducible apply Goes.all | with_reducible apply Goes.pur | ((with_reducible apply Goes.cons); focus ((repeat' constructor); done)) | with_reducible apply dsk_goes | with_reducible apply odk_goes)
    · rintro _ _
      have hnn := stays'_le stay torn cut i
      generalize hnn' : stays' stay torn cut i = nn at hnn ⊢
      have hg : (mget om (k : Int)).getD (List.replicate 128 0) = A.sure.getD k default := by
        rw [hO, if_pos ⟨by omega, hk3⟩]; rfl
      have hsl := getD_len hA.rows' (k := k) (by rw [hA.sure]; exact hk2)
      refine run_seq (run_sub (sc 0 rfl (sc 1 rfl (sc 2 rfl (sc 3 rfl (sc 9 rfl (sc 10 rfl (sc 13 rfl (sc 14 rfl (sc 15 rfl Sub.nil))))))))) (run_region (id := 8) ?_))
      refine ops_quiet rfl (Pure.q (p_move rfl)) ?_
      (first | refine ops_quiet rfl (Pure.q (p_nil_ptr rfl)) ?_ | refine ops_quiet rfl (Pure.q (p_nilE rfl (by (first | omega | (simp only [List.length_cons, List.length_nil, List.length_take, List.length_drop, List.length_append, List.length_map, List.length_replicate, List.length_set]; omega) | (simp; done) | (simp; omega) | rfl)))) ?_ | refine ops_quiet rfl (k_nil rfl (by (first | omega | (simp only [List.length_cons, List.length_nil, List.length_take, List.length_drop, List.length_append, List.length_map, List.length_replicate, List.length_set]; omega) | (simp; done) | (simp; omega) | rfl))) ?_ | refine ops_quiet rfl (Pure.q (p_nil_func rfl)) ?_)
      (first | refine ops_quiet rfl (Pure.q (p_fieldAddr rfl)) ?_ | refine ops_quiet rfl (Pure.q (p_fieldE rfl (by (first | omega | (simp only [List.length_cons, List.length_nil, List.length_take, List.length_drop, List.length_append, List.length_map, List.length_replicate, List.length_set]; omega) | (simp; done) | (simp; omega) | rfl)))) ?_ | refine ops_quiet rfl (k_field rfl (by (first | omega | (simp only [List.length_cons, List.length_nil, List.length_take, List.length_drop, List.length_append, List.length_map, List.length_replicate, List.length_set]; omega) | (simp; done) | (simp; omega) | rfl))) ?_)
      (first | refine ops_quiet rfl (k_load rfl rfl) ?_ | refine ops_quiet rfl (k_loadM rfl (by (first | omega | (simp only [List.length_cons, List.length_nil, List.length_take, List.length_drop, List.length_append, List.length_map, List.length_replicate, List.length_set]; omega) | (simp; done) | (simp; omega) | rfl))) ?_ | refine ops_quiet rfl (k_loadS rfl (by (first | rfl | assumption | (apply hel; omega) | (apply hel2; omega) | (apply hel3; omega)))) ?_)
      refine ops_quiet rfl (Pure.q (p_move rfl)) ?_
      refine ops_quiet rfl (m_lookupZ rfl rfl) ?_
      rw [hg]
      refine ops_step rfl (s_alloc rfl) (fun b11 => ?_)
      refine ops_step rfl (g_storeAg' (us := (A.sure.getD k default).map u8) rfl rfl (by rw [List.length_map]; exact hsl) (by simp)) (fun _ => ?_)
      refine ops_nil ?_
      rw [over_full (by rw [List.length_map, hsl]; rfl)]
      refine run_lenAt vn fun hlen2 => ?_
      refine run_sub (sc 0 rfl (sc 1 rfl (sc 2 rfl (sc 3 rfl (sc 9 rfl (sc 10 rfl (sc 11 rfl (sc 13 rfl (sc 14 rfl (sc 15 rfl Sub.nil)))))))))) (run_draw (id := 9) ⟨[3], [0, 1, 2, 4, 5, 6, 7, 8, 9], []⟩ (.cons 0 (.cons 1 (.cons 2 (.cons 3 (.cons 4 (.cons 5 (.cons 6 (.cons 7 (.cons 8 (.cons 9 (.cons 10 .nil))))))))))) ([blk x 66 [vn, .map (some m), vp, .bool A.off]]) (Goes.ent (by repeat' first | exact Goes.nil | with_reducible apply Goes.exi | with_reducible apply Goes.all | with_reducible apply Goes.pur | ((with_reducible apply Goes.cons); focus ((repeat' constructor); done)) | with_reducible apply dsk_goes | with_reducible apply odk_goes)) mixed (by kernel_rfl) panOk_body (by rfl) (by kernel_rfl) ?_)
      refine dp_pure rfl rfl rfl rfl rfl (p_move rfl) ?_
      (first | refine dp_pure rfl rfl rfl rfl rfl (p_nil_ptr rfl) ?_ | refine dp_pure rfl rfl rfl rfl rfl (p_nilE rfl (by (first | omega | (simp only [List.length_cons, List.length_nil, List.length_take, List.length_drop, List.length_append, List.length_map, List.length_replicate, List.length_set]; omega) | (simp; done) | (simp; omega) | rfl))) ?_ | refine dp_pure rfl rfl rfl rfl rfl (p_nil_func rfl) ?_)
      (first | refine dp_pure rfl rfl rfl rfl rfl (p_fieldAddr rfl) ?_ | refine dp_pure rfl rfl rfl rfl rfl (p_fieldE rfl (by (first | omega | (simp only [List.length_cons, List.length_nil, List.length_take, List.length_drop, List.length_append, List.length_map, List.length_replicate, List.length_set]; omega) | (simp; done) | (simp; omega) | rfl))) ?_)
      (first | refine dp_quiet rfl rfl rfl rfl (k_load rfl rfl) ?_ | refine dp_quiet rfl rfl rfl rfl (k_loadM rfl (by (first | omega | (simp only [List.length_cons, List.length_nil, List.length_take, List.length_drop, List.length_append, List.length_map, List.length_replicate, List.length_set]; omega) | (simp; done) | (simp; omega) | rfl))) ?_ | refine dp_quiet rfl rfl rfl rfl (k_loadS rfl (by (first | rfl | assumption | (apply hel; omega) | (apply hel2; omega) | (apply hel3; omega)))) ?_)
      refine dp_pure rfl rfl rfl rfl rfl (p_move rfl) ?_
      refine dp_pure rfl rfl rfl rfl rfl (p_indexL rfl rfl (by (first | omega | (simp only [List.length_cons, List.length_nil, List.length_take, List.length_drop, List.length_append, List.length_map, List.length_replicate, List.length_set]; omega) | (simp; done) | (simp; omega) | rfl)) (by (first | omega | (simp only [List.length_cons, List.length_nil, List.length_take, List.length_drop, List.length_append, List.length_map, List.length_replicate, List.length_set]; omega) | (simp; done) | (simp; omega) | rfl))) ?_
      refine dp_pure rfl rfl rfl rfl rfl (p_move rfl) ?_
      (first | refine dp_pure rfl rfl rfl rfl rfl (p_sliceArrE rfl rfl (by (first | omega | (simp only [List.length_cons, List.length_nil, List.length_take, List.length_drop, List.length_append, List.length_map, List.length_replicate, List.length_set]; omega) | (simp; done) | (simp; omega) | rfl)) (by (first | omega | (simp only [List.length_cons, List.length_nil, List.length_take, List.length_drop, List.length_append, List.length_map, List.length_replicate, List.length_set]; omega) | (simp; done) | (simp; omega) | rfl)) (by (first | omega | (simp only [List.length_cons, List.length_nil, List.length_take, List.length_drop, List.length_append, List.length_map, List.length_replicate, List.length_set]; omega) | (simp; done) | (simp; omega) | rfl))) ?_ | refine dp_pure rfl rfl rfl rfl rfl (p_slice_arr rfl rfl (by (first | omega | (simp only [List.length_cons, List.length_nil, List.length_take, List.length_drop, List.length_append, List.length_map, List.length_replicate, List.length_set]; omega) | (simp; done) | (simp; omega) | rfl)) (by (first | omega | (simp only [List.length_cons, List.length_nil, List.length_take, List.length_drop, List.length_append, List.length_map, List.length_replicate, List.length_set]; omega) | (simp; done) | (simp; omega) | rfl))) ?_)
      refine dp_pure rfl rfl rfl rfl rfl (p_move rfl) ?_
      (first | refine dp_pure rfl rfl rfl rfl rfl (p_sliceArrE rfl rfl (by (first | omega | (simp only [List.length_cons, List.length_nil, List.length_take, List.length_drop, List.length_append, List.length_map, List.length_replicate, List.length_set]; omega) | (simp; done) | (simp; omega) | rfl)) (by (first | omega | (simp only [List.length_cons, List.length_nil, List.length_take, List.length_drop, List.length_append, List.length_map, List.length_replicate, List.length_set]; omega) | (simp; done) | (simp; omega) | rfl)) (by (first | omega | (simp only [List.length_cons, List.length_nil, List.length_take, List.length_drop, List.length_append, List.length_map, List.length_replicate, List.length_set]; omega) | (simp; done) | (simp; omega) | rfl))) ?_ | refine dp_pure rfl rfl rfl rfl rfl (p_slice_arr rfl rfl (by (first | omega | (simp only [List.length_cons, List.length_nil, List.length_take, List.length_drop, List.length_append, List.length_map, List.length_replicate, List.length_set]; omega) | (simp; done) | (simp; omega) | rfl)) (by (first | omega | (simp only [List.length_cons, List.length_nil, List.length_take, List.length_drop, List.length_append, List.length_map, List.length_replicate, List.length_set]; omega) | (simp; done) | (simp; omega) | rfl))) ?_)
      refine dp_step rfl rfl rfl rfl (g_copySubB rfl rfl (by rw [List.length_map, hsl]; split <;> omega) (by rw [hlen2]; split <;> omega) (by omega)) (fun _ => Goes.ent (by repeat' first | exact Goes.nil | with_reducible apply Goes.exi | with_reducible apply Goes.all | with_reducible apply Goes.pur | ((with_reducible apply Goes.cons); focus ((repeat' constructor); done)) | with_reducible apply dsk_goes | with_reducible apply odk_goes)) (fun _ => ?_)
      refine dp_nil ?_
      refine run_inBlock ?_
      have hc : over ((rowsIf A n stay torn cut (fun k => A.dirty.getD k false && decide (rank A k < i))).flatten.map u8) (if 128 = (nn : Int).toNat then (k : Int).toNat * 128 else (k : Int).toNat * 128 + (nn : Int).toNat * 1)
          (List.take (min (128 - (nn : Int).toNat) (128 - (nn : Int).toNat) * 1) (List.take ((128 - (nn : Int).toNat) * 1) (List.drop (if 128 = (nn : Int).toNat then 0 else 0 + (nn : Int).toNat * 1) ((A.sure.getD k default).map u8))))
          = (rowsIf A n stay torn cut (fun k => A.dirty.getD k false && decide (rank A k < i + 1))).flatten.map u8 := by
        have hset := rowsIf_set (A := A) (n := n) (stay := stay) (torn := torn) (cut := cut) (p := fun k => A.dirty.getD k false && decide (rank A k < i)) (q := fun k => A.dirty.getD k false && decide (rank A k < i + 1)) hk2 (fun j _ => by
          by_cases e : j = k
          · subst e; rw [hk3]; simp [hk4]
          · have : A.dirty.getD j false = true → rank A j ≠ i := fun h1 h2 => e (rank_inj A h1 hk3 (h2.trans hk4.symm))
            cases hd : A.dirty.getD j false with
            | false => simp [e]
            | true =>
              have := this hd
              simp only [Bool.true_and, e, decide_false, Bool.or_false, decide_eq_decide]
              omega)
        have hget := rowsIf_get (A := A) (stay := stay) (torn := torn) (cut := cut) (fun k => A.dirty.getD k false && decide (rank A k < i)) hk2
        simp only [hk3, hk4, Bool.true_and, Nat.lt_irrefl, decide_false, Bool.false_eq_true, if_false] at hget
        have hpart := over_part (m := nn) (rowsIf_rows hA (fun k => A.dirty.getD k false && decide (rank A k < i))) (k := k) (by rw [rowsIf_len]; exact hk2) hget hsl hnn
        have hnew : newRow A stay torn cut k = (A.now.getD k default).take nn ++ (A.sure.getD k default).drop nn := by unfold newRow; rw [hk4, hnn']
        rw [← hnew, hset] at hpart
        rw [← hpart]
        have e1 : (nn : Int).toNat = nn := rfl
        have e2 : (k : Int).toNat = k := rfl
        have e3 : ((A.sure.getD k default).drop nn).length = 128 - nn := by rw [List.length_drop, hsl]
        rw [e1, e2]
        simp only [Nat.mul_one, Nat.zero_add, Nat.min_self]
        by_cases h : 128 = nn
        · subst h
          simp only [if_true, Nat.sub_self, List.take_zero]
          rw [List.drop_eq_nil_of_le (by omega)]
          simp [over]
        · rw [if_neg h, if_neg h, ← List.map_drop, List.take_take, Nat.min_self, List.take_of_length_le (by rw [List.length_map]; omega)]
      rw [hc]
      refine run_sub (sc 0 rfl (sc 1 rfl (sc 2 rfl (sc 3 rfl (sc 13 rfl (sc 14 rfl (sc 15 rfl Sub.nil))))))) (run_region (id := 10) ?_)
      refine ops_quiet rfl (Pure.q (p_add rfl rfl (by (first | exact wrap_byte _ | exact wrap_i64 (by omega) (by omega) | exact wrap_u8 (by omega) (by omega) | exact wrap_u64 (by omega) (by omega) | exact wrap_u32 (by omega) (by omega) | rfl)))) ?_
      refine ops_quiet rfl (Pure.q (p_move rfl)) ?_
      refine ops_nil ?_
      exact runs_is (i + 1) ⟨by omega, by omega⟩ (by (repeat (first | exact Sub.nil | refine Sub.cons rfl ?_))) (by repeat' first | exact Goes.nil | with_reducible apply Goes.exi | with_reducible apply Goes.all | with_reducible apply Goes.pur | ((with_reducible apply Goes.cons); focus ((repeat' constructor); done)) | with_reducible apply dsk_goes | with_reducible apply odk_goes)
  · (try simp only [decide_eq_true_eq, decide_eq_false_iff_not, Bool.not_eq_true', Bool.not_eq_false'] at h16)
    have hi2 : i = (dirtyL A n).length := by omega
    rw [show rowsIf A n stay torn cut (fun k => A.dirty.getD k false && decide (rank A k < i)) = (crashR A n stay torn cut).now from rowsIf_congr fun k hk => by
      cases hd : A.dirty.getD k false with
      | false => simp
      | true =>
        have h1 := rank_lt A hk hd
        have h2 : rank A n = (dirtyL A n).length := by unfold rank dirtyL; rw [List.length_map]
        simp; omega]
    refine run_exit rfl (run_seq (run_sub (sc 0 rfl Sub.nil) (run_region (id := 11) ?_)))
    refine ops_quiet rfl (Pure.q (p_move rfl)) ?_
    (first | refine ops_quiet rfl (Pure.q (p_nil_ptr rfl)) ?_ | refine ops_quiet rfl (Pure.q (p_nilE rfl (by (first | omega | (simp only [List.length_cons, List.length_nil, List.length_take, List.length_drop, List.length_append, List.length_map, List.length_replicate, List.length_set]; omega) | (simp; done) | (simp; omega) | rfl)))) ?_ | refine ops_quiet rfl (k_nil rfl (by (first | omega | (simp only [List.length_cons, List.length_nil, List.length_take, List.length_drop, List.length_append, List.length_map, List.length_replicate, List.length_set]; omega) | (simp; done) | (simp; omega) | rfl))) ?_ | refine ops_quiet rfl (Pure.q (p_nil_func rfl)) ?_)
    (first | refine ops_quiet rfl (Pure.q (p_fieldAddr rfl)) ?_ | refine ops_quiet rfl (Pure.q (p_fieldE rfl (by (first | omega | (simp only [List.length_cons, List.length_nil, List.length_take, List.length_drop, List.length_append, List.length_map, List.length_replicate, List.length_set]; omega) | (simp; done) | (simp; omega) | rfl)))) ?_ | refine ops_quiet rfl (k_field rfl (by (first | omega | (simp only [List.length_cons, List.length_nil, List.length_take, List.length_drop, List.length_append, List.length_map, List.length_replicate, List.length_set]; omega) | (simp; done) | (simp; omega) | rfl))) ?_)
    (first | refine ops_quiet rfl (k_load rfl rfl) ?_ | refine ops_quiet rfl (k_loadM rfl (by (first | omega | (simp only [List.length_cons, List.length_nil, List.length_take, List.length_drop, List.length_append, List.length_map, List.length_replicate, List.length_set]; omega) | (simp; done) | (simp; omega) | rfl))) ?_ | refine ops_quiet rfl (k_loadS rfl (by (first | rfl | assumption | (apply hel; omega) | (apply hel2; omega) | (apply hel3; omega)))) ?_)
    refine ops_step rfl (m_clear rfl) (fun _ => ?_)
    refine ops_nil ?_
    refine run_sub (sc 0 rfl Sub.nil) (run_region (id := 12) ?_)
    refine ops_quiet rfl (Pure.q (p_move rfl)) ?_
    refine ops_quiet rfl (Pure.q (p_move rfl)) ?_
    (first | refine ops_quiet rfl (Pure.q (p_nil_ptr rfl)) ?_ | refine ops_quiet rfl (Pure.q (p_nilE rfl (by (first | omega | (simp only [List.length_cons, List.length_nil, List.length_take, List.length_drop, List.length_append, List.length_map, List.length_replicate, List.length_set]; omega) | (simp; done) | (simp; omega) | rfl)))) ?_ | refine ops_quiet rfl (k_nil rfl (by (first | omega | (simp only [List.length_cons, List.length_nil, List.length_take, List.length_drop, List.length_append, List.length_map, List.length_replicate, List.length_set]; omega) | (simp; done) | (simp; omega) | rfl))) ?_ | refine ops_quiet rfl (Pure.q (p_nil_func rfl)) ?_)
    (first | refine ops_quiet rfl (Pure.q (p_fieldAddr rfl)) ?_ | refine ops_quiet rfl (Pure.q (p_fieldE rfl (by (first | omega | (simp only [List.length_cons, List.length_nil, List.length_take, List.length_drop, List.length_append, List.length_map, List.length_replicate, List.length_set]; omega) | (simp; done) | (simp; omega) | rfl)))) ?_ | refine ops_quiet rfl (k_field rfl (by (first | omega | (simp only [List.length_cons, List.length_nil, List.length_take, List.length_drop, List.length_append, List.length_map, List.length_replicate, List.length_set]; omega) | (simp; done) | (simp; omega) | rfl))) ?_)
    (first | refine ops_step rfl (g_store rfl rfl rfl) (fun _ => ?_) | refine ops_step rfl (g_storeM rfl rfl (by (first | omega | (simp only [List.length_cons, List.length_nil, List.length_take, List.length_drop, List.length_append, List.length_map, List.length_replicate, List.length_set]; omega) | (simp; done) | (simp; omega) | rfl))) (fun _ => ?_) | refine ops_step rfl (g_storeS rfl rfl (by (first | omega | (simp only [List.length_cons, List.length_nil, List.length_take, List.length_drop, List.length_append, List.length_map, List.length_replicate, List.length_set]; omega) | (simp; done) | (simp; omega) | rfl))) (fun _ => ?_))
    (first | refine ops_quiet rfl (Pure.q (p_nil_ptr rfl)) ?_ | refine ops_quiet rfl (Pure.q (p_nilE rfl (by (first | omega | (simp only [List.length_cons, List.length_nil, List.length_take, List.length_drop, List.length_append, List.length_map, List.length_replicate, List.length_set]; omega) | (simp; done) | (simp; omega) | rfl)))) ?_ | refine ops_quiet rfl (k_nil rfl (by (first | omega | (simp only [List.length_cons, List.length_nil, List.length_take, List.length_drop, List.length_append, List.length_map, List.length_replicate, List.length_set]; omega) | (simp; done) | (simp; omega) | rfl))) ?_ | refine ops_quiet rfl (Pure.q (p_nil_func rfl)) ?_)
    (first | refine ops_quiet rfl (Pure.q (p_fieldAddr rfl)) ?_ | refine ops_quiet rfl (Pure.q (p_fieldE rfl (by (first | omega | (simp only [List.length_cons, List.length_nil, List.length_take, List.length_drop, List.length_append, List.length_map, List.length_replicate, List.length_set]; omega) | (simp; done) | (simp; omega) | rfl)))) ?_ | refine ops_quiet rfl (k_field rfl (by (first | omega | (simp only [List.length_cons, List.length_nil, List.length_take, List.length_drop, List.length_append, List.length_map, List.length_replicate, List.length_set]; omega) | (simp; done) | (simp; omega) | rfl))) ?_)
    (first | refine ops_step rfl (g_store rfl rfl rfl) (fun _ => ?_) | refine ops_step rfl (g_storeM rfl rfl (by (first | omega | (simp only [List.length_cons, List.length_nil, List.length_take, List.length_drop, List.length_append, List.length_map, List.length_replicate, List.length_set]; omega) | (simp; done) | (simp; omega) | rfl))) (fun _ => ?_) | refine ops_step rfl (g_storeS rfl rfl (by (first | omega | (simp only [List.length_cons, List.length_nil, List.length_take, List.length_drop, List.length_append, List.length_map, List.length_replicate, List.length_set]; omega) | (simp; done) | (simp; omega) | rfl))) (fun _ => ?_))
    refine ops_nil ?_
    refine ends_none rfl rfl ?_
    (repeat' first | exact Goes.nil | with_reducible apply Goes.exi | with_reducible apply Goes.all | with_reducible apply Goes.pur | ((with_reducible apply Goes.cons); focus ((repeat' constructor); done)) | with_reducible apply dsk_goes | with_reducible apply odk_goes) <;> (first | rfl | assumption | omega | (simp [*]; done) | skip)
    · exact crashR_ok hA
    · exact olds_nil fun k => falses_getD n k
end Go.Proofs.YtaibgfnfmkpibaaGreatDoor.SL
