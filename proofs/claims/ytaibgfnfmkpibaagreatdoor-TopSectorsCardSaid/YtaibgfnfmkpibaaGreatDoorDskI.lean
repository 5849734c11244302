/- The disk: a sector is written. -/
import Derived.Test.YtaibgfnfmkpibaaGreatDoorDskH
namespace Go.Proofs.YtaibgfnfmkpibaaGreatDoor.SL
open Go
attribute [local irreducible] mp mit blk rbk pt exi pur ob orb sv pv own rsl rxs elp sub st Pure Quiet Step Run Ops Dp Fn Ent Tk Holds
attribute [local irreducible] dsk odk

theorem mget_mset {K V : Type} [DecidableEq K] {m : List (K × V)} {a : K} {b : V} (c : K) : mget (mset m a b) c = if c = a then some b else mget m c := by
  unfold mset
  split
  · rename_i hin
    induction m with
    | nil => cases hin
    | cons p m ih =>
      simp only [mget, List.map_cons, List.find?_cons] at ih ⊢
      by_cases hp : p.1 = a
      · simp only [hp, if_true]
        by_cases hc : c = a
        · simp [hc]
        · have h1 : ¬ a = c := fun h => hc h.symm
          simp only [h1, hc, decide_false, if_false]
          by_cases hin2 : a ∈ m.map (·.1)
          · have := ih hin2; rw [this, if_neg hc]
          · have : m.map (fun p => if p.1 = a then (a, b) else p) = m := by
              conv => rhs; rw [← List.map_id m]
              apply List.map_congr_left
              intro q hq
              have : ¬ q.1 = a := fun h => hin2 (List.mem_map.2 ⟨q, hq, h⟩)
              simp [this]
            rw [this]
      · have hin2 : a ∈ m.map (·.1) := by
          rcases List.mem_cons.1 hin with h | h
          · exact absurd h.symm hp
          · exact h
        simp only [hp, if_false]
        by_cases hc : p.1 = c
        · have : ¬ c = a := fun h => hp (hc.trans h)
          simp [hc, this]
        · simp only [hc, decide_false]
          exact ih hin2
  · rename_i hin
    simp only [mget, List.find?_append]
    by_cases hc : c = a
    · subst hc
      have : m.find? (fun p => decide (p.1 = c)) = none := by
        rw [List.find?_eq_none]
        intro q hq h
        exact hin (List.mem_map.2 ⟨q, hq, by simpa using h⟩)
      simp [this]
    · have h1 : ¬ a = c := fun h => hc h.symm
      cases hf : m.find? (fun p => decide (p.1 = c)) with
      | none => simp [hc, h1]
      | some q => simp [hc]

theorem olds_write {A : Dk} {n : Nat} {om : List (Int × List UInt8)} (hA : DkOk A n) (hO : Olds A om) {k : Int} (h0 : 0 ≤ k) (hk : k.toNat < n) (r : List UInt8) :
    Olds { A with now := A.now.set k.toNat r, dirty := A.dirty.set k.toNat true } (if (mget om k).isSome = true then om else mset om k (A.now.getD k.toNat default)) := by
  intro j
  have hd : k.toNat < A.dirty.length := by rw [hA.dirty]; exact hk
  show mget _ j = if 0 ≤ j ∧ (A.dirty.set k.toNat true).getD j.toNat false = true then some (A.sure.getD j.toNat default) else none
  rw [getD_set _ _ _ _ _ hd]
  have hj := hO j
  have hkk := hO k
  by_cases hs : (mget om k).isSome = true
  · rw [if_pos hs]
    by_cases e : j = k
    · subst e
      have : A.dirty.getD j.toNat false = true := by
        rw [hkk] at hs
        split at hs
        · rename_i h; exact h.2
        · cases hs
      rw [hj, this]; simp
    · by_cases hj0 : 0 ≤ j
      · have : ¬ j.toNat = k.toNat := by omega
        rw [if_neg this]; exact hj
      · rw [hj]; simp [hj0]
  · rw [if_neg hs, mget_mset]
    have hcl : A.dirty.getD k.toNat false = false := by
      cases hdk : A.dirty.getD k.toNat false with
      | false => rfl
      | true => rw [hkk, if_pos ⟨h0, hdk⟩] at hs; exact absurd rfl hs
    by_cases e : j = k
    · subst e
      have h1 := hA.clean j.toNat (by
        rw [List.getD_eq_getElem?_getD, List.getElem?_eq_getElem hd] at hcl
        rw [List.getElem?_eq_getElem hd]
        simpa using hcl)
      simp only [if_true, h0, true_and]
      rw [List.getD_eq_getElem?_getD, List.getD_eq_getElem?_getD, h1]
    · rw [if_neg e]
      by_cases hj0 : 0 ≤ j
      · have : ¬ j.toNat = k.toNat := by omega
        rw [if_neg this]; exact hj
      · rw [hj]; simp [hj0]

theorem write_spec (x : Nat) (A : Dk) (n : Nat) (k : Int) (vb : Value) (s : List UInt8) (hs : s.length ≤ 1000000) :
    Fn Tryz.prog 9 #[.pointer (some ⟨x, 0, none⟩), .int .i64 k, vb] [own 5 1 vb s.length (s.map u8), dsk x A n] (fun v => [pur (v = .int .i64 (writeR A n k s).1), dsk x (writeR A n k s).2 n]) := by
  refine fn_of_run Tryz.func9 rfl Tryz.ntmps9 (by simp) fun F => ?_
  refine run_facts vb fun _ => ?_
  simp only [List.zipIdx_cons, List.zipIdx_nil, List.map_cons, List.map_nil, Nat.zero_add, Nat.reduceAdd]
  refine run_seq (run_sub (sc 0 rfl (sc 1 rfl (sc 2 rfl Sub.nil))) (run_region (id := 0) ?_))
  refine ops_quiet rfl (Pure.q (p_assign rfl)) ?_
  refine ops_nil ?_
  refine run_seq (run_seq (run_sub (sc 0 rfl (sc 1 rfl (sc 2 rfl Sub.nil))) (run_region (id := 1) ?_)))
  refine ops_quiet rfl (Pure.q (p_move rfl)) ?_
  refine ops_quiet rfl (Pure.q (p_move rfl)) ?_
  refine ops_step rfl (g_call (.cons rfl (.cons rfl .nil)) (by (repeat' constructor); done) (has_spec _ _ _ _)) (fun u13 => ?_)
  refine ops_pur fun h13 => ?_
  subst h13
  refine ops_quiet rfl (Pure.q (p_not rfl)) ?_
  refine ops_quiet rfl (Pure.q (p_move rfl)) ?_
  refine ops_case 15 rfl (fun hg15 => ?_) (fun hg15 => ?_)
  · (try simp only [decide_eq_true_eq, decide_eq_false_iff_not, Bool.not_eq_true', Bool.not_eq_false'] at hg15)
    rw [show writeR A n k s = (1, A) from if_pos (by omega)]
    refine ops_no rfl rfl ?_
    refine ops_no rfl rfl ?_
    refine ops_no rfl rfl ?_
    refine ops_quiet rfl (Pure.q (p_pick_t rfl rfl)) ?_
    refine ops_nil ?_
    refine run_cond_t rfl (run_seq (run_sub Sub.nil (run_region (id := 2) ?_)))
    refine ops_quiet rfl (Pure.q (p_assign rfl)) ?_
    refine ops_nil ?_
    refine rets_one rfl rfl rfl ?_
    (repeat' first | exact Goes.nil | with_reducible apply Goes.exi | with_reducible apply Goes.all | with_reducible apply Goes.pur | ((with_reducible apply Goes.cons); focus ((repeat' constructor); done)) | with_reducible apply dsk_goes | with_reducible apply odk_goes) <;> (first | rfl | assumption | omega | (simp [*]; done) | skip)
  · (try simp only [decide_eq_true_eq, decide_eq_false_iff_not, Bool.not_eq_true', Bool.not_eq_false'] at hg15)
    skip
    refine ops_yes rfl ?_
    refine ops_quiet rfl (Pure.q (p_move rfl)) ?_
    refine ops_yes rfl ?_
    (first | refine ops_quiet rfl (Pure.q (p_lenL rfl)) ?_ | refine ops_quiet rfl (k_len rfl) ?_ | refine ops_quiet rfl (Pure.q (p_len_slice rfl)) ?_)
    refine ops_yes rfl ?_
    refine ops_quiet rfl (Pure.q (p_gtr rfl rfl)) ?_
    refine ops_quiet rfl (Pure.q (p_pick_f rfl rfl)) ?_
    refine ops_nil ?_
    refine run_case 19 rfl (fun h19 => run_cond_t rfl ?_) (fun h19 => run_cond_f rfl ?_)
    · (try simp only [decide_eq_true_eq, decide_eq_false_iff_not, Bool.not_eq_true', Bool.not_eq_false'] at h19)
      rw [show writeR A n k s = (1, A) from if_pos (.inr (.inr (by omega)))]
      refine run_seq (run_sub Sub.nil (run_region (id := 2) ?_))
      refine ops_quiet rfl (Pure.q (p_assign rfl)) ?_
      refine ops_nil ?_
      refine rets_one rfl rfl rfl ?_
      (repeat' first | exact Goes.nil | with_reducible apply Goes.exi | with_reducible apply Goes.all | with_reducible apply Goes.pur | ((with_reducible apply Goes.cons); focus ((repeat' constructor); done)) | with_reducible apply dsk_goes | with_reducible apply odk_goes) <;> (first | rfl | assumption | omega | (simp [*]; done) | skip)
    · (try simp only [decide_eq_true_eq, decide_eq_false_iff_not, Bool.not_eq_true', Bool.not_eq_false'] at h19)
      refine run_skip (run_seq (run_seq ?_))
      have hkn : 0 ≤ k ∧ k < n := by simpa using hg15
      have e : writeR A n k s = if (meetR A).1 = 0 then (0, { (meetR A).2 with now := (meetR A).2.now.set k.toNat (s ++ List.replicate (128 - s.length) 0), dirty := (meetR A).2.dirty.set k.toNat true }) else meetR A := if_neg (by omega)
      rw [e]
      clear e
      refine run_sub (sc 0 rfl (sc 1 rfl (sc 2 rfl Sub.nil))) (run_region (id := 3) ?_)
      refine ops_quiet rfl (Pure.q (p_move rfl)) ?_
      refine ops_step rfl (g_call (.cons rfl .nil) (by (repeat' constructor); done) (meet_spec _ _ _)) (fun u21 => ?_)
      refine ops_pur fun h21 => ?_
      subst h21
      refine ops_quiet rfl (Pure.q (p_assign rfl)) ?_
      refine ops_nil ?_
      refine run_seq ?_
      generalize meetR A = q
      obtain ⟨e, B⟩ := q
      refine run_sub (sc 0 rfl (sc 1 rfl (sc 2 rfl (sc 7 rfl Sub.nil)))) (run_region (id := 4) ?_)
      refine ops_quiet rfl (Pure.q (p_move rfl)) ?_
      refine ops_quiet rfl (Pure.q (p_neq rfl rfl)) ?_
      refine ops_nil ?_
      refine run_case 23 rfl (fun h23 => run_cond_t rfl ?_) (fun h23 => run_cond_f rfl ?_)
      · (try simp only [decide_eq_true_eq, decide_eq_false_iff_not, Bool.not_eq_true', Bool.not_eq_false'] at h23)
        rw [if_neg h23]
        refine run_seq (run_sub (sc 7 rfl Sub.nil) (run_region (id := 5) ?_))
        refine ops_quiet rfl (Pure.q (p_move rfl)) ?_
        refine ops_quiet rfl (Pure.q (p_assign rfl)) ?_
        refine ops_nil ?_
        refine rets_one rfl rfl rfl ?_
        (repeat' first | exact Goes.nil | with_reducible apply Goes.exi | with_reducible apply Goes.all | with_reducible apply Goes.pur | ((with_reducible apply Goes.cons); focus ((repeat' constructor); done)) | with_reducible apply dsk_goes | with_reducible apply odk_goes) <;> (first | rfl | assumption | omega | (simp [*]; done) | skip)
      · (try simp only [decide_eq_true_eq, decide_eq_false_iff_not, Bool.not_eq_true', Bool.not_eq_false'] at h23)
        have h23 : e = 0 := Decidable.not_not.1 h23
        subst h23
        rw [if_pos rfl]
        refine run_dsk fun vn vp m om hA hO => ?_
        dsimp only at hA hO
        refine run_facts vn fun _ => run_lenAt vn fun hlen => ?_
        have h1 := hA.now
        have h2 := hA.dirty
        have h3 := hA.n
        have h4 : k.toNat < n := by omega
        have hrow := flat_row (m := 128) (k := k.toNat) hA.rows (by omega)
        have hlr : (B.now.getD k.toNat default).length = 128 := by
          rw [List.getD_eq_getElem?_getD, List.getElem?_eq_getElem (by omega)]
          exact hA.rows _ (List.getElem_mem _)
        have hz : ((mget om k).getD (List.replicate 128 0)).length = 128 := by
          rw [hO k]
          split
          · rename_i h
            rw [Option.getD_some, List.getD_eq_getElem?_getD]
            have : k.toNat < B.sure.length := by rw [hA.sure]; omega
            rw [List.getElem?_eq_getElem this]
            exact hA.rows' _ (List.getElem_mem _)
          · simp
        refine run_skip (run_seq (run_seq (run_sub (sc 0 rfl (sc 1 rfl (sc 2 rfl Sub.nil))) (run_region (id := 6) ?_))))
        refine ops_quiet rfl (Pure.q (p_move rfl)) ?_
        (first | refine ops_quiet rfl (Pure.q (p_nil_ptr rfl)) ?_ | refine ops_quiet rfl (Pure.q (p_nilE rfl (by (first | omega | (simp only [List.length_cons, List.length_nil, List.length_take, List.length_drop, List.length_append, List.length_map, List.length_replicate, List.length_set]; omega) | (simp; done) | (simp; omega) | rfl)))) ?_ | refine ops_quiet rfl (k_nil rfl (by (first | omega | (simp only [List.length_cons, List.length_nil, List.length_take, List.length_drop, List.length_append, List.length_map, List.length_replicate, List.length_set]; omega) | (simp; done) | (simp; omega) | rfl))) ?_ | refine ops_quiet rfl (Pure.q (p_nil_func rfl)) ?_)
        (first | refine ops_quiet rfl (Pure.q (p_fieldAddr rfl)) ?_ | refine ops_quiet rfl (Pure.q (p_fieldE rfl (by (first | omega | (simp only [List.length_cons, List.length_nil, List.length_take, List.length_drop, List.length_append, List.length_map, List.length_replicate, List.length_set]; omega) | (simp; done) | (simp; omega) | rfl)))) ?_ | refine ops_quiet rfl (k_field rfl (by (first | omega | (simp only [List.length_cons, List.length_nil, List.length_take, List.length_drop, List.length_append, List.length_map, List.length_replicate, List.length_set]; omega) | (simp; done) | (simp; omega) | rfl))) ?_)
        (first | refine ops_quiet rfl (k_load rfl rfl) ?_ | refine ops_quiet rfl (k_loadM rfl (by (first | omega | (simp only [List.length_cons, List.length_nil, List.length_take, List.length_drop, List.length_append, List.length_map, List.length_replicate, List.length_set]; omega) | (simp; done) | (simp; omega) | rfl))) ?_ | refine ops_quiet rfl (k_loadS rfl (by (first | rfl | assumption | (apply hel; omega) | (apply hel2; omega) | (apply hel3; omega)))) ?_)
        refine ops_quiet rfl (Pure.q (p_move rfl)) ?_
        refine ops_quiet rfl (m_lookupZk rfl rfl) ?_
        refine ops_quiet rfl (Pure.q (p_move rfl)) ?_
        (first | refine ops_quiet rfl (Pure.q (p_extractL rfl rfl)) ?_ | refine ops_quiet rfl (Pure.q (p_extract rfl rfl)) ?_)
        (first | refine ops_quiet rfl (Pure.q (p_extractL rfl rfl)) ?_ | refine ops_quiet rfl (Pure.q (p_extract rfl rfl)) ?_)
        refine ops_step rfl (s_alloc rfl) (fun b8 => ?_)
        refine ops_step rfl (g_storeAg' (us := ((mget om k).getD (List.replicate 128 0)).map u8) rfl rfl (by rw [List.length_map]; exact hz) (by simp)) (fun _ => ?_)
        refine ops_quiet rfl (Pure.q (p_assign rfl)) ?_
        refine ops_nil ?_
        refine run_seq (run_sub (sc 0 rfl (sc 1 rfl (sc 2 rfl (sc 9 rfl Sub.nil)))) (run_region (id := 7) ?_))
        refine ops_quiet rfl (Pure.q (p_move rfl)) ?_
        refine ops_quiet rfl (Pure.q (p_not rfl)) ?_
        refine ops_nil ?_
        refine run_case 35 rfl (fun h35 => run_cond_t rfl ?_) (fun h35 => run_cond_f rfl ?_)
        · (try simp only [decide_eq_true_eq, decide_eq_false_iff_not, Bool.not_eq_true', Bool.not_eq_false'] at h35)
          have h35' : ¬ (mget om k).isSome = true := by rw [h35]; exact Bool.false_ne_true
          refine run_sub (sc 0 rfl (sc 1 rfl (sc 2 rfl Sub.nil))) (run_draw (id := 8) ⟨[3, 8, 11], [0, 1, 2, 4, 5, 6, 7, 9, 10], [12]⟩ (.cons 0 (.cons 1 (.cons 2 (.cons 3 (.cons 4 (.cons 5 (.cons 6 (.cons 7 (.cons 8 (.cons 9 (.cons 10 (.cons 11 (.cons 12 .nil))))))))))))) _ (Ent.refl _) mixed (by kernel_rfl) panOk_body (by rfl) (by kernel_rfl) ?_)
          refine dp_pure rfl rfl rfl rfl rfl (p_move rfl) ?_
          (first | refine dp_pure rfl rfl rfl rfl rfl (p_nil_ptr rfl) ?_ | refine dp_pure rfl rfl rfl rfl rfl (p_nilE rfl (by (first | omega | (simp only [List.length_cons, List.length_nil, List.length_take, List.length_drop, List.length_append, List.length_map, List.length_replicate, List.length_set]; omega) | (simp; done) | (simp; omega) | rfl))) ?_ | refine dp_pure rfl rfl rfl rfl rfl (p_nil_func rfl) ?_)
          (first | refine dp_pure rfl rfl rfl rfl rfl (p_fieldAddr rfl) ?_ | refine dp_pure rfl rfl rfl rfl rfl (p_fieldE rfl (by (first | omega | (simp only [List.length_cons, List.length_nil, List.length_take, List.length_drop, List.length_append, List.length_map, List.length_replicate, List.length_set]; omega) | (simp; done) | (simp; omega) | rfl))) ?_)
          (first | refine dp_quiet rfl rfl rfl rfl (k_load rfl rfl) ?_ | refine dp_quiet rfl rfl rfl rfl (k_loadM rfl (by (first | omega | (simp only [List.length_cons, List.length_nil, List.length_take, List.length_drop, List.length_append, List.length_map, List.length_replicate, List.length_set]; omega) | (simp; done) | (simp; omega) | rfl))) ?_ | refine dp_quiet rfl rfl rfl rfl (k_loadS rfl (by (first | rfl | assumption | (apply hel; omega) | (apply hel2; omega) | (apply hel3; omega)))) ?_)
          refine dp_pure rfl rfl rfl rfl rfl (p_move rfl) ?_
          refine dp_pure rfl rfl rfl rfl rfl (p_move rfl) ?_
          (first | refine dp_pure rfl rfl rfl rfl rfl (p_nil_ptr rfl) ?_ | refine dp_pure rfl rfl rfl rfl rfl (p_nilE rfl (by (first | omega | (simp only [List.length_cons, List.length_nil, List.length_take, List.length_drop, List.length_append, List.length_map, List.length_replicate, List.length_set]; omega) | (simp; done) | (simp; omega) | rfl))) ?_ | refine dp_pure rfl rfl rfl rfl rfl (p_nil_func rfl) ?_)
          (first | refine dp_pure rfl rfl rfl rfl rfl (p_fieldAddr rfl) ?_ | refine dp_pure rfl rfl rfl rfl rfl (p_fieldE rfl (by (first | omega | (simp only [List.length_cons, List.length_nil, List.length_take, List.length_drop, List.length_append, List.length_map, List.length_replicate, List.length_set]; omega) | (simp; done) | (simp; omega) | rfl))) ?_)
          (first | refine dp_quiet rfl rfl rfl rfl (k_load rfl rfl) ?_ | refine dp_quiet rfl rfl rfl rfl (k_loadM rfl (by (first | omega | (simp only [List.length_cons, List.length_nil, List.length_take, List.length_drop, List.length_append, List.length_map, List.length_replicate, List.length_set]; omega) | (simp; done) | (simp; omega) | rfl))) ?_ | refine dp_quiet rfl rfl rfl rfl (k_loadS rfl (by (first | rfl | assumption | (apply hel; omega) | (apply hel2; omega) | (apply hel3; omega)))) ?_)
          refine dp_pure rfl rfl rfl rfl rfl (p_move rfl) ?_
          refine dp_pure rfl rfl rfl rfl rfl (p_indexL rfl rfl (by (first | omega | (simp only [List.length_cons, List.length_nil, List.length_take, List.length_drop, List.length_append, List.length_map, List.length_replicate, List.length_set]; omega) | (simp; done) | (simp; omega) | rfl)) (by (first | omega | (simp only [List.length_cons, List.length_nil, List.length_take, List.length_drop, List.length_append, List.length_map, List.length_replicate, List.length_set]; omega) | (simp; done) | (simp; omega) | rfl))) ?_
          refine dp_quiet rfl rfl rfl rfl (k_loadAgS (us := (B.now.getD k.toNat default).map u8) rfl (by rw [← List.map_drop, ← List.map_take]; exact congrArg _ hrow) (by rw [List.length_map]; exact hlr) rfl) ?_
          refine dp_last rfl rfl rfl rfl rfl (m_update (g := secV) (b := B.now.getD k.toNat default) rfl rfl rfl rfl) (fun _ => ?_)
          refine dp_nil ?_
          refine run_seq (run_sub (sc 0 rfl (sc 1 rfl (sc 2 rfl Sub.nil))) (run_region (id := 9) ?_))
          refine ops_quiet rfl (Pure.q (p_move rfl)) ?_
          (first | refine ops_quiet rfl (Pure.q (p_nil_ptr rfl)) ?_ | refine ops_quiet rfl (Pure.q (p_nilE rfl (by (first | omega | (simp only [List.length_cons, List.length_nil, List.length_take, List.length_drop, List.length_append, List.length_map, List.length_replicate, List.length_set]; omega) | (simp; done) | (simp; omega) | rfl)))) ?_ | refine ops_quiet rfl (k_nil rfl (by (first | omega | (simp only [List.length_cons, List.length_nil, List.length_take, List.length_drop, List.length_append, List.length_map, List.length_replicate, List.length_set]; omega) | (simp; done) | (simp; omega) | rfl))) ?_ | refine ops_quiet rfl (Pure.q (p_nil_func rfl)) ?_)
          (first | refine ops_quiet rfl (Pure.q (p_fieldAddr rfl)) ?_ | refine ops_quiet rfl (Pure.q (p_fieldE rfl (by (first | omega | (simp only [List.length_cons, List.length_nil, List.length_take, List.length_drop, List.length_append, List.length_map, List.length_replicate, List.length_set]; omega) | (simp; done) | (simp; omega) | rfl)))) ?_ | refine ops_quiet rfl (k_field rfl (by (first | omega | (simp only [List.length_cons, List.length_nil, List.length_take, List.length_drop, List.length_append, List.length_map, List.length_replicate, List.length_set]; omega) | (simp; done) | (simp; omega) | rfl))) ?_)
          (first | refine ops_quiet rfl (k_load rfl rfl) ?_ | refine ops_quiet rfl (k_loadM rfl (by (first | omega | (simp only [List.length_cons, List.length_nil, List.length_take, List.length_drop, List.length_append, List.length_map, List.length_replicate, List.length_set]; omega) | (simp; done) | (simp; omega) | rfl))) ?_ | refine ops_quiet rfl (k_loadS rfl (by (first | rfl | assumption | (apply hel; omega) | (apply hel2; omega) | (apply hel3; omega)))) ?_)
          refine ops_quiet rfl (Pure.q (p_move rfl)) ?_
          (first | refine ops_quiet rfl (Pure.q (p_indexL rfl rfl (by (first | omega | (simp only [List.length_cons, List.length_nil, List.length_take, List.length_drop, List.length_append, List.length_map, List.length_replicate, List.length_set]; omega) | (simp; done) | (simp; omega) | rfl)) (by (first | omega | (simp only [List.length_cons, List.length_nil, List.length_take, List.length_drop, List.length_append, List.length_map, List.length_replicate, List.length_set]; omega) | (simp; done) | (simp; omega) | rfl)))) ?_ | refine ops_quiet rfl (k_index rfl rfl (by (first | omega | (simp only [List.length_cons, List.length_nil, List.length_take, List.length_drop, List.length_append, List.length_map, List.length_replicate, List.length_set]; omega) | (simp; done) | (simp; omega) | rfl)) (by (first | omega | (simp only [List.length_cons, List.length_nil, List.length_take, List.length_drop, List.length_append, List.length_map, List.length_replicate, List.length_set]; omega) | (simp; done) | (simp; omega) | rfl))) ?_)
          (first | refine ops_quiet rfl (Pure.q (p_sliceArrE0 rfl (by (first | omega | (simp only [List.length_cons, List.length_nil, List.length_take, List.length_drop, List.length_append, List.length_map, List.length_replicate, List.length_set]; omega) | (simp; done) | (simp; omega) | rfl)))) ?_ | refine ops_quiet rfl (k_sliceArr0 rfl (by (first | omega | (simp only [List.length_cons, List.length_nil, List.length_take, List.length_drop, List.length_append, List.length_map, List.length_replicate, List.length_set]; omega) | (simp; done) | (simp; omega) | rfl))) ?_ | refine ops_quiet rfl (Pure.q (p_slice_arr0 rfl)) ?_)
          refine ops_quiet rfl (Pure.q (p_move rfl)) ?_
          refine ops_step rfl (g_copySub rfl rfl rfl (by (first | omega | (simp only [List.length_cons, List.length_nil, List.length_take, List.length_drop, List.length_append, List.length_map, List.length_replicate, List.length_set]; omega) | (simp; done) | (simp; omega) | rfl)) (by (first | omega | (simp only [List.length_cons, List.length_nil, List.length_take, List.length_drop, List.length_append, List.length_map, List.length_replicate, List.length_set]; omega) | (simp; done) | (simp; omega) | rfl))) (fun _ => ?_)
          refine ops_quiet rfl (Pure.q (p_assign rfl)) ?_
          refine ops_nil ?_
          refine run_seq ?_
          refine run_lenAt vn fun hlen2 => ?_
          refine run_sub (sc 0 rfl (sc 1 rfl (sc 10 rfl Sub.nil))) (run_region (id := 10) ?_)
          refine ops_quiet rfl (Pure.q (p_move rfl)) ?_
          (first | refine ops_quiet rfl (Pure.q (p_nil_ptr rfl)) ?_ | refine ops_quiet rfl (Pure.q (p_nilE rfl (by (first | omega | (simp only [List.length_cons, List.length_nil, List.length_take, List.length_drop, List.length_append, List.length_map, List.length_replicate, List.length_set]; omega) | (simp; done) | (simp; omega) | rfl)))) ?_ | refine ops_quiet rfl (k_nil rfl (by (first | omega | (simp only [List.length_cons, List.length_nil, List.length_take, List.length_drop, List.length_append, List.length_map, List.length_replicate, List.length_set]; omega) | (simp; done) | (simp; omega) | rfl))) ?_ | refine ops_quiet rfl (Pure.q (p_nil_func rfl)) ?_)
          (first | refine ops_quiet rfl (Pure.q (p_fieldAddr rfl)) ?_ | refine ops_quiet rfl (Pure.q (p_fieldE rfl (by (first | omega | (simp only [List.length_cons, List.length_nil, List.length_take, List.length_drop, List.length_append, List.length_map, List.length_replicate, List.length_set]; omega) | (simp; done) | (simp; omega) | rfl)))) ?_ | refine ops_quiet rfl (k_field rfl (by (first | omega | (simp only [List.length_cons, List.length_nil, List.length_take, List.length_drop, List.length_append, List.length_map, List.length_replicate, List.length_set]; omega) | (simp; done) | (simp; omega) | rfl))) ?_)
          (first | refine ops_quiet rfl (k_load rfl rfl) ?_ | refine ops_quiet rfl (k_loadM rfl (by (first | omega | (simp only [List.length_cons, List.length_nil, List.length_take, List.length_drop, List.length_append, List.length_map, List.length_replicate, List.length_set]; omega) | (simp; done) | (simp; omega) | rfl))) ?_ | refine ops_quiet rfl (k_loadS rfl (by (first | rfl | assumption | (apply hel; omega) | (apply hel2; omega) | (apply hel3; omega)))) ?_)
          refine ops_quiet rfl (Pure.q (p_move rfl)) ?_
          (first | refine ops_quiet rfl (Pure.q (p_indexL rfl rfl (by (first | omega | (simp only [List.length_cons, List.length_nil, List.length_take, List.length_drop, List.length_append, List.length_map, List.length_replicate, List.length_set]; omega) | (simp; done) | (simp; omega) | rfl)) (by (first | omega | (simp only [List.length_cons, List.length_nil, List.length_take, List.length_drop, List.length_append, List.length_map, List.length_replicate, List.length_set]; omega) | (simp; done) | (simp; omega) | rfl)))) ?_ | refine ops_quiet rfl (k_index rfl rfl (by (first | omega | (simp only [List.length_cons, List.length_nil, List.length_take, List.length_drop, List.length_append, List.length_map, List.length_replicate, List.length_set]; omega) | (simp; done) | (simp; omega) | rfl)) (by (first | omega | (simp only [List.length_cons, List.length_nil, List.length_take, List.length_drop, List.length_append, List.length_map, List.length_replicate, List.length_set]; omega) | (simp; done) | (simp; omega) | rfl))) ?_)
          refine ops_quiet rfl (Pure.q (p_move rfl)) ?_
          (first | refine ops_quiet rfl (Pure.q (p_sliceArrE rfl rfl (by (first | omega | (simp only [List.length_cons, List.length_nil, List.length_take, List.length_drop, List.length_append, List.length_map, List.length_replicate, List.length_set]; omega) | (simp; done) | (simp; omega) | rfl)) (by (first | omega | (simp only [List.length_cons, List.length_nil, List.length_take, List.length_drop, List.length_append, List.length_map, List.length_replicate, List.length_set]; omega) | (simp; done) | (simp; omega) | rfl)) (by (first | omega | (simp only [List.length_cons, List.length_nil, List.length_take, List.length_drop, List.length_append, List.length_map, List.length_replicate, List.length_set]; omega) | (simp; done) | (simp; omega) | rfl)))) ?_ | refine ops_quiet rfl (k_sliceArr rfl rfl (by (first | omega | (simp only [List.length_cons, List.length_nil, List.length_take, List.length_drop, List.length_append, List.length_map, List.length_replicate, List.length_set]; omega) | (simp; done) | (simp; omega) | rfl)) (by (first | omega | (simp only [List.length_cons, List.length_nil, List.length_take, List.length_drop, List.length_append, List.length_map, List.length_replicate, List.length_set]; omega) | (simp; done) | (simp; omega) | rfl)) (by (first | omega | (simp only [List.length_cons, List.length_nil, List.length_take, List.length_drop, List.length_append, List.length_map, List.length_replicate, List.length_set]; omega) | (simp; done) | (simp; omega) | rfl))) ?_ | refine ops_quiet rfl (Pure.q (p_slice_arr rfl rfl (by (first | omega | (simp only [List.length_cons, List.length_nil, List.length_take, List.length_drop, List.length_append, List.length_map, List.length_replicate, List.length_set]; omega) | (simp; done) | (simp; omega) | rfl)) (by (first | omega | (simp only [List.length_cons, List.length_nil, List.length_take, List.length_drop, List.length_append, List.length_map, List.length_replicate, List.length_set]; omega) | (simp; done) | (simp; omega) | rfl)))) ?_)
          have hcl : (if 128 = (↑(min s.length 128) : Int).toNat then k.toNat * 128 else k.toNat * 128 + (↑(min s.length 128) : Int).toNat * 1) + (128 - (↑(min s.length 128) : Int).toNat) * 1 ≤ (over (List.map u8 (0, B).snd.now.flatten) (k.toNat * 128) (List.take (min s.length 128 * 1) (List.map u8 s))).length := by
            rw [hlen2]; split <;> omega
          refine ops_step rfl (g_clearSub (zs := [.int .u8 0]) rfl hcl (by omega) rfl) (fun _ => ?_)
          refine ops_nil ?_
          refine run_seq ?_
          have hc : over (over (B.now.flatten.map u8) (k.toNat * 128) ((s.map u8).take (min s.length 128 * 1))) (if 128 = (↑(min s.length 128) : Int).toNat then k.toNat * 128 else k.toNat * 128 + (↑(min s.length 128) : Int).toNat * 1) (List.replicate (128 - (↑(min s.length 128) : Int).toNat) [Value.int .u8 0]).flatten = ((B.now.set k.toNat (s ++ List.replicate (128 - s.length) 0)).flatten).map u8 := by
            have hmin : (↑(min s.length 128) : Int).toNat = s.length := by omega
            have hmin2 : min s.length 128 = s.length := by omega
            rw [hmin, hmin2, Nat.mul_one, List.take_of_length_le (by simp), (nrm_rep (f := u8) (u := Value.int .u8 0) (c := 0)).out, ← over_flat hA.rows (by simp; omega) (by omega), List.map_append]
            have hl2 : k.toNat * 128 + 128 ≤ (B.now.flatten.map u8).length := by
              have : (B.now.flatten.map u8).length = n * 128 := hlen
              omega
            by_cases h128 : 128 = s.length
            · rw [if_pos h128, ← h128]
              simp only [Nat.sub_self, List.replicate_zero, List.map_nil, List.append_nil]
              unfold over
              simp
            · rw [if_neg h128]
              have := over_over (vs := B.now.flatten.map u8) (us := s.map u8) (ws := (List.replicate (128 - s.length) (0 : UInt8)).map u8) (o := k.toNat * 128) (by simp; simp at hl2; omega)
              rw [List.length_map] at this
              exact this
          dsimp only
          rw [hc]
          have ho := olds_write hA hO hkn.1 h4 (s ++ List.replicate (128 - s.length) 0)
          refine run_sub Sub.nil (run_region (id := 11) ?_)
          refine ops_quiet rfl (Pure.q (p_assign rfl)) ?_
          refine ops_nil ?_
          refine rets_one rfl rfl rfl ?_
          rw [if_neg h35'] at ho
          (repeat' first | exact Goes.nil | with_reducible apply Goes.exi | with_reducible apply Goes.all | with_reducible apply Goes.pur | ((with_reducible apply Goes.cons); focus ((repeat' constructor); done)) | with_reducible apply dsk_goes | with_reducible apply odk_goes) <;> (first | rfl | assumption | omega | (simp [*]; done) | skip)
          all_goals first | exact writeR_ok (s := s) hA h4 (by omega) | exact ho
        · (try simp only [decide_eq_true_eq, decide_eq_false_iff_not, Bool.not_eq_true', Bool.not_eq_false'] at h35)
          skip
          refine run_skip (run_seq (run_sub (sc 0 rfl (sc 1 rfl (sc 2 rfl Sub.nil))) (run_region (id := 9) ?_)))
          refine ops_quiet rfl (Pure.q (p_move rfl)) ?_
          (first | refine ops_quiet rfl (Pure.q (p_nil_ptr rfl)) ?_ | refine ops_quiet rfl (Pure.q (p_nilE rfl (by (first | omega | (simp only [List.length_cons, List.length_nil, List.length_take, List.length_drop, List.length_append, List.length_map, List.length_replicate, List.length_set]; omega) | (simp; done) | (simp; omega) | rfl)))) ?_ | refine ops_quiet rfl (k_nil rfl (by (first | omega | (simp only [List.length_cons, List.length_nil, List.length_take, List.length_drop, List.length_append, List.length_map, List.length_replicate, List.length_set]; omega) | (simp; done) | (simp; omega) | rfl))) ?_ | refine ops_quiet rfl (Pure.q (p_nil_func rfl)) ?_)
          (first | refine ops_quiet rfl (Pure.q (p_fieldAddr rfl)) ?_ | refine ops_quiet rfl (Pure.q (p_fieldE rfl (by (first | omega | (simp only [List.length_cons, List.length_nil, List.length_take, List.length_drop, List.length_append, List.length_map, List.length_replicate, List.length_set]; omega) | (simp; done) | (simp; omega) | rfl)))) ?_ | refine ops_quiet rfl (k_field rfl (by (first | omega | (simp only [List.length_cons, List.length_nil, List.length_take, List.length_drop, List.length_append, List.length_map, List.length_replicate, List.length_set]; omega) | (simp; done) | (simp; omega) | rfl))) ?_)
          (first | refine ops_quiet rfl (k_load rfl rfl) ?_ | refine ops_quiet rfl (k_loadM rfl (by (first | omega | (simp only [List.length_cons, List.length_nil, List.length_take, List.length_drop, List.length_append, List.length_map, List.length_replicate, List.length_set]; omega) | (simp; done) | (simp; omega) | rfl))) ?_ | refine ops_quiet rfl (k_loadS rfl (by (first | rfl | assumption | (apply hel; omega) | (apply hel2; omega) | (apply hel3; omega)))) ?_)
          refine ops_quiet rfl (Pure.q (p_move rfl)) ?_
          (first | refine ops_quiet rfl (Pure.q (p_indexL rfl rfl (by (first | omega | (simp only [List.length_cons, List.length_nil, List.length_take, List.length_drop, List.length_append, List.length_map, List.length_replicate, List.length_set]; omega) | (simp; done) | (simp; omega) | rfl)) (by (first | omega | (simp only [List.length_cons, List.length_nil, List.length_take, List.length_drop, List.length_append, List.length_map, List.length_replicate, List.length_set]; omega) | (simp; done) | (simp; omega) | rfl)))) ?_ | refine ops_quiet rfl (k_index rfl rfl (by (first | omega | (simp only [List.length_cons, List.length_nil, List.length_take, List.length_drop, List.length_append, List.length_map, List.length_replicate, List.length_set]; omega) | (simp; done) | (simp; omega) | rfl)) (by (first | omega | (simp only [List.length_cons, List.length_nil, List.length_take, List.length_drop, List.length_append, List.length_map, List.length_replicate, List.length_set]; omega) | (simp; done) | (simp; omega) | rfl))) ?_)
          (first | refine ops_quiet rfl (Pure.q (p_sliceArrE0 rfl (by (first | omega | (simp only [List.length_cons, List.length_nil, List.length_take, List.length_drop, List.length_append, List.length_map, List.length_replicate, List.length_set]; omega) | (simp; done) | (simp; omega) | rfl)))) ?_ | refine ops_quiet rfl (k_sliceArr0 rfl (by (first | omega | (simp only [List.length_cons, List.length_nil, List.length_take, List.length_drop, List.length_append, List.length_map, List.length_replicate, List.length_set]; omega) | (simp; done) | (simp; omega) | rfl))) ?_ | refine ops_quiet rfl (Pure.q (p_slice_arr0 rfl)) ?_)
          refine ops_quiet rfl (Pure.q (p_move rfl)) ?_
          refine ops_step rfl (g_copySub rfl rfl rfl (by (first | omega | (simp only [List.length_cons, List.length_nil, List.length_take, List.length_drop, List.length_append, List.length_map, List.length_replicate, List.length_set]; omega) | (simp; done) | (simp; omega) | rfl)) (by (first | omega | (simp only [List.length_cons, List.length_nil, List.length_take, List.length_drop, List.length_append, List.length_map, List.length_replicate, List.length_set]; omega) | (simp; done) | (simp; omega) | rfl))) (fun _ => ?_)
          refine ops_quiet rfl (Pure.q (p_assign rfl)) ?_
          refine ops_nil ?_
          refine run_seq ?_
          refine run_lenAt vn fun hlen2 => ?_
          refine run_sub (sc 0 rfl (sc 1 rfl (sc 10 rfl Sub.nil))) (run_region (id := 10) ?_)
          refine ops_quiet rfl (Pure.q (p_move rfl)) ?_
          (first | refine ops_quiet rfl (Pure.q (p_nil_ptr rfl)) ?_ | refine ops_quiet rfl (Pure.q (p_nilE rfl (by (first | omega | (simp only [List.length_cons, List.length_nil, List.length_take, List.length_drop, List.length_append, List.length_map, List.length_replicate, List.length_set]; omega) | (simp; done) | (simp; omega) | rfl)))) ?_ | refine ops_quiet rfl (k_nil rfl (by (first | omega | (simp only [List.length_cons, List.length_nil, List.length_take, List.length_drop, List.length_append, List.length_map, List.length_replicate, List.length_set]; omega) | (simp; done) | (simp; omega) | rfl))) ?_ | refine ops_quiet rfl (Pure.q (p_nil_func rfl)) ?_)
          (first | refine ops_quiet rfl (Pure.q (p_fieldAddr rfl)) ?_ | refine ops_quiet rfl (Pure.q (p_fieldE rfl (by (first | omega | (simp only [List.length_cons, List.length_nil, List.length_take, List.length_drop, List.length_append, List.length_map, List.length_replicate, List.length_set]; omega) | (simp; done) | (simp; omega) | rfl)))) ?_ | refine ops_quiet rfl (k_field rfl (by (first | omega | (simp only [List.length_cons, List.length_nil, List.length_take, List.length_drop, List.length_append, List.length_map, List.length_replicate, List.length_set]; omega) | (simp; done) | (simp; omega) | rfl))) ?_)
          (first | refine ops_quiet rfl (k_load rfl rfl) ?_ | refine ops_quiet rfl (k_loadM rfl (by (first | omega | (simp only [List.length_cons, List.length_nil, List.length_take, List.length_drop, List.length_append, List.length_map, List.length_replicate, List.length_set]; omega) | (simp; done) | (simp; omega) | rfl))) ?_ | refine ops_quiet rfl (k_loadS rfl (by (first | rfl | assumption | (apply hel; omega) | (apply hel2; omega) | (apply hel3; omega)))) ?_)
          refine ops_quiet rfl (Pure.q (p_move rfl)) ?_
          (first | refine ops_quiet rfl (Pure.q (p_indexL rfl rfl (by (first | omega | (simp only [List.length_cons, List.length_nil, List.length_take, List.length_drop, List.length_append, List.length_map, List.length_replicate, List.length_set]; omega) | (simp; done) | (simp; omega) | rfl)) (by (first | omega | (simp only [List.length_cons, List.length_nil, List.length_take, List.length_drop, List.length_append, List.length_map, List.length_replicate, List.length_set]; omega) | (simp; done) | (simp; omega) | rfl)))) ?_ | refine ops_quiet rfl (k_index rfl rfl (by (first | omega | (simp only [List.length_cons, List.length_nil, List.length_take, List.length_drop, List.length_append, List.length_map, List.length_replicate, List.length_set]; omega) | (simp; done) | (simp; omega) | rfl)) (by (first | omega | (simp only [List.length_cons, List.length_nil, List.length_take, List.length_drop, List.length_append, List.length_map, List.length_replicate, List.length_set]; omega) | (simp; done) | (simp; omega) | rfl))) ?_)
          refine ops_quiet rfl (Pure.q (p_move rfl)) ?_
          (first | refine ops_quiet rfl (Pure.q (p_sliceArrE rfl rfl (by (first | omega | (simp only [List.length_cons, List.length_nil, List.length_take, List.length_drop, List.length_append, List.length_map, List.length_replicate, List.length_set]; omega) | (simp; done) | (simp; omega) | rfl)) (by (first | omega | (simp only [List.length_cons, List.length_nil, List.length_take, List.length_drop, List.length_append, List.length_map, List.length_replicate, List.length_set]; omega) | (simp; done) | (simp; omega) | rfl)) (by (first | omega | (simp only [List.length_cons, List.length_nil, List.length_take, List.length_drop, List.length_append, List.length_map, List.length_replicate, List.length_set]; omega) | (simp; done) | (simp; omega) | rfl)))) ?_ | refine ops_quiet rfl (k_sliceArr rfl rfl (by (first | omega | (simp only [List.length_cons, List.length_nil, List.length_take, List.length_drop, List.length_append, List.length_map, List.length_replicate, List.length_set]; omega) | (simp; done) | (simp; omega) | rfl)) (by (first | omega | (simp only [List.length_cons, List.length_nil, List.length_take, List.length_drop, List.length_append, List.length_map, List.length_replicate, List.length_set]; omega) | (simp; done) | (simp; omega) | rfl)) (by (first | omega | (simp only [List.length_cons, List.length_nil, List.length_take, List.length_drop, List.length_append, List.length_map, List.length_replicate, List.length_set]; omega) | (simp; done) | (simp; omega) | rfl))) ?_ | refine ops_quiet rfl (Pure.q (p_slice_arr rfl rfl (by (first | omega | (simp only [List.length_cons, List.length_nil, List.length_take, List.length_drop, List.length_append, List.length_map, List.length_replicate, List.length_set]; omega) | (simp; done) | (simp; omega) | rfl)) (by (first | omega | (simp only [List.length_cons, List.length_nil, List.length_take, List.length_drop, List.length_append, List.length_map, List.length_replicate, List.length_set]; omega) | (simp; done) | (simp; omega) | rfl)))) ?_)
          have hcl : (if 128 = (↑(min s.length 128) : Int).toNat then k.toNat * 128 else k.toNat * 128 + (↑(min s.length 128) : Int).toNat * 1) + (128 - (↑(min s.length 128) : Int).toNat) * 1 ≤ (over (List.map u8 (0, B).snd.now.flatten) (k.toNat * 128) (List.take (min s.length 128 * 1) (List.map u8 s))).length := by
            rw [hlen2]; split <;> omega
          refine ops_step rfl (g_clearSub (zs := [.int .u8 0]) rfl hcl (by omega) rfl) (fun _ => ?_)
          refine ops_nil ?_
          refine run_seq ?_
          have hc : over (over (B.now.flatten.map u8) (k.toNat * 128) ((s.map u8).take (min s.length 128 * 1))) (if 128 = (↑(min s.length 128) : Int).toNat then k.toNat * 128 else k.toNat * 128 + (↑(min s.length 128) : Int).toNat * 1) (List.replicate (128 - (↑(min s.length 128) : Int).toNat) [Value.int .u8 0]).flatten = ((B.now.set k.toNat (s ++ List.replicate (128 - s.length) 0)).flatten).map u8 := by
            have hmin : (↑(min s.length 128) : Int).toNat = s.length := by omega
            have hmin2 : min s.length 128 = s.length := by omega
            rw [hmin, hmin2, Nat.mul_one, List.take_of_length_le (by simp), (nrm_rep (f := u8) (u := Value.int .u8 0) (c := 0)).out, ← over_flat hA.rows (by simp; omega) (by omega), List.map_append]
            have hl2 : k.toNat * 128 + 128 ≤ (B.now.flatten.map u8).length := by
              have : (B.now.flatten.map u8).length = n * 128 := hlen
              omega
            by_cases h128 : 128 = s.length
            · rw [if_pos h128, ← h128]
              simp only [Nat.sub_self, List.replicate_zero, List.map_nil, List.append_nil]
              unfold over
              simp
            · rw [if_neg h128]
              have := over_over (vs := B.now.flatten.map u8) (us := s.map u8) (ws := (List.replicate (128 - s.length) (0 : UInt8)).map u8) (o := k.toNat * 128) (by simp; simp at hl2; omega)
              rw [List.length_map] at this
              exact this
          dsimp only
          rw [hc]
          have ho := olds_write hA hO hkn.1 h4 (s ++ List.replicate (128 - s.length) 0)
          refine run_sub Sub.nil (run_region (id := 11) ?_)
          refine ops_quiet rfl (Pure.q (p_assign rfl)) ?_
          refine ops_nil ?_
          refine rets_one rfl rfl rfl ?_
          rw [if_pos h35] at ho
          (repeat' first | exact Goes.nil | with_reducible apply Goes.exi | with_reducible apply Goes.all | with_reducible apply Goes.pur | ((with_reducible apply Goes.cons); focus ((repeat' constructor); done)) | with_reducible apply dsk_goes | with_reducible apply odk_goes) <;> (first | rfl | assumption | omega | (simp [*]; done) | skip)
          all_goals first | exact writeR_ok (s := s) hA h4 (by omega) | exact ho
end Go.Proofs.YtaibgfnfmkpibaaGreatDoor.SL
