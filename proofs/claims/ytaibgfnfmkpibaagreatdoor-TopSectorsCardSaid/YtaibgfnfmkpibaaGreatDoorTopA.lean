/- The law of the sectors: the law's own text. -/
import Derived.Test.YtaibgfnfmkpibaaGreatDoorDskN
import Derived.Test.YtaibgfnfmkpibaaGreatDoorDskE
import Derived.Test.YtaibgfnfmkpibaaGreatDoorRawD
namespace Go.Proofs.YtaibgfnfmkpibaaGreatDoor.SL
open Go
attribute [local irreducible] mp mit blk rbk pt exi pur ob orb sv pv own rsl rxs elp sub st Pure Quiet Step Run Ops Dp Fn Ent Tk Holds
attribute [local irreducible] dsk odk raw

section
variable {Q : Exit → Act → World → Prop} {N : Cfg} {F : Base} {fr : Fr} {L cs : List HProp} {k : List Itm} {A : Dk} {n x d : Nat} {ops : Array Oper} {rest : List Oper} {ob : Option (Nat × Obj)} {v : Value} {l : List UInt8}
theorem ops_odk (h : ∀ vn vs vd vp, DkOk A n → Ops Tryz.prog Q N F ops rest fr (blk x 43 [vn, vs, vd, vp, .bool A.off] :: own 9 1 vn n (A.now.map st) :: own 9 1 vs n (A.sure.map st) :: own 4 1 vd n (A.dirty.map .bool) :: own 5 1 vp A.plan.length (A.plan.map u8) :: L) k) :
    Ops Tryz.prog Q N F ops rest fr (odk x A n :: L) k := by
  unfold odk
  exact ops_exi fun vn => ops_exi fun vs => ops_exi fun vd => ops_exi fun vp => ops_allt (ops_pur fun hA => h vn vs vd vp hA)
theorem run_raw (h : ∀ a : Nat, a ≤ l.length → l.length ≤ 140737488355328 → Run Tryz.prog Q N F fr (blk d 26 [v, .int .i64 a] :: rxs ob 1 v l.length (l.map u8) :: L) k) : Run Tryz.prog Q N F fr (raw d ob v l :: L) k := by
  unfold raw
  exact run_exi fun a => run_allt (run_pur fun ⟨ha, hl⟩ => h a ha hl)
theorem raw_goes {a : Nat} (ha : a ≤ l.length ∧ l.length ≤ 140737488355328) (h : Goes L (blk d 26 [v, .int .i64 a] :: rxs ob 1 v l.length (l.map u8) :: cs)) : Goes L (raw d ob v l :: cs) := by
  unfold raw
  exact Goes.exi (x := a) (Goes.all (Goes.pur ha h))
end

theorem pick4 {a b c d : Int} {i : Int} (h0 : 0 ≤ i) (h1 : i < 4) (M : Nat) (hM : 0 ≤ (M : Int)) (ha : 0 ≤ a ∧ a ≤ M) (hb : 0 ≤ b ∧ b ≤ M) (hc : 0 ≤ c ∧ c ≤ M) (hd : 0 ≤ d ∧ d ≤ M) : ∃ m : Nat, ([a, b, c, d] : List Int).getD i.toNat default = (m : Int) ∧ m ≤ M := by
  have h2 : i.toNat < 4 := by omega
  match i.toNat, h2 with
  | 0, _ => exact ⟨a.toNat, by show a = _; omega, by omega⟩
  | 1, _ => exact ⟨b.toNat, by show b = _; omega, by omega⟩
  | 2, _ => exact ⟨c.toNat, by show c = _; omega, by omega⟩
  | 3, _ => exact ⟨d.toNat, by show d = _; omega, by omega⟩
theorem law_spec (TB : HProp) (hbw : Fn Tryz.prog 4 #[] [TB] (fun v => [pur (v = .bool true), TB])) (ob : Option (Nat × Obj)) (v : Value) (l : List UInt8) (hl : l.length ≤ 140737488355328) :
    Fn Tryz.prog 3 #[v] [rxs ob 1 v l.length (l.map u8), TB] (fun u => [pur (u = .bool true), rxs ob 1 v l.length (l.map u8), TB]) := by
  refine fn_of_run Tryz.func3 rfl Tryz.ntmps3 (by simp) fun F => ?_
  refine run_facts v fun _ => ?_
  simp only [List.zipIdx_cons, List.zipIdx_nil, List.map_cons, List.map_nil, Nat.zero_add, Nat.reduceAdd]
  refine run_seq (run_sub (sc 0 rfl Sub.nil) (run_region (id := 0) ?_))
  refine ops_quiet rfl (Pure.q (p_assign rfl)) ?_
  refine ops_nil ?_
  refine run_seq (run_sub (sc 0 rfl Sub.nil) (run_region (id := 1) ?_))
  refine ops_step rfl (g_call .nil (by (repeat' constructor); done) hbw) (fun u24 => ?_)
  refine ops_pur fun hu => ?_
  subst hu
  refine ops_quiet rfl (Pure.q (p_assign rfl)) ?_
  refine ops_nil ?_
  refine run_seq (run_sub (sc 0 rfl (sc 3 rfl Sub.nil)) (run_region (id := 2) ?_))
  refine ops_quiet rfl (Pure.q (p_move rfl)) ?_
  refine ops_quiet rfl (Pure.q (p_buildC rfl (.cons rfl inferInstance .nil) rfl rfl)) ?_
  refine ops_step rfl (s_box rfl rfl) (fun b27 => ?_)
  refine ops_quiet rfl (Pure.q (p_assign rfl)) ?_
  refine ops_nil ?_
  refine run_seq ?_
  refine run_ent (L' := [raw b27 ob v l, TB]) (Goes.ent (by (repeat' first | exact Goes.nil | with_reducible apply Goes.exi | with_reducible apply Goes.all | with_reducible apply Goes.pur | ((with_reducible apply Goes.cons); focus ((repeat' constructor); done)) | with_reducible apply dsk_goes | with_reducible apply odk_goes | with_reducible apply raw_goes) <;> first | exact ⟨Nat.zero_le _, hl⟩ | skip)) ?_
  refine run_sub (sc 0 rfl (sc 3 rfl (sc 4 rfl Sub.nil))) (run_region (id := 3) ?_)
  refine ops_quiet rfl (Pure.q (p_move rfl)) ?_
  refine ops_step rfl (g_call (.cons rfl (.cons rfl .nil)) (by (repeat' constructor); done) (next_spec _ _ _ _ _ (by omega) (by omega))) (fun u29 => ?_)
  refine ops_exi fun i29 => ops_allt (ops_pur fun ⟨h29, hl29, hu29⟩ => ?_)
  subst h29
  refine ops_quiet rfl (Pure.q (p_add rfl rfl (by (first | exact wrap_byte _ | exact wrap_i64 (by omega) (by omega) | exact wrap_u8 (by omega) (by omega) | exact wrap_u64 (by omega) (by omega) | exact wrap_u32 (by omega) (by omega) | rfl)))) ?_
  refine ops_quiet rfl (Pure.q (p_assign rfl)) ?_
  refine ops_nil ?_
  refine run_seq ?_
  obtain ⟨n, hn⟩ : ∃ n : Nat, (n : Int) = 1 + i29 := ⟨(1 + i29).toNat, by omega⟩
  rw [← hn]
  have hn1 : 1 ≤ n ∧ n ≤ 6 := by omega
  refine run_sub (sc 0 rfl (sc 3 rfl (sc 4 rfl (sc 5 rfl Sub.nil)))) (run_region (id := 4) ?_)
  refine ops_quiet rfl (Pure.q (p_move rfl)) ?_
  refine ops_step rfl (g_call (.cons rfl .nil) (by (repeat' constructor); done) (new_spec n)) (fun u33 => ?_)
  skip
  refine ops_exi fun x => ?_
  rw [if_pos (by omega), if_pos (by omega), if_pos (by omega)]
  refine ops_allt (ops_pur fun hu => ?_)
  subst hu
  refine ops_quiet rfl (Pure.q (p_move rfl)) ?_
  (first | refine ops_quiet rfl (Pure.q (p_extractL rfl rfl)) ?_ | refine ops_quiet rfl (Pure.q (p_extract rfl rfl)) ?_)
  (first | refine ops_quiet rfl (Pure.q (p_extractL rfl rfl)) ?_ | refine ops_quiet rfl (Pure.q (p_extract rfl rfl)) ?_)
  refine ops_quiet rfl (Pure.q (p_assign rfl)) ?_
  refine ops_quiet rfl (Pure.q (p_assign rfl)) ?_
  refine ops_nil ?_
  refine run_seq (run_sub (sc 0 rfl (sc 3 rfl (sc 4 rfl (sc 5 rfl (sc 6 rfl (sc 7 rfl Sub.nil)))))) (run_region (id := 5) ?_))
  refine ops_step rfl (g_call (.cons rfl .nil) (by (repeat' constructor); done) (new_spec 0)) (fun u37 => ?_)
  skip
  refine ops_exi fun x0 => ?_
  rw [if_neg (by omega), if_neg (by omega), if_neg (by omega)]
  refine ops_allt (ops_pur fun hu => ?_)
  subst hu
  refine ops_quiet rfl (Pure.q (p_move rfl)) ?_
  (first | refine ops_quiet rfl (Pure.q (p_extractL rfl rfl)) ?_ | refine ops_quiet rfl (Pure.q (p_extract rfl rfl)) ?_)
  (first | refine ops_quiet rfl (Pure.q (p_extractL rfl rfl)) ?_ | refine ops_quiet rfl (Pure.q (p_extract rfl rfl)) ?_)
  refine ops_quiet rfl (Pure.q (p_assign rfl)) ?_
  refine ops_quiet rfl (Pure.q (p_assign rfl)) ?_
  refine ops_nil ?_
  refine run_seq (run_sub (sc 0 rfl (sc 3 rfl (sc 4 rfl (sc 5 rfl (sc 6 rfl (sc 7 rfl (sc 9 rfl Sub.nil))))))) (run_region (id := 6) ?_))
  refine ops_step rfl (g_call (.cons rfl .nil) (by (repeat' constructor); done) (new_spec 4097)) (fun u41 => ?_)
  skip
  refine ops_exi fun x0 => ?_
  rw [if_neg (by omega), if_neg (by omega), if_neg (by omega)]
  refine ops_allt (ops_pur fun hu => ?_)
  subst hu
  refine ops_quiet rfl (Pure.q (p_move rfl)) ?_
  (first | refine ops_quiet rfl (Pure.q (p_extractL rfl rfl)) ?_ | refine ops_quiet rfl (Pure.q (p_extract rfl rfl)) ?_)
  (first | refine ops_quiet rfl (Pure.q (p_extractL rfl rfl)) ?_ | refine ops_quiet rfl (Pure.q (p_extract rfl rfl)) ?_)
  refine ops_quiet rfl (Pure.q (p_assign rfl)) ?_
  refine ops_quiet rfl (Pure.q (p_assign rfl)) ?_
  refine ops_nil ?_
  refine run_seq (run_sub (sc 0 rfl (sc 3 rfl (sc 4 rfl (sc 5 rfl (sc 6 rfl (sc 7 rfl (sc 9 rfl (sc 11 rfl Sub.nil)))))))) (run_region (id := 7) ?_))
  refine ops_quiet rfl (Pure.q (p_move rfl)) ?_
  refine ops_step rfl (g_call (.cons rfl .nil) (by (repeat' constructor); done) (sectors_spec _ (by omega))) (fun u45 => ?_)
  refine ops_exi fun y45 => ops_allt (ops_pur fun h45 => ?_)
  subst h45
  refine ops_quiet rfl (Pure.q (p_assign rfl)) ?_
  refine ops_nil ?_
  refine run_seq (run_seq (run_sub (sc 0 rfl (sc 3 rfl (sc 4 rfl (sc 5 rfl (sc 6 rfl (sc 7 rfl (sc 9 rfl (sc 11 rfl (sc 12 rfl Sub.nil))))))))) (run_region (id := 8) ?_)))
  refine ops_quiet rfl (Pure.q (p_move rfl)) ?_
  (first | refine ops_quiet rfl (Pure.q (p_eql_nil rfl rfl)) ?_ | refine ops_quiet rfl (Pure.q (p_eql_nil0 rfl rfl)) ?_)
  refine ops_quiet rfl (Pure.q (p_move rfl)) ?_
  refine ops_yes rfl ?_
  refine ops_quiet rfl (Pure.q (p_move rfl)) ?_
  refine ops_yes rfl ?_
  refine ops_quiet rfl (Pure.q (p_neq rfl rfl)) ?_
  refine ops_quiet rfl (Pure.q (p_pick_f rfl rfl)) ?_
  refine ops_quiet rfl (Pure.q (p_move rfl)) ?_
  refine ops_yes rfl ?_
  refine ops_quiet rfl (Pure.q (p_move rfl)) ?_
  refine ops_yes rfl ?_
  refine ops_quiet rfl (Pure.q (p_neq rfl rfl)) ?_
  refine ops_quiet rfl (Pure.q (p_pick_f rfl rfl)) ?_
  refine ops_quiet rfl (Pure.q (p_move rfl)) ?_
  refine ops_yes rfl ?_
  refine ops_quiet rfl (Pure.q (p_move rfl)) ?_
  refine ops_yes rfl ?_
  refine ops_quiet rfl (Pure.q (p_neq rfl rfl)) ?_
  refine ops_quiet rfl (Pure.q (p_pick_f rfl rfl)) ?_
  refine ops_nil ?_
  refine run_cond_f rfl (run_skip (run_seq (run_seq (run_sub (sc 0 rfl (sc 3 rfl (sc 4 rfl (sc 5 rfl (sc 6 rfl (sc 12 rfl Sub.nil)))))) (run_region (id := 10) ?_)))))
  refine ops_quiet rfl (Pure.q (p_assign rfl)) ?_
  refine ops_nil ?_
  refine run_block ?_
  refine runs_loop (fun q : Nat × Dk => [(0, v), (3, .bool true), (4, .pointer (some ⟨b27, 0, none⟩)), (5, .int .i64 n), (6, .pointer (some ⟨x, 0, none⟩)), (12, .pointer (some ⟨y45, 0, none⟩)), (13, .int .i64 q.1)]) (fun q => [raw b27 ob v l, dsk x q.2 n, odk y45 q.2 n, TB]) (fun q => q.1 ≤ 60) (fun q => 60 - q.1) (0, dk0 n) (Nat.zero_le _) (by (repeat (first | exact Sub.nil | refine Sub.cons rfl ?_))) (by repeat' first | exact Goes.nil | with_reducible apply Goes.exi | with_reducible apply Goes.all | with_reducible apply Goes.pur | ((with_reducible apply Goes.cons); focus ((repeat' constructor); done)) | with_reducible apply dsk_goes | with_reducible apply odk_goes | with_reducible apply raw_goes) ?_
  rintro ⟨i, A⟩ (hi : i ≤ 60)
  (try dsimp only)
  refine run_seq (run_seq ?_)
  refine run_raw fun a ha _ => ?_
  refine run_sub (sc 0 rfl (sc 3 rfl (sc 4 rfl (sc 5 rfl (sc 6 rfl (sc 12 rfl (sc 13 rfl Sub.nil))))))) (run_region (id := 11) ?_)
  refine ops_quiet rfl (Pure.q (p_move rfl)) ?_
  refine ops_quiet rfl (Pure.q (p_lss rfl rfl)) ?_
  refine ops_quiet rfl (Pure.q (p_move rfl)) ?_
  refine ops_case 62 rfl (fun hg62 => ?_) (fun hg62 => ?_)
  · (try simp only [decide_eq_true_eq, decide_eq_false_iff_not, Bool.not_eq_true', Bool.not_eq_false'] at hg62)
    refine ops_yes rfl ?_
    refine ops_quiet rfl (Pure.q (p_move rfl)) ?_
    refine ops_yes rfl ?_
    (first | refine ops_quiet rfl (Pure.q (p_nil_ptr rfl)) ?_ | refine ops_quiet rfl (Pure.q (p_nilE rfl (by (first | omega | (simp only [List.length_cons, List.length_nil, List.length_take, List.length_drop, List.length_append, List.length_map, List.length_replicate, List.length_set]; omega) | (simp; done) | (simp; omega) | rfl)))) ?_ | refine ops_quiet rfl (k_nil rfl (by (first | omega | (simp only [List.length_cons, List.length_nil, List.length_take, List.length_drop, List.length_append, List.length_map, List.length_replicate, List.length_set]; omega) | (simp; done) | (simp; omega) | rfl))) ?_ | refine ops_quiet rfl (Pure.q (p_nil_func rfl)) ?_)
    refine ops_yes rfl ?_
    (first | refine ops_quiet rfl (Pure.q (p_fieldAddr rfl)) ?_ | refine ops_quiet rfl (Pure.q (p_fieldE rfl (by (first | omega | (simp only [List.length_cons, List.length_nil, List.length_take, List.length_drop, List.length_append, List.length_map, List.length_replicate, List.length_set]; omega) | (simp; done) | (simp; omega) | rfl)))) ?_ | refine ops_quiet rfl (k_field rfl (by (first | omega | (simp only [List.length_cons, List.length_nil, List.length_take, List.length_drop, List.length_append, List.length_map, List.length_replicate, List.length_set]; omega) | (simp; done) | (simp; omega) | rfl))) ?_)
    refine ops_yes rfl ?_
    (first | refine ops_quiet rfl (k_load rfl rfl) ?_ | refine ops_quiet rfl (k_loadM rfl (by (first | omega | (simp only [List.length_cons, List.length_nil, List.length_take, List.length_drop, List.length_append, List.length_map, List.length_replicate, List.length_set]; omega) | (simp; done) | (simp; omega) | rfl))) ?_ | refine ops_quiet rfl (k_loadS rfl (by (first | rfl | assumption | (apply hel; omega) | (apply hel2; omega) | (apply hel3; omega)))) ?_)
    refine ops_yes rfl ?_
    refine ops_quiet rfl (Pure.q (p_move rfl)) ?_
    refine ops_yes rfl ?_
    (first | refine ops_quiet rfl (Pure.q (p_lenL rfl)) ?_ | refine ops_quiet rfl (k_len rfl) ?_ | refine ops_quiet rfl (Pure.q (p_len_slice rfl)) ?_)
    refine ops_yes rfl ?_
    refine ops_quiet rfl (Pure.q (p_lss rfl rfl)) ?_
    refine ops_quiet rfl (Pure.q (p_pick_t rfl rfl)) ?_
    refine ops_nil ?_
    refine run_case 70 rfl (fun h70 => run_cond_t rfl ?_) (fun h70 => run_cond_f rfl ?_)
    · (try simp only [decide_eq_true_eq, decide_eq_false_iff_not, Bool.not_eq_true', Bool.not_eq_false'] at h70)
      refine run_skip (run_seq (run_block (run_seq ?_)))
      refine run_ent (L' := [raw b27 ob v l, dsk x A n, odk y45 A n, TB]) (Goes.ent (by (repeat' first | exact Goes.nil | with_reducible apply Goes.exi | with_reducible apply Goes.all | with_reducible apply Goes.pur | ((with_reducible apply Goes.cons); focus ((repeat' constructor); done)) | with_reducible apply dsk_goes | with_reducible apply odk_goes | with_reducible apply raw_goes) <;> first | exact ⟨ha, hl⟩ | skip)) ?_
      refine run_sub (sc 0 rfl (sc 3 rfl (sc 4 rfl (sc 5 rfl (sc 6 rfl (sc 12 rfl (sc 13 rfl Sub.nil))))))) (run_region (id := 13) ?_)
      refine ops_quiet rfl (Pure.q (p_move rfl)) ?_
      refine ops_quiet rfl (Pure.q (p_move rfl)) ?_
      refine ops_step rfl (g_call (.cons rfl (.cons rfl .nil)) (by (repeat' constructor); done) (next_spec _ _ _ _ _ (by omega) (by omega))) (fun u75 => ?_)
      refine ops_exi fun i75 => ops_allt (ops_pur fun ⟨h75, hl75, hu75⟩ => ?_)
      subst h75
      refine ops_quiet rfl (Pure.q (p_move rfl)) ?_
      (first | refine ops_step rfl (g_buildSliceM rfl (.cons rfl inferInstance (.cons rfl inferInstance (.cons rfl inferInstance (.cons rfl inferInstance .nil)))) rfl rfl rfl) (fun v77 => ?_) | refine ops_step rfl (g_buildSlice rfl (.cons rfl inferInstance (.cons rfl inferInstance (.cons rfl inferInstance (.cons rfl inferInstance .nil)))) rfl rfl rfl) (fun v77 => ?_))
      (try refine ops_ln fun _ => ?_)
      refine ops_quiet rfl (Pure.q (p_move rfl)) ?_
      refine ops_step rfl (g_call (.cons rfl (.cons rfl .nil)) (by (repeat' constructor); done) (next_spec _ _ _ _ _ (by omega) (by omega))) (fun u79 => ?_)
      refine ops_exi fun i79 => ops_allt (ops_pur fun ⟨h79, hl79, hu79⟩ => ?_)
      subst h79
      (first | refine ops_quiet rfl (Pure.q (p_indexL1 rfl rfl (by (first | omega | (simp only [List.length_cons, List.length_nil, List.length_take, List.length_drop, List.length_append, List.length_map, List.length_replicate, List.length_set]; omega) | (simp; done) | (simp; omega) | rfl)) (by (first | omega | (simp only [List.length_cons, List.length_nil, List.length_take, List.length_drop, List.length_append, List.length_map, List.length_replicate, List.length_set]; omega) | (simp; done) | (simp; omega) | rfl)))) ?_ | refine ops_quiet rfl (k_index1 rfl rfl (by (first | omega | (simp only [List.length_cons, List.length_nil, List.length_take, List.length_drop, List.length_append, List.length_map, List.length_replicate, List.length_set]; omega) | (simp; done) | (simp; omega) | rfl)) (by (first | omega | (simp only [List.length_cons, List.length_nil, List.length_take, List.length_drop, List.length_append, List.length_map, List.length_replicate, List.length_set]; omega) | (simp; done) | (simp; omega) | rfl))) ?_)
      (first | refine ops_quiet rfl (k_load rfl rfl) ?_ | refine ops_quiet rfl (k_loadM rfl (by (first | omega | (simp only [List.length_cons, List.length_nil, List.length_take, List.length_drop, List.length_append, List.length_map, List.length_replicate, List.length_set]; omega) | (simp; done) | (simp; omega) | rfl))) ?_ | refine ops_quiet rfl (k_loadS rfl (by (first | rfl | assumption | (apply hel; omega) | (apply hel2; omega) | (apply hel3; omega)))) ?_)
      obtain ⟨m, hm, hm2⟩ := pick4 (a := 0) (b := 1) (c := 60) (d := 128) hl79 hu79 128 (by omega) (by omega) (by omega) (by omega) (by omega)
      rw [hm]
      refine ops_step rfl (g_call (.cons rfl (.cons rfl .nil)) (by (repeat' constructor); done) (bytes_spec _ _ _ _ _ (by omega))) (fun u82 => ?_)
      refine ops_exi fun s82 => ops_allt (ops_pur fun ⟨h82, hs82⟩ => ?_)
      subst h82
      refine ops_quiet rfl (Pure.q (p_assign rfl)) ?_
      refine ops_quiet rfl (Pure.q (p_assign rfl)) ?_
      refine ops_nil ?_
      refine run_seq (run_seq (run_sub (sc 0 rfl (sc 3 rfl (sc 4 rfl (sc 5 rfl (sc 6 rfl (sc 12 rfl (sc 13 rfl (sc 14 rfl (sc 15 rfl Sub.nil))))))))) (run_region (id := 14) ?_)))
      refine ops_quiet rfl (Pure.q (p_move rfl)) ?_
      refine ops_step rfl (g_call (.cons rfl (.cons rfl .nil)) (by (repeat' constructor); done) (next_spec _ _ _ _ _ (by omega) (by omega))) (fun u84 => ?_)
      refine ops_exi fun i84 => ops_allt (ops_pur fun ⟨h84, hl84, hu84⟩ => ?_)
      subst h84
      refine ops_quiet rfl (Pure.q (p_eql rfl rfl)) ?_
      refine ops_nil ?_
      refine run_cut (ι := Int × List UInt8) (fun q => [(0, v), (3, .bool true), (4, .pointer (some ⟨b27, 0, none⟩)), (5, .int .i64 n), (6, .pointer (some ⟨x, 0, none⟩)), (12, .pointer (some ⟨y45, 0, none⟩)), (13, .int .i64 i), (14, .int .i64 q.1), (15, st q.2)]) (fun _ => [raw b27 ob v l, dsk x A n, odk y45 A n, TB]) (fun q => q.2.length ≤ 1000) ?_ ?_
      · refine run_case 85 rfl (fun h85 => run_cond_t rfl ?_) (fun h85 => run_cond_f rfl ?_)
        · (try simp only [decide_eq_true_eq, decide_eq_false_iff_not, Bool.not_eq_true', Bool.not_eq_false'] at h85)
          refine run_sub (sc 0 rfl (sc 3 rfl (sc 4 rfl (sc 5 rfl (sc 6 rfl (sc 12 rfl (sc 13 rfl Sub.nil))))))) (run_region (id := 15) ?_)
          refine ops_quiet rfl (Pure.q (p_move rfl)) ?_
          refine ops_quiet rfl (Pure.q (p_move rfl)) ?_
          refine ops_quiet rfl (Pure.q (p_add rfl rfl (by (first | exact wrap_byte _ | exact wrap_i64 (by omega) (by omega) | exact wrap_u8 (by omega) (by omega) | exact wrap_u64 (by omega) (by omega) | exact wrap_u32 (by omega) (by omega) | rfl)))) ?_
          refine ops_step rfl (g_call (.cons rfl (.cons rfl .nil)) (by (repeat' constructor); done) (next_spec _ _ _ _ _ (by omega) (by omega))) (fun u89 => ?_)
          refine ops_exi fun i89 => ops_allt (ops_pur fun ⟨h89, hl89, hu89⟩ => ?_)
          subst h89
          refine ops_quiet rfl (Pure.q (p_sub rfl rfl (by (first | exact wrap_byte _ | exact wrap_i64 (by omega) (by omega) | exact wrap_u8 (by omega) (by omega) | exact wrap_u64 (by omega) (by omega) | exact wrap_u32 (by omega) (by omega) | rfl)))) ?_
          refine ops_quiet rfl (Pure.q (p_move rfl)) ?_
          refine ops_quiet rfl (Pure.q (p_move rfl)) ?_
          refine ops_step rfl (g_call (.cons rfl (.cons rfl .nil)) (by (repeat' constructor); done) (next_spec _ _ _ _ _ (by omega) (by omega))) (fun u93 => ?_)
          refine ops_exi fun i93 => ops_allt (ops_pur fun ⟨h93, hl93, hu93⟩ => ?_)
          subst h93
          refine ops_quiet rfl (Pure.q (p_add rfl rfl (by (first | exact wrap_byte _ | exact wrap_i64 (by omega) (by omega) | exact wrap_u8 (by omega) (by omega) | exact wrap_u64 (by omega) (by omega) | exact wrap_u32 (by omega) (by omega) | rfl)))) ?_
          obtain ⟨m2, hm3⟩ : ∃ m2 : Nat, (m2 : Int) = 127 + i93 := ⟨(127 + i93).toNat, by omega⟩
          rw [← hm3]
          refine ops_step rfl (g_call (.cons rfl (.cons rfl .nil)) (by (repeat' constructor); done) (bytes_spec _ _ _ _ _ (by omega))) (fun u95 => ?_)
          refine ops_exi fun s95 => ops_allt (ops_pur fun ⟨h95, hs95⟩ => ?_)
          subst h95
          refine ops_quiet rfl (Pure.q (p_assign rfl)) ?_
          refine ops_quiet rfl (Pure.q (p_assign rfl)) ?_
          refine ops_nil ?_
          exact runs_is (i89 - 1, s95) (show s95.length ≤ 1000 by omega) (by (repeat (first | exact Sub.nil | refine Sub.cons rfl ?_))) (by repeat' first | exact Goes.nil | with_reducible apply Goes.exi | with_reducible apply Goes.all | with_reducible apply Goes.pur | ((with_reducible apply Goes.cons); focus ((repeat' constructor); done)) | with_reducible apply dsk_goes | with_reducible apply odk_goes | with_reducible apply raw_goes)
        · (try simp only [decide_eq_true_eq, decide_eq_false_iff_not, Bool.not_eq_true', Bool.not_eq_false'] at h85)
          refine run_skip ?_
          exact runs_is (i75, s82) (show s82.length ≤ 1000 by omega) (by (repeat (first | exact Sub.nil | refine Sub.cons rfl ?_))) (by repeat' first | exact Goes.nil | with_reducible apply Goes.exi | with_reducible apply Goes.all | with_reducible apply Goes.pur | ((with_reducible apply Goes.cons); focus ((repeat' constructor); done)) | with_reducible apply dsk_goes | with_reducible apply odk_goes | with_reducible apply raw_goes)
      · rintro ⟨k, s⟩ (hs : s.length ≤ 1000)
        (try dsimp only)
        refine run_seq (run_sub (sc 0 rfl (sc 3 rfl (sc 4 rfl (sc 5 rfl (sc 6 rfl (sc 12 rfl (sc 13 rfl (sc 14 rfl (sc 15 rfl Sub.nil))))))))) (run_region (id := 16) ?_))
        refine ops_quiet rfl (Pure.q (p_assign rfl)) ?_
        refine ops_quiet rfl (Pure.q (p_assign rfl)) ?_
        refine ops_nil ?_
        refine run_seq (run_seq (run_sub (sc 0 rfl (sc 3 rfl (sc 4 rfl (sc 5 rfl (sc 6 rfl (sc 7 rfl (sc 9 rfl (sc 12 rfl (sc 13 rfl (sc 14 rfl (sc 15 rfl Sub.nil))))))))))) (run_region (id := 17) ?_)))
        refine ops_quiet rfl (Pure.q (p_move rfl)) ?_
        refine ops_step rfl (g_call (.cons rfl (.cons rfl .nil)) (by (repeat' constructor); done) (next_spec _ _ _ _ _ (by omega) (by omega))) (fun u97 => ?_)
        refine ops_exi fun i97 => ops_allt (ops_pur fun ⟨h97, hl97, hu97⟩ => ?_)
        subst h97
        refine ops_nil ?_
        refine run_cut (ι := Int × Dk) (fun q => [(0, v), (3, .bool true), (4, .pointer (some ⟨b27, 0, none⟩)), (5, .int .i64 n), (6, .pointer (some ⟨x, 0, none⟩)), (12, .pointer (some ⟨y45, 0, none⟩)), (7, .int .i64 q.1), (9, .int .i64 q.1), (13, .int .i64 i)]) (fun q => [raw b27 ob v l, dsk x q.2 n, odk y45 q.2 n, TB]) (fun _ => True) ?_ ?_
        · refine run_block (run_seq (run_seq (run_sub (sc 0 rfl (sc 3 rfl (sc 4 rfl (sc 5 rfl (sc 6 rfl (sc 7 rfl (sc 9 rfl (sc 12 rfl (sc 13 rfl (sc 14 rfl (sc 15 rfl (sc 97 rfl Sub.nil)))))))))))) (run_region (id := 26) ?_))))
          refine ops_quiet rfl (Pure.q (p_eql rfl rfl)) ?_
          refine ops_quiet rfl (Pure.q (p_assign rfl)) ?_
          refine ops_nil ?_
          refine run_cut (ι := Bool) (fun q => [(0, v), (3, .bool true), (4, .pointer (some ⟨b27, 0, none⟩)), (5, .int .i64 n), (6, .pointer (some ⟨x, 0, none⟩)), (12, .pointer (some ⟨y45, 0, none⟩)), (7, .int .i64 0), (9, .int .i64 0), (13, .int .i64 i), (14, .int .i64 k), (15, st s), (97, .int .i64 i97), (130, .bool q)]) (fun _ => [raw b27 ob v l, dsk x A n, odk y45 A n, TB]) (fun q => q = true ↔ i97 ≤ 4) ?_ ?_
          · refine run_case 130 rfl (fun h130 => run_cond_t rfl ?_) (fun h130 => run_cond_f rfl ?_)
            · (try simp only [decide_eq_true_eq, decide_eq_false_iff_not, Bool.not_eq_true', Bool.not_eq_false'] at h130)
              refine run_skip ?_
              first
                | exact runs_is true (by simp; omega) (by (repeat (first | exact Sub.nil | refine Sub.cons rfl ?_))) (by repeat' first | exact Goes.nil | with_reducible apply Goes.exi | with_reducible apply Goes.all | with_reducible apply Goes.pur | ((with_reducible apply Goes.cons); focus ((repeat' constructor); done)) | with_reducible apply dsk_goes | with_reducible apply odk_goes | with_reducible apply raw_goes)
                | exact runs_is (decide (i97 = 4)) (by simp; omega) (by (repeat (first | exact Sub.nil | refine Sub.cons rfl ?_))) (by repeat' first | exact Goes.nil | with_reducible apply Goes.exi | with_reducible apply Goes.all | with_reducible apply Goes.pur | ((with_reducible apply Goes.cons); focus ((repeat' constructor); done)) | with_reducible apply dsk_goes | with_reducible apply odk_goes | with_reducible apply raw_goes)
            · (try simp only [decide_eq_true_eq, decide_eq_false_iff_not, Bool.not_eq_true', Bool.not_eq_false'] at h130)
              refine run_seq (run_sub (sc 0 rfl (sc 3 rfl (sc 4 rfl (sc 5 rfl (sc 6 rfl (sc 7 rfl (sc 9 rfl (sc 12 rfl (sc 13 rfl (sc 14 rfl (sc 15 rfl (sc 97 rfl Sub.nil)))))))))))) (run_region (id := 27) ?_))
              refine ops_quiet rfl (Pure.q (p_eql rfl rfl)) ?_
              refine ops_quiet rfl (Pure.q (p_assign rfl)) ?_
              refine ops_nil ?_
              refine run_case 130 rfl (fun h130 => run_cond_t rfl ?_) (fun h130 => run_cond_f rfl ?_)
              · (try simp only [decide_eq_true_eq, decide_eq_false_iff_not, Bool.not_eq_true', Bool.not_eq_false'] at h130)
                refine run_skip ?_
                first
                  | exact runs_is true (by simp; omega) (by (repeat (first | exact Sub.nil | refine Sub.cons rfl ?_))) (by repeat' first | exact Goes.nil | with_reducible apply Goes.exi | with_reducible apply Goes.all | with_reducible apply Goes.pur | ((with_reducible apply Goes.cons); focus ((repeat' constructor); done)) | with_reducible apply dsk_goes | with_reducible apply odk_goes | with_reducible apply raw_goes)
                  | exact runs_is (decide (i97 = 4)) (by simp; omega) (by (repeat (first | exact Sub.nil | refine Sub.cons rfl ?_))) (by repeat' first | exact Goes.nil | with_reducible apply Goes.exi | with_reducible apply Goes.all | with_reducible apply Goes.pur | ((with_reducible apply Goes.cons); focus ((repeat' constructor); done)) | with_reducible apply dsk_goes | with_reducible apply odk_goes | with_reducible apply raw_goes)
              · (try simp only [decide_eq_true_eq, decide_eq_false_iff_not, Bool.not_eq_true', Bool.not_eq_false'] at h130)
                refine run_seq (run_sub (sc 0 rfl (sc 3 rfl (sc 4 rfl (sc 5 rfl (sc 6 rfl (sc 7 rfl (sc 9 rfl (sc 12 rfl (sc 13 rfl (sc 14 rfl (sc 15 rfl (sc 97 rfl Sub.nil)))))))))))) (run_region (id := 28) ?_))
                refine ops_quiet rfl (Pure.q (p_eql rfl rfl)) ?_
                refine ops_quiet rfl (Pure.q (p_assign rfl)) ?_
                refine ops_nil ?_
                refine run_case 130 rfl (fun h130 => run_cond_t rfl ?_) (fun h130 => run_cond_f rfl ?_)
                · (try simp only [decide_eq_true_eq, decide_eq_false_iff_not, Bool.not_eq_true', Bool.not_eq_false'] at h130)
                  refine run_skip ?_
                  first
                    | exact runs_is true (by simp; omega) (by (repeat (first | exact Sub.nil | refine Sub.cons rfl ?_))) (by repeat' first | exact Goes.nil | with_reducible apply Goes.exi | with_reducible apply Goes.all | with_reducible apply Goes.pur | ((with_reducible apply Goes.cons); focus ((repeat' constructor); done)) | with_reducible apply dsk_goes | with_reducible apply odk_goes | with_reducible apply raw_goes)
                    | exact runs_is (decide (i97 = 4)) (by simp; omega) (by (repeat (first | exact Sub.nil | refine Sub.cons rfl ?_))) (by repeat' first | exact Goes.nil | with_reducible apply Goes.exi | with_reducible apply Goes.all | with_reducible apply Goes.pur | ((with_reducible apply Goes.cons); focus ((repeat' constructor); done)) | with_reducible apply dsk_goes | with_reducible apply odk_goes | with_reducible apply raw_goes)
                · (try simp only [decide_eq_true_eq, decide_eq_false_iff_not, Bool.not_eq_true', Bool.not_eq_false'] at h130)
                  refine run_seq (run_sub (sc 0 rfl (sc 3 rfl (sc 4 rfl (sc 5 rfl (sc 6 rfl (sc 7 rfl (sc 9 rfl (sc 12 rfl (sc 13 rfl (sc 14 rfl (sc 15 rfl (sc 97 rfl Sub.nil)))))))))))) (run_region (id := 29) ?_))
                  refine ops_quiet rfl (Pure.q (p_eql rfl rfl)) ?_
                  refine ops_quiet rfl (Pure.q (p_assign rfl)) ?_
                  refine ops_nil ?_
                  refine run_case 130 rfl (fun h130 => run_cond_t rfl ?_) (fun h130 => run_cond_f rfl ?_)
                  · (try simp only [decide_eq_true_eq, decide_eq_false_iff_not, Bool.not_eq_true', Bool.not_eq_false'] at h130)
                    refine run_skip ?_
                    first
                      | exact runs_is true (by simp; omega) (by (repeat (first | exact Sub.nil | refine Sub.cons rfl ?_))) (by repeat' first | exact Goes.nil | with_reducible apply Goes.exi | with_reducible apply Goes.all | with_reducible apply Goes.pur | ((with_reducible apply Goes.cons); focus ((repeat' constructor); done)) | with_reducible apply dsk_goes | with_reducible apply odk_goes | with_reducible apply raw_goes)
                      | exact runs_is (decide (i97 = 4)) (by simp; omega) (by (repeat (first | exact Sub.nil | refine Sub.cons rfl ?_))) (by repeat' first | exact Goes.nil | with_reducible apply Goes.exi | with_reducible apply Goes.all | with_reducible apply Goes.pur | ((with_reducible apply Goes.cons); focus ((repeat' constructor); done)) | with_reducible apply dsk_goes | with_reducible apply odk_goes | with_reducible apply raw_goes)
                  · (try simp only [decide_eq_true_eq, decide_eq_false_iff_not, Bool.not_eq_true', Bool.not_eq_false'] at h130)
                    refine run_sub (sc 0 rfl (sc 3 rfl (sc 4 rfl (sc 5 rfl (sc 6 rfl (sc 7 rfl (sc 9 rfl (sc 12 rfl (sc 13 rfl (sc 14 rfl (sc 15 rfl (sc 97 rfl Sub.nil)))))))))))) (run_region (id := 30) ?_)
                    refine ops_quiet rfl (Pure.q (p_eql rfl rfl)) ?_
                    refine ops_quiet rfl (Pure.q (p_assign rfl)) ?_
                    refine ops_nil ?_
                    first
                      | exact runs_is true (by simp; omega) (by (repeat (first | exact Sub.nil | refine Sub.cons rfl ?_))) (by repeat' first | exact Goes.nil | with_reducible apply Goes.exi | with_reducible apply Goes.all | with_reducible apply Goes.pur | ((with_reducible apply Goes.cons); focus ((repeat' constructor); done)) | with_reducible apply dsk_goes | with_reducible apply odk_goes | with_reducible apply raw_goes)
                      | exact runs_is (decide (i97 = 4)) (by simp; omega) (by (repeat (first | exact Sub.nil | refine Sub.cons rfl ?_))) (by repeat' first | exact Goes.nil | with_reducible apply Goes.exi | with_reducible apply Goes.all | with_reducible apply Goes.pur | ((with_reducible apply Goes.cons); focus ((repeat' constructor); done)) | with_reducible apply dsk_goes | with_reducible apply odk_goes | with_reducible apply raw_goes)
          · rintro q hq
            refine run_case 130 rfl (fun h130 => run_cond_t rfl ?_) (fun h130 => run_cond_f rfl ?_)
            · (try simp only [decide_eq_true_eq, decide_eq_false_iff_not, Bool.not_eq_true', Bool.not_eq_false'] at h130)
              refine run_sub (sc 0 rfl (sc 3 rfl (sc 4 rfl (sc 5 rfl (sc 6 rfl (sc 12 rfl (sc 13 rfl (sc 14 rfl (sc 15 rfl Sub.nil))))))))) (run_region (id := 31) ?_)
              refine ops_quiet rfl (Pure.q (p_move rfl)) ?_
              refine ops_quiet rfl (Pure.q (p_move rfl)) ?_
              refine ops_quiet rfl (Pure.q (p_move rfl)) ?_
              refine ops_step rfl (s_str_bytes rfl) (fun y139 => ?_)
              (try refine ops_ln fun _ => ?_)
              refine ops_step rfl (g_call (.cons rfl (.cons rfl (.cons rfl .nil))) (by (repeat' constructor); done) (write_spec _ _ _ _ _ _ (by omega))) (fun u140 => ?_)
              refine ops_pur fun h140 => ?_
              subst h140
              refine ops_quiet rfl (Pure.q (p_move rfl)) ?_
              refine ops_quiet rfl (Pure.q (p_move rfl)) ?_
              refine ops_quiet rfl (Pure.q (p_move rfl)) ?_
              refine ops_step rfl (g_call (.cons rfl (.cons rfl (.cons rfl .nil))) (by (repeat' constructor); done) (owrite_spec _ _ _ _ _ (by omega))) (fun u144 => ?_)
              refine ops_pur fun h144 => ?_
              subst h144
              refine ops_quiet rfl (Pure.q (p_assign rfl)) ?_
              refine ops_quiet rfl (Pure.q (p_assign rfl)) ?_
              refine ops_nil ?_
              refine run_inBlock ?_
              exact runs_is (writeR A n k s) trivial (by (repeat (first | exact Sub.nil | refine Sub.cons rfl ?_))) (by repeat' first | exact Goes.nil | with_reducible apply Goes.exi | with_reducible apply Goes.all | with_reducible apply Goes.pur | ((with_reducible apply Goes.cons); focus ((repeat' constructor); done)) | with_reducible apply dsk_goes | with_reducible apply odk_goes | with_reducible apply raw_goes)
            · (try simp only [decide_eq_true_eq, decide_eq_false_iff_not, Bool.not_eq_true', Bool.not_eq_false'] at h130)
              refine run_seq (run_sub (sc 0 rfl (sc 3 rfl (sc 4 rfl (sc 5 rfl (sc 6 rfl (sc 7 rfl (sc 9 rfl (sc 12 rfl (sc 13 rfl (sc 97 rfl Sub.nil)))))))))) (run_region (id := 32) ?_))
              refine ops_quiet rfl (Pure.q (p_eql rfl rfl)) ?_
              refine ops_quiet rfl (Pure.q (p_assign rfl)) ?_
              refine ops_nil ?_
              refine run_case 145 rfl (fun h145 => run_cond_t rfl ?_) (fun h145 => run_cond_f rfl ?_)
              · (try simp only [decide_eq_true_eq, decide_eq_false_iff_not, Bool.not_eq_true', Bool.not_eq_false'] at h145)
                refine run_sub (sc 0 rfl (sc 3 rfl (sc 4 rfl (sc 5 rfl (sc 6 rfl (sc 12 rfl (sc 13 rfl Sub.nil))))))) (run_region (id := 33) ?_)
                refine ops_quiet rfl (Pure.q (p_move rfl)) ?_
                refine ops_step rfl (g_call (.cons rfl .nil) (by (repeat' constructor); done) (sync_spec _ _ _)) (fun u148 => ?_)
                refine ops_pur fun h148 => ?_
                subst h148
                refine ops_quiet rfl (Pure.q (p_move rfl)) ?_
                refine ops_step rfl (g_call (.cons rfl .nil) (by (repeat' constructor); done) (osync_spec _ _ _)) (fun u150 => ?_)
                refine ops_pur fun h150 => ?_
                subst h150
                refine ops_quiet rfl (Pure.q (p_assign rfl)) ?_
                refine ops_quiet rfl (Pure.q (p_assign rfl)) ?_
                refine ops_nil ?_
                refine run_inBlock ?_
                exact runs_is (syncR A n) trivial (by (repeat (first | exact Sub.nil | refine Sub.cons rfl ?_))) (by repeat' first | exact Goes.nil | with_reducible apply Goes.exi | with_reducible apply Goes.all | with_reducible apply Goes.pur | ((with_reducible apply Goes.cons); focus ((repeat' constructor); done)) | with_reducible apply dsk_goes | with_reducible apply odk_goes | with_reducible apply raw_goes)
              · (try simp only [decide_eq_true_eq, decide_eq_false_iff_not, Bool.not_eq_true', Bool.not_eq_false'] at h145)
                refine run_seq (run_sub (sc 0 rfl (sc 3 rfl (sc 4 rfl (sc 5 rfl (sc 6 rfl (sc 7 rfl (sc 9 rfl (sc 12 rfl (sc 13 rfl (sc 97 rfl Sub.nil)))))))))) (run_region (id := 34) ?_))
                refine ops_quiet rfl (Pure.q (p_eql rfl rfl)) ?_
                refine ops_quiet rfl (Pure.q (p_assign rfl)) ?_
                refine ops_nil ?_
                refine run_case 151 rfl (fun h151 => run_cond_t rfl ?_) (fun h151 => run_cond_f rfl ?_)
                · (try simp only [decide_eq_true_eq, decide_eq_false_iff_not, Bool.not_eq_true', Bool.not_eq_false'] at h151)
                  refine run_seq (run_sub (sc 0 rfl (sc 3 rfl (sc 4 rfl (sc 5 rfl (sc 6 rfl (sc 7 rfl (sc 9 rfl (sc 12 rfl (sc 13 rfl Sub.nil))))))))) (run_region (id := 35) ?_))
                  refine ops_quiet rfl (Pure.q (p_assign rfl)) ?_
                  refine ops_nil ?_
                  refine run_seq (run_seq (run_sub (sc 0 rfl (sc 3 rfl (sc 4 rfl (sc 5 rfl (sc 6 rfl (sc 7 rfl (sc 9 rfl (sc 12 rfl (sc 13 rfl (sc 16 rfl Sub.nil)))))))))) (run_region (id := 36) ?_)))
                  refine ops_quiet rfl (Pure.q (p_move rfl)) ?_
                  refine ops_step rfl (g_call (.cons rfl (.cons rfl .nil)) (by (repeat' constructor); done) (next_spec _ _ _ _ _ (by omega) (by omega))) (fun u154 => ?_)
                  refine ops_exi fun i154 => ops_allt (ops_pur fun ⟨h154, hl154, hu154⟩ => ?_)
                  subst h154
                  refine ops_quiet rfl (Pure.q (p_assign rfl)) ?_
                  refine ops_nil ?_
                  refine run_block ?_
                  refine runs_loop (fun q : Nat × Value × List UInt8 => [(0, v), (3, .bool true), (4, .pointer (some ⟨b27, 0, none⟩)), (5, .int .i64 n), (6, .pointer (some ⟨x, 0, none⟩)), (12, .pointer (some ⟨y45, 0, none⟩)), (7, .int .i64 0), (9, .int .i64 0), (13, .int .i64 i), (16, q.2.1), (17, .int .i64 q.1)]) (fun q => [own 5 1 q.2.1 q.2.2.length (q.2.2.map u8), raw b27 ob v l, dsk x A n, odk y45 A n, TB]) (fun q => q.1 + q.2.2.length ≤ 100) (fun q => q.1) (i154.toNat, .slice none 0 0, []) (by simp; omega) ?_ (by repeat' first | exact Goes.nil | with_reducible apply Goes.exi | with_reducible apply Goes.all | with_reducible apply Goes.pur | ((with_reducible apply Goes.cons); focus ((repeat' constructor); done)) | with_reducible apply dsk_goes | with_reducible apply odk_goes | with_reducible apply raw_goes) ?_
                  · rw [show i154 = ((i154.toNat : Nat) : Int) by omega]
                    (repeat (first | exact Sub.nil | refine Sub.cons rfl ?_))
                  rintro ⟨c, v16, lp⟩ (hc : c + lp.length ≤ 100)
                  (try dsimp only)
                  refine run_facts v16 fun _ => ?_
                  refine run_seq (run_seq (run_sub (sc 0 rfl (sc 3 rfl (sc 4 rfl (sc 5 rfl (sc 6 rfl (sc 7 rfl (sc 9 rfl (sc 12 rfl (sc 13 rfl (sc 16 rfl (sc 17 rfl Sub.nil))))))))))) (run_region (id := 37) ?_)))
                  refine ops_quiet rfl (Pure.q (p_move rfl)) ?_
                  refine ops_quiet rfl (Pure.q (p_gtr rfl rfl)) ?_
                  refine ops_nil ?_
                  refine run_case 156 rfl (fun h156 => run_cond_t rfl ?_) (fun h156 => run_cond_f rfl ?_)
                  · (try simp only [decide_eq_true_eq, decide_eq_false_iff_not, Bool.not_eq_true', Bool.not_eq_false'] at h156)
                    refine run_skip (run_seq (run_block (run_sub (sc 0 rfl (sc 3 rfl (sc 4 rfl (sc 5 rfl (sc 6 rfl (sc 7 rfl (sc 9 rfl (sc 12 rfl (sc 13 rfl (sc 16 rfl (sc 17 rfl Sub.nil))))))))))) (run_region (id := 39) ?_))))
                    refine ops_quiet rfl (Pure.q (p_move rfl)) ?_
                    (first | refine ops_step rfl (g_buildSliceM rfl (.cons rfl inferInstance (.cons rfl inferInstance (.cons rfl inferInstance (.cons rfl inferInstance (.cons rfl inferInstance .nil))))) rfl rfl rfl) (fun v160 => ?_) | refine ops_step rfl (g_buildSlice rfl (.cons rfl inferInstance (.cons rfl inferInstance (.cons rfl inferInstance (.cons rfl inferInstance (.cons rfl inferInstance .nil))))) rfl rfl rfl) (fun v160 => ?_))
                    (try refine ops_ln fun _ => ?_)
                    refine ops_quiet rfl (Pure.q (p_move rfl)) ?_
                    refine ops_step rfl (g_call (.cons rfl (.cons rfl .nil)) (by (repeat' constructor); done) (next_spec _ _ _ _ _ (by omega) (by omega))) (fun u162 => ?_)
                    refine ops_exi fun i162 => ops_allt (ops_pur fun ⟨h162, hl162, hu162⟩ => ?_)
                    subst h162
                    (first | refine ops_quiet rfl (Pure.q (p_indexL1 rfl rfl (by (first | omega | (simp only [List.length_cons, List.length_nil, List.length_take, List.length_drop, List.length_append, List.length_map, List.length_replicate, List.length_set]; omega) | (simp; done) | (simp; omega) | rfl)) (by (first | omega | (simp only [List.length_cons, List.length_nil, List.length_take, List.length_drop, List.length_append, List.length_map, List.length_replicate, List.length_set]; omega) | (simp; done) | (simp; omega) | rfl)))) ?_ | refine ops_quiet rfl (k_index1 rfl rfl (by (first | omega | (simp only [List.length_cons, List.length_nil, List.length_take, List.length_drop, List.length_append, List.length_map, List.length_replicate, List.length_set]; omega) | (simp; done) | (simp; omega) | rfl)) (by (first | omega | (simp only [List.length_cons, List.length_nil, List.length_take, List.length_drop, List.length_append, List.length_map, List.length_replicate, List.length_set]; omega) | (simp; done) | (simp; omega) | rfl))) ?_)
                    (first | refine ops_quiet rfl (k_load rfl rfl) ?_ | refine ops_quiet rfl (k_loadM rfl (by (first | omega | (simp only [List.length_cons, List.length_nil, List.length_take, List.length_drop, List.length_append, List.length_map, List.length_replicate, List.length_set]; omega) | (simp; done) | (simp; omega) | rfl))) ?_ | refine ops_quiet rfl (k_loadS rfl (by (first | rfl | assumption | (apply hel; omega) | (apply hel2; omega) | (apply hel3; omega)))) ?_)
                    generalize ([0, 0, 1, 2, 3] : List UInt8).getD i162.toNat default = ce
                    (first | refine ops_step rfl (g_buildSliceM rfl (.cons rfl inferInstance .nil) rfl rfl rfl) (fun v165 => ?_) | refine ops_step rfl (g_buildSlice rfl (.cons rfl inferInstance .nil) rfl rfl rfl) (fun v165 => ?_))
                    (try refine ops_ln fun _ => ?_)
                    (first | refine ops_step rfl (g_append0 rfl rfl (by (first | omega | (simp only [List.length_cons, List.length_nil, List.length_take, List.length_drop, List.length_append, List.length_map, List.length_replicate, List.length_set]; omega) | (simp; done) | (simp; omega) | rfl)) (by (first | omega | (simp only [List.length_cons, List.length_nil, List.length_take, List.length_drop, List.length_append, List.length_map, List.length_replicate, List.length_set]; omega) | (simp; done) | (simp; omega) | rfl)) rfl) (fun v166 => ?_) | refine ops_step rfl (g_appendM rfl rfl (by (first | omega | (simp only [List.length_cons, List.length_nil, List.length_take, List.length_drop, List.length_append, List.length_map, List.length_replicate, List.length_set]; omega) | (simp; done) | (simp; omega) | rfl)) (by (first | omega | (simp only [List.length_cons, List.length_nil, List.length_take, List.length_drop, List.length_append, List.length_map, List.length_replicate, List.length_set]; omega) | (simp; done) | (simp; omega) | rfl)) rfl) (fun v166 => ?_) | refine ops_step rfl (g_appendNilM rfl rfl (by (first | omega | (simp only [List.length_cons, List.length_nil, List.length_take, List.length_drop, List.length_append, List.length_map, List.length_replicate, List.length_set]; omega) | (simp; done) | (simp; omega) | rfl)) (by (first | omega | (simp only [List.length_cons, List.length_nil, List.length_take, List.length_drop, List.length_append, List.length_map, List.length_replicate, List.length_set]; omega) | (simp; done) | (simp; omega) | rfl)) rfl) (fun v166 => ?_) | refine ops_step rfl (g_append rfl rfl (by (first | omega | (simp only [List.length_cons, List.length_nil, List.length_take, List.length_drop, List.length_append, List.length_map, List.length_replicate, List.length_set]; omega) | (simp; done) | (simp; omega) | rfl)) (by (first | omega | (simp only [List.length_cons, List.length_nil, List.length_take, List.length_drop, List.length_append, List.length_map, List.length_replicate, List.length_set]; omega) | (simp; done) | (simp; omega) | rfl)) rfl) (fun v166 => ?_) | refine ops_step rfl (g_appendNil rfl rfl (by (first | omega | (simp only [List.length_cons, List.length_nil, List.length_take, List.length_drop, List.length_append, List.length_map, List.length_replicate, List.length_set]; omega) | (simp; done) | (simp; omega) | rfl)) (by (first | omega | (simp only [List.length_cons, List.length_nil, List.length_take, List.length_drop, List.length_append, List.length_map, List.length_replicate, List.length_set]; omega) | (simp; done) | (simp; omega) | rfl)) rfl) (fun v166 => ?_))
                    (try refine ops_ln fun _ => ?_)
                    refine ops_quiet rfl (Pure.q (p_assign rfl)) ?_
                    refine ops_nil ?_
                    refine run_inBlock (run_sub (sc 0 rfl (sc 3 rfl (sc 4 rfl (sc 5 rfl (sc 6 rfl (sc 7 rfl (sc 9 rfl (sc 12 rfl (sc 13 rfl (sc 16 rfl (sc 17 rfl Sub.nil))))))))))) (run_region (id := 38) ?_))
                    refine ops_quiet rfl (Pure.q (p_move rfl)) ?_
                    refine ops_quiet rfl (Pure.q (p_sub rfl rfl (by (first | exact wrap_byte _ | exact wrap_i64 (by omega) (by omega) | exact wrap_u8 (by omega) (by omega) | exact wrap_u64 (by omega) (by omega) | exact wrap_u32 (by omega) (by omega) | rfl)))) ?_
                    refine ops_quiet rfl (Pure.q (p_assign rfl)) ?_
                    refine ops_nil ?_
                    rw [show (c : Int) - 1 = ((c - 1 : Nat) : Int) by omega]
                    exact runs_is (c - 1, v166, lp ++ [ce]) ⟨by simp only [List.length_append, List.length_singleton]; omega, by omega⟩ (by (repeat (first | exact Sub.nil | refine Sub.cons rfl ?_))) (by rw [List.length_append]; repeat' first | exact Goes.nil | with_reducible apply Goes.exi | with_reducible apply Goes.all | with_reducible apply Goes.pur | ((with_reducible apply Goes.cons); focus ((repeat' constructor); done)) | with_reducible apply dsk_goes | with_reducible apply odk_goes | with_reducible apply raw_goes)
                  · (try simp only [decide_eq_true_eq, decide_eq_false_iff_not, Bool.not_eq_true', Bool.not_eq_false'] at h156)
                    refine run_exit rfl (run_seq (run_sub (sc 0 rfl (sc 3 rfl (sc 4 rfl (sc 5 rfl (sc 6 rfl (sc 7 rfl (sc 9 rfl (sc 12 rfl (sc 13 rfl (sc 16 rfl Sub.nil)))))))))) (run_region (id := 40) ?_)))
                    refine ops_quiet rfl (Pure.q (p_move rfl)) ?_
                    refine ops_quiet rfl (Pure.q (p_move rfl)) ?_
                    refine ops_step rfl (g_call (.cons rfl (.cons rfl .nil)) (by (repeat' constructor); done) (plan_spec _ _ _ _ _ (by omega))) (fun u169 => ?_)
                    skip
                    refine ops_nil ?_
                    refine run_pick (c := odk y45 A n) (by (repeat' constructor); done) (run_odk fun vn vs vd vp hA => ?_)
                    refine run_sub (sc 0 rfl (sc 3 rfl (sc 4 rfl (sc 5 rfl (sc 6 rfl (sc 7 rfl (sc 9 rfl (sc 12 rfl (sc 13 rfl (sc 16 rfl Sub.nil)))))))))) (run_region (id := 41) ?_)
                    refine ops_quiet rfl (Pure.q (p_move rfl)) ?_
                    refine ops_quiet rfl (Pure.q (p_move rfl)) ?_
                    (first | refine ops_quiet rfl (Pure.q (p_nil_ptr rfl)) ?_ | refine ops_quiet rfl (Pure.q (p_nilE rfl (by (first | omega | (simp only [List.length_cons, List.length_nil, List.length_take, List.length_drop, List.length_append, List.length_map, List.length_replicate, List.length_set]; omega) | (simp; done) | (simp; omega) | rfl)))) ?_ | refine ops_quiet rfl (k_nil rfl (by (first | omega | (simp only [List.length_cons, List.length_nil, List.length_take, List.length_drop, List.length_append, List.length_map, List.length_replicate, List.length_set]; omega) | (simp; done) | (simp; omega) | rfl))) ?_ | refine ops_quiet rfl (Pure.q (p_nil_func rfl)) ?_)
                    (first | refine ops_quiet rfl (Pure.q (p_fieldAddr rfl)) ?_ | refine ops_quiet rfl (Pure.q (p_fieldE rfl (by (first | omega | (simp only [List.length_cons, List.length_nil, List.length_take, List.length_drop, List.length_append, List.length_map, List.length_replicate, List.length_set]; omega) | (simp; done) | (simp; omega) | rfl)))) ?_ | refine ops_quiet rfl (k_field rfl (by (first | omega | (simp only [List.length_cons, List.length_nil, List.length_take, List.length_drop, List.length_append, List.length_map, List.length_replicate, List.length_set]; omega) | (simp; done) | (simp; omega) | rfl))) ?_)
                    (first | refine ops_step rfl (g_store rfl rfl rfl) (fun _ => ?_) | refine ops_step rfl (g_storeM rfl rfl (by (first | omega | (simp only [List.length_cons, List.length_nil, List.length_take, List.length_drop, List.length_append, List.length_map, List.length_replicate, List.length_set]; omega) | (simp; done) | (simp; omega) | rfl))) (fun _ => ?_) | refine ops_step rfl (g_storeS rfl rfl (by (first | omega | (simp only [List.length_cons, List.length_nil, List.length_take, List.length_drop, List.length_append, List.length_map, List.length_replicate, List.length_set]; omega) | (simp; done) | (simp; omega) | rfl))) (fun _ => ?_))
                    refine ops_nil ?_
                    refine run_inBlock ?_
                    exact runs_is (0, { A with plan := lp }) trivial (by (repeat (first | exact Sub.nil | refine Sub.cons rfl ?_))) (by (repeat' first | exact Goes.nil | with_reducible apply Goes.exi | with_reducible apply Goes.all | with_reducible apply Goes.pur | ((with_reducible apply Goes.cons); focus ((repeat' constructor); done)) | with_reducible apply dsk_goes | with_reducible apply odk_goes | with_reducible apply raw_goes) <;> first | exact ⟨hA.now, hA.sure, hA.dirty, hA.rows, hA.rows', hA.clean, show lp.length ≤ 100 by omega, hA.n⟩ | skip)
                · (try simp only [decide_eq_true_eq, decide_eq_false_iff_not, Bool.not_eq_true', Bool.not_eq_false'] at h151)
                  refine run_seq (run_sub (sc 0 rfl (sc 3 rfl (sc 4 rfl (sc 5 rfl (sc 6 rfl (sc 7 rfl (sc 9 rfl (sc 12 rfl (sc 13 rfl Sub.nil))))))))) (run_region (id := 18) ?_))
                  refine ops_quiet rfl (Pure.q (p_assign rfl)) ?_
                  refine ops_nil ?_
                  refine run_seq (run_seq (run_sub (sc 0 rfl (sc 3 rfl (sc 4 rfl (sc 5 rfl (sc 6 rfl (sc 7 rfl (sc 9 rfl (sc 12 rfl (sc 13 rfl (sc 18 rfl Sub.nil)))))))))) (run_region (id := 19) ?_)))
                  refine ops_quiet rfl (Pure.q (p_move rfl)) ?_
                  refine ops_step rfl (g_call (.cons rfl (.cons rfl .nil)) (by (repeat' constructor); done) (next_spec _ _ _ _ _ (by omega) (by omega))) (fun u99 => ?_)
                  refine ops_exi fun i99 => ops_allt (ops_pur fun ⟨h99, hl99, hu99⟩ => ?_)
                  subst h99
                  refine ops_quiet rfl (Pure.q (p_assign rfl)) ?_
                  refine ops_nil ?_
                  refine run_block ?_
                  refine runs_loop (fun q : Nat × Value × List Bool => [(0, v), (3, .bool true), (4, .pointer (some ⟨b27, 0, none⟩)), (5, .int .i64 n), (6, .pointer (some ⟨x, 0, none⟩)), (12, .pointer (some ⟨y45, 0, none⟩)), (7, .int .i64 0), (9, .int .i64 0), (13, .int .i64 i), (18, q.2.1), (19, .int .i64 q.1)]) (fun q => [own 4 1 q.2.1 q.2.2.length (q.2.2.map .bool), raw b27 ob v l, dsk x A n, odk y45 A n, TB]) (fun q => q.1 + q.2.2.length ≤ 100) (fun q => q.1) (i99.toNat, .slice none 0 0, []) (by simp; omega) ?_ (by repeat' first | exact Goes.nil | with_reducible apply Goes.exi | with_reducible apply Goes.all | with_reducible apply Goes.pur | ((with_reducible apply Goes.cons); focus ((repeat' constructor); done)) | with_reducible apply dsk_goes | with_reducible apply odk_goes | with_reducible apply raw_goes) ?_
                  · rw [show i99 = ((i99.toNat : Nat) : Int) by omega]
                    (repeat (first | exact Sub.nil | refine Sub.cons rfl ?_))
                  rintro ⟨c, v18, lb⟩ (hc : c + lb.length ≤ 100)
                  (try dsimp only)
                  refine run_facts v18 fun _ => ?_
                  refine run_seq (run_seq (run_sub (sc 0 rfl (sc 3 rfl (sc 4 rfl (sc 5 rfl (sc 6 rfl (sc 7 rfl (sc 9 rfl (sc 12 rfl (sc 13 rfl (sc 18 rfl (sc 19 rfl Sub.nil))))))))))) (run_region (id := 20) ?_)))
                  refine ops_quiet rfl (Pure.q (p_move rfl)) ?_
                  refine ops_quiet rfl (Pure.q (p_gtr rfl rfl)) ?_
                  refine ops_nil ?_
                  refine run_case 101 rfl (fun h101 => run_cond_t rfl ?_) (fun h101 => run_cond_f rfl ?_)
                  · (try simp only [decide_eq_true_eq, decide_eq_false_iff_not, Bool.not_eq_true', Bool.not_eq_false'] at h101)
                    refine run_skip (run_seq (run_block (run_sub (sc 0 rfl (sc 3 rfl (sc 4 rfl (sc 5 rfl (sc 6 rfl (sc 7 rfl (sc 9 rfl (sc 12 rfl (sc 13 rfl (sc 18 rfl (sc 19 rfl Sub.nil))))))))))) (run_region (id := 22) ?_))))
                    refine ops_quiet rfl (Pure.q (p_move rfl)) ?_
                    refine ops_quiet rfl (Pure.q (p_move rfl)) ?_
                    refine ops_step rfl (g_call (.cons rfl (.cons rfl .nil)) (by (repeat' constructor); done) (next_spec _ _ _ _ _ (by omega) (by omega))) (fun u106 => ?_)
                    refine ops_exi fun i106 => ops_allt (ops_pur fun ⟨h106, hl106, hu106⟩ => ?_)
                    subst h106
                    refine ops_quiet rfl (Pure.q (p_eql rfl rfl)) ?_
                    (first | refine ops_step rfl (g_buildSliceM rfl (.cons rfl inferInstance .nil) rfl rfl rfl) (fun v108 => ?_) | refine ops_step rfl (g_buildSlice rfl (.cons rfl inferInstance .nil) rfl rfl rfl) (fun v108 => ?_))
                    (try refine ops_ln fun _ => ?_)
                    (first | refine ops_step rfl (g_append0 rfl rfl (by (first | omega | (simp only [List.length_cons, List.length_nil, List.length_take, List.length_drop, List.length_append, List.length_map, List.length_replicate, List.length_set]; omega) | (simp; done) | (simp; omega) | rfl)) (by (first | omega | (simp only [List.length_cons, List.length_nil, List.length_take, List.length_drop, List.length_append, List.length_map, List.length_replicate, List.length_set]; omega) | (simp; done) | (simp; omega) | rfl)) rfl) (fun v109 => ?_) | refine ops_step rfl (g_appendM rfl rfl (by (first | omega | (simp only [List.length_cons, List.length_nil, List.length_take, List.length_drop, List.length_append, List.length_map, List.length_replicate, List.length_set]; omega) | (simp; done) | (simp; omega) | rfl)) (by (first | omega | (simp only [List.length_cons, List.length_nil, List.length_take, List.length_drop, List.length_append, List.length_map, List.length_replicate, List.length_set]; omega) | (simp; done) | (simp; omega) | rfl)) rfl) (fun v109 => ?_) | refine ops_step rfl (g_appendNilM rfl rfl (by (first | omega | (simp only [List.length_cons, List.length_nil, List.length_take, List.length_drop, List.length_append, List.length_map, List.length_replicate, List.length_set]; omega) | (simp; done) | (simp; omega) | rfl)) (by (first | omega | (simp only [List.length_cons, List.length_nil, List.length_take, List.length_drop, List.length_append, List.length_map, List.length_replicate, List.length_set]; omega) | (simp; done) | (simp; omega) | rfl)) rfl) (fun v109 => ?_) | refine ops_step rfl (g_append rfl rfl (by (first | omega | (simp only [List.length_cons, List.length_nil, List.length_take, List.length_drop, List.length_append, List.length_map, List.length_replicate, List.length_set]; omega) | (simp; done) | (simp; omega) | rfl)) (by (first | omega | (simp only [List.length_cons, List.length_nil, List.length_take, List.length_drop, List.length_append, List.length_map, List.length_replicate, List.length_set]; omega) | (simp; done) | (simp; omega) | rfl)) rfl) (fun v109 => ?_) | refine ops_step rfl (g_appendNil rfl rfl (by (first | omega | (simp only [List.length_cons, List.length_nil, List.length_take, List.length_drop, List.length_append, List.length_map, List.length_replicate, List.length_set]; omega) | (simp; done) | (simp; omega) | rfl)) (by (first | omega | (simp only [List.length_cons, List.length_nil, List.length_take, List.length_drop, List.length_append, List.length_map, List.length_replicate, List.length_set]; omega) | (simp; done) | (simp; omega) | rfl)) rfl) (fun v109 => ?_))
                    (try refine ops_ln fun _ => ?_)
                    refine ops_quiet rfl (Pure.q (p_assign rfl)) ?_
                    refine ops_nil ?_
                    refine run_inBlock (run_sub (sc 0 rfl (sc 3 rfl (sc 4 rfl (sc 5 rfl (sc 6 rfl (sc 7 rfl (sc 9 rfl (sc 12 rfl (sc 13 rfl (sc 18 rfl (sc 19 rfl Sub.nil))))))))))) (run_region (id := 21) ?_))
                    refine ops_quiet rfl (Pure.q (p_move rfl)) ?_
                    refine ops_quiet rfl (Pure.q (p_sub rfl rfl (by (first | exact wrap_byte _ | exact wrap_i64 (by omega) (by omega) | exact wrap_u8 (by omega) (by omega) | exact wrap_u64 (by omega) (by omega) | exact wrap_u32 (by omega) (by omega) | rfl)))) ?_
                    refine ops_quiet rfl (Pure.q (p_assign rfl)) ?_
                    refine ops_nil ?_
                    rw [show (c : Int) - 1 = ((c - 1 : Nat) : Int) by omega]
                    exact runs_is (c - 1, v109, lb ++ [decide (i106 = 1)]) ⟨by simp only [List.length_append, List.length_singleton]; omega, by omega⟩ (by (repeat (first | exact Sub.nil | refine Sub.cons rfl ?_))) (by rw [List.length_append]; repeat' first | exact Goes.nil | with_reducible apply Goes.exi | with_reducible apply Goes.all | with_reducible apply Goes.pur | ((with_reducible apply Goes.cons); focus ((repeat' constructor); done)) | with_reducible apply dsk_goes | with_reducible apply odk_goes | with_reducible apply raw_goes)
                  · (try simp only [decide_eq_true_eq, decide_eq_false_iff_not, Bool.not_eq_true', Bool.not_eq_false'] at h101)
                    refine run_exit rfl (run_seq ?_)
                    refine run_cut (ι := Int × Int) (fun q => [(0, v), (3, .bool true), (4, .pointer (some ⟨b27, 0, none⟩)), (5, .int .i64 n), (6, .pointer (some ⟨x, 0, none⟩)), (12, .pointer (some ⟨y45, 0, none⟩)), (7, .int .i64 0), (9, .int .i64 0), (13, .int .i64 i), (18, v18), (20, .int .i64 q.1), (21, .int .i64 q.2)]) (fun q => [own 4 1 v18 lb.length (lb.map .bool), raw b27 ob v l, dsk x A n, odk y45 A n, TB]) (fun _ => True) ?_ ?_
                    · refine run_sub (sc 0 rfl (sc 3 rfl (sc 4 rfl (sc 5 rfl (sc 6 rfl (sc 7 rfl (sc 9 rfl (sc 12 rfl (sc 13 rfl (sc 18 rfl Sub.nil)))))))))) (run_draw (id := 23) ⟨[9], [0, 2, 3, 6, 8, 10, 11], [1, 4, 5, 7]⟩ (.cons 0 (.cons 3 (.cons 6 (.cons 1 (.cons 2 (.cons 4 (.two 5 (.cons 7 (.cons 8 (.cons 9 (.cons 10 (.cons 11 .nil))))) 7 (.cons 10 (.cons 5 (.cons 8 (.cons 9 (.cons 11 .nil)))))))))))) _ (Ent.refl _) mixed (by kernel_rfl) panOk_body (by rfl) (by kernel_rfl) ?_)
                      refine dp_pure rfl rfl rfl rfl rfl (p_move rfl) ?_
                      refine dp_pure rfl rfl rfl rfl rfl (p_move rfl) ?_
                      refine dp_pure rfl rfl rfl rfl rfl (p_move rfl) ?_
                      refine dp_last rfl rfl rfl rfl rfl (g_call (.cons rfl (.cons rfl .nil)) (by (repeat' constructor); done) (next_spec _ _ _ _ _ (by omega) (by omega))) (fun u111 => ?_)
                      refine dp_exi fun i111 => dp_allt (dp_pur fun ⟨h111, hl111, hu111⟩ => ?_)
                      subst h111
                      refine dp_pure rfl rfl rfl rfl rfl (p_sub rfl rfl (by (first | exact wrap_byte _ | exact wrap_i64 (by omega) (by omega) | exact wrap_u8 (by omega) (by omega) | exact wrap_u64 (by omega) (by omega) | exact wrap_u32 (by omega) (by omega) | rfl))) ?_
                      refine dp_last rfl rfl rfl rfl rfl (g_call (.cons rfl (.cons rfl .nil)) (by (repeat' constructor); done) (next_spec _ _ _ _ _ (by omega) (by omega))) (fun u114 => ?_)
                      refine dp_exi fun i114 => dp_allt (dp_pur fun ⟨h114, hl114, hu114⟩ => ?_)
                      subst h114
                      refine dp_again ?_
                      refine dp_two ?_ ?_
                      · (first | refine de_last rfl rfl rfl rfl (g_buildSliceM rfl (.cons rfl inferInstance (.cons rfl inferInstance (.cons rfl inferInstance .nil))) rfl rfl rfl) (fun v115 => ?_) | refine de_last rfl rfl rfl rfl (g_buildSlice rfl (.cons rfl inferInstance (.cons rfl inferInstance (.cons rfl inferInstance .nil))) rfl rfl rfl) (fun v115 => ?_))
                        (try refine dp_ln fun _ => ?_)
                        refine dp_last rfl rfl rfl rfl rfl (g_call (.cons rfl (.cons rfl .nil)) (by (repeat' constructor); done) (next_spec _ _ _ _ _ (by omega) (by omega))) (fun u117 => ?_)
                        refine dp_exi fun i117 => dp_allt (dp_pur fun ⟨h117, hl117, hu117⟩ => ?_)
                        subst h117
                        refine dp_pure rfl rfl rfl rfl rfl (p_indexL1 rfl rfl (by (first | omega | (simp only [List.length_cons, List.length_nil, List.length_take, List.length_drop, List.length_append, List.length_map, List.length_replicate, List.length_set]; omega) | (simp; done) | (simp; omega) | rfl)) (by (first | omega | (simp only [List.length_cons, List.length_nil, List.length_take, List.length_drop, List.length_append, List.length_map, List.length_replicate, List.length_set]; omega) | (simp; done) | (simp; omega) | rfl))) ?_
                        refine dp_again ?_
                        (first | refine dp_quiet rfl rfl rfl rfl (k_load rfl rfl) ?_ | refine dp_quiet rfl rfl rfl rfl (k_loadM rfl (by (first | omega | (simp only [List.length_cons, List.length_nil, List.length_take, List.length_drop, List.length_append, List.length_map, List.length_replicate, List.length_set]; omega) | (simp; done) | (simp; omega) | rfl))) ?_ | refine dp_quiet rfl rfl rfl rfl (k_loadS rfl (by (first | rfl | assumption | (apply hel; omega) | (apply hel2; omega) | (apply hel3; omega)))) ?_)
                        refine dp_pure rfl rfl rfl rfl rfl (p_assign rfl) ?_
                        refine dp_pure rfl rfl rfl rfl rfl (p_assign rfl) ?_
                        refine dp_nil ?_
                        exact runs_is (i111 - 1, _) trivial (by (repeat (first | exact Sub.nil | refine Sub.cons rfl ?_))) (by repeat' first | exact Goes.nil | with_reducible apply Goes.exi | with_reducible apply Goes.all | with_reducible apply Goes.pur | ((with_reducible apply Goes.cons); focus ((repeat' constructor); done)) | with_reducible apply dsk_goes | with_reducible apply odk_goes | with_reducible apply raw_goes)
                      · refine de_last rfl rfl rfl rfl (g_call (.cons rfl (.cons rfl .nil)) (by (repeat' constructor); done) (next_spec _ _ _ _ _ (by omega) (by omega))) (fun u117 => ?_)
                        refine dp_exi fun i117 => dp_allt (dp_pur fun ⟨h117, hl117, hu117⟩ => ?_)
                        subst h117
                        refine dp_pure rfl rfl rfl rfl rfl (p_assign rfl) ?_
                        (first | refine dp_last rfl rfl rfl rfl rfl (g_buildSliceM rfl (.cons rfl inferInstance (.cons rfl inferInstance (.cons rfl inferInstance .nil))) rfl rfl rfl) (fun v115 => ?_) | refine dp_last rfl rfl rfl rfl rfl (g_buildSlice rfl (.cons rfl inferInstance (.cons rfl inferInstance (.cons rfl inferInstance .nil))) rfl rfl rfl) (fun v115 => ?_))
                        (try refine dp_ln fun _ => ?_)
                        refine dp_pure rfl rfl rfl rfl rfl (p_indexL1 rfl rfl (by (first | omega | (simp only [List.length_cons, List.length_nil, List.length_take, List.length_drop, List.length_append, List.length_map, List.length_replicate, List.length_set]; omega) | (simp; done) | (simp; omega) | rfl)) (by (first | omega | (simp only [List.length_cons, List.length_nil, List.length_take, List.length_drop, List.length_append, List.length_map, List.length_replicate, List.length_set]; omega) | (simp; done) | (simp; omega) | rfl))) ?_
                        refine dp_again ?_
                        (first | refine dp_quiet rfl rfl rfl rfl (k_load rfl rfl) ?_ | refine dp_quiet rfl rfl rfl rfl (k_loadM rfl (by (first | omega | (simp only [List.length_cons, List.length_nil, List.length_take, List.length_drop, List.length_append, List.length_map, List.length_replicate, List.length_set]; omega) | (simp; done) | (simp; omega) | rfl))) ?_ | refine dp_quiet rfl rfl rfl rfl (k_loadS rfl (by (first | rfl | assumption | (apply hel; omega) | (apply hel2; omega) | (apply hel3; omega)))) ?_)
                        refine dp_pure rfl rfl rfl rfl rfl (p_assign rfl) ?_
                        refine dp_nil ?_
                        exact runs_is (i111 - 1, _) trivial (by (repeat (first | exact Sub.nil | refine Sub.cons rfl ?_))) (by repeat' first | exact Goes.nil | with_reducible apply Goes.exi | with_reducible apply Goes.all | with_reducible apply Goes.pur | ((with_reducible apply Goes.cons); focus ((repeat' constructor); done)) | with_reducible apply dsk_goes | with_reducible apply odk_goes | with_reducible apply raw_goes)
                    · rintro ⟨torn, cut⟩ _
                      (try dsimp only)
                      refine run_seq (run_sub (sc 0 rfl (sc 3 rfl (sc 4 rfl (sc 5 rfl (sc 6 rfl (sc 7 rfl (sc 9 rfl (sc 12 rfl (sc 13 rfl (sc 18 rfl (sc 20 rfl (sc 21 rfl Sub.nil)))))))))))) (run_region (id := 24) ?_))
                      refine ops_quiet rfl (Pure.q (p_move rfl)) ?_
                      refine ops_quiet rfl (Pure.q (p_move rfl)) ?_
                      refine ops_quiet rfl (Pure.q (p_move rfl)) ?_
                      refine ops_quiet rfl (Pure.q (p_move rfl)) ?_
                      refine ops_step rfl (g_call (.cons rfl (.cons rfl (.cons rfl (.cons rfl .nil)))) (by (repeat' constructor); done) (crash_spec _ _ _ _ _ _ _ (by omega))) (fun u124 => ?_)
                      skip
                      refine ops_nil ?_
                      refine run_sub (sc 0 rfl (sc 3 rfl (sc 4 rfl (sc 5 rfl (sc 6 rfl (sc 7 rfl (sc 9 rfl (sc 12 rfl (sc 13 rfl (sc 18 rfl (sc 20 rfl (sc 21 rfl Sub.nil)))))))))))) (run_region (id := 25) ?_)
                      refine ops_quiet rfl (Pure.q (p_move rfl)) ?_
                      refine ops_quiet rfl (Pure.q (p_move rfl)) ?_
                      refine ops_quiet rfl (Pure.q (p_move rfl)) ?_
                      refine ops_quiet rfl (Pure.q (p_move rfl)) ?_
                      refine ops_step rfl (g_call (.cons rfl (.cons rfl (.cons rfl (.cons rfl .nil)))) (by (repeat' constructor); done) (ocrash_spec _ _ _ _ _ _ _)) (fun u129 => ?_)
                      skip
                      refine ops_nil ?_
                      refine run_inBlock ?_
                      exact runs_is (0, crashR A n lb torn cut) trivial (by (repeat (first | exact Sub.nil | refine Sub.cons rfl ?_))) (by repeat' first | exact Goes.nil | with_reducible apply Goes.exi | with_reducible apply Goes.all | with_reducible apply Goes.pur | ((with_reducible apply Goes.cons); focus ((repeat' constructor); done)) | with_reducible apply dsk_goes | with_reducible apply odk_goes | with_reducible apply raw_goes)
        · rintro ⟨e, ⟨now, sure, dirty, plan, off⟩⟩ _
          (try dsimp only)
          clear hs
          refine run_seq (run_sub (sc 0 rfl (sc 3 rfl (sc 4 rfl (sc 5 rfl (sc 6 rfl (sc 7 rfl (sc 9 rfl (sc 12 rfl (sc 13 rfl Sub.nil))))))))) (run_region (id := 42) ?_))
          refine ops_quiet rfl (Pure.q (p_move rfl)) ?_
          refine ops_quiet rfl (Pure.q (p_move rfl)) ?_
          refine ops_step rfl (g_call (.cons rfl (.cons rfl .nil)) (by (repeat' constructor); done) (read_spec _ _ _ _)) (fun u177 => ?_)
          refine ops_exi fun v177 => ops_allt (ops_pur fun h177 => ?_)
          subst h177
          refine ops_ln fun _ => ?_
          refine ops_quiet rfl (Pure.q (p_move rfl)) ?_
          (first | refine ops_quiet rfl (Pure.q (p_extractL rfl rfl)) ?_ | refine ops_quiet rfl (Pure.q (p_extract rfl rfl)) ?_)
          (first | refine ops_quiet rfl (Pure.q (p_extractL rfl rfl)) ?_ | refine ops_quiet rfl (Pure.q (p_extract rfl rfl)) ?_)
          refine ops_quiet rfl (Pure.q (p_assign rfl)) ?_
          refine ops_quiet rfl (Pure.q (p_assign rfl)) ?_
          refine ops_nil ?_
          refine run_seq (run_sub (sc 0 rfl (sc 3 rfl (sc 4 rfl (sc 5 rfl (sc 6 rfl (sc 7 rfl (sc 9 rfl (sc 12 rfl (sc 13 rfl (sc 23 rfl Sub.nil)))))))))) (run_region (id := 43) ?_))
          refine ops_quiet rfl (Pure.q (p_move rfl)) ?_
          refine ops_quiet rfl (Pure.q (p_move rfl)) ?_
          refine ops_quiet rfl (Pure.q (p_neq rfl rfl)) ?_
          refine ops_quiet rfl (Pure.q (p_move rfl)) ?_
          refine ops_case 183 rfl (fun hg183 => ?_) (fun hg183 => ?_)
          · (try simp only [decide_eq_true_eq, decide_eq_false_iff_not, Bool.not_eq_true', Bool.not_eq_false'] at hg183)
            exact absurd rfl hg183
          · (try simp only [decide_eq_true_eq, decide_eq_false_iff_not, Bool.not_eq_true', Bool.not_eq_false'] at hg183)
            refine ops_yes rfl ?_
            refine ops_quiet rfl (Pure.q (p_move rfl)) ?_
            refine ops_yes rfl ?_
            refine ops_quiet rfl (Pure.q (p_move rfl)) ?_
            refine ops_yes rfl ?_
            refine ops_step rfl (g_call (.cons rfl (.cons rfl .nil)) (by (repeat' constructor); done) (same_spec _ _ _ _ (by omega))) (fun u186 => ?_)
            refine ops_pur fun h186 => ?_
            subst h186
            refine ops_yes rfl ?_
            refine ops_quiet rfl (Pure.q (p_not rfl)) ?_
            refine ops_quiet rfl (Pure.q (p_pick_f rfl rfl)) ?_
            refine ops_quiet rfl (Pure.q (p_move rfl)) ?_
            refine ops_pick (c := odk y45 ⟨now, sure, dirty, plan, off⟩ n) (by (repeat' constructor); done) (ops_odk fun vn vs vd vp hB => ?_)
            dsimp only at hB ⊢
            refine ops_yes rfl ?_
            refine ops_quiet rfl (Pure.q (p_move rfl)) ?_
            refine ops_yes rfl ?_
            (first | refine ops_quiet rfl (Pure.q (p_nil_ptr rfl)) ?_ | refine ops_quiet rfl (Pure.q (p_nilE rfl (by (first | omega | (simp only [List.length_cons, List.length_nil, List.length_take, List.length_drop, List.length_append, List.length_map, List.length_replicate, List.length_set]; omega) | (simp; done) | (simp; omega) | rfl)))) ?_ | refine ops_quiet rfl (k_nil rfl (by (first | omega | (simp only [List.length_cons, List.length_nil, List.length_take, List.length_drop, List.length_append, List.length_map, List.length_replicate, List.length_set]; omega) | (simp; done) | (simp; omega) | rfl))) ?_ | refine ops_quiet rfl (Pure.q (p_nil_func rfl)) ?_)
            refine ops_yes rfl ?_
            (first | refine ops_quiet rfl (Pure.q (p_fieldAddr rfl)) ?_ | refine ops_quiet rfl (Pure.q (p_fieldE rfl (by (first | omega | (simp only [List.length_cons, List.length_nil, List.length_take, List.length_drop, List.length_append, List.length_map, List.length_replicate, List.length_set]; omega) | (simp; done) | (simp; omega) | rfl)))) ?_ | refine ops_quiet rfl (k_field rfl (by (first | omega | (simp only [List.length_cons, List.length_nil, List.length_take, List.length_drop, List.length_append, List.length_map, List.length_replicate, List.length_set]; omega) | (simp; done) | (simp; omega) | rfl))) ?_)
            refine ops_yes rfl ?_
            (first | refine ops_quiet rfl (k_load rfl rfl) ?_ | refine ops_quiet rfl (k_loadM rfl (by (first | omega | (simp only [List.length_cons, List.length_nil, List.length_take, List.length_drop, List.length_append, List.length_map, List.length_replicate, List.length_set]; omega) | (simp; done) | (simp; omega) | rfl))) ?_ | refine ops_quiet rfl (k_loadS rfl (by (first | rfl | assumption | (apply hel; omega) | (apply hel2; omega) | (apply hel3; omega)))) ?_)
            refine ops_yes rfl ?_
            refine ops_quiet rfl (Pure.q (p_move rfl)) ?_
            refine ops_case 194 rfl (fun hg194 => ?_) (fun hg194 => ?_)
            · (try simp only [decide_eq_true_eq, decide_eq_false_iff_not, Bool.not_eq_true', Bool.not_eq_false'] at hg194)
              subst hg194
              rw [show readR ⟨now, sure, dirty, plan, true⟩ n n = (7, []) from if_pos rfl]
              refine ops_yes rfl ?_
              refine ops_quiet rfl (Pure.q (p_move rfl)) ?_
              refine ops_yes rfl ?_
              refine ops_quiet rfl (Pure.q (p_neq rfl rfl)) ?_
              refine ops_yes rfl ?_
              refine ops_quiet rfl (Pure.q (p_pick_t rfl rfl)) ?_
              refine ops_quiet rfl (Pure.q (p_pick_f rfl rfl)) ?_
              refine ops_quiet rfl (Pure.q (p_move rfl)) ?_
              refine ops_yes rfl ?_
              refine ops_quiet rfl (Pure.q (p_move rfl)) ?_
              refine ops_yes rfl ?_
              (first | refine ops_quiet rfl (Pure.q (p_nil_ptr rfl)) ?_ | refine ops_quiet rfl (Pure.q (p_nilE rfl (by (first | omega | (simp only [List.length_cons, List.length_nil, List.length_take, List.length_drop, List.length_append, List.length_map, List.length_replicate, List.length_set]; omega) | (simp; done) | (simp; omega) | rfl)))) ?_ | refine ops_quiet rfl (k_nil rfl (by (first | omega | (simp only [List.length_cons, List.length_nil, List.length_take, List.length_drop, List.length_append, List.length_map, List.length_replicate, List.length_set]; omega) | (simp; done) | (simp; omega) | rfl))) ?_ | refine ops_quiet rfl (Pure.q (p_nil_func rfl)) ?_)
              refine ops_yes rfl ?_
              (first | refine ops_quiet rfl (Pure.q (p_fieldAddr rfl)) ?_ | refine ops_quiet rfl (Pure.q (p_fieldE rfl (by (first | omega | (simp only [List.length_cons, List.length_nil, List.length_take, List.length_drop, List.length_append, List.length_map, List.length_replicate, List.length_set]; omega) | (simp; done) | (simp; omega) | rfl)))) ?_ | refine ops_quiet rfl (k_field rfl (by (first | omega | (simp only [List.length_cons, List.length_nil, List.length_take, List.length_drop, List.length_append, List.length_map, List.length_replicate, List.length_set]; omega) | (simp; done) | (simp; omega) | rfl))) ?_)
              refine ops_yes rfl ?_
              (first | refine ops_quiet rfl (k_load rfl rfl) ?_ | refine ops_quiet rfl (k_loadM rfl (by (first | omega | (simp only [List.length_cons, List.length_nil, List.length_take, List.length_drop, List.length_append, List.length_map, List.length_replicate, List.length_set]; omega) | (simp; done) | (simp; omega) | rfl))) ?_ | refine ops_quiet rfl (k_loadS rfl (by (first | rfl | assumption | (apply hel; omega) | (apply hel2; omega) | (apply hel3; omega)))) ?_)
              refine ops_yes rfl ?_
              refine ops_quiet rfl (Pure.q (p_not rfl)) ?_
              refine ops_yes rfl ?_
              refine ops_quiet rfl (Pure.q (p_move rfl)) ?_
              refine ops_no rfl rfl ?_
              refine ops_no rfl rfl ?_
              refine ops_yes rfl ?_
              refine ops_quiet rfl (Pure.q (p_pick_f rfl rfl)) ?_
              refine ops_quiet rfl (Pure.q (p_pick_f rfl rfl)) ?_
              refine ops_nil ?_
              refine run_cond_f rfl (run_skip (run_inBlock (run_sub (sc 0 rfl (sc 3 rfl (sc 4 rfl (sc 5 rfl (sc 6 rfl (sc 12 rfl (sc 13 rfl Sub.nil))))))) (run_region (id := 12) ?_))))
              refine ops_quiet rfl (Pure.q (p_move rfl)) ?_
              refine ops_quiet rfl (Pure.q (p_add rfl rfl (by (first | exact wrap_byte _ | exact wrap_i64 (by omega) (by omega) | exact wrap_u8 (by omega) (by omega) | exact wrap_u64 (by omega) (by omega) | exact wrap_u32 (by omega) (by omega) | rfl)))) ?_
              refine ops_quiet rfl (Pure.q (p_assign rfl)) ?_
              refine ops_nil ?_
              exact runs_is (i + 1, ⟨now, sure, dirty, plan, true⟩) ⟨by omega, by omega⟩ (by (repeat (first | exact Sub.nil | refine Sub.cons rfl ?_))) (by (repeat' first | exact Goes.nil | with_reducible apply Goes.exi | with_reducible apply Goes.all | with_reducible apply Goes.pur | ((with_reducible apply Goes.cons); focus ((repeat' constructor); done)) | with_reducible apply dsk_goes | with_reducible apply odk_goes | with_reducible apply raw_goes) <;> first | exact hB | skip)
            · (try simp only [decide_eq_true_eq, decide_eq_false_iff_not, Bool.not_eq_true', Bool.not_eq_false'] at hg194)
              subst hg194
              rw [show readR ⟨now, sure, dirty, plan, false⟩ n n = (1, []) by unfold readR; rw [if_neg (by simp), if_neg (by omega)]]
              refine ops_no rfl rfl ?_
              refine ops_no rfl rfl ?_
              refine ops_yes rfl ?_
              refine ops_quiet rfl (Pure.q (p_pick_f rfl rfl)) ?_
              refine ops_quiet rfl (Pure.q (p_pick_f rfl rfl)) ?_
              refine ops_quiet rfl (Pure.q (p_move rfl)) ?_
              refine ops_yes rfl ?_
              refine ops_quiet rfl (Pure.q (p_move rfl)) ?_
              refine ops_yes rfl ?_
              (first | refine ops_quiet rfl (Pure.q (p_nil_ptr rfl)) ?_ | refine ops_quiet rfl (Pure.q (p_nilE rfl (by (first | omega | (simp only [List.length_cons, List.length_nil, List.length_take, List.length_drop, List.length_append, List.length_map, List.length_replicate, List.length_set]; omega) | (simp; done) | (simp; omega) | rfl)))) ?_ | refine ops_quiet rfl (k_nil rfl (by (first | omega | (simp only [List.length_cons, List.length_nil, List.length_take, List.length_drop, List.length_append, List.length_map, List.length_replicate, List.length_set]; omega) | (simp; done) | (simp; omega) | rfl))) ?_ | refine ops_quiet rfl (Pure.q (p_nil_func rfl)) ?_)
              refine ops_yes rfl ?_
              (first | refine ops_quiet rfl (Pure.q (p_fieldAddr rfl)) ?_ | refine ops_quiet rfl (Pure.q (p_fieldE rfl (by (first | omega | (simp only [List.length_cons, List.length_nil, List.length_take, List.length_drop, List.length_append, List.length_map, List.length_replicate, List.length_set]; omega) | (simp; done) | (simp; omega) | rfl)))) ?_ | refine ops_quiet rfl (k_field rfl (by (first | omega | (simp only [List.length_cons, List.length_nil, List.length_take, List.length_drop, List.length_append, List.length_map, List.length_replicate, List.length_set]; omega) | (simp; done) | (simp; omega) | rfl))) ?_)
              refine ops_yes rfl ?_
              (first | refine ops_quiet rfl (k_load rfl rfl) ?_ | refine ops_quiet rfl (k_loadM rfl (by (first | omega | (simp only [List.length_cons, List.length_nil, List.length_take, List.length_drop, List.length_append, List.length_map, List.length_replicate, List.length_set]; omega) | (simp; done) | (simp; omega) | rfl))) ?_ | refine ops_quiet rfl (k_loadS rfl (by (first | rfl | assumption | (apply hel; omega) | (apply hel2; omega) | (apply hel3; omega)))) ?_)
              refine ops_yes rfl ?_
              refine ops_quiet rfl (Pure.q (p_not rfl)) ?_
              refine ops_yes rfl ?_
              refine ops_quiet rfl (Pure.q (p_move rfl)) ?_
              refine ops_yes rfl ?_
              refine ops_quiet rfl (Pure.q (p_move rfl)) ?_
              refine ops_yes rfl ?_
              refine ops_quiet rfl (Pure.q (p_neq rfl rfl)) ?_
              refine ops_yes rfl ?_
              refine ops_quiet rfl (Pure.q (p_pick_t rfl rfl)) ?_
              refine ops_quiet rfl (Pure.q (p_pick_f rfl rfl)) ?_
              refine ops_nil ?_
              refine run_cond_f rfl (run_skip (run_inBlock (run_sub (sc 0 rfl (sc 3 rfl (sc 4 rfl (sc 5 rfl (sc 6 rfl (sc 12 rfl (sc 13 rfl Sub.nil))))))) (run_region (id := 12) ?_))))
              refine ops_quiet rfl (Pure.q (p_move rfl)) ?_
              refine ops_quiet rfl (Pure.q (p_add rfl rfl (by (first | exact wrap_byte _ | exact wrap_i64 (by omega) (by omega) | exact wrap_u8 (by omega) (by omega) | exact wrap_u64 (by omega) (by omega) | exact wrap_u32 (by omega) (by omega) | rfl)))) ?_
              refine ops_quiet rfl (Pure.q (p_assign rfl)) ?_
              refine ops_nil ?_
              exact runs_is (i + 1, ⟨now, sure, dirty, plan, false⟩) ⟨by omega, by omega⟩ (by (repeat (first | exact Sub.nil | refine Sub.cons rfl ?_))) (by (repeat' first | exact Goes.nil | with_reducible apply Goes.exi | with_reducible apply Goes.all | with_reducible apply Goes.pur | ((with_reducible apply Goes.cons); focus ((repeat' constructor); done)) | with_reducible apply dsk_goes | with_reducible apply odk_goes | with_reducible apply raw_goes) <;> first | exact hB | skip)
    · (try simp only [decide_eq_true_eq, decide_eq_false_iff_not, Bool.not_eq_true', Bool.not_eq_false'] at h70)
      refine run_exit rfl (run_seq (run_sub (sc 3 rfl Sub.nil) (run_region (id := 45) ?_)))
      refine ops_quiet rfl (Pure.q (p_move rfl)) ?_
      refine ops_quiet rfl (Pure.q (p_assign rfl)) ?_
      refine ops_nil ?_
      refine rets_one rfl rfl rfl ?_
      (repeat' first | exact Goes.nil | with_reducible apply Goes.exi | with_reducible apply Goes.all | with_reducible apply Goes.pur | ((with_reducible apply Goes.cons); focus ((repeat' constructor); done)) | with_reducible apply dsk_goes | with_reducible apply odk_goes | with_reducible apply raw_goes) <;> (first | rfl | assumption | omega | (simp [*]; done) | skip)
  · (try simp only [decide_eq_true_eq, decide_eq_false_iff_not, Bool.not_eq_true', Bool.not_eq_false'] at hg62)
    refine ops_no rfl rfl ?_
    refine ops_no rfl rfl ?_
    refine ops_no rfl rfl ?_
    refine ops_no rfl rfl ?_
    refine ops_no rfl rfl ?_
    refine ops_no rfl rfl ?_
    refine ops_no rfl rfl ?_
    refine ops_quiet rfl (Pure.q (p_pick_f rfl rfl)) ?_
    refine ops_nil ?_
    refine run_cond_f rfl (run_exit rfl (run_seq (run_sub (sc 3 rfl Sub.nil) (run_region (id := 45) ?_))))
    refine ops_quiet rfl (Pure.q (p_move rfl)) ?_
    refine ops_quiet rfl (Pure.q (p_assign rfl)) ?_
    refine ops_nil ?_
    refine rets_one rfl rfl rfl ?_
    (repeat' first | exact Goes.nil | with_reducible apply Goes.exi | with_reducible apply Goes.all | with_reducible apply Goes.pur | ((with_reducible apply Goes.cons); focus ((repeat' constructor); done)) | with_reducible apply dsk_goes | with_reducible apply odk_goes | with_reducible apply raw_goes) <;> (first | rfl | assumption | omega | (simp [*]; done) | skip)
end Go.Proofs.YtaibgfnfmkpibaaGreatDoor.SL
