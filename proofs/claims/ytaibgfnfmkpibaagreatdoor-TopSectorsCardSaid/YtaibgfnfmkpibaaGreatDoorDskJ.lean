/- The disk: which sectors are not synced. -/
import Derived.Test.YtaibgfnfmkpibaaGreatDoorDskI
import Derived.Test.YtaibgfnfmkpibaaGreatDoorRngC
namespace Go.Proofs.YtaibgfnfmkpibaaGreatDoor.SL
open Go
attribute [local irreducible] mp mit blk rbk pt exi pur ob orb sv pv own rsl rxs elp sub st Pure Quiet Step Run Ops Dp Fn Ent Tk Holds
attribute [local irreducible] dsk odk

def dirtyL (A : Dk) (n : Nat) : List Int := ((List.range n).filter fun k => A.dirty.getD k false).map fun k : Nat => (k : Int)
theorem dirtyL_mem {A : Dk} {n : Nat} {k : Int} : k ∈ dirtyL A n ↔ 0 ≤ k ∧ k < n ∧ A.dirty.getD k.toNat false = true := by
  unfold dirtyL
  simp only [List.mem_map, List.mem_filter, List.mem_range]
  constructor
  · rintro ⟨j, ⟨h1, h2⟩, rfl⟩
    exact ⟨by omega, by omega, h2⟩
  · rintro ⟨h0, h1, h2⟩
    exact ⟨k.toNat, ⟨by omega, h2⟩, by omega⟩
theorem dirtyL_sorted (A : Dk) (n : Nat) : (dirtyL A n).Pairwise (· < ·) := by
  unfold dirtyL
  rw [List.pairwise_map]
  exact (List.pairwise_lt_range.filter _).imp fun h => by omega
theorem dirtyL_len (A : Dk) (n : Nat) : (dirtyL A n).length ≤ n := by
  unfold dirtyL
  rw [List.length_map]
  exact Nat.le_trans (List.length_filter_le _ _) (by simp)
theorem olds_perm {A : Dk} {n : Nat} {om : List (Int × List UInt8)} (hA : DkOk A n) (hO : Olds A om) (hn : (om.map fun x => x.1).Nodup) : (om.map fun x => x.1).Perm (dirtyL A n) := by
  rw [List.perm_ext_iff_of_nodup hn ((dirtyL_sorted A n).imp fun h => Int.ne_of_lt h)]
  intro k
  rw [dirtyL_mem]
  have h := hO k
  have hm := mget_none (m := om) (a := k)
  by_cases hc : 0 ≤ k ∧ A.dirty.getD k.toNat false = true
  · rw [if_pos hc] at h
    have hk : k < n := by
      have : k.toNat < A.dirty.length := by
        rcases Nat.lt_or_ge k.toNat A.dirty.length with h1 | h1
        · exact h1
        · have := hc.2; rw [List.getD_eq_getElem?_getD, List.getElem?_eq_none h1] at this; cases this
      rw [hA.dirty] at this; omega
    constructor
    · intro _; exact ⟨hc.1, hk, hc.2⟩
    · intro _
      apply Decidable.byContradiction
      intro hno
      rw [hm.2 hno] at h; cases h
  · rw [if_neg hc] at h
    constructor
    · intro hin; exact absurd hin (hm.1 h)
    · intro hin; exact absurd ⟨hin.1, hin.2.2⟩ hc
theorem sorted_is {l l' : List Int} (hp : l.Perm l') (hs : Upto l l.length) (h' : l'.Pairwise (· < ·)) : l = l' := by
  refine List.Perm.eq_of_pairwise (le := (· ≤ ·)) (fun a b _ _ h1 h2 => by omega) ?_ (h'.imp fun h => by omega) hp
  rw [List.pairwise_iff_getElem]
  intro i j hi hj hij
  have := hs i j hij hj
  simpa [List.getD_eq_getElem?_getD, hi, hj] using this

theorem dirty_spec (x : Nat) (A : Dk) (n : Nat) (hn : n ≤ 12) :
    Fn Tryz.prog 27 #[.pointer (some ⟨x, 0, none⟩)] [dsk x A n] (fun v => [own 3 1 v (dirtyL A n).length ((dirtyL A n).map (Value.int .i64)), dsk x A n]) := by
  refine fn_of_run Tryz.func27 rfl Tryz.ntmps27 (by simp) fun F => ?_
  refine run_dsk fun vn vp m om hA hO => run_mpFacts m fun hnd => ?_
  have hpm := olds_perm hA hO hnd
  have hle := dirtyL_len A n
  simp only [List.zipIdx_cons, List.zipIdx_nil, List.map_cons, List.map_nil, Nat.zero_add, Nat.reduceAdd]
  refine run_seq (run_sub (sc 0 rfl Sub.nil) (run_region (id := 0) ?_))
  refine ops_quiet rfl (Pure.q (p_assign rfl)) ?_
  refine ops_nil ?_
  refine run_seq (run_sub (sc 0 rfl Sub.nil) (run_region (id := 1) ?_))
  refine ops_quiet rfl (Pure.q (p_move rfl)) ?_
  (first | refine ops_quiet rfl (Pure.q (p_nil_ptr rfl)) ?_ | refine ops_quiet rfl (Pure.q (p_nilE rfl (by (first | omega | (simp only [List.length_cons, List.length_nil, List.length_take, List.length_drop, List.length_append, List.length_map, List.length_replicate, List.length_set]; omega) | (simp; done) | (simp; omega) | rfl)))) ?_ | refine ops_quiet rfl (k_nil rfl (by (first | omega | (simp only [List.length_cons, List.length_nil, List.length_take, List.length_drop, List.length_append, List.length_map, List.length_replicate, List.length_set]; omega) | (simp; done) | (simp; omega) | rfl))) ?_ | refine ops_quiet rfl (Pure.q (p_nil_func rfl)) ?_)
  (first | refine ops_quiet rfl (Pure.q (p_fieldAddr rfl)) ?_ | refine ops_quiet rfl (Pure.q (p_fieldE rfl (by (first | omega | (simp only [List.length_cons, List.length_nil, List.length_take, List.length_drop, List.length_append, List.length_map, List.length_replicate, List.length_set]; omega) | (simp; done) | (simp; omega) | rfl)))) ?_ | refine ops_quiet rfl (k_field rfl (by (first | omega | (simp only [List.length_cons, List.length_nil, List.length_take, List.length_drop, List.length_append, List.length_map, List.length_replicate, List.length_set]; omega) | (simp; done) | (simp; omega) | rfl))) ?_)
  (first | refine ops_quiet rfl (k_load rfl rfl) ?_ | refine ops_quiet rfl (k_loadM rfl (by (first | omega | (simp only [List.length_cons, List.length_nil, List.length_take, List.length_drop, List.length_append, List.length_map, List.length_replicate, List.length_set]; omega) | (simp; done) | (simp; omega) | rfl))) ?_ | refine ops_quiet rfl (k_loadS rfl (by (first | rfl | assumption | (apply hel; omega) | (apply hel2; omega) | (apply hel3; omega)))) ?_)
  refine ops_step rfl (g_call (.cons rfl .nil) (by (repeat' constructor); done) (keys_spec m)) (fun u7 => ?_)
  refine ops_exi fun b => ops_allt (ops_pur fun hu => ?_)
  subst hu
  refine ops_step rfl (g_call (.cons rfl .nil) (by (repeat' constructor); done) (sorted_spec 73 _ _ (fun ks => ks.Perm (om.map fun x => x.1)) (keys_iter (g := secV) b m hnd) (fun ks h => by have := h.length_eq; have := hpm.length_eq; omega))) (fun u8 => ?_)
  refine ops_exi fun ks => ops_exi fun l => ops_allt (ops_pur fun ⟨h1, h2, h3⟩ => ?_)
  have e1 : l = dirtyL A n := sorted_is (h2.trans (h1.trans hpm)) (by rw [h2.length_eq]; exact h3) (dirtyL_sorted A n)
  subst e1
  rw [← h2.length_eq]
  refine ops_quiet rfl (Pure.q (p_assign rfl)) ?_
  refine ops_nil ?_
  refine rets_one rfl rfl rfl ?_
  (repeat' first | exact Goes.nil | with_reducible apply Goes.exi | with_reducible apply Goes.all | with_reducible apply Goes.pur | ((with_reducible apply Goes.cons); focus ((repeat' constructor); done)) | with_reducible apply dsk_goes | with_reducible apply odk_goes) <;> (first | rfl | assumption | omega | (simp [*]; done) | skip)
end Go.Proofs.YtaibgfnfmkpibaaGreatDoor.SL
