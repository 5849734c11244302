/- The campaign that comes ahead of all: it goes well. -/
import Derived.Test.YtaibgfnfmkpibaaGreatDoorBwA
import Derived.Test.YtaibgfnfmkpibaaGreatDoorRngB
namespace Go.Proofs.YtaibgfnfmkpibaaGreatDoor.SL
open Go

theorem bwExt_ok (G : Nat) : CallOk Tryz.prog G bwExt := by
  intro f args h nx outs hs
  unfold bwExt at hs
  split at hs
  · rename_i g b
    split at hs
    · rename_i hfg
      obtain ⟨rfl, rfl⟩ := hfg
      split at hs
      · rename_i T i hb
        split at hs
        · rename_i T' n xs hi
          rw [Option.ite_none_right_eq_some] at hs
          obtain ⟨⟨rfl, hc⟩, hs⟩ := hs
          cases hs
          simp only [Bool.and_eq_true, Nat.beq_eq, Nat.ble_eq] at hc
          obtain ⟨⟨⟨⟨_, hbel⟩, hone⟩, hlen⟩, hn⟩ := hc
          have hne : b ≠ i := by rintro rfl; rw [hb] at hi; cases hi
          refine ⟨inferInstance, fun σ hσ hG => ?_⟩
          have hxo := ones_sound hσ hone
          have hit := values_iter (bk (σ b)) T 3 (σ i) n (toVs σ xs) (by omega)
          have hc := collect_spec 60 _ _ _ hit (by
            rintro seq rfl
            refine ⟨fun r hr => ?_, by rw [List.length_map, toVs_length]; omega⟩
            obtain ⟨x, hx, rfl⟩ := List.mem_map.1 hr
            exact ⟨rfl, fun y hy => by rw [List.mem_singleton.1 hy]; exact hxo x hx⟩)
          refine (hc.frame (pcs σ (dropH i (dropH b h)))).ent (ent_two hb hi hne) fun v => ?_
          intro F w hw
          obtain ⟨seq, hw⟩ := holds_exi.1 hw
          have hw := holds_all.1 hw
          obtain ⟨rfl, hw⟩ := holds_pur.1 hw
          have e1 : ((toVs σ xs).map fun x => [x]).length = n := by rw [List.length_map, toVs_length, hlen]
          have e2 : ((toVs σ xs).map fun x => [x]).flatten = toVs σ xs := by
            generalize toVs σ xs = l
            induction l with
            | nil => rfl
            | cons a l ih => simp only [List.map_cons, List.flatten_cons, ih, List.singleton_append]
          rw [e1, e2] at hw
          have h1 := own_one hw
          refine holds_exi.2 ⟨setσ σ nx v, holds_exi.2 ⟨⟨.vs nx, (nx, .own 3 1 n xs) :: h, nx + 1⟩, holds_all.2 ?_⟩⟩
          rw [List.append_nil]
          refine holds_pur.2 ⟨⟨setσ_ok hσ hG h1, setσ_agree, List.mem_singleton.2 rfl, Nat.le_succ _, by simp [toV, setσ_at]⟩, ?_⟩
          have hback : Ent (own 3 1 v n (toVs σ xs) :: pc σ (b, .blk T [.vs i]) :: pc σ (i, .own 3 1 n xs) :: pcs σ (dropH i (dropH b h))) (own 3 1 v n (toVs σ xs) :: pcs σ h) :=
            Ent.cons _ ((Ent.cons _ (ent_put (by rw [lookup_drop hne]; exact hi))).trans (ent_put hb))
          have hw' := hback F w hw
          have hxs : bels nx xs = true := by
            have hmem : ∀ {i : Nat} {o : SO} {h : SHp}, h.lookup i = some o → (i, o) ∈ h := by
              intro i o h
              induction h with
              | nil => intro hl; cases hl
              | cons p h ih =>
                intro hl
                obtain ⟨k, o'⟩ := p
                simp only [List.lookup_cons] at hl
                by_cases e : i = k
                · subst e; simp only [beq_self_eq_true] at hl; cases hl; exact List.mem_cons_self
                · have h1 : (i == k) = false := by simpa using e
                  rw [h1] at hl
                  exact List.mem_cons_of_mem _ (ih hl)
            have := List.all_eq_true.1 hbel _ (hmem hi)
            simp only [Bool.and_eq_true, belO] at this
            exact this.2
          rw [pcs_agree (setσ_agree (v := v)) hbel, toVs_agree (setσ_agree (v := v)) _ hxs] at hw'
          simpa [pcs, pc, setσ_at] using hw'
        · cases hs
      · cases hs
    · split at hs
      · rename_i hfg
        obtain ⟨rfl, rfl⟩ := hfg
        split at hs
        · rename_i T i hb
          split at hs
          · rename_i clk hi
            cases hs
            have hne : b ≠ i := by rintro rfl; rw [hb] at hi; cases hi
            refine ⟨inferInstance, fun σ hσ hG => ?_⟩
            have hit := mapValues_iter (bk (σ b)) (bk (σ i)) clk T
            have hc := collectE_spec 121 _ _ hit
            refine (hc.frame (pcs σ (dropH i (dropH b h)))).ent (ent_two hb hi hne) fun v => ?_
            intro F w hw
            obtain ⟨hv, hw2⟩ := holds_pur.1 hw
            subst hv
            refine holds_exi.2 ⟨σ, holds_exi.2 ⟨⟨.nsl, h, nx⟩, holds_all.2 ?_⟩⟩
            rw [List.append_nil]
            refine holds_pur.2 ⟨⟨hσ, Agree.refl _ _, List.mem_singleton.2 rfl, Nat.le_refl _, rfl⟩, ?_⟩
            exact (Ent.trans (Ent.cons (pc σ (b, .blk T [.map i])) (ent_put (σ := σ) (i := i) (o := .map [] clk) (h := dropH b h) (by rw [lookup_drop hne]; exact hi))) (ent_put hb)) F w hw2
          · cases hs
        · cases hs
      · cases hs
  · cases hs

def steps : List Value := [0x000000, 0x864CFB, 0x8AD50D, 0x0C99F6, 0x93E6E1, 0x15AA1A, 0x1933EC, 0x9F7F17, 0xA18139, 0x27CDC2, 0x2B5434, 0xAD18CF, 0x3267D8, 0xB42B23, 0xB8B2D5, 0x3EFE2E].map (Value.int .u32)

theorem buoyWorks_spec (ob : Obj) : Fn Tryz.prog 4 #[] [tab 0 ob steps] (fun v => [pur (v = .bool true), tab 0 ob steps]) := by
  have hrun := bw_run
  unfold bwGood at hrun
  split at hrun
  · rename_i outs hs
    have hN : ∀ (f : FuncId) (fn : Func), bwE.P.funcs[f]? = some fn → fn.name ≠ "runtime.NumGoroutine" := by
      intro f fn hf
      have := Array.all_eq_true'.1 bw_names fn (Array.mem_of_getElem? hf)
      simpa using this
    obtain ⟨_, hfn⟩ := simFn_sound (E := bwE) mixed hN bwEqs_ok bwChk_ok (bwExt_ok _) 300 40 4 [] bwH (0 + 1) outs hs
    have := hfn ⟨fun i => .pointer (some ⟨i, 0, none⟩), fun _ => ob⟩ ⟨fun _ => rfl, fun _ _ => rfl⟩ (Nat.le_refl _)
    refine this.ent (.refl _) fun v => ?_
    intro F w hw
    obtain ⟨σ', hw⟩ := holds_exi.1 hw
    obtain ⟨o, hw⟩ := holds_exi.1 hw
    have hw := holds_all.1 hw
    rw [List.append_nil] at hw
    obtain ⟨⟨h1, h2, h3, h4, h5⟩, hw⟩ := holds_pur.1 hw
    have hg := List.all_eq_true.1 hrun o h3
    split at hg
    · rename_i hv hl
      refine holds_pur.2 ⟨by rw [h5, hv]; rfl, ?_⟩
      have := look_all hl F w hw
      rw [eqO_sound _ _ hg] at this
      have h6 : σ' 0 = .pointer (some ⟨0, 0, none⟩) := h1.glob _ (Nat.lt_succ_self _)
      have h7 : σ'.obj = fun _ => ob := h2.2.symm
      simp only [pc, h6, bk, h7] at this
      exact this
    · cases hg
  · cases hrun
#print axioms buoyWorks_spec
end Go.Proofs.YtaibgfnfmkpibaaGreatDoor.SL
