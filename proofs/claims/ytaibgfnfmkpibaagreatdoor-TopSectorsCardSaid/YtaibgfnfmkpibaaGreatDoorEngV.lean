/- A run that is reckoned out: code, and functions. No program in sight. -/
import Derived.Test.YtaibgfnfmkpibaaGreatDoorEngU
import Derived.Scope
namespace Go.Proofs.YtaibgfnfmkpibaaGreatDoor.SL
open Go

section
variable {P : Program} {b : Frame} {a : Act} {k : List Item} {cs : List Frame} {w : World} {Q : Exit → Act → World → Prop}
theorem stepR_scope {c : Code} : step P (lone (b.atR a (.code (.scope c) :: k)) cs w) = .next (lone (b.atR a (.code c :: .inScope c :: k)) cs w) :=
  step_lone_go (by simp [stepG, stepG.exec, Frame.atR])
theorem stepR_inScope {c : Code} : step P (lone (b.atR a (.inScope c :: k)) cs w) = .next (lone (b.atR a k) cs w) :=
  step_lone_go (by simp [stepG, stepG.exec, Frame.atR])
theorem wpIn_scope {r : Option Nat} {c : Code} (h : c.wpIn (WF r) 0 P (Exit.noGoto Q) a w) : (Code.scope c).wpIn (WF r) 0 P Q a w := by
  intro b k cs hro hb hr
  have h0 : (lone (b.atR a (.code (.scope c) :: k)) cs w).fenced P (WF r) := fenced_calm hb hr rfl
  obtain ⟨e, a₁, w₁, hq, harr⟩ := h b (.inScope c :: k) cs hro hb hr
  cases e with
  | normal => exact ⟨.normal, a₁, w₁, hq, .head h0 stepR_scope (StepsIn.trans harr (.one (fenced_calm hb hr rfl) stepR_inScope))⟩
  | exit id =>
    have hx : exitTo id (.inScope c :: k) = exitTo id k := by simp [exitTo]
    exact ⟨_, a₁, w₁, hq, fun k' hk => .head h0 stepR_scope (harr.1 k' (by rw [hx]; exact hk)),
      fun hr' hk => let ⟨k₁, h1, h2⟩ := harr.2 hr' (by rw [hx]; exact hk); ⟨k₁, h1, .head h0 stepR_scope h2⟩⟩
  | goto l => exact hq.elim
  | ret => exact ⟨_, a₁, w₁, hq, .of_steps (.one h0 stepR_scope) harr⟩
  | panic ch => exact ⟨_, a₁, w₁, hq, .of_steps (.one h0 stepR_scope) harr⟩
  | outgrown => exact ⟨_, a₁, w₁, hq, .of_steps (.one h0 stepR_scope) harr⟩
end

def Ex.exit' : Ex → Exit
  | .normal => .normal
  | .exit id => .exit id
  | .ret => .ret

section
variable {F : Base} {n : Cfg} {E : Env}

theorem PanOk.then {K : Act → World → Prop} {Q : Exit → Act → World → Prop} (h : PanOk Q) : PanOk (Exit.then K Q) := fun c a d v w hp => h c a d v w hp
theorem PanOk.block {id : Nat} {Q : Exit → Act → World → Prop} (h : PanOk Q) : PanOk (Exit.inBlock id Q) := fun c a d v w hp => h c a d v w hp
theorem PanOk.scope {Q : Exit → Act → World → Prop} (h : PanOk Q) : PanOk (Exit.noGoto Q) := fun c a d v w hp => h c a d v w hp

/-- What may come of a state is what one asks. -/
def Asks (G : Nat) (n : Cfg) (F : Base) (σ : Sg) (s : St) (outs : List CO) (Q : Exit → Act → World → Prop) : Prop :=
  ∀ σ' o a' w', o ∈ outs → GoesAll σ s σ' o.s → Stands G n F σ' o.s a' w' → Q o.ex.exit' a' w'

theorem simCode_sound {call : FuncId → List SV → SHp → Nat → Option (List Out)} (hm : E.P.follows .mixedOrders = true) (hE : EqsOk E.P E.eqs) (hC : ChkOk E.P E.chk) (hK : CallOk E.P E.G call) :
    ∀ (m : Nat), (∀ (c : Code) (s : St) (outs : List CO), simCode E call n.n m c s = some outs → ∀ σ a w (Q : Exit → Act → World → Prop), PanOk Q → Stands E.G n F σ s a w → Asks E.G n F σ s outs Q → c.wpIn (WF n.r) 0 E.P Q a w) ∧
      (∀ (c : Code) (s : St) (outs : List CO), simCode E call n.n m (.loop c) s = some outs → ∀ σ a w (Q : Exit → Act → World → Prop), PanOk Q → Stands E.G n F σ s a w → Asks E.G n F σ s outs Q → Code.roundsIn (WF n.r) 0 E.P c Q m a w) := by
  intro m
  induction m with
  | zero => exact ⟨fun c s outs h => (by simp only [simCode] at h; cases h), fun c s outs h => (by simp only [simCode] at h; cases h)⟩
  | succ m ih =>
    obtain ⟨ihc, ihl⟩ := ih
    have loop : ∀ (c : Code) (s : St) (outs : List CO), simCode E call n.n (m + 1) (.loop c) s = some outs → ∀ σ a w (Q : Exit → Act → World → Prop), PanOk Q → Stands E.G n F σ s a w → Asks E.G n F σ s outs Q → Code.roundsIn (WF n.r) 0 E.P c Q (m + 1) a w := by
      intro c s outs h σ a w Q hQ hst hk
      simp only [simCode] at h
      split at h
      · rename_i os hos
        show c.wpIn (WF n.r) 0 E.P (Exit.then (Code.roundsIn (WF n.r) 0 E.P c Q m) Q) a w
        refine ihc c s os hos σ a w _ hQ.then hst ?_
        intro σ' o a' w' ho hg hst'
        obtain ⟨x, hx1, hx2⟩ := bindAll_spec h o ho
        obtain ⟨ex, so⟩ := o
        cases ex with
        | normal => exact ihl c so x hx1 σ' a' w' Q hQ hst' fun σ'' o' a'' w'' ho' hg' hst'' => hk σ'' o' a'' w'' (hx2 _ ho') (hg.trans hg') hst''
        | exit id =>
          cases hx1
          exact hk σ' ⟨.exit id, so⟩ a' w' (hx2 _ (List.mem_singleton.2 rfl)) hg hst'
        | ret =>
          cases hx1
          exact hk σ' ⟨.ret, so⟩ a' w' (hx2 _ (List.mem_singleton.2 rfl)) hg hst'
      · cases h
    refine ⟨?_, loop⟩
    intro c s outs h σ a w Q hQ hst hk
    cases c with
    | skip =>
      simp only [simCode] at h; cases h
      exact wpIn_skip (hk σ _ a w (List.mem_singleton.2 rfl) .refl hst)
    | label l =>
      simp only [simCode] at h; cases h
      exact wpIn_label (hk σ _ a w (List.mem_singleton.2 rfl) .refl hst)
    | exit id =>
      simp only [simCode] at h; cases h
      exact wpIn_exit (hk σ ⟨.exit id, s⟩ a w (List.mem_singleton.2 rfl) .refl hst)
    | ret =>
      simp only [simCode] at h; cases h
      exact wpIn_ret (hk σ ⟨.ret, s⟩ a w (List.mem_singleton.2 rfl) .refl hst)
    | seq x y =>
      simp only [simCode] at h
      split at h
      · rename_i os hos
        refine wpIn_seq (ihc x s os hos σ a w _ hQ.then hst ?_)
        intro σ' o a' w' ho hg hst'
        obtain ⟨z, hz1, hz2⟩ := bindAll_spec h o ho
        obtain ⟨ex, so⟩ := o
        cases ex with
        | normal => exact ihc y so z hz1 σ' a' w' Q hQ hst' fun σ'' o' a'' w'' ho' hg' hst'' => hk σ'' o' a'' w'' (hz2 _ ho') (hg.trans hg') hst''
        | exit id =>
          cases hz1
          exact hk σ' ⟨.exit id, so⟩ a' w' (hz2 _ (List.mem_singleton.2 rfl)) hg hst'
        | ret =>
          cases hz1
          exact hk σ' ⟨.ret, so⟩ a' w' (hz2 _ (List.mem_singleton.2 rfl)) hg hst'
      · cases h
    | cond c x y =>
      simp only [simCode] at h
      split at h
      · rename_i hc
        exact wpIn_cond_true (hst.rep.ev (evS_sound hst.ok hc)) (ihc x s outs h σ a w Q hQ hst hk)
      · rename_i hc
        exact wpIn_cond_false (hst.rep.ev (evS_sound hst.ok hc)) (ihc y s outs h σ a w Q hQ hst hk)
      · cases h
    | block id c =>
      simp only [simCode, Option.map_eq_some_iff] at h
      obtain ⟨os, hos, rfl⟩ := h
      refine wpIn_block (ihc c s os hos σ a w _ hQ.block hst ?_)
      intro σ' o a' w' ho hg hst'
      have hmem : outOf id o ∈ os.map (outOf id) := List.mem_map.2 ⟨o, ho, rfl⟩
      have hs : (outOf id o).s = o.s := by
        unfold outOf
        split
        · split <;> rfl
        · rfl
      have := hk σ' (outOf id o) a' w' hmem (hs ▸ hg) (hs ▸ hst')
      obtain ⟨ex, so⟩ := o
      cases ex with
      | normal => exact this
      | ret => exact this
      | exit id' =>
        show (if id' = id then Q .normal a' w' else Q (.exit id') a' w')
        by_cases he : id' = id
        · subst he
          simp only [outOf, Nat.beq_refl, if_true, Ex.exit'] at this
          rw [if_pos rfl]; exact this
        · have h2 : Nat.beq id' id = false := by rw [← Bool.not_eq_true, Nat.beq_eq]; exact he
          simp only [outOf, h2, Bool.false_eq_true, if_false, Ex.exit'] at this
          rw [if_neg he]; exact this
    | loop c => exact wpIn_loop_rounds (m + 1) (loop c s outs h σ a w Q hQ hst hk)
    | scope c =>
      simp only [simCode] at h
      refine wpIn_scope (ihc c s outs h σ a w _ hQ.scope hst ?_)
      intro σ' o a' w' ho hg hst'
      have := hk σ' o a' w' ho hg hst'
      obtain ⟨ex, so⟩ := o
      cases ex <;> exact this
    | region id ops dr =>
      cases dr with
      | false =>
        simp only [simCode, Option.map_eq_some_iff] at h
        obtain ⟨ss, hss, rfl⟩ := h
        obtain ⟨l⟩ := ops
        refine wpIn_region_lit (simOps_sound hE hC hK l s ss hss σ a w hst ?_)
        intro σ' s' a' w' hm' hg hst'
        exact hk σ' ⟨.normal, s'⟩ a' w' (List.mem_map.2 ⟨s', hm', rfl⟩) hg hst'
      | true =>
        simp only [simCode] at h
        split at h
        · rename_i hc
          simp only [Bool.and_eq_true] at hc
          simp only [Option.map_eq_some_iff] at h
          obtain ⟨ss, hss, rfl⟩ := h
          refine wpIn_region_any hm (wpAny_of_G _ [] _ _ _ ?_)
          refine simDraw_sound hE hC hK hc.1 hc.2 hQ _ _ [] s ss hss σ a _ [] ⟨hst.ok, hst.le, hst.rep, holds_same hst.holds rfl rfl rfl⟩ ⟨fun q hq => (by cases hq), fun p hp => (by cases hp)⟩ ?_
          intro σ' s' a' w' hm' hg hst'
          exact hk σ' ⟨.normal, s'⟩ a' w' (List.mem_map.2 ⟨s', hm', rfl⟩) hg hst'
        · cases h
    | _ => simp only [simCode] at h; cases h

def resF (tmps : Array Value) : ResultVar → Sem Value
  | .tmp t => pure (tmps.getD t undef)
  | .cell x t => do loadVar t (← asAddr (tmps.getD x undef))
theorem results_eq (fn : Func) (tmps : Array Value) : results fn tmps = (do
    let vs ← fn.results.mapM (resF tmps)
    pure (if h : vs.size = 1 then vs[0] else .tuple vs)) := by
  unfold results
  congr 1

theorem resL_sound {P : Program} {σ : Sg} {fr : SFr} {h : SHp} {a : Act} {w : World} (hr : Rep n a (frV σ fr)) (hh : Holds (pcs σ h) F w) : ∀ {l : List ResultVar} {vs : List SV}, resL P fr h l = some vs →
    (l.mapM (resF a.tmps)).run P w = .ok (toVs σ vs) w
  | [], vs, hs => by simp only [resL] at hs; cases hs; rfl
  | .tmp t :: l, vs, hs => by
    simp only [resL] at hs
    split at hs
    · rename_i v vs' hv hvs
      cases hs
      have h1 := hr.get t (toV σ v) (by rw [frV_lookup, hv]; rfl)
      have h2 : a.tmps.getD t undef = toV σ v := by simp [Array.getD_eq_getD_getElem?, h1]
      have h3 : (resF a.tmps (.tmp t)).run P w = .ok (toV σ v) w := by simp only [resF, h2, Sem.run_pure]
      simp only [List.mapM_cons, Sem.run_bind, h3, Sem.run_pure, Result.andThen_ok, resL_sound hr hh hvs, toVs]
    · cases hs
  | .cell x t :: l, vs, hs => by
    simp only [resL] at hs
    split at hs
    · rename_i b o vs' hx hvs
      split at hs
      · rename_i T us hb
        split at hs
        · rename_i v hv
          cases hs
          have h1 := hr.get x (toV σ (.ptr (some (b, o)))) (by rw [frV_lookup, hx]; rfl)
          have h2 : a.tmps.getD x undef = .pointer (some ⟨bk (σ b), o, none⟩) := by simp [Array.getD_eq_getD_getElem?, h1, toV]
          have hev : ev (frV σ fr) (.tmp x) = some (.pointer (some ⟨bk (σ b), o, none⟩)) := by simp only [ev, frV_lookup, hx, Option.map_some, toV]
          have hq : (loadVar t ⟨bk (σ b), o, none⟩).run P w = .ok (toV σ v) w := by
            have key : Quiet P (.load t (.tmp x)) 0 (frV σ fr) (pcs σ h) (toV σ v) := by
              rcases loadS_sc (σ := σ) hv with ⟨hsc, hg⟩ | ⟨m, us', hag, rfl, g1, g2, g3⟩
              · haveI := hsc; exact q_load hev (ent_get hb) hg
              · haveI := hag; exact q_load_ag hev (ent_get hb) g1 g2
            have := key n F a w none "" #[] none hr hh
            simp only [execOp, hr.ev hev, Instr.loadAt, Instr.sureAddr, pure_bind, Sem.run_bind] at this
            cases hres : (loadVar t ⟨bk (σ b), o, none⟩).run P w with
            | ok v' w' =>
              rw [hres] at this
              simp only [Result.andThen_ok, Sem.run_pure, Result.ok.injEq, Next.value.injEq] at this
              rw [this.1, this.2]
            | halt x' w' =>
              rw [hres] at this
              cases this
          have h3 : (resF a.tmps (.cell x t)).run P w = .ok (toV σ v) w := by simp only [resF, h2, asAddr, Sem.run_bind, Sem.run_pure, Result.andThen_ok, hq]
          simp only [List.mapM_cons, Sem.run_bind, h3, Sem.run_pure, Result.andThen_ok, resL_sound hr hh hvs, toVs]
        · cases hs
      · cases hs
    · cases hs

theorem resS_sound {P : Program} {σ : Sg} {fn : Func} {fr : SFr} {h : SHp} {a : Act} {w : World} {v : SV} (hr : Rep n a (frV σ fr)) (hh : Holds (pcs σ h) F w) (hs : resS P fr h fn.results.toList = some v) : (results fn a.tmps).run P w = .ok (toV σ v) w := by
  unfold resS at hs
  have key : ∀ vs, resL P fr h fn.results.toList = some vs → (results fn a.tmps).run P w = .ok (if hq : (toVs σ vs).toArray.size = 1 then (toVs σ vs).toArray[0] else .tuple (toVs σ vs).toArray) w := by
    intro vs hvs
    have := resL_sound hr hh hvs
    rw [results_eq, Array.mapM_eq_mapM_toList]
    simp only [Sem.run_bind, Sem.run_map, this, Result.andThen_ok, Sem.run_pure]
  split at hs
  · rename_i u hu
    cases hs
    rw [key _ hu]
    simp [toVs]
  · rename_i vs hne hvs
    cases hs
    rw [key _ hvs]
    have : ¬ (toVs σ vs).toArray.size = 1 := by
      simp only [List.size_toArray, toVs_length]
      intro h1
      match vs, h1 with
      | [u], _ => exact hne u rfl
    rw [dif_neg this]
    rfl
  · cases hs

theorem simFn_sound {ext : FuncId → List SV → SHp → Nat → Option (List Out)} (hm : E.P.follows .mixedOrders = true) (hN : ∀ (f : FuncId) (fn : Func), E.P.funcs[f]? = some fn → fn.name ≠ "runtime.NumGoroutine") (hE : EqsOk E.P E.eqs) (hC : ChkOk E.P E.chk) (hX : CallOk E.P E.G ext) (fuel : Nat) :
    ∀ m, CallOk E.P E.G (simFn E ext fuel m)
  | 0 => fun f args h nx outs hs => by simp only [simFn] at hs; cases hs
  | m + 1 => fun f args h nx outs hs => by
    simp only [simFn] at hs
    split at hs
    · rename_i r hr
      cases hs
      exact hX f args h nx _ hr
    · split at hs
      · cases hs
      · rename_i fn hfn
        split at hs
        · cases hs
        · rename_i c hc
          rw [Option.ite_none_right_eq_some] at hs
          obtain ⟨hle, hs⟩ := hs
          split at hs
          · rename_i os hos
            have hle' : args.length ≤ fn.ntmps := by simpa using hle
            refine ⟨⟨fn, hfn, hN f fn hfn, by rw [hc]; rfl⟩, fun σ hσ hG => ?_⟩
            refine fn_of_run (args := toVs σ args) hfn hc rfl (by rw [toVs_length]; exact hle') fun F => ?_
            intro a w hrep hh
            have hfr : ((toVs σ args).zipIdx.map fun p => (p.2, p.1)) = frV σ (args.zipIdx.map fun p => (p.2, p.1)) := by
              unfold frV
              rw [toVs_map, List.zipIdx_map, List.map_map, List.map_map]
              rfl
            rw [hfr] at hrep
            show c.wpIn (WF none) 0 E.P _ a w
            refine (simCode_sound (n := ⟨fn.ntmps, [], none⟩) (F := F) hm hE hC (simFn_sound hm hN hE hC hX fuel m) fuel).1 c _ os hos σ a w _ panOk_body ⟨hσ, hG, hrep, hh⟩ ?_
            intro σ' o a' w' ho hg hst'
            obtain ⟨x, hx1, hx2⟩ := bindAll_spec hs o ho
            obtain ⟨ex, so⟩ := o
            have fin : ∀ v, resS E.P so.fr so.h fn.results.toList = some v → x = [⟨v, so.h, so.nx⟩] → a'.defers = [] ∧ ∃ v, (results fn a'.tmps).run E.P w' = .ok v w' ∧ ∃ v', Ending.returned v = .returned v' ∧ Holds [exi fun σ' : Sg => exi fun o : Out =>
                All (pur (VOk E.G σ' ∧ Agree nx σ σ' ∧ o ∈ outs ∧ nx ≤ o.nx ∧ v' = toV σ' o.v) :: pcs σ' o.h)] F w' := by
              intro v hv hx
              refine ⟨hst'.rep.defers, toV σ' v, resS_sound hst'.rep hst'.holds hv, toV σ' v, rfl, ?_⟩
              refine holds_exi.2 ⟨σ', holds_exi.2 ⟨⟨v, so.h, so.nx⟩, holds_all.2 ?_⟩⟩
              rw [List.append_nil]
              exact holds_pur.2 ⟨⟨hst'.ok, hg.agree, hx2 _ (by rw [hx]; exact List.mem_singleton.2 rfl), hg.le, rfl⟩, hst'.holds⟩
            cases ex with
            | exit id => cases hx1
            | normal =>
              simp only at hx1
              split at hx1
              · rename_i v hv; cases hx1; exact fin v hv rfl
              · cases hx1
            | ret =>
              simp only at hx1
              split at hx1
              · rename_i v hv; cases hx1; exact fin v hv rfl
              · cases hx1
          · cases hs
end
end Go.Proofs.YtaibgfnfmkpibaaGreatDoor.SL
