/- A run that is reckoned out: one operation of any kind; regions. No program in sight. -/
import Derived.Test.YtaibgfnfmkpibaaGreatDoorEngQ
namespace Go.Proofs.YtaibgfnfmkpibaaGreatDoor.SL
open Go

section
variable {P : Program} {G : Nat} {σ : Sg} {fr : SFr} {ty t : TypeId} {h : SHp} {nx : Nat} {F : Base} {w : World}

/-- What a call may come to. -/
def FnOk (P : Program) (G : Nat) (f : FuncId) (args : List SV) (h : SHp) (nx : Nat) (outs : List Out) : Prop :=
  BD P f ∧ ∀ σ, VOk G σ → G ≤ nx → Fn P f (toVs σ args).toArray (pcs σ h) fun v => [exi fun σ' : Sg => exi fun o : Out =>
    All (pur (VOk G σ' ∧ Agree nx σ σ' ∧ o ∈ outs ∧ nx ≤ o.nx ∧ v = toV σ' o.v) :: pcs σ' o.h)]
def CallOk (P : Program) (G : Nat) (call : FuncId → List SV → SHp → Nat → Option (List Out)) : Prop :=
  ∀ f args h nx outs, call f args h nx = some outs → FnOk P G f args h nx outs

theorem call_out {σ : Sg} {outs : List Out} (hb : belF nx fr = true) {v : Value} (hw : Holds ([exi fun σ' : Sg => exi fun o : Out => All (pur (VOk G σ' ∧ Agree nx σ σ' ∧ o ∈ outs ∧ nx ≤ o.nx ∧ v = toV σ' o.v) :: pcs σ' o.h)] ++ []) F w) :
    ∃ σ' o, VOk G σ' ∧ Agree nx σ σ' ∧ frV σ' fr = frV σ fr ∧ o ∈ outs ∧ nx ≤ o.nx ∧ v = toV σ' o.v ∧ Holds (pcs σ' o.h) F w := by
  obtain ⟨σ', hw⟩ := holds_exi.1 hw
  obtain ⟨o, hw⟩ := holds_exi.1 hw
  have hw := holds_all.1 hw
  obtain ⟨⟨h1, h2, h3, h4, h5⟩, hw⟩ := holds_pur.1 hw
  exact ⟨σ', o, h1, h2, (frV_agree h2 hb).symm, h3, h4, h5, by simpa using hw⟩

theorem call_sound {call : FuncId → List SV → SHp → Nat → Option (List Out)} (hK : CallOk P G call) {f : FuncId} {xs : Array Operand} {ats : Array TypeId} {vs : List SV} {outs : List Out} (hx : evsS G fr xs.toList = some vs) (hb : belF nx fr = true)
    (hc : call f vs h nx = some outs) : SStep P G (.call ⟨.value (.func f), xs, ats⟩) ty fr h nx outs := by
  obtain ⟨hbd, hfn⟩ := hK f vs h nx outs hc
  haveI := hbd
  obtain ⟨xl⟩ := xs
  refine sstep_of fun σ hσ hG => ⟨Value, _, _, s_call (R := []) (evsS_sound hσ hx) (hfn σ hσ hG) (by show Ent _ (_ ++ []); rw [List.append_nil]; exact .refl _), fun v F w hw => call_out hb hw⟩

theorem callv_sound {call : FuncId → List SV → SHp → Nat → Option (List Out)} (hK : CallOk P G call) {f : FuncId} {tm : Nat} {cap : List SV} {xs : Array Operand} {ats : Array TypeId} {vs : List SV} {outs : List Out} (ht : fr.lookup tm = some (.func f cap))
    (hx : evsS G fr xs.toList = some vs) (hb : belF nx fr = true) (hc : call f (vs ++ cap) h nx = some outs) : SStep P G (.call ⟨.value (.tmp tm), xs, ats⟩) ty fr h nx outs := by
  obtain ⟨hbd, hfn⟩ := hK f _ h nx outs hc
  haveI := hbd
  obtain ⟨xl⟩ := xs
  refine sstep_of fun σ hσ hG => ?_
  have hv : ev (frV σ fr) (.tmp tm) = some (.func (.func f) #[] (toVs σ cap).toArray) := by simp only [ev, frV_lookup, ht, Option.map_some, toV]
  have hf := hfn σ hσ hG
  rw [toVs_append, ← List.append_toArray] at hf
  exact ⟨Value, _, _, s_callv (R := []) hv (evsS_sound hσ hx) hf (by show Ent _ (_ ++ []); rw [List.append_nil]; exact .refl _), fun v F w hw => call_out hb hw⟩

theorem stepOp_sound {chk : TypeId → SV → Bool} {call : FuncId → List SV → SHp → Nat → Option (List Out)} (hC : ChkOk P chk) (hK : CallOk P G call) {op : Op} {outs : List Out} (hs : stepOp P G chk call fr h nx op = some outs) : SStep P G op ty fr h nx outs := by
  unfold stepOp at hs
  split at hs
  · split at hs
    · rename_i z hz
      split at hs
      · rename_i zs hc; exact alloc_sound hz hc hs
      · cases hs
    · cases hs
  · split at hs
    · rename_i v hx
      split at hs
      · rename_i zs hc
        split at hs
        · rename_i hb; exact box_sound hx hc hb hs
        · cases hs
      · cases hs
    · cases hs
  · exact makeMap_sound hs
  · split at hs
    · rename_i e ps ht hp
      split at hs
      · rename_i info z hi hz
        split at hs
        · rename_i zs hc
          rw [Option.ite_none_right_eq_some] at hs
          obtain ⟨⟨h1, h2, h3, h4, h5⟩, hs⟩ := hs
          exact buildSlice_sound ht hp hi hz hc h1 h2 h3 h4 h5 hs
        · cases hs
      · cases hs
    · cases hs
  · split at hs
    · rename_i b o v hx hy
      split at hs
      · rename_i T vs hb
        split at hs
        · rename_i vs' hst; cases hs; exact store_sound hx hy hb hst
        · cases hs
      · cases hs
    · rename_i b k v hx hy
      split at hs
      · rename_i T sz n xs hb hk
        rw [Option.ite_none_right_eq_some] at hs
        obtain ⟨hc, hs⟩ := hs
        simp only [Bool.and_eq_true, Nat.blt_eq] at hc
        cases hs
        exact storeE_sound hx hy hb hk hc.1 hc.2
      · cases hs
    · cases hs
  · split at hs
    · rename_i b k x kt el hm hk hy ht
      split at hs
      · rename_i es clk hb
        split at hs
        · rename_i hf; cases hs; exact mapUpdate_sound hC hm hk hy ht hb hf
        · cases hs
      · cases hs
    · cases hs
  · split at hs
    · rename_i xs ats _ _ m ix t t2 hxs hats
      obtain ⟨xl⟩ := xs
      obtain ⟨al⟩ := ats
      simp only at hxs hats
      subst hxs hats
      split at hs
      · rename_i b k kt el hm hk ht
        split at hs
        · rename_i es clk hb
          split at hs
          · rename_i f hf; cases hs; exact delete_sound hC hm hk ht hb hf
          · cases hs
        · cases hs
      · cases hs
    · cases hs
  · split at hs
    · rename_i xs ats _ _ x y t xt hxs hats
      obtain ⟨xl⟩ := xs
      obtain ⟨al⟩ := ats
      simp only at hxs hats
      subst hxs hats
      split at hs
      · rename_i vx j e e' hx hy ht hxt
        split at hs
        · rename_i info z T' sz' m ys hi hz hj
          split at hs
          · rename_i zs hc
            rw [Option.ite_none_right_eq_some] at hs
            obtain ⟨⟨hzs, hsz⟩, hs⟩ := hs
            subst hsz
            split at hs
            · rw [Option.ite_none_right_eq_some] at hs
              obtain ⟨hq, hs⟩ := hs
              cases hs
              simp only [Bool.and_eq_true, Nat.ble_eq] at hq
              obtain ⟨⟨h1, h2⟩, h3⟩ := hq
              exact (append_sound hx hy ht hxt hi hz hj hc hzs (by simpa using h1)).1 rfl h2 h3
            · rename_i i
              split at hs
              · rename_i T sz n xs hi'
                rw [Option.ite_none_right_eq_some] at hs
                obtain ⟨⟨h1, h2, h3, h4⟩, hs⟩ := hs
                subst h1 h2
                cases hs
                simp only [Bool.and_eq_true, Nat.ble_eq] at h4
                obtain ⟨⟨h5, h6⟩, h7⟩ := h4
                exact (append_sound hx hy ht hxt hi hz hj hc hzs (by simpa using h5)).2 i n xs rfl hi' h3 h6 h7
              · cases hs
            · cases hs
          · cases hs
        · cases hs
      · cases hs
    · cases hs
  · split at hs
    · rename_i b kt el hx ht
      split at hs
      · rename_i es clk hb
        rw [Option.ite_none_right_eq_some] at hs
        obtain ⟨hbn, hs⟩ := hs
        exact range_sound hx ht hb (by simpa using hbn) hs
      · cases hs
    · cases hs
  · split at hs
    · rename_i b hx
      split at hs
      · rename_i m since seen last hb
        split at hs
        · rename_i es clk hm
          rw [Option.ite_none_right_eq_some] at hs
          obtain ⟨hc, hs⟩ := hs
          simp only [Bool.and_eq_true, Bool.not_eq_true'] at hc
          have hne : b ≠ m := by rintro rfl; simp at hc
          have := next_sound (P := P) (ty := ty) (nx := nx) hx hb hm hne hc.1
          by_cases he : (leftS es seen).isEmpty = true
          · rw [if_pos he] at hs this; cases hs; exact this
          · rw [if_neg he] at hs this; cases hs; exact this
        · cases hs
      · cases hs
    · cases hs
  · split at hs
    · rename_i b hx
      split at hs
      · rename_i m since seen last hb
        split at hs
        · rename_i es clk s hm hsn
          rw [Option.ite_none_right_eq_some] at hs
          obtain ⟨hc, hs⟩ := hs
          simp only [Bool.and_eq_true, Bool.not_eq_true', Nat.beq_eq] at hc
          have hne : b ≠ m := by rintro rfl; simp at hc
          split at hs
          · rename_i e he
            cases hs
            obtain ⟨rfl, _⟩ := hc
            exact entry_sound hx hb hm hne hsn he
          · cases hs
        · cases hs
      · cases hs
    · cases hs
  · split at hs
    · rename_i vs hx
      rw [Option.ite_none_right_eq_some] at hs
      exact call_sound hK hx hs.1 hs.2
    · cases hs
  · split at hs
    · rename_i f cap vs ht hx
      rw [Option.ite_none_right_eq_some] at hs
      exact callv_sound hK ht hx hs.1 hs.2
    · cases hs
  · cases hs

theorem Ent.one {c : HProp} {L : List HProp} : Ent (c :: L) [c] := Ent.cons c Ent.nil
theorem look_all {σ : Sg} {b : Nat} {o : SO} (hb : h.lookup b = some o) : Ent (pcs σ h) [pc σ (b, o)] := (ent_get hb).trans Ent.one

theorem anyOp_sound {E : Env} {call : FuncId → List SV → SHp → Nat → Option (List Out)} (hE : EqsOk E.P E.eqs) (hC : ChkOk E.P E.chk) (hK : CallOk E.P E.G call) {op : Op} {outs : List Out} (hs : anyOp E call fr h nx op = some outs) : SStep E.P E.G op ty fr h nx outs := by
  unfold anyOp at hs
  split at hs
  · rename_i v hp
    cases hs
    exact sstep_quiet fun σ hσ => (pureOp_sound hσ hE hp).q
  · split at hs
    · rename_i v b hl
      cases hs
      refine sstep_quiet fun σ hσ => ?_
      obtain ⟨o, hb, hq⟩ := lookOp_sound (ty := ty) hσ hC hl
      intro n F a w d pos after g hr hh
      exact hq n F a w d pos after g hr (look_all hb F w hh)
    · exact stepOp_sound hC hK hs

theorem bindAll_spec {α β : Type} {f : α → Option (List β)} : ∀ {l : List α} {r : List β}, bindAll f l = some r → ∀ a ∈ l, ∃ x, f a = some x ∧ ∀ y ∈ x, y ∈ r
  | [], r, _, a, ha => by cases ha
  | b :: l, r, h, a, ha => by
    simp only [bindAll] at h
    split at h
    · rename_i x y hx hy
      cases h
      rcases List.mem_cons.1 ha with rfl | ha
      · exact ⟨x, hx, fun z hz => List.mem_append_left _ hz⟩
      · obtain ⟨x', h1, h2⟩ := bindAll_spec hy a ha
        exact ⟨x', h1, fun z hz => List.mem_append_right _ (h2 z hz)⟩
    · cases h

theorem frV_put {d : Option Nat} {v : SV} : frV σ (putS fr d v) = putFr (frV σ fr) d (toV σ v) := by cases d <;> rfl
theorem wantsS_sound {ops : Array Oper} {g : Option (Nat × Bool)} {c : Bool} (hw : wantsS ops fr g = some c) : wants ops (frV σ fr) g = some c := by
  unfold wantsS at hw
  split at hw
  · cases hw; rfl
  · rename_i j want
    split at hw
    · rename_i t ht
      split at hw
      · rename_i c' hc
        cases hw
        simp only [wants, ht, frV_lookup, hc, Option.map_some, toV]
      · cases hw
    · cases hw
theorem dOk_inFr {N : Nat} {n : Cfg} (hn : n.n = N) {d : Option Nat} (hd : dOk N d = true) : inFr n d = true := by
  subst hn
  cases d with
  | none => rfl
  | some d => simpa [inFr, dOk] using hd

/-- A state that stands. -/
structure Stands (G : Nat) (n : Cfg) (F : Base) (σ : Sg) (s : St) (a : Act) (w : World) : Prop where
  ok : VOk G σ
  le : G ≤ s.nx
  rep : Rep n a (frV σ s.fr)
  holds : Holds (pcs σ s.h) F w

/-- A later state, and its numbers. -/
structure GoesAll (σ : Sg) (s : St) (σ' : Sg) (s' : St) : Prop where
  agree : Agree s.nx σ σ'
  le : s.nx ≤ s'.nx
theorem GoesAll.refl {s : St} : GoesAll σ s σ s := ⟨Agree.refl _ _, Nat.le_refl _⟩
theorem GoesAll.trans {s s' s'' : St} {σ' σ'' : Sg} (h : GoesAll σ s σ' s') (h' : GoesAll σ' s' σ'' s'') : GoesAll σ s σ'' s'' := ⟨h.agree.trans h.le h'.agree, Nat.le_trans h.le h'.le⟩

theorem simOps_sound {E : Env} {call : FuncId → List SV → SHp → Nat → Option (List Out)} (hE : EqsOk E.P E.eqs) (hC : ChkOk E.P E.chk) (hK : CallOk E.P E.G call) {n : Cfg} {Q : Exit → Act → World → Prop} {ops : Array Oper} :
    ∀ (rest : List Oper) (s : St) (outs : List St), simOps E call n.n ops rest s = some outs → ∀ σ a w, Stands E.G n F σ s a w →
      (∀ σ' s' a' w', s' ∈ outs → GoesAll σ s σ' s' → Stands E.G n F σ' s' a' w' → Q .normal a' w') → wpListIn (WF n.r) 0 E.P ops Q rest a w
  | [], s, outs, hs, σ, a, w, hst, hk => by
    simp only [simOps] at hs
    cases hs
    exact hk σ s a w (List.mem_singleton.2 rfl) .refl hst
  | o :: rest, s, outs, hs, σ, a, w, hst, hk => by
    obtain ⟨d, op, ty, pos, after, g⟩ := o
    simp only [simOps] at hs
    split at hs
    · rename_i hd
      have hd := dOk_inFr rfl hd
      split at hs
      · rename_i hw
        have hw' := wants_spec (o := ⟨d, op, ty, pos, after, g⟩) hst.rep (wantsS_sound (σ := σ) hw)
        split at hs
        · rename_i os hos
          unfold wpListIn
          rw [hw']
          simp only [if_true]
          refine anyOp_sound hE hC hK hos σ hst.ok hst.le n F a w d pos after g _ _ hst.rep hst.holds ?_
          intro σ' o w' h1 h2 h3 h4 h5 h6
          obtain ⟨x, hx1, hx2⟩ := bindAll_spec hs o h4
          refine simOps_sound hE hC hK rest _ x hx1 σ' _ w' ⟨h1, Nat.le_trans hst.le h5, ?_, h6⟩ ?_
          · rw [frV_put, h3]
            exact hst.rep.put d (inFr_spec hd) _
          · intro σ'' s'' a'' w'' hm hg hst''
            exact hk σ'' s'' a'' w'' (hx2 _ hm) (GoesAll.trans (s' := ⟨putS s.fr d o.v, o.h, o.nx⟩) ⟨h2, h5⟩ hg) hst''
        · cases hs
      · rename_i hw
        have hw' := wants_spec (o := ⟨d, op, ty, pos, after, g⟩) hst.rep (wantsS_sound (σ := σ) hw)
        unfold wpListIn
        rw [hw']
        simp only [Bool.false_eq_true, if_false]
        refine ⟨fun _ _ => trivial, ?_⟩
        refine simOps_sound hE hC hK rest _ outs hs σ _ w ⟨hst.ok, hst.le, ?_, hst.holds⟩ ?_
        · rw [frV_put]
          exact hst.rep.put d (inFr_spec hd) _
        · intro σ'' s'' a'' w'' hm hg hst''
          exact hk σ'' s'' a'' w'' hm (GoesAll.trans (s' := ⟨putS s.fr d .undef, s.h, s.nx⟩) ⟨Agree.refl _ _, Nat.le_refl _⟩ hg) hst''
      · cases hs
    · cases hs
end
end Go.Proofs.YtaibgfnfmkpibaaGreatDoor.SL
