/- A run that is reckoned out: regions whose order is open. No program in sight. -/
import Derived.Test.YtaibgfnfmkpibaaGreatDoorEngR
namespace Go.Proofs.YtaibgfnfmkpibaaGreatDoor.SL
open Go

theorem eqV_ptr (a : Option (Nat × Nat)) (b : SV) (h : eqV (.ptr a) b = true) : SV.ptr a = b := by
  cases b with
  | ptr a' =>
    cases a with
    | none => cases a' with
      | none => rfl
      | some p => simp [eqV] at h
    | some p => cases a' with
      | none => simp [eqV] at h
      | some q =>
        obtain ⟨x, o⟩ := p
        obtain ⟨x', o'⟩ := q
        simp only [eqV, Bool.and_eq_true, Nat.beq_eq] at h
        rw [h.1, h.2]
  | _ => cases a <;> simp [eqV] at h
mutual
theorem eqV_sound : ∀ a b : SV, eqV a b = true → a = b
  | .int k i, b, h => by
    cases b <;> simp only [eqV] at h <;> first | (cases h; done) | skip
    simp only [Bool.and_eq_true, decide_eq_true_eq] at h
    rw [h.1, h.2]
  | .bool c, b, h => by
    cases b <;> simp only [eqV] at h <;> first | (cases h; done) | skip
    rw [beq_iff_eq.1 h]
  | .str s, b, h => by cases b <;> simp [eqV] at h
  | .ptr a, b, h => eqV_ptr a b h
  | .nsl, b, h => by cases b <;> simp only [eqV] at h <;> first | rfl | cases h
  | .nmap, b, h => by cases b <;> simp only [eqV] at h <;> first | rfl | cases h
  | .nilf, b, h => by cases b <;> simp only [eqV] at h <;> first | rfl | cases h
  | .vs i, b, h => by
    cases b <;> simp only [eqV] at h <;> first | (cases h; done) | skip
    rw [Nat.eq_of_beq_eq_true h]
  | .elp i k, b, h => by
    cases b <;> simp only [eqV] at h <;> first | (cases h; done) | skip
    simp only [Bool.and_eq_true, Nat.beq_eq] at h
    rw [h.1, h.2]
  | .map i, b, h => by
    cases b <;> simp only [eqV] at h <;> first | (cases h; done) | skip
    rw [Nat.eq_of_beq_eq_true h]
  | .func f l, b, h => by
    cases b <;> simp only [eqV] at h <;> first | (cases h; done) | skip
    simp only [Bool.and_eq_true, Nat.beq_eq] at h
    rw [h.1, eqVs_sound l _ h.2]
  | .agg l, b, h => by
    cases b <;> simp only [eqV] at h <;> first | (cases h; done) | skip
    rw [eqVs_sound l _ h]
  | .tup l, b, h => by
    cases b <;> simp only [eqV] at h <;> first | (cases h; done) | skip
    rw [eqVs_sound l _ h]
  | .undef, b, h => by cases b <;> simp [eqV] at h
theorem eqVs_sound : ∀ a b : List SV, eqVs a b = true → a = b
  | [], b, h => by cases b <;> simp [eqVs] at h; rfl
  | x :: l, b, h => by
    cases b with
    | nil => simp [eqVs] at h
    | cons y m =>
      simp only [eqVs, Bool.and_eq_true] at h
      rw [eqV_sound x y h.1, eqVs_sound l m h.2]
end
theorem eqEs_sound : ∀ a b : List (SV × SV × Nat), eqEs a b = true → a = b
  | [], b, h => by cases b <;> simp [eqEs] at h; rfl
  | (x, y, n) :: l, b, h => by
    cases b with
    | nil => simp [eqEs] at h
    | cons q m =>
      obtain ⟨x', y', n'⟩ := q
      simp only [eqEs, Bool.and_eq_true, Nat.beq_eq] at h
      obtain ⟨⟨⟨h1, h2⟩, h3⟩, h4⟩ := h
      rw [eqV_sound _ _ h1, eqV_sound _ _ h2, h3, eqEs_sound l m h4]
theorem eqO_sound (a b : SO) (h : eqO a b = true) : a = b := by
  cases a <;> cases b <;> simp only [eqO] at h <;> first | (cases h; done) | skip
  · simp only [Bool.and_eq_true, beq_iff_eq] at h
    rw [h.1, eqVs_sound _ _ h.2]
  · simp only [Bool.and_eq_true, beq_iff_eq] at h
    rw [h.1, eqVs_sound _ _ h.2]
  · simp only [Bool.and_eq_true, beq_iff_eq, Nat.beq_eq] at h
    obtain ⟨⟨⟨h1, h2⟩, h3⟩, h4⟩ := h
    rw [h1, h2, h3, eqVs_sound _ _ h4]
  · simp only [Bool.and_eq_true, Nat.beq_eq] at h
    rw [h.1, eqEs_sound _ _ h.2]

section
variable {F : Base} {n : Cfg} {Q : Exit → Act → World → Prop} {ops : Array Oper} {E : Env}

theorem pick_spec {b : Bool} {N : Nat} {listed : Array Bool} {s : St} {i : Nat} {o : Oper} {v : SV} {p : Option (Nat × SO)} : ∀ {rs : List Nat}, pick E b N ops listed s rs = some (i, o, v, p) →
    i ∈ rs ∧ ops[i]? = some o ∧ dOk N o.dst = true ∧ Region.free .any ops listed i = true ∧
    ((wantsS ops s.fr o.guard = some false ∧ v = .undef ∧ p = none) ∨ (wantsS ops s.fr o.guard = some true ∧ pureOp E.P E.G E.eqs s.fr o.op = some v ∧ p = none) ∨
      ∃ x ob, wantsS ops s.fr o.guard = some true ∧ lookOp E.P E.G E.chk s.fr s.h o.op = some (v, x) ∧ s.h.lookup x = some ob ∧ x < s.nx ∧ belO s.nx ob = true ∧ p = some (x, ob))
  | [], h => by simp only [pick] at h; cases h
  | r :: rs, h => by
    simp only [pick] at h
    split at h
    · cases h
    · rename_i o' ho
      split at h
      · rename_i hc
        simp only [Bool.and_eq_true] at hc
        split at h
        · rename_i hw; cases h; exact ⟨List.mem_cons_self, ho, hc.1, hc.2, .inl ⟨hw, rfl, rfl⟩⟩
        · rename_i hw
          split at h
          · rename_i v' hp; cases h; exact ⟨List.mem_cons_self, ho, hc.1, hc.2, .inr (.inl ⟨hw, hp, rfl⟩)⟩
          · split at h
            · rename_i v' x hl
              split at h
              · rename_i ob hob
                split at h
                · rename_i hb
                  simp only [Bool.and_eq_true, Nat.blt_eq] at hb
                  cases h
                  exact ⟨List.mem_cons_self, ho, hc.1, hc.2, .inr (.inr ⟨x, ob, hw, hl, hob, hb.1, hb.2, rfl⟩)⟩
                · exact (fun ⟨h1, h2⟩ => ⟨List.mem_cons_of_mem _ h1, h2⟩) (pick_spec h)
              · exact (fun ⟨h1, h2⟩ => ⟨List.mem_cons_of_mem _ h1, h2⟩) (pick_spec h)
            · exact (fun ⟨h1, h2⟩ => ⟨List.mem_cons_of_mem _ h1, h2⟩) (pick_spec h)
        · cases h
      · exact (fun ⟨h1, h2⟩ => ⟨List.mem_cons_of_mem _ h1, h2⟩) (pick_spec h)

/-- What those taken early look at stands. -/
def LkOk (F : Base) (σ : Sg) (s : St) (lk : Lk) (O : Looks) : Prop :=
  (∀ q ∈ O, ∃ p ∈ lk, ∃ m, m ≤ s.nx ∧ p.2.1 < m ∧ belO m p.2.2 = true ∧ q.1 = p.1 ∧ q.2 = Holds [pc σ p.2] F) ∧ ∀ p ∈ lk, s.h.lookup p.2.1 = some p.2.2

theorem LkOk.obl {σ : Sg} {s : St} {lk : Lk} {O : Looks} (h : LkOk F σ s lk O) {w : World} (hh : Holds (pcs σ s.h) F w) : ∀ q ∈ O, q.2 w := by
  intro q hq
  obtain ⟨p, hp, m, _, _, _, _, h5⟩ := h.1 q hq
  rw [h5]
  exact look_all (h.2 p hp) F w hh

theorem LkOk.keep {σ : Sg} {s : St} {lk : Lk} {O : Looks} (i : Nat) (h : LkOk F σ s lk O) : LkOk F σ s (lk.filter fun p => !waitsB ops i p.1) (keepL ops i O) := by
  refine ⟨fun q hq => ?_, fun p hp => h.2 p (List.mem_filter.1 hp).1⟩
  unfold keepL at hq
  obtain ⟨hq, hw⟩ := List.mem_filter.1 hq
  obtain ⟨p, hp, m, h1, h2, h3, h4, h5⟩ := h.1 q hq
  exact ⟨p, List.mem_filter.2 ⟨hp, by rw [← h4]; exact hw⟩, m, h1, h2, h3, h4, h5⟩

theorem LkOk.go {σ σ' : Sg} {s s' : St} {lk : Lk} {O : Looks} (h : LkOk F σ s lk O) (hg : GoesAll σ s σ' s') (hs : ∀ p ∈ lk, s'.h.lookup p.2.1 = some p.2.2) : LkOk F σ' s' lk O := by
  refine ⟨fun q hq => ?_, hs⟩
  obtain ⟨p, hp, m, h1, h2, h3, h4, h5⟩ := h.1 q hq
  refine ⟨p, hp, m, Nat.le_trans h1 hg.le, h2, h3, h4, ?_⟩
  have : pc σ p.2 = pc σ' p.2 := by
    obtain ⟨pi, b, ob⟩ := p
    exact pc_agree (n := m) ⟨fun j hj => hg.agree.1 j (by omega), hg.agree.2⟩ (by simp only [Bool.and_eq_true, Nat.blt_eq]; exact ⟨h2, h3⟩)
  rw [h5, this]

theorem still_spec {i : Nat} {lk : Lk} {h : SHp} (hs : stillS ops i lk h = true) : ∀ p ∈ lk.filter (fun p => !waitsB ops i p.1), h.lookup p.2.1 = some p.2.2 := by
  intro p hp
  obtain ⟨hp, hw⟩ := List.mem_filter.1 hp
  have := List.all_eq_true.1 hs p hp
  have hw' : waitsB ops i p.1 = false := by simpa using hw
  simp only [hw', Bool.false_or] at this
  split at this
  · rename_i o ho
    rw [ho, eqO_sound _ _ this]
  · cases this

theorem stepAt_sound {call : FuncId → List SV → SHp → Nat → Option (List Out)} (hE : EqsOk E.P E.eqs) (hC : ChkOk E.P E.chk) (hK : CallOk E.P E.G call) {lk : Lk} {s : St} {i : Nat} {ss : List St} (hs : stepAt E call n.n ops lk s i = some ss)
    {σ : Sg} {a : Act} {w : World} {O : Looks} (hst : Stands E.G n F σ s a w) (hO : LkOk F σ s lk O) {K : Act → World → Prop}
    (hk : ∀ σ' s' a' w', s' ∈ ss → GoesAll σ s σ' s' → Stands E.G n F σ' s' a' w' → LkOk F σ' s' (lk.filter fun p => !waitsB ops i p.1) (keepL ops i O) → K a' w') : wpOpIn (WF n.r) 0 E.P ops Q i K a w := by
  unfold stepAt at hs
  split at hs
  · cases hs
  · rename_i o ho
    obtain ⟨d, op, ty, pos, after, g⟩ := o
    unfold wpOpIn
    simp only [ho]
    split at hs
    · rename_i hd
      have hd := dOk_inFr rfl hd
      split at hs
      · rename_i hw
        have hw' := wants_spec (o := ⟨d, op, ty, pos, after, g⟩) hst.rep (wantsS_sound (σ := σ) hw)
        cases hs
        rw [hw']
        simp only [Bool.false_eq_true, if_false]
        refine ⟨fun _ _ => trivial, hk σ _ _ w (List.mem_singleton.2 rfl) ⟨Agree.refl _ _, Nat.le_refl _⟩ ⟨hst.ok, hst.le, ?_, hst.holds⟩ ?_⟩
        · rw [frV_put]; exact hst.rep.put d (inFr_spec hd) _
        · have hkp := hO.keep (ops := ops) i
          exact ⟨hkp.1, hkp.2⟩
      · rename_i hw
        have hw' := wants_spec (o := ⟨d, op, ty, pos, after, g⟩) hst.rep (wantsS_sound (σ := σ) hw)
        split at hs
        · rename_i outs hos
          rw [Option.ite_none_right_eq_some] at hs
          obtain ⟨hstill, hs⟩ := hs
          cases hs
          rw [hw']
          simp only [if_true]
          refine anyOp_sound hE hC hK hos σ hst.ok hst.le n F a w d pos after g _ _ hst.rep hst.holds ?_
          intro σ' o w' h1 h2 h3 h4 h5 h6
          refine hk σ' ⟨putS s.fr d o.v, o.h, o.nx⟩ _ w' (List.mem_map.2 ⟨o, h4, rfl⟩) ⟨h2, h5⟩ ⟨h1, Nat.le_trans hst.le h5, ?_, h6⟩ ?_
          · rw [frV_put, h3]; exact hst.rep.put d (inFr_spec hd) _
          · exact (hO.keep (ops := ops) i).go ⟨h2, h5⟩ (still_spec (List.all_eq_true.1 hstill o h4))
        · cases hs
      · cases hs
    · cases hs

theorem simDraw_sound {call : FuncId → List SV → SHp → Nat → Option (List Out)} (hE : EqsOk E.P E.eqs) (hC : ChkOk E.P E.chk) (hK : CallOk E.P E.G call) (hsel : Region.noSelect ops = true) (hnd : noDefer ops = true) (hQ : PanOk Q) :
    ∀ (m : Nat) (listed : Array Bool) (lk : Lk) (s : St) (outs : List St), simDraw E call n.n ops m listed lk s = some outs → ∀ σ a w (O : Looks), Stands E.G n F σ s a w → LkOk F σ s lk O →
      (∀ σ' s' a' w', s' ∈ outs → GoesAll σ s σ' s' → Stands E.G n F σ' s' a' w' → Q .normal a' w') → G n.r E.P ops Q m O listed a w
  | 0, listed, lk, s, outs, hs, σ, a, w, O, hst, hO, hk => by
    simp only [simDraw] at hs
    split at hs
    · rename_i hr
      cases hs
      exact ⟨by simpa using hr, hk σ s a w (List.mem_singleton.2 rfl) .refl hst⟩
    · cases hs
  | m + 1, listed, lk, s, outs, hs, σ, a, w, O, hst, hO, hk => by
    simp only [simDraw] at hs
    have first : ∀ (i : Nat) (o : Oper) (v : SV) (p : Option (Nat × SO)) (rs : List Nat), Region.ready .any ops listed = rs → ∀ b, pick E b n.n ops listed s rs = some (i, o, v, p) →
        simDraw E call n.n ops m (listed.setIfInBounds i true) (match p with | some b => (i, b) :: lk | none => lk) ⟨putS s.fr o.dst v, s.h, s.nx⟩ = some outs → G n.r E.P ops Q (m + 1) O listed a w := by
      intro i o v p rs hrs b hp hs
      obtain ⟨h1, h2, h3, h4, h5⟩ := pick_spec hp
      obtain ⟨d, op, ty, pos, after, g⟩ := o
      have hd := dOk_inFr rfl h3
      have hin : i ∈ Region.ready .any ops listed := by rw [hrs]; exact h1
      have hrep : Rep n (a.put d (toV σ v)) (frV σ (putS s.fr d v)) := by rw [frV_put]; exact hst.rep.put d (inFr_spec hd) _
      have hst' : Stands E.G n F σ ⟨putS s.fr d v, s.h, s.nx⟩ (a.put d (toV σ v)) w := ⟨hst.ok, hst.le, hrep, hst.holds⟩
      have hgo : GoesAll σ s σ ⟨putS s.fr d v, s.h, s.nx⟩ := ⟨Agree.refl _ _, Nat.le_refl _⟩
      have hcont : ∀ lk' O', LkOk F σ ⟨putS s.fr d v, s.h, s.nx⟩ lk' O' → simDraw E call n.n ops m (listed.setIfInBounds i true) lk' ⟨putS s.fr d v, s.h, s.nx⟩ = some outs → G n.r E.P ops Q m O' (listed.setIfInBounds i true) (a.put d (toV σ v)) w := by
        intro lk' O' hO' hs'
        exact simDraw_sound hE hC hK hsel hnd hQ m _ lk' _ outs hs' σ _ w O' hst' hO' (fun σ'' s'' a'' w'' hm hg hs'' => hk σ'' s'' a'' w'' hm (hgo.trans hg) hs'')
      rcases h5 with ⟨hw, rfl, rfl⟩ | ⟨hw, hpo, rfl⟩ | ⟨x, ob, hw, hlo, hob, hx, hbo, rfl⟩
      · have hw' := wants_spec (o := ⟨d, op, ty, pos, after, g⟩) hst.rep (wantsS_sound (σ := σ) hw)
        refine G_first (v := undef) (Cq := fun _ => True) h2 (Region.noSelect_spec hsel) hnd (fun c a w => hQ c a _ _ w) m O listed a w (Region.free_spec h2 h4) hin (.inr ⟨hw', rfl⟩) trivial (hO.obl hst.holds) ?_
        exact G_add (fun _ => trivial) _ _ _ _ _ (hcont lk O ⟨hO.1, hO.2⟩ hs)
      · have hw' := wants_spec (o := ⟨d, op, ty, pos, after, g⟩) hst.rep (wantsS_sound (σ := σ) hw)
        refine G_first (v := toV σ v) (Cq := fun _ => True) h2 (Region.noSelect_spec hsel) hnd (fun c a w => hQ c a _ _ w) m O listed a w (Region.free_spec h2 h4) hin (.inl ⟨hw', fun w' _ => pureOp_sound hst.ok hE hpo n a w' d pos after g hst.rep⟩) trivial (hO.obl hst.holds) ?_
        exact G_add (fun _ => trivial) _ _ _ _ _ (hcont lk O ⟨hO.1, hO.2⟩ hs)
      · have hw' := wants_spec (o := ⟨d, op, ty, pos, after, g⟩) hst.rep (wantsS_sound (σ := σ) hw)
        obtain ⟨o', ho', hq⟩ := lookOp_sound (ty := ty) hst.ok hC hlo
        rw [hob] at ho'
        cases ho'
        refine G_first (v := toV σ v) (Cq := Holds [pc σ (x, ob)] F) h2 (Region.noSelect_spec hsel) hnd (fun c a w => hQ c a _ _ w) m O listed a w (Region.free_spec h2 h4) hin (.inl ⟨hw', fun w' hC' => hq n F a w' d pos after g hst.rep hC'⟩) (look_all hob F w hst.holds) (hO.obl hst.holds) ?_
        refine hcont ((i, x, ob) :: lk) _ ⟨?_, ?_⟩ hs
        · intro q hq
          rcases List.mem_cons.1 hq with rfl | hq
          · exact ⟨(i, x, ob), List.mem_cons_self, s.nx, Nat.le_refl _, hx, hbo, rfl, rfl⟩
          · obtain ⟨p, hp, r⟩ := hO.1 q hq
            exact ⟨p, List.mem_cons_of_mem _ hp, r⟩
        · intro p hp
          rcases List.mem_cons.1 hp with rfl | hp
          · exact hob
          · exact hO.2 p hp
    split at hs
    · rename_i hr
      cases hs
      refine ⟨fun _ => hk σ s a w (List.mem_singleton.2 rfl) .refl hst, fun i hi => ?_⟩
      rw [hr] at hi
      cases hi
    · rename_i r rs hr
      split at hs
      · rename_i i o v p hp
        have hpn : p = none := by
          have key : ∀ rs, ∀ {q}, pick E false n.n ops listed s rs = some (i, o, v, q) → q = none := by
            intro rs
            induction rs with
            | nil => intro q h; simp only [pick] at h; cases h
            | cons r rs ih =>
              intro q h
              simp only [pick] at h
              split at h
              · cases h
              · split at h
                · split at h
                  · cases h; rfl
                  · split at h
                    · cases h; rfl
                    · exact ih h
                  · cases h
                · exact ih h
          exact key _ hp
        subst hpn
        exact first i o v none _ hr false hp hs
      · split at hs
        · rename_i i o v p hp
          split at hp
          · cases hp
          · exact first i o v p _ hr true hp hs
        · refine ⟨fun h0 => (by rw [hr] at h0; cases h0), fun i hi => ?_⟩
          rw [hr] at hi
          obtain ⟨x, hx1, hx2⟩ := bindAll_spec hs i hi
          split at hx1
          · rename_i ss hss
            refine stepAt_sound hE hC hK hss hst hO ?_
            intro σ' s' a' w' hm hg hst' hO'
            obtain ⟨y, hy1, hy2⟩ := bindAll_spec hx1 s' hm
            refine ⟨hO'.obl hst'.holds, ?_⟩
            exact simDraw_sound hE hC hK hsel hnd hQ m _ _ s' y hy1 σ' a' w' _ hst' hO' (fun σ'' s'' a'' w'' hm' hg' hs'' => hk σ'' s'' a'' w'' (hx2 _ (hy2 _ hm')) (hg.trans hg') hs'')
          · cases hx1
end
end Go.Proofs.YtaibgfnfmkpibaaGreatDoor.SL
