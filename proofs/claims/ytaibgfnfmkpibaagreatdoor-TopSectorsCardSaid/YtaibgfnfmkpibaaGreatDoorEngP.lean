/- A run that is reckoned out: the operations that write and make. No program in sight. -/
import Derived.Test.YtaibgfnfmkpibaaGreatDoorEngO
namespace Go.Proofs.YtaibgfnfmkpibaaGreatDoor.SL
open Go

def setσ (σ : Sg) (n : Nat) (v : Value) : Sg := ⟨fun i => if i = n then v else σ i, σ.obj⟩
theorem setσ_agree {σ : Sg} {n : Nat} {v : Value} : Agree n σ (setσ σ n v) := ⟨fun i hi => by
  show σ i = (if i = n then v else σ i)
  rw [if_neg (by omega)], rfl⟩
theorem setσ_at {σ : Sg} {n : Nat} {v : Value} : setσ σ n v n = v := by simp [setσ]
theorem setσ_ok {G : Nat} {σ : Sg} {n : Nat} {v : Value} (h : VOk G σ) (hn : G ≤ n) (hv : v.oneCell' = true) : VOk G (setσ σ n v) where
  one i := by
    show (if i = n then v else σ i).oneCell' = true
    split
    · exact hv
    · exact h.one i
  glob g hg := by
    show (if g = n then v else σ g) = _
    rw [if_neg (by omega)]; exact h.glob g hg

section
variable {P : Program} {G : Nat} {σ : Sg} {fr : SFr} {ty t : TypeId} {h : SHp} {nx : Nat} {F : Base} {w : World}

theorem ent_get {i : Nat} {o : SO} : ∀ {h : SHp}, h.lookup i = some o → Ent (pcs σ h) (pc σ (i, o) :: pcs σ (dropH i h))
  | [], hl => by cases hl
  | (j, o') :: h, hl => by
    simp only [List.lookup_cons] at hl
    by_cases e : i = j
    · subst e
      simp only [beq_self_eq_true] at hl
      cases hl
      simp only [dropH, Nat.beq_refl, if_true]
      exact .refl _
    · have h1 : (i == j) = false := by simpa using e
      rw [h1] at hl
      have h2 : Nat.beq j i = false := by
        rw [← Bool.not_eq_true, Nat.beq_eq]; exact Ne.symm e
      simp only [dropH, h2, Bool.false_eq_true, if_false]
      exact Ent.there (ent_get (h := h) hl)

theorem ent_put {i : Nat} {o : SO} : ∀ {h : SHp}, h.lookup i = some o → Ent (pc σ (i, o) :: pcs σ (dropH i h)) (pcs σ h)
  | [], hl => by cases hl
  | (j, o') :: h, hl => by
    simp only [List.lookup_cons] at hl
    by_cases e : i = j
    · subst e
      simp only [beq_self_eq_true] at hl
      cases hl
      simp only [dropH, Nat.beq_refl, if_true]
      exact .refl _
    · have h1 : (i == j) = false := by simpa using e
      rw [h1] at hl
      have h2 : Nat.beq j i = false := by
        rw [← Bool.not_eq_true, Nat.beq_eq]; exact Ne.symm e
      simp only [dropH, h2, Bool.false_eq_true, if_false]
      exact (Ent.perm (List.Perm.swap _ _ _)).trans (Ent.cons _ (ent_put (h := h) hl))
theorem lookup_drop {i j : Nat} (hne : i ≠ j) : ∀ {h : SHp}, (dropH i h).lookup j = h.lookup j
  | [] => rfl
  | (k, o) :: h => by
    by_cases e : k = i
    · subst e
      simp only [dropH, Nat.beq_refl, if_true, List.lookup_cons]
      have : (j == k) = false := by simpa using Ne.symm hne
      rw [this]
    · have h2 : Nat.beq k i = false := by
        rw [← Bool.not_eq_true, Nat.beq_eq]; exact e
      simp only [dropH, h2, Bool.false_eq_true, if_false, List.lookup_cons]
      cases (j == k) with
      | true => rfl
      | false => exact lookup_drop hne

/-- What one operation may come to. -/
def SStep (P : Program) (G : Nat) (op : Op) (ty : TypeId) (fr : SFr) (h : SHp) (nx : Nat) (outs : List Out) : Prop :=
  ∀ σ, VOk G σ → G ≤ nx → ∀ n F a w d pos after g K Q, Rep n a (frV σ fr) → Holds (pcs σ h) F w →
    (∀ σ' o w', VOk G σ' → Agree nx σ σ' → frV σ' fr = frV σ fr → o ∈ outs → nx ≤ o.nx → Holds (pcs σ' o.h) F w' → K (a.put d (toV σ' o.v)) w') → Oper.wpIn (WF n.r) 0 P ⟨d, op, ty, pos, after, g⟩ a w K Q

theorem sstep_of {op : Op} {outs : List Out} (hs : ∀ σ, VOk G σ → G ≤ nx → ∃ (ι : Type) (V : ι → Value) (R : ι → List HProp), Step P op ty (frV σ fr) (pcs σ h) V R ∧
    ∀ i F w, Holds (R i) F w → ∃ σ' o, VOk G σ' ∧ Agree nx σ σ' ∧ frV σ' fr = frV σ fr ∧ o ∈ outs ∧ nx ≤ o.nx ∧ V i = toV σ' o.v ∧ Holds (pcs σ' o.h) F w) : SStep P G op ty fr h nx outs := by
  intro σ hσ hG n F a w d pos after g K Q hr hh hk
  obtain ⟨ι, V, R, hst, hout⟩ := hs σ hσ hG
  refine hst n F a w d pos after g K Q hr hh fun i w' hw' => ?_
  obtain ⟨σ', o, h1, h2, h2', h3, h4, h5, h6⟩ := hout i F w' hw'
  rw [h5]
  exact hk σ' o w' h1 h2 h2' h3 h4 h6

theorem sstep_quiet {op : Op} {v : SV} (hq : ∀ σ, VOk G σ → Quiet P op ty (frV σ fr) (pcs σ h) (toV σ v)) : SStep P G op ty fr h nx [⟨v, h, nx⟩] :=
  sstep_of fun σ hσ _ => ⟨Unit, _, _, (hq σ hσ).step, fun _ _ _ hw => ⟨σ, _, hσ, Agree.refl _ _, rfl, List.mem_singleton.2 rfl, Nat.le_refl _, rfl, hw⟩⟩

/-- Something new. -/
theorem fresh_sound' {op : Op} {o : SO} {v : SV} {outs : List Out} (hf : fresh fr h nx o v = some outs)
    (hs : ∀ σ, VOk G σ → G ≤ nx → ∃ (ι : Type) (V : ι → Value) (R : ι → List HProp) (val : ι → Value), Step P op ty (frV σ fr) (pcs σ h) V R ∧
      ∀ i, (∀ F w, Holds (R i) F w → (val i).oneCell' = true) ∧ V i = toV (setσ σ nx (val i)) v ∧ Ent (R i) (pc (setσ σ nx (val i)) (nx, o) :: pcs σ h)) : SStep P G op ty fr h nx outs := by
  unfold fresh at hf
  split at hf
  · rename_i hb
    cases hf
    simp only [Bool.and_eq_true] at hb
    refine sstep_of fun σ hσ hG => ?_
    obtain ⟨ι, V, R, val, hst, hi⟩ := hs σ hσ hG
    refine ⟨ι, V, R, hst, fun i F w hw => ?_⟩
    obtain ⟨h1, h2, h3⟩ := hi i
    refine ⟨setσ σ nx (val i), _, setσ_ok hσ hG (h1 F w hw), setσ_agree, (frV_agree setσ_agree hb.1).symm, List.mem_singleton.2 rfl, Nat.le_succ _, h2, ?_⟩
    have hw' := h3 F w hw
    rw [pcs_agree setσ_agree hb.2] at hw'
    exact hw'
  · cases hf
theorem fresh_sound {op : Op} {o : SO} {v : SV} {outs : List Out} (hf : fresh fr h nx o v = some outs)
    (hs : ∀ σ, VOk G σ → G ≤ nx → ∃ (ι : Type) (V : ι → Value) (R : ι → List HProp) (val : ι → Value), Step P op ty (frV σ fr) (pcs σ h) V R ∧
      ∀ i, (∀ F w, Holds (R i) F w → (val i).oneCell' = true) ∧ V i = toV (setσ σ nx (val i)) v ∧ R i = pc (setσ σ nx (val i)) (nx, o) :: pcs σ h) : SStep P G op ty fr h nx outs :=
  fresh_sound' hf fun σ hσ hG => by
    obtain ⟨ι, V, R, val, hst, hi⟩ := hs σ hσ hG
    exact ⟨ι, V, R, val, hst, fun i => ⟨(hi i).1, (hi i).2.1, (hi i).2.2 ▸ Ent.refl _⟩⟩

theorem toVs_const {z : SV} {zs : List SV} {t : TypeId} (hz : zeroS P t = some z) (hc : cellsS z = some zs) {σ σ' : Sg} (h1 : VOk G σ) (h2 : VOk G σ') : toVs σ zs = toVs σ' zs := by
  have e : toV σ z = toV σ' z := by
    unfold zeroS at hz
    split at hz
    · split at hz
      · rw [ofV_sound hz, ofV_sound hz]
      · cases hz
    · cases hz
  have a := (cellsS_sound h1 hc).out
  have b := (cellsS_sound h2 hc).out
  rw [e, b] at a
  exact (by simpa using a.symm)

theorem own_one {T : TypeId} {sz n : Nat} {v : Value} {xs : List Value} {L : List HProp} (hw : Holds (own T sz v n xs :: L) F w) : v.oneCell' = true := by
  obtain ⟨_, _, ⟨rfl, _⟩ | ⟨b, o, cap, vs, rfl, _⟩⟩ := holds_own hw <;> rfl

theorem alloc_sound {z : SV} {zs : List SV} {outs : List Out} (hz : zeroS P t = some z) (hc : cellsS z = some zs) (hf : fresh fr h nx (.blk t zs) (.ptr (some (nx, 0))) = some outs) : SStep P G (.alloc t) ty fr h nx outs := by
  refine fresh_sound hf fun σ hσ hG => ?_
  haveI := zeroS_sound (σ := σ) hz
  refine ⟨Nat, _, _, fun b => .pointer (some ⟨b, 0, none⟩), s_alloc (z := toV σ z) (zs := toVs σ zs) (cellsS_sound hσ hc).out, fun b => ⟨fun _ _ _ => rfl, ?_, ?_⟩⟩
  · simp [toV, setσ_at, bk]
  · rw [toVs_const hz hc hσ (setσ_ok (v := .pointer (some ⟨b, 0, none⟩)) hσ hG rfl)]
    simp [pc, setσ_at, bk]

theorem box_sound {x : Operand} {v : SV} {zs : List SV} {outs : List Out} (hx : evS G fr x = some v) (hc : cellsS v = some zs) (hb : bels nx zs = true) (hf : fresh fr h nx (.blk t zs) (.ptr (some (nx, 0))) = some outs) : SStep P G (.box t x) ty fr h nx outs := by
  refine fresh_sound hf fun σ hσ hG => ?_
  refine ⟨Nat, _, _, fun b => .pointer (some ⟨b, 0, none⟩), s_box (evS_sound hσ hx) (cellsS_sound hσ hc).out, fun b => ⟨fun _ _ _ => rfl, ?_, ?_⟩⟩
  · simp [toV, setσ_at, bk]
  · rw [toVs_agree (setσ_agree (v := .pointer (some ⟨b, 0, none⟩))) zs hb]
    simp [pc, setσ_at, bk]

theorem makeMap_sound {outs : List Out} (hf : fresh fr h nx (.map [] 0) (.map nx) = some outs) : SStep P G (.makeMap t none) ty fr h nx outs := by
  refine fresh_sound hf fun σ hσ hG => ?_
  refine ⟨Nat, _, _, fun b => .pointer (some ⟨b, 0, none⟩), s_makeMap0, fun b => ⟨fun _ _ _ => rfl, ?_, ?_⟩⟩
  · simp [toV, setσ_at, bk]
  · simp [pc, setσ_at, bk]

theorem toVs_flatMap {ps : List (Nat × SV × List SV)} : (ps.map fun p => toVs σ p.2.2).flatten = toVs σ (ps.flatMap (·.2.2)) := by
  induction ps with
  | nil => rfl
  | cons p ps ih => simp only [List.map_cons, List.flatten_cons, List.flatMap_cons, toVs_append, ih]

theorem buildSlice_sound {len : Nat} {xs : Array (Nat × Operand)} {e : TypeId} {ps : List (Nat × SV × List SV)} {info : TypeInfo} {z : SV} {zs : List SV} {outs : List Out} (ht : P.underlying t = some (.slice e)) (hp : partsS G fr xs.toList = some ps)
    (hi : P.info? e = some info) (hz : zeroS P e = some z) (hc : cellsS z = some zs) (h1 : zs.length = info.size) (h2 : ps.map (·.1) = List.range len) (h3 : ps.map (fun p => p.2.2.length) = List.replicate len info.size) (h4 : len * info.size ≤ 16777216)
    (h5 : bels nx (ps.flatMap (·.2.2)) = true) (hf : fresh fr h nx (.own e info.size len (ps.flatMap (·.2.2))) (.vs nx) = some outs) : SStep P G (.buildSlice t len xs) ty fr h nx outs := by
  refine fresh_sound hf fun σ hσ hG => ?_
  haveI := zeroS_sound (σ := σ) hz
  haveI : UT P t (.slice e) := ⟨ht⟩
  haveI : SZ P e info.size info.bytes := ⟨info, hi, rfl, rfl⟩
  obtain ⟨xl⟩ := xs
  have hst := s_buildSlice (P := P) (ty := ty) (t := t) (e := e) (sz := info.size) (L := pcs σ h) (len := len) (z := toV σ z) (zs := toVs σ zs) (cellsS_sound hσ hc).out (by rw [toVs_length, h1]) (partsS_sound hσ hp)
    (by rw [List.map_map]; exact h2) (by rw [List.map_map]; simpa [Function.comp_def, toVs_length] using h3) (by simpa using h4)
  refine ⟨Value, _, _, fun v => v, hst, fun v => ⟨fun F w hw => own_one hw, ?_, ?_⟩⟩
  · simp [toV, setσ_at]
  · rw [toVs_flatMap, toVs_agree (setσ_agree (v := v)) _ h5]
    simp [pc, setσ_at]
end
end Go.Proofs.YtaibgfnfmkpibaaGreatDoor.SL
