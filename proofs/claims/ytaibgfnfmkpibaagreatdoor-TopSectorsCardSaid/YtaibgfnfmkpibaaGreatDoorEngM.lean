/- A run that is reckoned out: why it is so. What looks at nothing but the frame. No program in sight. -/
import Derived.Test.YtaibgfnfmkpibaaGreatDoorEngL
namespace Go.Proofs.YtaibgfnfmkpibaaGreatDoor.SL
open Go

/-- Where the numbers lie: each is a value of one cell; the package's variables lie where they lie. -/
structure VOk (G : Nat) (σ : Sg) : Prop where
  one : ∀ i, (σ i).oneCell' = true
  glob : ∀ g, g < G → σ g = .pointer (some ⟨g, 0, none⟩)

def Agree (n : Nat) (σ σ' : Sg) : Prop := (∀ i, i < n → σ i = σ' i) ∧ σ.obj = σ'.obj
theorem Agree.refl (n : Nat) (σ : Sg) : Agree n σ σ := ⟨fun _ _ => rfl, rfl⟩
theorem Agree.trans {n m : Nat} {σ σ' σ'' : Sg} (h : Agree n σ σ') (hnm : n ≤ m) (h' : Agree m σ' σ'') : Agree n σ σ'' := ⟨fun i hi => (h.1 i hi).trans (h'.1 i (by omega)), h.2.trans h'.2⟩

/-- A block whose first cells are these; it may be read. -/
def tab (b : Nat) (ob : Obj) (vs : List Value) : HProp := fun H => H = [(b, ob)] ∧ ∃ (c : Array Value) (T : TypeId) (fz : Nat × Nat), ob = .cells c T fz ∧ ∀ (i : Nat) (v : Value), vs[i]? = some v → c[i]? = some v
theorem q_load_tab {P : Program} {fr : Fr} {L R : List HProp} {ty t : TypeId} {x : Operand} {b o : Nat} {ob : Obj} {vs : List Value} {v : Value} [SC P t] (hx : ev fr x = some (.pointer (some ⟨b, o, none⟩)))
    (he : Ent L (tab b ob vs :: R)) (hv : vs[o]? = some v) : Quiet P (.load t x) ty fr L v := by
  intro n F a w d pos after g hr hh
  obtain ⟨H1, H2, ⟨rfl, c, T, fz, rfl, hc⟩, h2, hs⟩ := holds_cons.1 (he F w hh)
  have hb := hs.has b (.cells c T fz) (by simp)
  have hcell : w.cell? ⟨b, o, none⟩ = some v := by simp [World.cell?, hb, hc o v hv]
  simp only [execOp, hr.ev hx, Instr.loadAt, Instr.sureAddr, loadVar, pure_bind, Sem.run_bind, run_isAgg_sc, Result.andThen_ok, Bool.false_eq_true, if_false]
  rw [run_load_cell hcell]
  rfl

def frV (σ : Sg) (fr : SFr) : Fr := fr.map fun p => (p.1, toV σ p.2)
def pc (σ : Sg) : Nat × SO → HProp
  | (i, .blk T vs) => blk (bk (σ i)) T (toVs σ vs)
  | (i, .rbk _ vs) => tab (bk (σ i)) (σ.obj i) (toVs σ vs)
  | (i, .own T sz n xs) => own T sz (σ i) n (toVs σ xs)
  | (i, .map es clk) => pt (bk (σ i)) (.map (es.map fun e => ({ key := toV σ e.1, val := toV σ e.2.1, born := e.2.2 } : MapEntry)).toArray clk)
  | (i, .iter m since seen last) => pt (bk (σ i)) (.mapIter (some (bk (σ m))) since seen.toArray last)
def pcs (σ : Sg) (h : SHp) : List HProp := h.map (pc σ)

theorem toVs_map (σ : Sg) : ∀ l, toVs σ l = l.map (toV σ)
  | [] => rfl
  | v :: l => by simp [toVs, toVs_map σ l]

mutual
theorem toV_agree {n : Nat} {σ σ' : Sg} (h : Agree n σ σ') : ∀ v, bel n v = true → toV σ v = toV σ' v
  | .int _ _, _ => rfl
  | .bool _, _ => rfl
  | .str _, _ => rfl
  | .ptr none, _ => rfl
  | .ptr (some (b, o)), hb => by
    have : b < n := by simpa [bel] using hb
    simp [toV, h.1 b this]
  | .nsl, _ => rfl
  | .nmap, _ => rfl
  | .nilf, _ => rfl
  | .vs i, hb => by
    have : i < n := by simpa [bel] using hb
    simp [toV, h.1 i this]
  | .elp i k, hb => by
    have : i < n := by simpa [bel] using hb
    simp [toV, h.1 i this]
  | .map i, hb => by
    have : i < n := by simpa [bel] using hb
    simp [toV, h.1 i this]
  | .func f l, hb => by simp only [toV]; rw [toVs_agree h l (by simpa [bel] using hb)]
  | .agg l, hb => by simp only [toV]; rw [toVs_agree h l (by simpa [bel] using hb)]
  | .tup l, hb => by simp only [toV]; rw [toVs_agree h l (by simpa [bel] using hb)]
  | .undef, _ => rfl
theorem toVs_agree {n : Nat} {σ σ' : Sg} (h : Agree n σ σ') : ∀ l, bels n l = true → toVs σ l = toVs σ' l
  | [], _ => rfl
  | v :: l, hb => by
    simp only [bels, Bool.and_eq_true] at hb
    simp only [toVs]
    rw [toV_agree h v hb.1, toVs_agree h l hb.2]
end

theorem frV_agree {n : Nat} {σ σ' : Sg} (h : Agree n σ σ') {fr : SFr} (hb : belF n fr = true) : frV σ fr = frV σ' fr := by
  unfold frV
  apply List.map_congr_left
  intro p hp
  rw [toV_agree h p.2 (List.all_eq_true.1 hb p hp)]

theorem pc_agree {n : Nat} {σ σ' : Sg} (h : Agree n σ σ') {p : Nat × SO} (hb : (Nat.blt p.1 n && belO n p.2) = true) : pc σ p = pc σ' p := by
  obtain ⟨i, o⟩ := p
  simp only [Bool.and_eq_true] at hb
  have hi : i < n := by simpa using hb.1
  have h1 := h.1 i hi
  cases o with
  | blk T vs => simp only [pc, h1, toVs_agree h vs hb.2]
  | rbk T vs => simp only [pc, h1, h.2, toVs_agree h vs hb.2]
  | own T sz m xs => simp only [pc, h1, toVs_agree h xs hb.2]
  | map es clk =>
    simp only [pc, h1]
    congr 3
    apply List.map_congr_left
    intro e he
    have := List.all_eq_true.1 hb.2 e he
    simp only [Bool.and_eq_true] at this
    rw [toV_agree h _ this.1, toV_agree h _ this.2]
  | iter m since seen last =>
    have hm : m < n := by simpa [belO] using hb.2
    simp only [pc, h1, h.1 m hm]

theorem pcs_agree {n : Nat} {σ σ' : Sg} (h : Agree n σ σ') {hp : SHp} (hb : belH n hp = true) : pcs σ hp = pcs σ' hp := by
  unfold pcs
  apply List.map_congr_left
  intro p hm
  exact pc_agree h (List.all_eq_true.1 hb p hm)

theorem frV_lookup {σ : Sg} {t : Nat} : ∀ {fr : SFr}, (frV σ fr).lookup t = (fr.lookup t).map (toV σ)
  | [] => rfl
  | (u, v) :: fr => by
    simp only [frV, List.map_cons, List.lookup_cons]
    cases (t == u) with
    | true => rfl
    | false => exact frV_lookup (fr := fr)

theorem ofV1_sound {σ : Sg} {v : Value} {s : SV} (h : ofV1 v = some s) : toV σ s = v := by
  unfold ofV1 at h
  split at h <;> first | (cases h; rfl) | cases h
theorem ofV1s_sound {σ : Sg} : ∀ {l : List Value} {s : List SV}, l.mapM ofV1 = some s → toVs σ s = l
  | [], s, h => by simp at h; subst h; rfl
  | v :: l, s, h => by
    simp only [List.mapM_cons, Option.bind_eq_bind, Option.bind_eq_some_iff] at h
    obtain ⟨a, ha, b, hb, he⟩ := h
    cases he
    simp only [toVs, ofV1_sound ha, ofV1s_sound hb]
theorem ofV_sound {σ : Sg} {v : Value} {s : SV} (h : ofV v = some s) : toV σ s = v := by
  unfold ofV at h
  split at h
  · rename_i cs
    simp only [Option.map_eq_some_iff] at h
    obtain ⟨l, hl, rfl⟩ := h
    simp only [toV, ofV1s_sound hl]
  · exact ofV1_sound h

section
variable {P : Program} {G : Nat} {σ : Sg} {fr : SFr}

theorem evS_sound (hσ : VOk G σ) {x : Operand} {v : SV} (h : evS G fr x = some v) : ev (frV σ fr) x = some (toV σ v) := by
  cases x with
  | tmp t => simp only [evS] at h; simp only [ev, frV_lookup, h, Option.map_some]
  | const c => simp only [evS] at h; simp only [ev, ofV_sound h]
  | global g =>
    simp only [evS] at h
    split at h
    · rename_i hg
      cases h
      have : g < G := by simpa using hg
      simp only [ev, toV, hσ.glob g this, bk]
    · cases h
  | func f => simp only [evS] at h; cases h; rfl

theorem evsS_sound (hσ : VOk G σ) : ∀ {xs : List Operand} {vs : List SV}, evsS G fr xs = some vs → Evs (frV σ fr) xs (toVs σ vs)
  | [], vs, h => by simp only [evsS] at h; cases h; exact .nil
  | x :: xs, vs, h => by
    simp only [evsS] at h
    split at h
    · rename_i v vs' h1 h2
      cases h
      exact .cons (evS_sound hσ h1) (evsS_sound hσ h2)
    · cases h

theorem one_sound (hσ : VOk G σ) {v : SV} (h : SL.one v = true) : (toV σ v).oneCell' = true := by
  cases v with
  | ptr a => cases a with
    | none => rfl
    | some p => rfl
  | vs i => exact hσ.one i
  | elp i k => cases h
  | agg l => cases h
  | tup l => cases h
  | undef => cases h
  | _ => rfl
theorem ones_sound (hσ : VOk G σ) {l : List SV} (h : l.all SL.one = true) : ∀ u ∈ toVs σ l, Value.oneCell' u = true := by
  intro u hu
  rw [toVs_map] at hu
  obtain ⟨v, hv, rfl⟩ := List.mem_map.1 hu
  exact one_sound hσ (List.all_eq_true.1 h v hv)
theorem cellsS_sound (hσ : VOk G σ) {v : SV} {us : List SV} (h : cellsS v = some us) : Cel (toV σ v) (toVs σ us) := by
  unfold cellsS at h
  split at h
  · split at h
    · rename_i l hl
      cases h
      exact Cel.agg (ones_sound hσ hl)
    · cases h
  · split at h
    · rename_i hl
      cases h
      exact Cel.of_one (one_sound hσ hl)
    · cases h

theorem zeroS_sound {t : TypeId} {z : SV} (h : zeroS P t = some z) : ZV P t (toV σ z) := by
  unfold zeroS at h
  split at h
  · rename_i i hi
    split at h
    · rename_i z' hz
      exact ⟨i, hi, by rw [hz, ofV_sound h]⟩
    · cases h
  · cases h

theorem partsS_sound (hσ : VOk G σ) : ∀ {xs : List (Nat × Operand)} {ps : List (Nat × SV × List SV)}, partsS G fr xs = some ps →
    Evc (frV σ fr) xs (ps.map fun p => (p.1, toV σ p.2.1)) (ps.map fun p => toVs σ p.2.2)
  | [], ps, h => by simp only [partsS] at h; cases h; exact .nil
  | (i, x) :: xs, ps, h => by
    simp only [partsS] at h
    split at h
    · rename_i v vs h1 h2
      split at h
      · rename_i us hu
        cases h
        exact .cons (evS_sound hσ h1) (cellsS_sound hσ hu) (partsS_sound hσ h2)
      · cases h
    · cases h

theorem toVs_length {l : List SV} : (toVs σ l).length = l.length := by simp [toVs_map]
theorem toVs_append {l m : List SV} : toVs σ (l ++ m) = toVs σ l ++ toVs σ m := by simp [toVs_map]
theorem toVs_take {l : List SV} {n : Nat} : toVs σ (l.take n) = (toVs σ l).take n := by simp [toVs_map, List.map_take]
theorem toVs_drop {l : List SV} {n : Nat} : toVs σ (l.drop n) = (toVs σ l).drop n := by simp [toVs_map, List.map_drop]
theorem toVs_get {l : List SV} {n : Nat} {v : SV} (h : l[n]? = some v) : (toVs σ l)[n]? = some (toV σ v) := by simp [toVs_map, h]
theorem toVs_over {vs us : List SV} {o : Nat} : toVs σ (overS vs o us) = over (toVs σ vs) o (toVs σ us) := by
  simp only [overS, over, toVs_append, toVs_take, toVs_drop, toVs_length]
theorem toVs_lay {pl : List (Nat × Nat)} : ∀ {ps : List (Nat × List SV)} {zs : List SV}, toVs σ (layS pl zs ps) = lay pl (toVs σ zs) (ps.map fun p => (p.1, toVs σ p.2))
  | [], zs => rfl
  | (i, us) :: ps, zs => by
    simp only [layS, List.map_cons, lay]
    rw [toVs_lay (ps := ps), toVs_over]
theorem toVs_set {l : List SV} {n : Nat} {v : SV} : toVs σ (l.set n v) = (toVs σ l).set n (toV σ v) := by simp [toVs_map, List.map_set]

theorem allSome_sound {α : Type} : ∀ {l : List (Option α)} {r : List α}, allSome l = some r → l = r.map some
  | [], r, h => by simp only [allSome] at h; cases h; rfl
  | some a :: l, r, h => by
    simp only [allSome] at h
    split at h
    · rename_i r' h'
      cases h
      rw [List.map_cons, ← allSome_sound h']
    · cases h
  | none :: _, _, h => by simp only [allSome] at h; cases h

/-- What is told of structs being alike. -/
def EqsOk (P : Program) (eqs : TypeId → SV → SV → Option Bool) : Prop :=
  ∀ t a b c, eqs t a b = some c → ∀ (σ : Sg) (x y : Operand) (w : World), (do eqGuard .eql t x y (toV σ a) (toV σ b); binOp .eql t (toV σ a) (toV σ b)).run P w = .ok (.bool c) w
def ChkOk (P : Program) (chk : TypeId → SV → Bool) : Prop := ∀ t k, chk t k = true → ∀ σ, KeyOk P t (toV σ k)
end
end Go.Proofs.YtaibgfnfmkpibaaGreatDoor.SL
