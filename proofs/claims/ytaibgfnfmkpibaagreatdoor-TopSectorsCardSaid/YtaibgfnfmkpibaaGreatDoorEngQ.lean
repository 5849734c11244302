/- A run that is reckoned out: the operations that write, make and call, continued. No program in sight. -/
import Derived.Test.YtaibgfnfmkpibaaGreatDoorEngP
namespace Go.Proofs.YtaibgfnfmkpibaaGreatDoor.SL
open Go

section
variable {P : Program} {G : Nat} {σ : Sg} {fr : SFr} {ty t : TypeId} {h : SHp} {nx : Nat} {F : Base} {w : World}

/-- One that turns one place. -/
theorem turn_sound {op : Op} {b : Nat} {o : SO} {v : SV} (hs : ∀ σ, VOk G σ → ∃ (V : Unit → Value) (R : Unit → List HProp), Step P op ty (frV σ fr) (pcs σ h) V R ∧ V () = toV σ v ∧ R () = pc σ (b, o) :: pcs σ (dropH b h)) :
    SStep P G op ty fr h nx [⟨v, (b, o) :: dropH b h, nx⟩] := by
  refine sstep_of fun σ hσ hG => ?_
  obtain ⟨V, R, hst, hV, hR⟩ := hs σ hσ
  refine ⟨Unit, V, R, hst, fun i F w hw => ⟨σ, _, hσ, Agree.refl _ _, rfl, List.mem_singleton.2 rfl, Nat.le_refl _, hV, ?_⟩⟩
  rw [hR] at hw
  exact hw

theorem store_sound {x y : Operand} {b o : Nat} {v : SV} {T : TypeId} {vs vs' : List SV} (hx : evS G fr x = some (.ptr (some (b, o)))) (hy : evS G fr y = some v) (hb : h.lookup b = some (.blk T vs)) (hs : storeS P t vs o v = some vs') :
    SStep P G (.store t x y) ty fr h nx [⟨.undef, (b, .blk T vs') :: dropH b h, nx⟩] := by
  refine turn_sound fun σ hσ => ?_
  unfold storeS at hs
  split at hs
  · rename_i m us hk
    split at hs
    · rename_i hc
      simp only [Bool.and_eq_true, Nat.beq_eq, Nat.ble_eq] at hc
      obtain ⟨⟨h1, h2⟩, h3⟩ := hc
      cases hs
      haveI := AG.of hk
      exact ⟨_, _, s_store_ag (R := pcs σ (dropH b h)) (T := T) (vs := toVs σ vs) (us := toVs σ us) (evS_sound hσ hx) (evS_sound hσ hy) (ones_sound hσ h1) (ent_get hb) (by rw [toVs_length]; exact h2) (by rw [toVs_length, toVs_length]; exact h3),
        rfl, by simp only [pc, toVs_over]⟩
    · cases hs
  · rename_i hk
    split at hs
    · rename_i hc
      simp only [Bool.and_eq_true, Nat.blt_eq] at hc
      cases hs
      haveI := SC.of hk
      exact ⟨_, _, s_store (R := pcs σ (dropH b h)) (T := T) (vs := toVs σ vs) (evS_sound hσ hx) (evS_sound hσ hy) (one_sound hσ hc.1) (ent_get hb) (by rw [toVs_length]; exact hc.2) rfl, rfl, by simp only [pc, toVs_set]⟩
    · cases hs
  · cases hs

theorem storeE_sound {x y : Operand} {b k : Nat} {v : SV} {T : TypeId} {sz n : Nat} {xs : List SV} (hx : evS G fr x = some (.elp b k)) (hy : evS G fr y = some v) (hb : h.lookup b = some (.own T sz n xs)) (hk : kindB P t = some (false, 1))
    (h1 : SL.one v = true) (h2 : k < xs.length) : SStep P G (.store t x y) ty fr h nx [⟨.undef, (b, .own T sz n (xs.set k v)) :: dropH b h, nx⟩] := by
  refine turn_sound fun σ hσ => ?_
  haveI := SC.of hk
  haveI : One (toV σ v) := ⟨one_sound hσ h1⟩
  exact ⟨_, _, s_store_s (R := pcs σ (dropH b h)) (T := T) (sz := sz) (v := σ b) (n := n) (xs := toVs σ xs) (evS_sound hσ hx) (evS_sound hσ hy) (ent_get hb) (by rw [toVs_length]; exact h2) rfl, rfl, by simp only [pc, toVs_set]⟩

theorem mapUpdate_sound {chk : TypeId → SV → Bool} (hC : ChkOk P chk) {m ix y : Operand} {b clk : Nat} {k x : SV} {kt el : TypeId} {es : List (SV × SV × Nat)} (hm : evS G fr m = some (.map b)) (hk : evS G fr ix = some k) (hy : evS G fr y = some x)
    (ht : P.underlying t = some (.map kt el)) (hb : h.lookup b = some (.map es clk)) (hf : findS P chk kt k es = some none) :
    SStep P G (.mapUpdate t m ix y) ty fr h nx [⟨.undef, (b, .map (es ++ [(k, x, clk)]) (clk + 1)) :: dropH b h, nx⟩] := by
  refine turn_sound fun σ hσ => ?_
  haveI : UT P t (.map kt el) := ⟨ht⟩
  obtain ⟨h1, h2⟩ := findS_sound (σ := σ) hC hf
  refine ⟨_, _, s_mapUpdate (R := pcs σ (dropH b h)) (es := ents σ es) (clk := clk) (f := none) (evS_sound hσ hm) (evS_sound hσ hk) (evS_sound hσ hy) (ent_get hb) h1 h2 trivial, rfl, ?_⟩
  simp [pc, upd, ents]

theorem map_erase {α β : Type} (f : α → β) : ∀ (l : List α) (i : Nat), (l.map f).eraseIdx i = (l.eraseIdx i).map f
  | [], _ => rfl
  | _ :: _, 0 => rfl
  | a :: l, i + 1 => by simp only [List.map_cons, List.eraseIdx_cons_succ, map_erase f l i]
theorem delete_sound {chk : TypeId → SV → Bool} (hC : ChkOk P chk) {m ix : Operand} {b clk : Nat} {k : SV} {kt el t2 : TypeId} {es : List (SV × SV × Nat)} {f : Option (Nat × SV)} (hm : evS G fr m = some (.map b)) (hk : evS G fr ix = some k)
    (ht : P.underlying t = some (.map kt el)) (hb : h.lookup b = some (.map es clk)) (hf : findS P chk kt k es = some f) :
    SStep P G (.call ⟨.builtin .delete, #[m, ix], #[t, t2]⟩) ty fr h nx [⟨.tup [], (b, delS es clk f) :: dropH b h, nx⟩] := by
  refine turn_sound fun σ hσ => ?_
  haveI : UT P t (.map kt el) := ⟨ht⟩
  obtain ⟨h1, h2⟩ := findS_sound (σ := σ) hC hf
  refine ⟨_, _, s_delete (R := pcs σ (dropH b h)) (es := ents σ es) (clk := clk) (f := f.map fun p => (p.1, toV σ p.2)) (evS_sound hσ hm) (evS_sound hσ hk) (ent_get hb) h1 h2, rfl, ?_⟩
  cases f with
  | none => simp [pc, del, delS, ents]
  | some p => simp [pc, del, delS, ents, map_erase]

theorem append_sound {x y : Operand} {e e' xt : TypeId} {j m : Nat} {T' : TypeId} {ys : List SV} {info : TypeInfo} {z : SV} {zs : List SV} {vx : SV} (hx : evS G fr x = some vx) (hy : evS G fr y = some (.vs j)) (ht : P.underlying t = some (.slice e)) (hxt : P.underlying xt = some (.slice e'))
    (hi : P.info? e = some info) (hz : zeroS P e = some z) (hj : h.lookup j = some (.own T' info.size m ys)) (hc : cellsS z = some zs) (hzs : zs.length = info.size) (hbl : (belF nx fr && belH nx h) = true) :
    (vx = .nsl → m * info.bytes ≤ 140737488355328 → m ≤ 140737488355328 → SStep P G (.call ⟨.builtin .append, #[x, y], #[t, xt]⟩) ty fr h nx [⟨.vs nx, (nx, .own e info.size m ys) :: h, nx + 1⟩]) ∧
    (∀ i n xs, vx = .vs i → h.lookup i = some (.own e info.size n xs) → i ≠ j → (n + m) * info.bytes ≤ 140737488355328 → n + m ≤ 140737488355328 →
      SStep P G (.call ⟨.builtin .append, #[x, y], #[t, xt]⟩) ty fr h nx [⟨.vs nx, (nx, .own e info.size (n + m) (xs ++ ys)) :: dropH i h, nx + 1⟩]) := by
  simp only [Bool.and_eq_true] at hbl
  have hmem : ∀ {i : Nat} {o : SO} {h : SHp}, h.lookup i = some o → (i, o) ∈ h := by
    intro i o h
    induction h with
    | nil => intro hl; cases hl
    | cons p h ih =>
      intro hl
      obtain ⟨k, o'⟩ := p
      simp only [List.lookup_cons] at hl
      by_cases e : i = k
      · subst e; simp only [beq_self_eq_true] at hl; cases hl; exact List.mem_cons_self
      · have h1 : (i == k) = false := by simpa using e
        rw [h1] at hl
        exact List.mem_cons_of_mem _ (ih hl)
  have hys : bels nx ys = true := by
    have := List.all_eq_true.1 hbl.2 _ (hmem hj)
    simp only [Bool.and_eq_true, belO] at this
    exact this.2
  have hdrop : ∀ i, belH nx (dropH i h) = true := by
    intro i
    unfold belH
    rw [List.all_eq_true]
    intro p hp
    refine List.all_eq_true.1 hbl.2 p ?_
    have : ∀ {h : SHp}, p ∈ dropH i h → p ∈ h := by
      intro h
      induction h with
      | nil => intro hp; cases hp
      | cons q h ih =>
        intro hp
        simp only [dropH] at hp
        split at hp
        · exact List.mem_cons_of_mem _ hp
        · rcases List.mem_cons.1 hp with rfl | hp
          · exact List.mem_cons_self
          · exact List.mem_cons_of_mem _ (ih hp)
    exact this hp
  have hsrc : ∀ (σ : Sg) (h' : SHp), h'.lookup j = some (.own T' info.size m ys) → ∀ F w, Holds (pcs σ h') F w → Src P info.size xt (σ j) m (toVs σ ys) w := by
    intro σ h' hj' F w hw
    haveI : UT P xt (.slice e') := ⟨hxt⟩
    exact src_of_rs (C := own T' info.size (σ j) m (toVs σ ys)) (ent_get hj' F w hw)
  constructor
  · intro hv hb1 hb2
    subst hv
    refine sstep_of fun σ hσ hG => ?_
    haveI := zeroS_sound (σ := σ) hz
    haveI : UT P t (.slice e) := ⟨ht⟩
    haveI : SZ P e info.size info.bytes := ⟨info, hi, rfl, rfl⟩
    have hst := s_append (P := P) (ty := ty) (t := t) (T := e) (e := e) (xt := xt) (L := pcs σ h) (R := pcs σ h) (sz := info.size) (n := 0) (xs := []) (z := toV σ z) (evS_sound hσ hx) (evS_sound hσ hy) Ent.nilOwn (hsrc σ h hj) (by simpa using hb1) (by simpa using hb2)
      (by rw [(cellsS_sound hσ hc).out]; simp [toVs_length, hzs]) rfl
    refine ⟨Value, _, _, hst, fun v F w hw => ⟨setσ σ nx v, _, setσ_ok hσ hG (own_one hw), setσ_agree, (frV_agree setσ_agree hbl.1).symm, List.mem_singleton.2 rfl, Nat.le_succ _, by simp [toV, setσ_at], ?_⟩⟩
    simp only [Nat.zero_add, List.nil_append] at hw
    rw [pcs_agree (setσ_agree (v := v)) hbl.2, toVs_agree (setσ_agree (v := v)) ys hys] at hw
    simpa [pcs, pc, setσ_at] using hw
  · intro i n xs hv hl hij hb1 hb2
    subst hv
    have hxs : bels nx xs = true := by
      have := List.all_eq_true.1 hbl.2 _ (hmem hl)
      simp only [Bool.and_eq_true, belO] at this
      exact this.2
    have hall : bels nx (xs ++ ys) = true := by
      have : ∀ l : List SV, bels nx l = l.all (bel nx) := by
        intro l
        induction l with
        | nil => rfl
        | cons v l ih => simp [bels, ih]
      rw [this, List.all_append, ← this, ← this, hxs, hys]; rfl
    refine sstep_of fun σ hσ hG => ?_
    haveI := zeroS_sound (σ := σ) hz
    haveI : UT P t (.slice e) := ⟨ht⟩
    haveI : SZ P e info.size info.bytes := ⟨info, hi, rfl, rfl⟩
    have hst := s_append (P := P) (ty := ty) (t := t) (T := e) (e := e) (xt := xt) (L := pcs σ h) (R := pcs σ (dropH i h)) (sz := info.size) (n := n) (xs := toVs σ xs) (z := toV σ z) (evS_sound hσ hx) (evS_sound hσ hy) (ent_get hl)
      (hsrc σ (dropH i h) (by rw [lookup_drop hij]; exact hj)) hb1 hb2 (by rw [(cellsS_sound hσ hc).out]; simp [toVs_length, hzs]) rfl
    refine ⟨Value, _, _, hst, fun v F w hw => ⟨setσ σ nx v, _, setσ_ok hσ hG (own_one hw), setσ_agree, (frV_agree setσ_agree hbl.1).symm, List.mem_singleton.2 rfl, Nat.le_succ _, by simp [toV, setσ_at], ?_⟩⟩
    simp only [← toVs_append] at hw
    rw [pcs_agree (setσ_agree (v := v)) (hdrop i), toVs_agree (setσ_agree (v := v)) _ hall] at hw
    simpa [pcs, pc, setσ_at] using hw

theorem range_sound {x : Operand} {b clk : Nat} {kt el : TypeId} {es : List (SV × SV × Nat)} {outs : List Out} (hx : evS G fr x = some (.map b)) (ht : P.underlying t = some (.map kt el)) (hb : h.lookup b = some (.map es clk)) (hbn : b < nx)
    (hf : fresh fr h nx (.iter b clk [] clk) (.ptr (some (nx, 0))) = some outs) : SStep P G (.range t x) ty fr h nx outs := by
  refine fresh_sound' hf fun σ hσ hG => ?_
  haveI : UT P t (.map kt el) := ⟨ht⟩
  refine ⟨Nat, _, _, fun b => .pointer (some ⟨b, 0, none⟩), s_range (R := pcs σ (dropH b h)) (es := ents σ es) (clk := clk) (evS_sound hσ hx) (ent_get hb), fun ib => ⟨fun _ _ _ => rfl, ?_, ?_⟩⟩
  · simp [toV, setσ_at, bk]
  · have h1 : setσ σ nx (.pointer (some ⟨ib, 0, none⟩)) b = σ b := (setσ_agree.1 b hbn).symm
    have h2 : pc (setσ σ nx (.pointer (some ⟨ib, 0, none⟩))) (nx, .iter b clk [] clk) = pt ib (.mapIter (some (bk (σ b))) clk #[] clk) := by simp [pc, setσ_at, bk, h1]
    rw [h2]
    exact Ent.cons _ (ent_put hb)

theorem ent_two {b m : Nat} {o o' : SO} (hb : h.lookup b = some o) (hm : h.lookup m = some o') (hne : b ≠ m) : Ent (pcs σ h) (pc σ (b, o) :: pc σ (m, o') :: pcs σ (dropH m (dropH b h))) :=
  (ent_get hb).trans (Ent.cons _ (ent_get (by rw [lookup_drop hne]; exact hm)))

theorem next_sound {x : Operand} {b m since last clk : Nat} {seen : List Nat} {es : List (SV × SV × Nat)} (hx : evS G fr x = some (.ptr (some (b, 0)))) (hb : h.lookup b = some (.iter m since seen last)) (hm : h.lookup m = some (.map es clk)) (hne : b ≠ m)
    (hall : es.all (fun e => Nat.blt e.2.2 since && Nat.blt e.2.2 last) = true) :
    SStep P G (.next x false) ty fr h nx (if (leftS es seen).isEmpty then [⟨.tup [.bool false], h, nx⟩]
      else (leftS es seen).map fun e => ⟨.tup [.bool true, e.1, e.2.1], (b, .iter m since (seen ++ [e.2.2]) clk) :: dropH b h, nx⟩) := by
  refine sstep_of fun σ hσ hG => ?_
  have hmem : ∀ e ∈ ents σ es, ∃ e' ∈ es, e = { key := toV σ e'.1, val := toV σ e'.2.1, born := e'.2.2 } := by
    intro e he
    simp only [ents, List.mem_toArray, List.mem_map] at he
    obtain ⟨e', h1, rfl⟩ := he
    exact ⟨e', h1, rfl⟩
  have hbo : ∀ e ∈ ents σ es, e.born < since ∧ e.born < last := by
    intro e he
    obtain ⟨e', h1, rfl⟩ := hmem e he
    have := List.all_eq_true.1 hall e' h1
    simpa using this
  have hleft : left (ents σ es) seen.toArray = ents σ (leftS es seen) := by
    simp [left, ents, leftS, List.filter_map, Function.comp_def]
  refine ⟨_, _, _, s_next (R := pcs σ (dropH m (dropH b h))) (es := ents σ es) (clk := clk) (ib := bk (σ b)) (r := bk (σ m)) (seen := seen.toArray) (last := last) (since := since) (evS_sound hσ hx) (ent_two hb hm hne) (fun e he => (hbo e he).1) (fun e he => (hbo e he).2), ?_⟩
  intro i F w hw
  cases i with
  | none =>
    obtain ⟨hl, hw⟩ := holds_pur.1 hw
    rw [hleft] at hl
    have he : leftS es seen = [] := by simpa [ents] using hl
    refine ⟨σ, ⟨.tup [.bool false], h, nx⟩, hσ, Agree.refl _ _, rfl, by simp [he], Nat.le_refl _, by simp [toV, toVs], ?_⟩
    have := (Ent.cons (pc σ (b, .iter m since seen last)) (ent_put (σ := σ) (h := dropH b h) (i := m) (o := .map es clk) (by rw [lookup_drop hne]; exact hm))) F w hw
    exact ent_put hb F w this
  | some e =>
    obtain ⟨hl, hw⟩ := holds_pur.1 hw
    rw [hleft] at hl
    simp only [ents, List.mem_toArray, List.mem_map] at hl
    obtain ⟨e', h1, rfl⟩ := hl
    have hne0 : (leftS es seen).isEmpty = false := by
      cases hq : leftS es seen with
      | nil => rw [hq] at h1; cases h1
      | cons => rfl
    refine ⟨σ, ⟨.tup [.bool true, e'.1, e'.2.1], (b, .iter m since (seen ++ [e'.2.2]) clk) :: dropH b h, nx⟩, hσ, Agree.refl _ _, rfl, ?_, Nat.le_refl _, by simp [toV, toVs], ?_⟩
    · rw [hne0]
      exact List.mem_map.2 ⟨e', h1, rfl⟩
    · have h2 : pc σ (b, .iter m since (seen ++ [e'.2.2]) clk) = pt (bk (σ b)) (.mapIter (some (bk (σ m))) since (seen.toArray.push e'.2.2) clk) := by simp [pc]
      have := (Ent.cons (pc σ (b, .iter m since (seen ++ [e'.2.2]) clk)) (ent_put (σ := σ) (h := dropH b h) (i := m) (o := .map es clk) (by rw [lookup_drop hne]; exact hm))) F w (by rw [h2]; exact hw)
      exact this

theorem entry_sound {x : Operand} {b m since clk s : Nat} {seen : List Nat} {es : List (SV × SV × Nat)} {e : SV × SV × Nat} (hx : evS G fr x = some (.ptr (some (b, 0)))) (hb : h.lookup b = some (.iter m since seen clk)) (hm : h.lookup m = some (.map es clk)) (hne : b ≠ m)
    (hs : seen.getLast? = some s) (he : es.find? (fun e => Nat.beq e.2.2 s) = some e) : SStep P G (.entry x) ty fr h nx [⟨.tup [e.1, e.2.1], h, nx⟩] := by
  refine sstep_quiet fun σ hσ => ?_
  have hf : (ents σ es).find? (·.born == s) = some { key := toV σ e.1, val := toV σ e.2.1, born := e.2.2 } := by
    have key : ∀ l : List (SV × SV × Nat), l.find? (fun e => Nat.beq e.2.2 s) = some e → (l.map fun e => ({ key := toV σ e.1, val := toV σ e.2.1, born := e.2.2 } : MapEntry)).find? (·.born == s) = some { key := toV σ e.1, val := toV σ e.2.1, born := e.2.2 } := by
      intro l
      induction l with
      | nil => intro h; cases h
      | cons q l ih =>
        intro h
        simp only [List.find?_cons] at h
        simp only [List.map_cons, List.find?_cons]
        by_cases hq : q.2.2 = s
        · have h1 : Nat.beq q.2.2 s = true := by rw [Nat.beq_eq]; exact hq
          have h2 : (q.2.2 == s) = true := by simpa using hq
          rw [h1] at h
          rw [h2]
          cases h
          rfl
        · have h1 : Nat.beq q.2.2 s = false := by rw [← Bool.not_eq_true, Nat.beq_eq]; exact hq
          have h2 : (q.2.2 == s) = false := by simpa using hq
          rw [h1] at h
          rw [h2]
          exact ih h
    simpa [ents] using key es he
  have := q_entry (P := P) (ty := ty) (R := pcs σ (dropH m (dropH b h))) (es := ents σ es) (clk := clk) (ib := bk (σ b)) (r := bk (σ m)) (since := since) (seen := seen.toArray) (stamp := s) (evS_sound hσ hx) (ent_two hb hm hne) (by simpa using hs) hf
  simpa [toV, toVs] using this
end
end Go.Proofs.YtaibgfnfmkpibaaGreatDoor.SL
