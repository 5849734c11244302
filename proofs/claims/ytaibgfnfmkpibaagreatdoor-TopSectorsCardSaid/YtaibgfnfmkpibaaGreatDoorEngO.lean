/- A run that is reckoned out: the operations that look at one place. No program in sight. -/
import Derived.Test.YtaibgfnfmkpibaaGreatDoorEngN
namespace Go.Proofs.YtaibgfnfmkpibaaGreatDoor.SL
open Go

section
variable {P : Program} {G : Nat} {σ : Sg} {fr : SFr} {ty t : TypeId} {L R : List HProp}

theorem run_bounds_all {w : World} {n cap : Nat} {lo hi : Option Value} (hlo : lo = none ∨ ∃ k, lo = some (.int k 0)) (hhi : hi = none ∨ ∃ k, hi = some (.int k n)) (hnc : n ≤ cap) :
    (Instr.sliceBounds true n cap lo hi none).run P w = .ok (0, n, cap) w := by
  rcases hlo with rfl | ⟨k, rfl⟩ <;> rcases hhi with rfl | ⟨k', rfl⟩ <;>
    simp [Instr.sliceBounds, Instr.sliceBound, asIntOf, hnc]

/-- A slice cut to all of it is itself. -/
theorem q_slice_all {f : Fr} {T e : TypeId} {sz n by' : Nat} {v : Value} {xs : List Value} [UT P t (.slice e)] [SZ P e sz by'] {x : Operand} (hx : ev f x = some v) (he : Ent L (own T sz v n xs :: R)) (lo hi : Option Operand)
    (hlo : lo = none ∨ ∃ l k, lo = some l ∧ ev f l = some (.int k 0)) (hhi : hi = none ∨ ∃ u k, hi = some u ∧ ev f u = some (.int k n)) : Quiet P (.slice t x lo hi none) ty f L v := by
  intro n' F a w d pos after g hr hh
  have hut : (underlying t).run P w = .ok (.slice e) w := run_ut
  have hsz' : (sizeOf e).run P w = .ok sz w := run_size
  have hlo' : lo.map a.eval = none ∨ ∃ k, lo.map a.eval = some (.int k 0) := by
    rcases hlo with rfl | ⟨l, k, rfl, hl⟩
    · exact .inl rfl
    · exact .inr ⟨k, by rw [Option.map_some, hr.ev hl]⟩
  have hhi' : hi.map a.eval = none ∨ ∃ k, hi.map a.eval = some (.int k n) := by
    rcases hhi with rfl | ⟨l, k, rfl, hl⟩
    · exact .inl rfl
    · exact .inr ⟨k, by rw [Option.map_some, hr.ev hl]⟩
  obtain ⟨hl, ho, ⟨hv, hn0, _, _⟩ | ⟨b, o, cap, vs, hv, hnc, _⟩⟩ := holds_own (he F w hh)
  · subst hv
    subst hn0
    simp only [execOp, hr.ev hx, Instr.sliceAt, Instr.slice, Sem.run_bind, hut, Result.andThen_ok, run_bounds_all hlo' hhi' (Nat.le_refl 0), hsz', Sem.run_pure, Option.map_none, ite_self, Nat.sub_self]
  · subst hv
    simp only [execOp, hr.ev hx, Instr.sliceAt, Instr.slice, Sem.run_bind, hut, Result.andThen_ok, run_bounds_all hlo' hhi' hnc, hsz', Sem.run_pure, Option.map_none, Option.map_some, Nat.sub_zero, addr_add, Nat.zero_mul, Nat.add_zero, ite_self]

/-- A slice that has elements is not nil. -/
theorem q_eql_nil_own {f : Fr} {T e : TypeId} {sz n : Nat} {v : Value} {xs : List Value} [UT P t (.slice e)] {x y : Operand} {yt : TypeId} (hx : ev f x = some v) (hy : ev f y = some (.slice none 0 0)) (he : Ent L (own T sz v n xs :: R)) (hne : xs ≠ []) :
    Quiet P (.binOp .eql t x y yt) ty f L (.bool false) ∧ Quiet P (.binOp .neq t x y yt) ty f L (.bool true) := by
  constructor <;>
  · intro n' F a w d pos after g hr hh
    have hut : (underlying t).run P w = .ok (.slice e) w := run_ut
    obtain ⟨hl, ho, ⟨hv, hn0, h0, _⟩ | ⟨b, o, cap, vs, hv, hnc, _⟩⟩ := holds_own (he F w hh)
    · exact absurd h0 hne
    · subst hv
      have heq : (Op.equal t (.slice (some ⟨b, o, none⟩) n cap) (.slice none 0 0)).run P w = .ok false w := by
        show (Op.equalIn (9999 + 1) t _ _).run P w = _
        unfold Op.equalIn
        simp only [Sem.run_bind, hut, Result.andThen_ok]
        rfl
      simp only [execOp, hr.ev hx, hr.ev hy, eqGuard, binOp, Sem.run_bind, heq, Result.andThen_ok, Sem.run_pure, Bool.not_true, Bool.not_false, Bool.false_eq_true, if_false]

theorem q_eql_nil_elp {f : Fr} {T e : TypeId} {sz n k : Nat} {v : Value} {xs : List Value} [UT P t (.pointer e)] {x y : Operand} {yt : TypeId} (hx : ev f x = some (elp v k)) (hy : ev f y = some (.pointer none)) (he : Ent L (own T sz v n xs :: R)) (hne : k < xs.length) :
    Quiet P (.binOp .eql t x y yt) ty f L (.bool false) ∧ Quiet P (.binOp .neq t x y yt) ty f L (.bool true) := by
  constructor <;>
  · intro n' F a w d pos after g hr hh
    have hut : (underlying t).run P w = .ok (.pointer e) w := run_ut
    obtain ⟨hl, ho, ⟨hv, hn0, h0, _⟩ | ⟨b, o, cap, vs, hv, hnc, _⟩⟩ := holds_own (he F w hh)
    · rw [h0] at hne; cases hne
    · subst hv
      have hx' : ev f x = some (.pointer (some ⟨b, o + k, none⟩)) := by rw [hx]; simp [elp, addr_add]
      have heq : (Op.equal t (.pointer (some ⟨b, o + k, none⟩)) (.pointer none)).run P w = .ok false w := by
        show (Op.equalIn (9999 + 1) t _ _).run P w = _
        unfold Op.equalIn
        simp only [Sem.run_bind, hut, Result.andThen_ok]
        rfl
      simp only [execOp, hr.ev hx', hr.ev hy, eqGuard, binOp, Sem.run_bind, heq, Result.andThen_ok, Sem.run_pure, Bool.not_true, Bool.not_false, Bool.false_eq_true, if_false]

/-! ### Finding -/
def ents (σ : Sg) (es : List (SV × SV × Nat)) : Array MapEntry := (es.map fun e => ({ key := toV σ e.1, val := toV σ e.2.1, born := e.2.2 } : MapEntry)).toArray

theorem find1_sound {kd kk : IntKind} {i : Int} : ∀ {es : List (SV × SV × Nat)} {n : Nat} {r : Option (Nat × SV)}, find1 kk i es n = some r →
    Instr.findNow (.int kd) (.int kk i) (es.map fun e => ({ key := toV σ e.1, val := toV σ e.2.1, born := e.2.2 } : MapEntry)) n = some (r.map fun p => (p.1, toV σ p.2))
  | [], n, r, h => by simp only [find1] at h; cases h; rfl
  | (k, v, b) :: es, n, r, h => by
    cases k <;> simp only [find1] at h <;> first | (cases h; done) | skip
    split at h
    · rename_i hk
      subst hk
      split at h
      · rename_i hij
        subst hij
        cases h
        simp [Instr.findNow, Instr.sameNow, toV]
      · rename_i hij
        have ih := find1_sound (kd := kd) h
        simp only [List.map_cons, Instr.findNow, Instr.sameNow, toV, if_true]
        have : (i == _) = false := beq_eq_false_iff_ne.2 hij
        rw [this]
        exact ih
    · cases h

theorem findS_sound {chk : TypeId → SV → Bool} (hC : ChkOk P chk) {kt : TypeId} {k : SV} {es : List (SV × SV × Nat)} {r : Option (Nat × SV)} (h : findS P chk kt k es = some r) :
    KeyOk P kt (toV σ k) ∧ Found P kt (toV σ k) (ents σ es) (r.map fun p => (p.1, toV σ p.2)) := by
  unfold findS at h
  split at h
  · rename_i kd kk i hkt
    refine ⟨?_, ?_⟩
    · intro b w
      have hut : (underlying kt).run P w = .ok (.int kd) w := by simp [underlying, hkt]
      show (Instr.checkKey b (9999 + 1) kt _).run P w = _
      unfold Instr.checkKey
      simp only [Sem.run_bind, hut, Result.andThen_ok]
      rfl
    · intro w
      have hut : (underlying kt).run P w = .ok (.int kd) w := by simp [underlying, hkt]
      have := find1_sound (σ := σ) (kd := kd) h
      simp only [Instr.findKey, Sem.run_bind, hut, Result.andThen_ok, toV, ents]
      rw [this]
      rfl
  · rename_i d hkt _
    split at h
    · rename_i hc
      simp only [Bool.and_eq_true] at hc
      cases h
      have he : es = [] := by simpa using hc.2
      subst he
      refine ⟨hC _ _ hc.1 σ, fun w => ?_⟩
      have hut : (underlying kt).run P w = .ok d w := by simp [underlying, hkt]
      simp only [Instr.findKey, Sem.run_bind, hut, Result.andThen_ok, ents]
      rfl
    · cases h
  · cases h

theorem gotS_sound {ok : Bool} {z : SV} {r : Option (Nat × SV)} : toV σ (gotS ok z r) = got ok (toV σ z) (r.map fun p => (p.1, toV σ p.2)) := by
  cases r with
  | none => cases ok <;> simp [gotS, got, toV, toVs]
  | some p => obtain ⟨i, v⟩ := p; cases ok <;> simp [gotS, got, toV, toVs]

/-! ### Loads -/
theorem loadS_sc {vs : List SV} {o : Nat} {v : SV} (h : loadS P t vs o = some v) :
    (SC P t ∧ (toVs σ vs)[o]? = some (toV σ v)) ∨ ∃ m us, AG P t m ∧ v = .agg us ∧ ((toVs σ vs).drop o).take m = toVs σ us ∧ (toVs σ us).length = m ∧ (m == 0) = false := by
  unfold loadS at h
  split at h
  · rename_i hk
    exact .inl ⟨SC.of hk, toVs_get h⟩
  · rename_i m hk
    split at h
    · rename_i hc
      simp only [Bool.and_eq_true, Bool.not_eq_true', Nat.beq_eq] at hc
      cases h
      refine .inr ⟨m, _, AG.of hk, rfl, ?_, ?_, ?_⟩
      · rw [toVs_take, toVs_drop]
      · rw [toVs_length]; simpa using hc.1
      · rw [beq_eq_false_iff_ne]
        rintro rfl
        simp at hc
    · cases h
  · cases h

theorem lookOp_sound {chk : TypeId → SV → Bool} (hσ : VOk G σ) (hC : ChkOk P chk) {h : SHp} {op : Op} {v : SV} {b : Nat} (hl : lookOp P G chk fr h op = some (v, b)) :
    ∃ o, h.lookup b = some o ∧ Quiet P op ty (frV σ fr) [pc σ (b, o)] (toV σ v) := by
  unfold lookOp at hl
  split at hl
  · -- load
    split at hl
    · rename_i b' o' hx
      split at hl
      · rename_i T vs hb
        simp only [Option.map_eq_some_iff] at hl
        obtain ⟨u, hu, he⟩ := hl
        cases he
        refine ⟨_, hb, ?_⟩
        rcases loadS_sc (σ := σ) hu with ⟨hsc, hg⟩ | ⟨m, us, hag, rfl, h1, h2, h3⟩
        · haveI := hsc; exact q_load (evS_sound hσ hx) (.refl _) hg
        · haveI := hag; exact q_load_ag (evS_sound hσ hx) (.refl _) h1 h2
      · rename_i T vs hb
        split at hl
        · rename_i hk
          simp only [Option.map_eq_some_iff] at hl
          obtain ⟨u, hu, he⟩ := hl
          cases he
          haveI := SC.of hk
          exact ⟨_, hb, q_load_tab (evS_sound hσ hx) (.refl _) (toVs_get hu)⟩
        · cases hl
      · cases hl
    · rename_i i k hx
      split at hl
      · rename_i T sz n xs hb
        simp only [Option.map_eq_some_iff] at hl
        obtain ⟨u, hu, he⟩ := hl
        cases he
        refine ⟨_, hb, ?_⟩
        rcases loadS_sc (σ := σ) hu with ⟨hsc, hg⟩ | ⟨m, us, hag, rfl, h1, h2, h3⟩
        · haveI := hsc; exact q_load_s (C := own T sz (σ b) n (toVs σ xs)) (evS_sound hσ hx) (.refl _) hg
        · haveI := hag; exact q_load_ag_s (C := own T sz (σ b) n (toVs σ xs)) (evS_sound hσ hx) (.refl _) h1 h2 h3
      · cases hl
    · cases hl
  · -- nilCheck
    split at hl
    · rename_i i k hx
      split at hl
      · rename_i T sz n xs hb
        split at hl
        · rename_i hk
          cases hl
          refine ⟨_, hb, ?_⟩
          exact q_nil_s (C := own T sz (σ b) n (toVs σ xs)) (evS_sound hσ hx) (.refl _) (by rw [toVs_length]; simpa using hk)
        · cases hl
      · cases hl
    · cases hl
  · -- fieldAddr
    split at hl
    · rename_i s x i _ b' k hx
      split at hl
      · rename_i T sz n xs off ft hb hf
        split at hl
        · rename_i hk
          cases hl
          refine ⟨_, hb, ?_⟩
          haveI : FL P s i off ft := FL.of hf
          exact q_field_s (C := own T sz (σ b) n (toVs σ xs)) (evS_sound hσ hx) (.refl _) (by rw [toVs_length]; simpa using hk)
        · cases hl
      · cases hl
    · cases hl
  · -- indexAddr
    split at hl
    · rename_i b' kk i e hx hi ht
      split at hl
      · rename_i T sz n xs info hb hinfo
        split at hl
        · rename_i hc
          obtain ⟨h1, h2, h3⟩ := hc
          cases hl
          refine ⟨_, hb, ?_⟩
          haveI : UT P _ (.slice e) := ⟨ht⟩
          haveI : SZ P e sz info.bytes := ⟨info, hinfo, h1, rfl⟩
          exact q_index_s (C := own T sz (σ b) n (toVs σ xs)) (evS_sound hσ hx) (evS_sound hσ hi) (.refl _) h2 h3
        · cases hl
      · cases hl
    · cases hl
  · -- lookup
    split at hl
    · rename_i b' k kt el hx hi ht
      split at hl
      · rename_i es clk z hb hz
        simp only [Option.map_eq_some_iff] at hl
        obtain ⟨f, hf, he⟩ := hl
        cases he
        refine ⟨_, hb, ?_⟩
        haveI : UT P _ (.map kt el) := ⟨ht⟩
        haveI : ZV P el (toV σ z) := zeroS_sound hz
        obtain ⟨h1, h2⟩ := findS_sound (σ := σ) hC hf
        rw [gotS_sound]
        exact q_lookup (es := ents σ es) (clk := clk) (evS_sound hσ hx) (evS_sound hσ hi) (.refl _) h1 h2
      · cases hl
    · cases hl
  · -- len
    split at hl
    · rename_i xs ats _ _ x a hxs hats
      obtain ⟨xl⟩ := xs
      obtain ⟨al⟩ := ats
      simp only at hxs hats
      subst hxs hats
      split at hl
      · rename_i b' e hx ha
        split at hl
        · rename_i T sz n ys hb
          cases hl
          refine ⟨_, hb, ?_⟩
          haveI : UT P a (.slice e) := ⟨ha⟩
          exact q_len_s (C := own T sz (σ b) n (toVs σ ys)) (evS_sound hσ hx) (.refl _)
        · cases hl
      · rename_i b' kt el hx ha
        split at hl
        · rename_i es clk hb
          cases hl
          refine ⟨_, hb, ?_⟩
          haveI : UT P a (.map kt el) := ⟨ha⟩
          have := q_len_map (P := P) (ty := ty) (es := ents σ es) (clk := clk) (R := []) (L := [pc σ (b, .map es clk)]) (ats := a) (evS_sound hσ hx) (.refl _)
          simpa [ents, toV] using this
        · cases hl
      · cases hl
    · cases hl
  · -- slice
    split at hl
    · rename_i t x lo hi _ _ b' e hx ht
      split at hl
      · rename_i T sz n xs info hb hinfo
        rw [Option.ite_none_right_eq_some] at hl
        obtain ⟨hc, hl⟩ := hl
        obtain ⟨h1, h2, h3⟩ := hc
        cases hl
        refine ⟨_, hb, ?_⟩
        haveI : UT P t (.slice e) := ⟨ht⟩
        haveI : SZ P e sz info.bytes := ⟨info, hinfo, h1, rfl⟩
        refine q_slice_all (R := []) (T := T) (n := n) (xs := toVs σ xs) (evS_sound hσ hx) (.refl _) lo hi ?_ ?_
        · cases lo with
          | none => exact .inl rfl
          | some l =>
            right
            simp only at h2
            split at h2
            · rename_i k hl; exact ⟨l, k, rfl, evS_sound hσ hl⟩
            · cases h2
        · cases hi with
          | none => exact .inl rfl
          | some u =>
            right
            simp only at h3
            split at h3
            · rename_i k j hu
              have hj : j = (n : Int) := by simpa using h3
              subst hj
              exact ⟨u, k, rfl, evS_sound hσ hu⟩
            · cases h3
      · cases hl
    · cases hl
  · -- binOp
    split at hl
    · rename_i b' e hx hy ht
      split at hl
      · rename_i T sz n xs hb
        split at hl
        · cases hl
        · rename_i hne
          haveI : UT P _ (.slice e) := ⟨ht⟩
          have hne' : toVs σ xs ≠ [] := by
            intro h0
            apply hne
            have := congrArg List.length h0
            rw [toVs_length] at this
            simpa using this
          split at hl
          · cases hl
            exact ⟨_, hb, (q_eql_nil_own (R := []) (evS_sound hσ hx) (evS_sound hσ hy) (.refl _) hne').1⟩
          · cases hl
            exact ⟨_, hb, (q_eql_nil_own (R := []) (evS_sound hσ hx) (evS_sound hσ hy) (.refl _) hne').2⟩
          · cases hl
      · cases hl
    · rename_i b' k e hx hy ht
      split at hl
      · rename_i T sz n xs hb
        split at hl
        · rename_i hk
          haveI : UT P _ (.pointer e) := ⟨ht⟩
          have hk' : k < (toVs σ xs).length := by rw [toVs_length]; simpa using hk
          split at hl
          · cases hl
            exact ⟨_, hb, (q_eql_nil_elp (R := []) (evS_sound hσ hx) (evS_sound hσ hy) (.refl _) hk').1⟩
          · cases hl
            exact ⟨_, hb, (q_eql_nil_elp (R := []) (evS_sound hσ hx) (evS_sound hσ hy) (.refl _) hk').2⟩
          · cases hl
        · cases hl
      · cases hl
    · cases hl
  · cases hl
end
end Go.Proofs.YtaibgfnfmkpibaaGreatDoor.SL
