/- A run that is reckoned out: the operations that look at nothing but the frame. No program in sight. -/
import Derived.Test.YtaibgfnfmkpibaaGreatDoorEngM
namespace Go.Proofs.YtaibgfnfmkpibaaGreatDoor.SL
open Go

section
variable {P : Program} {G : Nat} {σ : Sg} {fr : SFr} {ty t : TypeId}

theorem bin_sound {op : BinOp} {k : IntKind} {i j : Int} {v : SV} {f : Fr} {x y : Operand} {yt : TypeId} (hx : ev f x = some (.int k i)) (hy : ev f y = some (.int k j)) (h : bin op k i j = some v) :
    Pure P (.binOp op t x y yt) ty f (toV σ v) := by
  cases op <;> simp only [bin] at h <;> first
    | (cases h; done)
    | (cases h; exact p_add hx hy rfl)
    | (cases h; exact p_sub hx hy rfl)
    | (cases h; exact p_mul hx hy rfl)
    | (cases h; exact p_and hx hy rfl)
    | (cases h; exact p_xor hx hy rfl)
    | (cases h; exact p_lss hx hy)
    | (cases h; exact p_leq hx hy)
    | (cases h; exact p_gtr hx hy)
    | (cases h; exact p_geq hx hy)
    | (cases h; exact p_eql hx hy)
    | (cases h; exact p_neq hx hy)
    | (split at h
       · cases h
       · rename_i h0
         cases h
         exact p_quo hx hy h0 rfl)

theorem run_equalIn_nil {w : World} {n : Nat} {x y : SV} {c : Bool} (h : isNil P t x y = some c) : (Op.equalIn (n + 1) t (toV σ x) (toV σ y)).run P w = .ok c w := by
  unfold isNil at h
  unfold Op.equalIn
  split at h
  · rename_i e h1
    cases h
    have hu : (underlying t).run P w = .ok (.pointer e) w := by simp [underlying, h1]
    simp only [toV, Sem.run_bind, hu, Result.andThen_ok]
    rfl
  · rename_i e p h1
    cases h
    obtain ⟨b, o⟩ := p
    have hu : (underlying t).run P w = .ok (.pointer e) w := by simp [underlying, h1]
    simp only [toV, Sem.run_bind, hu, Result.andThen_ok]
    rfl
  · rename_i e h1
    cases h
    have hu : (underlying t).run P w = .ok (.slice e) w := by simp [underlying, h1]
    simp only [toV, Sem.run_bind, hu, Result.andThen_ok]
    rfl
  · cases h

theorem run_bin_nil {w : World} {x y : SV} {c : Bool} {a b : Operand} (h : isNil P t x y = some c) :
    (do eqGuard .eql t a b (toV σ x) (toV σ y); binOp .eql t (toV σ x) (toV σ y)).run P w = .ok (.bool c) w ∧ (do eqGuard .neq t a b (toV σ x) (toV σ y); binOp .neq t (toV σ x) (toV σ y)).run P w = .ok (.bool (!c)) w := by
  have h1 : (Op.equal t (toV σ x) (toV σ y)).run P w = .ok c w := run_equalIn_nil h
  have h0 := h
  unfold isNil at h
  split at h
  · cases h
    simp only [toV] at h1 ⊢
    constructor <;> simp only [eqGuard, binOp, Sem.run_bind, h1, Result.andThen_ok, Sem.run_pure, Bool.not_true, Bool.not_false, Bool.false_eq_true, if_false]
  · rename_i p _
    obtain ⟨b, o⟩ := p
    cases h
    simp only [toV] at h1 ⊢
    constructor <;> simp only [eqGuard, binOp, Sem.run_bind, h1, Result.andThen_ok, Sem.run_pure, Bool.not_true, Bool.not_false, Bool.false_eq_true, if_false]
  · cases h
    simp only [toV] at h1 ⊢
    constructor <;> simp only [eqGuard, binOp, Sem.run_bind, h1, Result.andThen_ok, Sem.run_pure, Bool.not_true, Bool.not_false, Bool.false_eq_true, if_false]
  · cases h

theorem pBin_sound {eqs : TypeId → SV → SV → Option Bool} (hE : EqsOk P eqs) {op : BinOp} {x y : Operand} {sx sy : Option SV} {yt : TypeId} {v : SV} {f : Fr}
    (hx : ∀ u, sx = some u → ev f x = some (toV σ u)) (hy : ∀ u, sy = some u → ev f y = some (toV σ u)) (h : pBin P eqs op t sx sy = some v) : Pure P (.binOp op t x y yt) ty f (toV σ v) := by
  unfold pBin at h
  split at h
  · rename_i k i k' j
    have hx := hx _ rfl
    have hy := hy _ rfl
    split at h
    · split at h
      · rename_i h0; cases h; exact p_shl hx hy h0 rfl
      · cases h
    · split at h
      · rename_i h0; cases h; exact p_shr hx hy h0 rfl
      · cases h
    · split at h
      · rename_i hk; subst hk; exact bin_sound hx hy h
      · cases h
  · rename_i a b
    have hx := hx _ rfl
    have hy := hy _ rfl
    split at h
    · simp only [Option.map_eq_some_iff] at h
      obtain ⟨c, hc, rfl⟩ := h
      intro n a' w d pos after g hr
      have := hE t _ _ c hc σ x y w
      simp only [execOp, hr.ev hx, hr.ev hy]
      rw [Sem.run_bind, this]
      rfl
    · cases h
  · rename_i a b _ _
    have hx := hx _ rfl
    have hy := hy _ rfl
    split at h
    · simp only [Option.map_eq_some_iff] at h
      obtain ⟨c, hc, rfl⟩ := h
      intro n a' w d pos after g hr
      have := (run_bin_nil (P := P) (σ := σ) (w := w) (a := x) (b := y) hc).1
      simp only [execOp, hr.ev hx, hr.ev hy]
      rw [Sem.run_bind, this]
      rfl
    · simp only [Option.map_eq_some_iff] at h
      obtain ⟨c, hc, rfl⟩ := h
      intro n a' w d pos after g hr
      have := (run_bin_nil (P := P) (σ := σ) (w := w) (a := x) (b := y) hc).2
      simp only [execOp, hr.ev hx, hr.ev hy]
      rw [Sem.run_bind, this]
      rfl
    · cases h
  · cases h

theorem minS_sound {w : World} : ∀ {l : List SV} {u v : SV}, minS u l = some v → ((toVs σ l).foldlM Builtin.min2 (toV σ u)).run P w = .ok (toV σ v) w
  | [], u, v, h => by cases u <;> (simp only [minS] at h; cases h; rfl)
  | a :: l, u, v, h => by
    cases u <;> cases a <;> simp only [minS] at h <;> first | (cases h; done) | skip
    simp only [toVs, List.foldlM_cons, toV, Builtin.min2, pure_bind]
    exact minS_sound h
theorem maxS_sound {w : World} : ∀ {l : List SV} {u v : SV}, maxS u l = some v → ((toVs σ l).foldlM Builtin.max2 (toV σ u)).run P w = .ok (toV σ v) w
  | [], u, v, h => by cases u <;> (simp only [maxS] at h; cases h; rfl)
  | a :: l, u, v, h => by
    cases u <;> cases a <;> simp only [maxS] at h <;> first | (cases h; done) | skip
    simp only [toVs, List.foldlM_cons, toV, Builtin.max2, pure_bind]
    exact maxS_sound h

theorem p_minS (hσ : VOk G σ) {xs : Array Operand} {ats : Array TypeId} {u v : SV} {l : List SV} (hx : evsS G fr xs.toList = some (u :: l)) (h : minS u l = some v) : Pure P (.call ⟨.builtin .min, xs, ats⟩) ty (frV σ fr) (toV σ v) := by
  intro n a w d pos after g hr
  have he := (evsS_sound hσ hx).eval hr
  have h1 := minS_sound (P := P) (σ := σ) (w := w) h
  have hxs : (xs.map a.eval).toList = toV σ u :: toVs σ l := by rw [Array.toList_map, he]; rfl
  simp only [execOp, resolve, invoke, builtin, pure_bind, Builtin.min_, hxs, Sem.run_bind, h1, Result.andThen_ok, Sem.run_pure]
theorem p_maxS (hσ : VOk G σ) {xs : Array Operand} {ats : Array TypeId} {u v : SV} {l : List SV} (hx : evsS G fr xs.toList = some (u :: l)) (h : maxS u l = some v) : Pure P (.call ⟨.builtin .max, xs, ats⟩) ty (frV σ fr) (toV σ v) := by
  intro n a w d pos after g hr
  have he := (evsS_sound hσ hx).eval hr
  have h1 := maxS_sound (P := P) (σ := σ) (w := w) h
  have hxs : (xs.map a.eval).toList = toV σ u :: toVs σ l := by rw [Array.toList_map, he]; rfl
  simp only [execOp, resolve, invoke, builtin, pure_bind, Builtin.max_, hxs, Sem.run_bind, h1, Result.andThen_ok, Sem.run_pure]

theorem p_makeFuncS (hσ : VOk G σ) {f : FuncId} {first xs : Array Operand} {vs : List SV} (h0 : first.size = 0) (hx : evsS G fr xs.toList = some vs) : Pure P (.makeFunc (.func f) first xs) ty (frV σ fr) (toV σ (.func f vs)) := by
  intro n a w d pos after g hr
  have he := (evsS_sound hσ hx).eval hr
  have h1 : xs.map a.eval = (toVs σ vs).toArray := by apply Array.ext'; rw [Array.toList_map, he]
  have h2 : first = #[] := by simpa using h0
  subst h2
  simp only [execOp, h1]
  simp [Instr.makeFunc, toV]

theorem pureOp_sound {eqs : TypeId → SV → SV → Option Bool} (hσ : VOk G σ) (hE : EqsOk P eqs) {op : Op} {v : SV} (h : pureOp P G eqs fr op = some v) : Pure P op ty (frV σ fr) (toV σ v) := by
  unfold pureOp at h
  split at h
  · exact p_move (evS_sound hσ h)
  · exact p_assign (evS_sound hσ h)
  · split at h
    · rename_i hc; exact p_pick_t (evS_sound hσ hc) (evS_sound hσ h)
    · rename_i hc; exact p_pick_f (evS_sound hσ hc) (evS_sound hσ h)
    · cases h
  · split at h
    · rename_i a hx; obtain ⟨b, o⟩ := a; cases h; exact p_nil_ptr (evS_sound hσ hx)
    · rename_i hx; cases h; exact p_nil_func (evS_sound hσ hx)
    · cases h
  · split at h
    · rename_i s x i _ b o hx
      split at h
      · rename_i off ft hf
        cases h
        haveI : FL P s i off ft := FL.of hf
        exact p_fieldAddr (evS_sound hσ hx)
      · cases h
    · cases h
  · split at h
    · rename_i b o k i len e hx hi ht
      split at h
      · rename_i info hinfo
        split at h
        · rename_i hc
          cases h
          haveI : UT P _ (.array len e) := ⟨ht⟩
          haveI : SZ P e info.size info.bytes := ⟨info, hinfo, rfl, rfl⟩
          exact p_indexAddr_arr (evS_sound hσ hx) (evS_sound hσ hi) hc.1 hc.2
        · cases h
      · cases h
    · cases h
  · split at h
    · rename_i s k i hx hi ht
      split at h
      · rename_i h0
        simp only [Option.map_eq_some_iff] at h
        obtain ⟨c, hc, rfl⟩ := h
        haveI : UT P _ .string := ⟨ht⟩
        exact p_index_str (evS_sound hσ hx) (evS_sound hσ hi) h0 hc
      · cases h
    · cases h
  · split at h
    · rename_i l hx
      exact p_extract (evS_sound hσ hx) (by simpa using toVs_get (σ := σ) h)
    · cases h
  · split at h
    · rename_i k i D k' hx hs ht
      cases h
      haveI : UT P _ D := ⟨hs⟩
      haveI : UT P _ (.int k') := ⟨ht⟩
      exact p_conv (evS_sound hσ hx) rfl
    · cases h
  · split at h
    · rename_i h0
      simp only [Option.map_eq_some_iff] at h
      obtain ⟨vs, hvs, rfl⟩ := h
      exact p_makeFuncS hσ h0 hvs
    · cases h
  · exact pBin_sound hE (fun u hu => evS_sound hσ hu) (fun u hu => evS_sound hσ hu) h
  · split at h
    · rename_i c hx; cases h; exact p_not (evS_sound hσ hx)
    · cases h
  · split at h
    · rename_i t xs _ _ _ z opl ps hz hb hp
      split at h
      · rename_i zs pl hzs hpl
        split at h
        · rename_i hok
          cases h
          haveI : ZV P t (toV σ z) := zeroS_sound hz
          haveI : BL P t pl := BL.of (by rw [hb, allSome_sound hpl])
          have hE' := partsS_sound hσ hp
          have hcz := cellsS_sound hσ hzs
          obtain ⟨ol⟩ := xs
          refine p_build (z := toV σ z) (zs := toVs σ zs) (pl := pl) hcz.out hE' ?_ ?_
          · rw [toVs_length]
            rw [← hok]
            congr 1
            simp [List.zip_map', toVs_length]
          · rw [toVs_lay]
            congr 1
            simp [List.zip_map']
        · cases h
      · cases h
    · cases h
  · split at h
    · rename_i u l hx; exact p_minS hσ hx h
    · cases h
  · split at h
    · rename_i u l hx; exact p_maxS hσ hx h
    · cases h
  · split at h
    · rename_i xs ats _ _ x a hxs hats
      split at h
      · rename_i e hx ha
        cases h
        haveI : UT P a (.slice e) := ⟨ha⟩
        obtain ⟨xl⟩ := xs
        obtain ⟨al⟩ := ats
        simp only at hxs hats
        subst hxs hats
        exact p_len_slice (ad := none) (len := 0) (cap := 0) (evS_sound hσ hx)
      · cases h
    · cases h
  · cases h
end
end Go.Proofs.YtaibgfnfmkpibaaGreatDoor.SL
