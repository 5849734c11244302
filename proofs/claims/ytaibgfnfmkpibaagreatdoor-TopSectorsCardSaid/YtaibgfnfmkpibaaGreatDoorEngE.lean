/- Slices as lists: one's own, that may grow, and such as may only be read; and what may be done with them. No program in sight. -/
import Derived.Test.YtaibgfnfmkpibaaGreatDoorEngS
import Derived.Laws.Append
import Derived.Laws.MakeOwn
import Derived.Laws.BytesArg
namespace Go.Proofs.YtaibgfnfmkpibaaGreatDoor.SL
open Go

/-- A value of one cell. -/
class One (v : Value) : Prop where
  out : v.oneCell' = true
instance {b : Bool} : One (.bool b) := ⟨rfl⟩
instance {k : IntKind} {i : Int} : One (.int k i) := ⟨rfl⟩
instance {s : ByteArray} : One (.string s) := ⟨rfl⟩
instance {a : Option Addr} : One (.pointer a) := ⟨rfl⟩
instance {a : Option Addr} {n c : Nat} : One (.slice a n c) := ⟨rfl⟩
instance {r : Option Nat} : One (.map r) := ⟨rfl⟩
instance {f : Go.Fn} {x y : Array Value} : One (.func f x y) := ⟨rfl⟩
instance : One .nilFunc := ⟨rfl⟩
instance {t : TypeId} {v : Value} : One (.iface t v) := ⟨rfl⟩
instance : One .nilIface := ⟨rfl⟩
instance {c : UInt8} : One (u8 c) := ⟨rfl⟩

/-- A value's cells. -/
class Cel (v : Value) (us : outParam (List Value)) : Prop where
  out : v.cells = us.toArray
  one : ∀ u ∈ us, Value.oneCell' u = true
theorem Cel.of_one {v : Value} (h : v.oneCell' = true) : Cel v [v] := ⟨by rw [oneCell_cells h], by simpa using h⟩
instance {b : Bool} : Cel (.bool b) [.bool b] := .of_one rfl
instance {k : IntKind} {i : Int} : Cel (.int k i) [.int k i] := .of_one rfl
instance {s : ByteArray} : Cel (.string s) [.string s] := .of_one rfl
instance {a : Option Addr} : Cel (.pointer a) [.pointer a] := .of_one rfl
instance {a : Option Addr} {n c : Nat} : Cel (.slice a n c) [.slice a n c] := .of_one rfl
instance {r : Option Nat} : Cel (.map r) [.map r] := .of_one rfl
instance {f : Go.Fn} {x y : Array Value} : Cel (.func f x y) [.func f x y] := .of_one rfl
instance : Cel .nilFunc [.nilFunc] := .of_one rfl
instance {c : UInt8} : Cel (u8 c) [u8 c] := .of_one rfl
theorem Cel.agg {us : List Value} (h : ∀ u ∈ us, Value.oneCell' u = true) : Cel (.agg us.toArray) us := ⟨rfl, h⟩

/-- A pointer to a slice's cell. -/
def elp (v : Value) (k : Nat) : Value := match v with
  | .slice (some a) _ _ => .pointer (some (a.add k))
  | _ => .pointer none
/-- A string. -/
def st (l : List UInt8) : Value := .string ⟨l.toArray⟩
instance {l : List UInt8} : One (st l) := ⟨rfl⟩
instance {l : List UInt8} : Cel (st l) [st l] := .of_one rfl

/-- One's own slice of so many elements: these cells; it may be written, and grow. -/
def own (T : TypeId) (sz : Nat) (v : Value) (n : Nat) (xs : List Value) : HProp := fun H =>
  xs.length = n * sz ∧ (∀ x ∈ xs, Value.oneCell' x = true) ∧
  ((v = .slice none 0 0 ∧ n = 0 ∧ H = []) ∨
   ∃ (b o cap : Nat) (vs : List Value) (fz : Nat × Nat), v = .slice (some ⟨b, o, none⟩) n cap ∧ H = [(b, .cells vs.toArray T fz)] ∧ (∀ i, i < vs.length → ¬ (fz.1 ≤ i ∧ i < fz.2)) ∧ n ≤ cap ∧ o + cap * sz ≤ vs.length ∧ (vs.drop o).take (n * sz) = xs)

/-- A slice that may be read. -/
def rsl (sz : Nat) (v : Value) (n : Nat) (xs : List Value) : HProp := fun H =>
  xs.length = n * sz ∧ (∀ x ∈ xs, Value.oneCell' x = true) ∧
  ((∃ cap, v = .slice none n cap ∧ n = 0 ∧ H = []) ∨
   ∃ (b o cap : Nat) (T : TypeId) (vs : List Value) (fz : Nat × Nat), v = .slice (some ⟨b, o, none⟩) n cap ∧ H = [(b, .cells vs.toArray T fz)] ∧ (vs.drop o).take (n * sz) = xs)

/-- A piece lets one read a slice: so many elements, these cells. -/
class Rs (C : HProp) (sz : outParam Nat) (v : outParam Value) (n : outParam Nat) (xs : outParam (List Value)) : Prop where
  len : ∀ H, C H → xs.length = n * sz
  one : ∀ H, C H → ∀ x ∈ xs, Value.oneCell' x = true
  out : ∀ H, C H → (∃ (a : Option (Nat × Nat)) (cap : Nat), v = .slice (a.map fun p => ⟨p.1, p.2, none⟩) n cap ∧ n = 0 ∧ xs = []) ∨
    ∃ (b o cap : Nat) (T : TypeId) (vs : List Value) (fz : Nat × Nat), v = .slice (some ⟨b, o, none⟩) n cap ∧ H = [(b, .cells vs.toArray T fz)] ∧ (vs.drop o).take xs.length = xs

theorem nil_of_len {xs : List Value} {n sz : Nat} (h : xs.length = n * sz) (hn : n = 0) : xs = [] := by
  subst hn; simpa using h

instance {T : TypeId} {sz : Nat} {v : Value} {n : Nat} {xs : List Value} : Rs (own T sz v n xs) sz v n xs where
  len H h := h.1
  one H h := h.2.1
  out H h := by
    obtain ⟨h1, _, ⟨hv, hn, _⟩ | ⟨b, o, cap, vs, fz, hv, hH, _, _, _, ht⟩⟩ := h
    · exact .inl ⟨none, 0, by rw [hv, hn]; rfl, hn, nil_of_len h1 hn⟩
    · exact .inr ⟨b, o, cap, T, vs, fz, hv, hH, by rw [h1]; exact ht⟩
instance {sz : Nat} {v : Value} {n : Nat} {xs : List Value} : Rs (rsl sz v n xs) sz v n xs where
  len H h := h.1
  one H h := h.2.1
  out H h := by
    obtain ⟨h1, _, ⟨cap, hv, hn, _⟩ | ⟨b, o, cap, T, vs, fz, hv, hH, ht⟩⟩ := h
    · exact .inl ⟨none, cap, hv, hn, nil_of_len h1 hn⟩
    · exact .inr ⟨b, o, cap, T, vs, fz, hv, hH, by rw [h1]; exact ht⟩

section
variable {P : Program} {fr : Fr} {L R : List HProp} {ty t : TypeId} {F : Base} {w : World} {C : HProp} {sz n : Nat} {v : Value} {xs : List Value}

theorem holds_rs [u : Rs C sz v n xs] (h : Holds (C :: L) F w) : xs.length = n * sz ∧ (∀ x ∈ xs, Value.oneCell' x = true) ∧ ((∃ (a : Option (Nat × Nat)) (cap : Nat), v = .slice (a.map fun p => ⟨p.1, p.2, none⟩) n cap ∧ n = 0 ∧ xs = []) ∨
    ∃ (b o cap : Nat) (T : TypeId) (vs : List Value) (fz : Nat × Nat), v = .slice (some ⟨b, o, none⟩) n cap ∧ w.heap[b]? = some (.cells vs.toArray T fz) ∧ (vs.drop o).take xs.length = xs) := by
  obtain ⟨H1, H2, h1, h2, hs⟩ := holds_cons.1 h
  refine ⟨u.len H1 h1, u.one H1 h1, ?_⟩
  rcases u.out H1 h1 with hn | ⟨b, o, cap, T, vs, fz, hv, hH, ht⟩
  · exact .inl hn
  · exact .inr ⟨b, o, cap, T, vs, fz, hv, hs.has b _ (by rw [hH]; simp), ht⟩

theorem take_get {vs xs : List Value} {o k : Nat} {u : Value} (ht : (vs.drop o).take xs.length = xs) (hk : xs[k]? = some u) : vs[o + k]? = some u := by
  have hlt := (List.getElem?_eq_some_iff.1 hk).1
  rw [← ht, List.getElem?_take_of_lt hlt, List.getElem?_drop] at hk
  exact hk

theorem q_len_s [Rs C sz v n xs] {x : Operand} {e ats : TypeId} [UT P ats (.slice e)] (hx : ev fr x = some v) (he : Ent L (C :: R)) : Quiet P (.call ⟨.builtin .len, #[x], #[ats]⟩) ty fr L (.int .i64 n) := by
  intro n' F a w d pos after g hr hh
  obtain ⟨_, _, ⟨a0, cap, hv, _⟩ | ⟨b, o, cap, T, vs, fz, hv, _⟩⟩ := holds_rs (he F w hh)
  · subst hv; exact p_len_slice hx n' a w d pos after g hr
  · exact p_len_slice (ad := some ⟨b, o, none⟩) (cap := cap) (hv ▸ hx) n' a w d pos after g hr

theorem q_index_s [Rs C sz v n xs] {x ix : Operand} {by' : Nat} {e : TypeId} {k : IntKind} {i : Int} [UT P t (.slice e)] [SZ P e sz by'] (hx : ev fr x = some v)
    (hi : ev fr ix = some (.int k i)) (he : Ent L (C :: R)) (h0 : 0 ≤ i) (h1 : i < n) : Quiet P (.indexAddr t x ix) ty fr L (elp v (i.toNat * sz)) := by
  intro n' F a w d pos after g hr hh
  obtain ⟨_, _, ⟨a0, cap, hv, hn, _⟩ | ⟨b, o, cap, T, vs, fz, hv, _⟩⟩ := holds_rs (he F w hh)
  · subst hn; omega
  · subst hv
    have := p_indexAddr (P := P) (ty := ty) (t := t) (e := e) (sz := sz) (by' := by') (b := b) (o := o) (cap := cap) hx hi h0 h1 n' a w d pos after g hr
    rw [this]
    simp [elp, addr_add]

theorem q_load_s [Rs C sz v n xs] {x : Operand} {k : Nat} {u : Value} [SC P t] (hx : ev fr x = some (elp v k)) (he : Ent L (C :: R)) (hu : xs[k]? = some u) : Quiet P (.load t x) ty fr L u := by
  intro n' F a w d pos after g hr hh
  obtain ⟨hl, _, ⟨a0, cap, hv, hn, hx0⟩ | ⟨b, o, cap, T, vs, fz, hv, hb, ht⟩⟩ := holds_rs (he F w hh)
  · rw [hx0] at hu; cases hu
  · subst hv
    simp only [execOp, hr.ev hx, elp, addr_add, Instr.loadAt, Instr.sureAddr, loadVar, pure_bind, Sem.run_bind, run_isAgg_sc, Result.andThen_ok, Bool.false_eq_true, if_false]
    rw [run_load_cell ((cell_of hb (o + k)).trans (take_get ht hu))]
    rfl

theorem q_load_ag_s [Rs C sz v n xs] {x : Operand} {k m : Nat} {us : List Value} [AG P t m] (hx : ev fr x = some (elp v k)) (he : Ent L (C :: R)) (hu : (xs.drop k).take m = us) (hm : us.length = m) (h0 : (m == 0) = false) :
    Quiet P (.load t x) ty fr L (.agg us.toArray) := by
  intro n' F a w d pos after g hr hh
  have h0' : m ≠ 0 := by simpa using h0
  obtain ⟨hl, _, ⟨a0, cap, hv, hn, hx0⟩ | ⟨b, o, cap, T, vs, fz, hv, hb, ht⟩⟩ := holds_rs (he F w hh)
  · rw [hx0] at hu; simp at hu; subst hu; simp at hm; exact absurd hm.symm h0'
  · subst hv
    simp only [execOp, hr.ev hx, elp, addr_add, Instr.loadAt, Instr.sureAddr, loadVar, pure_bind, Sem.run_bind, run_isAgg_ag, run_size_ag, Result.andThen_ok, if_true]
    have h1 : (loadCells ⟨b, o + k, none⟩ m).run P w = .ok us.toArray w := by
      have := run_loadCells_list (P := P) (w := w) ⟨b, o + k, none⟩ us (by
        intro j x hj
        rw [addr_add, cell_of hb]
        have hlt : j < us.length := (List.getElem?_eq_some_iff.1 hj).1
        rw [← hu, List.getElem?_take_of_lt (by omega), List.getElem?_drop] at hj
        have := take_get ht hj
        rw [← this]; congr 1; omega)
      rwa [hm] at this
    rw [h1]
    rfl

theorem q_nil_s [Rs C sz v n xs] {x : Operand} {k : Nat} (hx : ev fr x = some (elp v k)) (he : Ent L (C :: R)) (hk : k < xs.length) : Quiet P (.nilCheck x) ty fr L (elp v k) := by
  intro n' F a w d pos after g hr hh
  obtain ⟨hl, _, ⟨a0, cap, hv, hn, hx0⟩ | ⟨b, o, cap, T, vs, fz, hv, hb, ht⟩⟩ := holds_rs (he F w hh)
  · rw [hx0] at hk; cases hk
  · subst hv
    exact p_nil_ptr (ad := (⟨b, o, none⟩ : Addr).add k) hx n' a w d pos after g hr

theorem q_field_s [Rs C sz v n xs] {s : TypeId} {x : Operand} {i k off : Nat} {ft : TypeId} [FL P s i off ft] (hx : ev fr x = some (elp v k)) (he : Ent L (C :: R)) (hk : k < xs.length) :
    Quiet P (.fieldAddr s x i) ty fr L (elp v (k + off)) := by
  intro n' F a w d pos after g hr hh
  obtain ⟨hl, _, ⟨a0, cap, hv, hn, hx0⟩ | ⟨b, o, cap, T, vs, fz, hv, hb, ht⟩⟩ := holds_rs (he F w hh)
  · rw [hx0] at hk; cases hk
  · subst hv
    have hx' : ev fr x = some (.pointer (some ⟨b, o + k, none⟩)) := by rw [hx]; simp [elp, addr_add]
    have := p_fieldAddr (P := P) (s := s) (i := i) (ty := ty) hx' n' a w d pos after g hr
    rw [this]
    simp [elp, addr_add, Nat.add_assoc]

/-! ### One's own -/
theorem holds_own {T : TypeId} (h : Holds (own T sz v n xs :: L) F w) : xs.length = n * sz ∧ (∀ x ∈ xs, Value.oneCell' x = true) ∧ ((v = .slice none 0 0 ∧ n = 0 ∧ xs = [] ∧ Holds L F w) ∨
    ∃ (b o cap : Nat) (vs : List Value), v = .slice (some ⟨b, o, none⟩) n cap ∧ n ≤ cap ∧ o + cap * sz ≤ vs.length ∧ (vs.drop o).take (n * sz) = xs ∧ Holds (blk b T vs :: L) F w) := by
  obtain ⟨H1, H2, ⟨h1, ho, hc⟩, h2, hs⟩ := holds_cons.1 h
  refine ⟨h1, ho, ?_⟩
  rcases hc with ⟨hv, hn, rfl⟩ | ⟨b, o, cap, vs, fz, hv, hH, hf, hnc, hcap, ht⟩
  · exact .inl ⟨hv, hn, nil_of_len h1 hn, H2, h2, hs⟩
  · exact .inr ⟨b, o, cap, vs, hv, hnc, hcap, ht, holds_cons.2 ⟨H1, H2, ⟨fz, hf, hH⟩, h2, hs⟩⟩

theorem own_holds {T : TypeId} {b o cap : Nat} {vs : List Value} (hl : xs.length = n * sz) (ho : ∀ x ∈ xs, Value.oneCell' x = true) (hnc : n ≤ cap) (hcap : o + cap * sz ≤ vs.length) (ht : (vs.drop o).take (n * sz) = xs)
    (h : Holds (blk b T vs :: L) F w) : Holds (own T sz (.slice (some ⟨b, o, none⟩) n cap) n xs :: L) F w := by
  obtain ⟨H1, H2, ⟨fz, hf, hH⟩, h2, hs⟩ := holds_cons.1 h
  exact holds_cons.2 ⟨H1, H2, ⟨hl, ho, .inr ⟨b, o, cap, vs, fz, rfl, hH, hf, hnc, hcap, ht⟩⟩, h2, hs⟩

/-- Nothing is a slice of one's own. -/
theorem Ent.nilOwn {T : TypeId} : Ent L (own T sz (.slice none 0 0) 0 [] :: L) := by
  rintro F w ⟨H, hA, hs⟩
  exact holds_cons.2 ⟨[], H, ⟨by simp, by simp, .inl ⟨rfl, rfl, rfl⟩⟩, hA, hs⟩

/-- A slice of one's own may be read. -/
theorem Ent.ownRsl {T : TypeId} : Ent (own T sz v n xs :: L) (rsl sz v n xs :: L) := by
  intro F w h
  obtain ⟨H1, H2, ⟨h1, ho, hc⟩, h2, hs⟩ := holds_cons.1 h
  refine holds_cons.2 ⟨H1, H2, ⟨h1, ho, ?_⟩, h2, hs⟩
  rcases hc with ⟨hv, hn, rfl⟩ | ⟨b, o, cap, vs, fz, hv, hH, hf, hnc, hcap, ht⟩
  · exact .inl ⟨0, by rw [hv, hn], hn, rfl⟩
  · exact .inr ⟨b, o, cap, T, vs, fz, hv, hH, ht⟩

theorem Ent.ownFacts {T : TypeId} : Ent (own T sz v n xs :: L) (pur (xs.length = n * sz ∧ ∀ x ∈ xs, Value.oneCell' x = true) :: own T sz v n xs :: L) := by
  intro F w h
  exact holds_pur.2 ⟨⟨(holds_own h).1, (holds_own h).2.1⟩, h⟩

theorem s_store_s {T : TypeId} {x y : Operand} {k : Nat} {u : Value} [SC P t] [One u] (hx : ev fr x = some (elp v k)) (hy : ev fr y = some u) (he : Ent L (own T sz v n xs :: R)) (hk : k < xs.length)
    {xs' : List Value} (hxs : xs.set k u = xs') : Step P (.store t x y) ty fr L (fun _ : Unit => undef) (fun _ => own T sz v n xs' :: R) := by
  intro n' F a w d pos after g K Q hr hh hkk
  have h1 : Value.oneCell' u = true := One.out
  obtain ⟨hl, hone, ⟨_, _, hx0, _⟩ | ⟨b, o, cap, vs, rfl, hnc, hcap, ht, hb⟩⟩ := holds_own (he F w hh)
  · rw [hx0] at hk; cases hk
  · have hx' : ev fr x = some (.pointer (some ⟨b, o + k, none⟩)) := by rw [hx]; simp [elp, addr_add]
    have hlen : xs.length ≤ vs.length - o := by rw [← ht]; simp; omega
    refine s_store (P := P) (L := blk b T vs :: R) (ty := ty) hx' hy h1 (.refl _) (by omega) rfl n' F a w d pos after g K Q hr hb fun _ w' hw' => hkk () w' ?_
    subst hxs
    refine own_holds (by simpa using hl) ?_ hnc (by simpa using hcap) ?_ hw'
    · intro z hz
      rcases List.mem_or_eq_of_mem_set hz with hz | rfl
      · exact hone z hz
      · exact h1
    · rw [← ht, ← List.set_drop, List.take_set]

theorem s_makeSlice {x y : Operand} {k k' : IntKind} {i : Int} {e : TypeId} {by' : Nat} {z : Value} {zs : List Value} [UT P t (.slice e)] [SZ P e sz by'] [ZV P e z] [Cel z zs] (hx : ev fr x = some (.int k i)) (hy : ev fr y = some (.int k' i)) (h0 : 0 ≤ i)
    (hb : (by' : Int) * i ≤ 281474976710656) (h63 : i ≤ 9223372036854775807) (hsz : zs.length = sz) :
    Step P (.makeSlice t x y) ty fr L (fun v : Value => v) (fun v => own e sz v i.toNat (List.replicate i.toNat zs).flatten :: L) := by
  intro n' F a w d pos after g K Q hr hh hkk
  obtain ⟨ii, hi, h1, h2⟩ := (SZ.out : ∃ i, P.info? e = some i ∧ i.size = sz ∧ i.bytes = by')
  obtain ⟨ii2, hi2, hz⟩ := (ZV.out : ∃ i, P.info? e = some i ∧ i.zero = some z)
  rw [hi] at hi2; cases hi2
  have hrun := run_make (P := P) w t e ii z UT.out hi hz k k' i i h0 (Int.le_refl _) (by rw [h2]; exact hb) h63
  have hcz : z.cells = zs.toArray := Cel.out
  have hmade : madeCells z.cells (i.toNat * ii.size) = ((List.replicate i.toNat zs).flatten).toArray := by
    rw [h1, hcz]
    apply Array.ext
    · simp [madeCells, hsz, Nat.mul_comm]
    · intro j hj1 hj2
      simp only [madeCells, Array.getElem_map, Array.getElem_range, List.size_toArray]
      have hj : j < i.toNat * sz := by simpa [madeCells] using hj1
      have hpos : 0 < zs.length := by
        rcases Nat.eq_zero_or_pos zs.length with h0 | h0
        · rw [← hsz, h0] at hj; omega
        · exact h0
      have hlt : j % zs.length < zs.length := Nat.mod_lt _ hpos
      rw [getElem!_pos zs.toArray (j % zs.length) (by simpa using hlt)]
      simp only [List.getElem_toArray]
      have key : ∀ (m j : Nat) (h : j < ((List.replicate m zs).flatten).length), zs[j % zs.length]'(Nat.mod_lt _ hpos) = ((List.replicate m zs).flatten)[j] := by
        intro m
        induction m with
        | zero => intro j h; simp at h
        | succ m ih =>
          intro j h
          simp only [List.replicate_succ, List.flatten_cons]
          by_cases hc : j < zs.length
          · rw [List.getElem_append_left hc]
            congr 1
            exact Nat.mod_eq_of_lt hc
          · rw [List.getElem_append_right (by omega)]
            have := ih (j - zs.length) (by simp [List.replicate_succ] at h ⊢; omega)
            rw [← this]
            congr 1
            rw [Nat.mod_eq_sub_mod (by omega)]
      exact key _ _ (by simpa using hj2)
  rw [hmade] at hrun
  refine wpIn_value (w' := w.alloc (.cells ((List.replicate i.toNat zs).flatten).toArray e)) (v := .slice (some ⟨w.heap.size, 0, none⟩) i.toNat i.toNat) ?_ (hkk _ _ ?_)
  · simp only [execOp, hr.ev hx, hr.ev hy, Sem.run_bind, hrun, Result.andThen_ok, Sem.run_pure]
  · refine own_holds (by simp [hsz]) ?_ (Nat.le_refl _) (by simp [hsz]) ?_ (holds_allocB hh)
    · intro u hu
      rw [List.mem_flatten] at hu
      obtain ⟨l, hl, hu⟩ := hu
      rw [(List.mem_replicate.1 hl).2] at hu
      exact Cel.one (v := z) u hu
    · have : (List.replicate i.toNat zs).flatten.length = i.toNat * sz := by simp [hsz]
      rw [List.drop_zero, ← this, List.take_length]
end
end Go.Proofs.YtaibgfnfmkpibaaGreatDoor.SL
