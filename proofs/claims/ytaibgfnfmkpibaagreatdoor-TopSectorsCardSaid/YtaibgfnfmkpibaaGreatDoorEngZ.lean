/- More rules: lists of one kind, cuts of strings, comparisons. No program in sight. -/
import Derived.Test.YtaibgfnfmkpibaaGreatDoorEngY
namespace Go.Proofs.YtaibgfnfmkpibaaGreatDoor.SL
open Go

theorem getD_set {α : Type} (l : List α) (i j : Nat) (a d : α) (hi : i < l.length) : (l.set i a).getD j d = if j = i then a else l.getD j d := by
  by_cases e : j = i
  · subst e; simp [List.getD_eq_getElem?_getD, hi]
  · simp [List.getD_eq_getElem?_getD, List.getElem?_set_ne (Ne.symm e), e]
/-- A value is a plain one's. -/
class IsF {α : outParam Type} (f : outParam (α → Value)) (u : Value) (c : outParam α) : Prop where
  out : u = f c
abbrev iv (i : Int) : Value := .int .i64 i
instance {i : Int} : IsF (Value.int .i64) (.int .i64 i) i := ⟨rfl⟩
instance {i : Int} : IsF (Value.int .u32) (.int .u32 i) i := ⟨rfl⟩
instance {i : Int} : IsF (Value.int .u64) (.int .u64 i) i := ⟨rfl⟩
instance {b : Bool} : IsF Value.bool (.bool b) b := ⟨rfl⟩
instance {l : List UInt8} : IsF st (st l) l := ⟨rfl⟩
instance : IsF st (.string .empty) [] := ⟨rfl⟩
instance {c : UInt8} : IsF u8 (u8 c) c := ⟨rfl⟩
theorem u8_is {c d : UInt8} (h : (c.toNat : Int) = (d.toNat : Int)) : c = d := UInt8.toNat_inj.1 (by omega)
def b8 (x : Int) : UInt8 := UInt8.ofNat (x % 256).toNat
theorem b8_wrap (x : Int) : Value.int .u8 (IntKind.wrap .u8 x) = u8 (b8 x) := by
  have h0 : 0 ≤ x % 256 ∧ x % 256 < 256 := by omega
  have h1 : IntKind.wrap .u8 x = x % 256 := by simp [IntKind.wrap, IntKind.bits, IntKind.signed]
  simp only [u8, b8, h1]
  congr 1
  have : (UInt8.ofNat (x % 256).toNat).toNat = (x % 256).toNat := by simp; omega
  rw [this]; omega
instance {x : Int} : IsF u8 (.int .u8 (IntKind.wrap .u8 x)) (b8 x) := ⟨b8_wrap x⟩
instance {c : UInt8} : IsF u8 (.int .u8 (c.toNat : Int)) c := ⟨rfl⟩
instance : IsF u8 (.int .u8 0) 0 := ⟨rfl⟩
instance : IsF u8 (.int .u8 1) 1 := ⟨rfl⟩
instance : IsF u8 (.int .u8 2) 2 := ⟨rfl⟩
instance : IsF u8 (.int .u8 3) 3 := ⟨rfl⟩
instance : IsF u8 (.int .u8 255) 255 := ⟨rfl⟩

class AllOne (us : List Value) : Prop where
  out : ∀ u ∈ us, Value.oneCell' u = true
instance : AllOne [] := ⟨by simp⟩
instance {a : Value} {l : List Value} [h : One a] [h' : AllOne l] : AllOne (a :: l) := ⟨fun u hu => by
  rcases List.mem_cons.1 hu with rfl | hu
  · exact h.out
  · exact h'.out u hu⟩
instance {α : Type} {f : α → Value} {l : List α} [h : ∀ c, One (f c)] : AllOne (l.map f) := ⟨fun u hu => by
  obtain ⟨c, _, rfl⟩ := List.mem_map.1 hu
  exact (h c).out⟩
instance {n : Nat} {z : Value} [h : One z] : AllOne (List.replicate n z) := ⟨fun u hu => by rw [(List.mem_replicate.1 hu).2]; exact h.out⟩
instance {us : List Value} [h : AllOne us] : Cel (.agg us.toArray) us := Cel.agg h.out
instance (priority := 300) cel_one {v : Value} [h : One v] : Cel v [v] := Cel.of_one h.out
/-- A list of values of one kind. -/
class Nrm {α : outParam Type} (xs : List Value) (f : outParam (α → Value)) (l : outParam (List α)) : Prop where
  out : xs = l.map f
section
variable {α : Type} {f : α → Value} {l m : List α} {xs ys : List Value} {u : Value} {c : α}
instance (priority := 900) nrm_one [h : IsF f u c] : Nrm [u] f [c] := ⟨by rw [h.out]; rfl⟩
instance nrm_map : Nrm (l.map f) f l := ⟨rfl⟩
instance nrm_app [h : Nrm xs f l] [h' : Nrm ys f m] : Nrm (xs ++ ys) f (l ++ m) := ⟨by rw [h.out, h'.out, List.map_append]⟩
instance nrm_set {k : Nat} [h : Nrm xs f l] [h' : IsF f u c] : Nrm (xs.set k u) f (l.set k c) := ⟨by rw [h.out, h'.out, List.map_set]⟩
instance nrm_drop {k : Nat} [h : Nrm xs f l] : Nrm (xs.drop k) f (l.drop k) := ⟨by rw [h.out, List.map_drop]⟩
instance nrm_take {k : Nat} [h : Nrm xs f l] : Nrm (xs.take k) f (l.take k) := ⟨by rw [h.out, List.map_take]⟩
instance nrm_rep {k : Nat} [h : IsF f u c] : Nrm (List.replicate k [u]).flatten f (List.replicate k c) := ⟨by
  rw [h.out]
  induction k with
  | zero => rfl
  | succ k ih => simp only [List.replicate_succ, List.flatten_cons, List.map_cons, ← ih]; rfl⟩
instance nrm_flat1 [h : IsF f u c] : Nrm (List.flatten [[u]]) f [c] := ⟨by rw [h.out]; rfl⟩
instance nrm_cons [h : IsF f u c] [h' : Nrm xs f l] : Nrm (u :: xs) f (c :: l) := ⟨by rw [h.out, h'.out]; rfl⟩
class NrmF {α : outParam Type} (xs : List (List Value)) (f : outParam (α → Value)) (l : outParam (List α)) : Prop where
  out : xs.flatten = l.map f
instance nrmF_one [h : IsF f u c] : NrmF [[u]] f [c] := ⟨by rw [h.out]; rfl⟩
instance nrmF_cons {xss : List (List Value)} [h : IsF f u c] [h' : NrmF xss f l] : NrmF ([u] :: xss) f (c :: l) := ⟨by rw [h.out, List.flatten_cons, h'.out]; rfl⟩
instance nrm_ofF {xss : List (List Value)} [h : NrmF xss f l] : Nrm xss.flatten f l := ⟨h.out⟩
end

section
variable {P : Program} {fr : Fr} {L R : List HProp} {ty t : TypeId} {sz n : Nat} {v : Value} {xs : List Value} {C : HProp}

class Pl (a b : Nat) (c : outParam Nat) : Prop where
  out : a + b = c
instance (priority := 500) {a b : Nat} : Pl a b (a + b) := ⟨rfl⟩
instance {b : Nat} : Pl 0 b b := ⟨Nat.zero_add b⟩
class Cat {α : Type} (l m : List α) (r : outParam (List α)) : Prop where
  out : l ++ m = r
instance (priority := 500) {α : Type} {l m : List α} : Cat l m (l ++ m) := ⟨rfl⟩
instance {α : Type} {m : List α} : Cat [] m m := ⟨rfl⟩
theorem k_index1 {x ix : Operand} {by' : Nat} {e : TypeId} {k : IntKind} {i : Int} [UT P t (.slice e)] [SZ P e 1 by'] [h : PkS v L C 1 n xs R] (hx : ev fr x = some v) (hi : ev fr ix = some (.int k i)) (h0 : 0 ≤ i) (h1 : i < n) :
    Quiet P (.indexAddr t x ix) ty fr L (elp v i.toNat) := by
  have := k_index (P := P) (ty := ty) (t := t) hx hi h0 h1 (h := h)
  rwa [Nat.mul_one] at this
theorem k_loadM {α : Type} [Inhabited α] {f : α → Value} {l : List α} {x : Operand} {k : Nat} [SC P t] [h : PkS v L C 1 n xs R] [hm : Nrm xs f l] (hx : ev fr x = some (elp v k)) (hk : k < l.length) : Quiet P (.load t x) ty fr L (f (l.getD k default)) := by
  refine k_loadS hx ?_ (h := h)
  rw [hm.out, List.getElem?_map, List.getElem?_eq_getElem hk]
  simp [List.getD, hk]
theorem g_storeM {α : Type} {f : α → Value} {l : List α} {c : α} {T : TypeId} {x y : Operand} {k : Nat} {u : Value} [SC P t] [One u] [h : PkO v L T 1 n xs R] [hm : Nrm xs f l] [hu : IsF f u c] (hx : ev fr x = some (elp v k)) (hy : ev fr y = some u) (hk : k < l.length) :
    Step P (.store t x y) ty fr L (fun _ : Unit => undef) (fun _ => own T 1 v n ((l.set k c).map f) :: R) := by
  have := g_storeS (P := P) (t := t) (ty := ty) hx hy (h := h) (by rw [hm.out, List.length_map]; exact hk)
  rwa [hm.out, hu.out, ← List.map_set] at this
theorem g_appendM {α : Type} {f : α → Value} {l l' l'' : List α} {nm : Nat} {e xt : TypeId} {by' : Nat} {x y : Operand} {yv : Value} {m : Nat} {ys : List Value} {z : Value} {zs : List Value} {R' : List HProp} [UT P t (.slice e)] [UT P xt (.slice e)] [SZ P e 1 by'] [ZV P e z] [hc : Cel z zs] (hx : ev fr x = some v) (hy : ev fr y = some yv)
    [h : PkO v L e 1 n xs R] [h' : PkS yv R C 1 m ys R'] [hm : Nrm xs f l] [hm' : Nrm ys f l'] [hpl : Pl n m nm] [hct : Cat l l' l''] (hb : (n + m) * by' ≤ 140737488355328) (hn : n + m ≤ 140737488355328) (hz : zs.length = 1) :
    Step P (.call ⟨.builtin .append, #[x, y], #[t, xt]⟩) ty fr L (fun v' : Value => v') (fun v' => own e 1 v' nm (l''.map f) :: R) := by
  have := g_append (P := P) (t := t) (ty := ty) (xt := xt) hx hy (h := h) (h' := h') hb hn hz
  rwa [hm.out, hm'.out, ← List.map_append, hpl.out, hct.out] at this
class EmptyL (xs : List Value) : Prop where
  out : xs = []
instance : EmptyL [] := ⟨rfl⟩
instance : EmptyL (List.flatten []) := ⟨rfl⟩
theorem g_append0 {e xt : TypeId} {by' : Nat} {x y : Operand} {yv : Value} {m : Nat} {ys : List Value} {z : Value} {zs : List Value} {R' : List HProp} [UT P t (.slice e)] [UT P xt (.slice e)] [SZ P e sz by'] [ZV P e z] [hc : Cel z zs] (hx : ev fr x = some v) (hy : ev fr y = some yv)
    [h : PkO v L e sz 0 xs R] [h0 : EmptyL xs] [h' : PkS yv R C sz m ys R'] (hb : m * by' ≤ 140737488355328) (hn : m ≤ 140737488355328) (hz : zs.length = sz) :
    Step P (.call ⟨.builtin .append, #[x, y], #[t, xt]⟩) ty fr L (fun v' : Value => v') (fun v' => own e sz v' m ys :: R) := by
  have := g_append (P := P) (t := t) (ty := ty) (xt := xt) hx hy (h := h) (h' := h') (by rw [Nat.zero_add]; exact hb) (by omega) hz
  rwa [h0.out, List.nil_append, Nat.zero_add] at this
theorem g_appendNilM {α : Type} {f : α → Value} {l' : List α} {e xt : TypeId} {by' : Nat} {x y : Operand} {yv : Value} {m : Nat} {ys : List Value} {z : Value} {zs : List Value} [UT P t (.slice e)] [UT P xt (.slice e)] [SZ P e 1 by'] [ZV P e z] [hc : Cel z zs] (hx : ev fr x = some (.slice none 0 0)) (hy : ev fr y = some yv)
    [h' : PkS yv L C 1 m ys R] [hm' : Nrm ys f l'] (hb : m * by' ≤ 140737488355328) (hn : m ≤ 140737488355328) (hz : zs.length = 1) :
    Step P (.call ⟨.builtin .append, #[x, y], #[t, xt]⟩) ty fr L (fun v' : Value => v') (fun v' => own e 1 v' m (l'.map f) :: L) := by
  have := g_appendNil (P := P) (t := t) (ty := ty) (xt := xt) hx hy (h' := h') hb hn hz
  rwa [hm'.out] at this
theorem g_makeSliceM {α : Type} {f : α → Value} {c : α} {x y : Operand} {k k' : IntKind} {i : Int} {e : TypeId} {by' : Nat} {z : Value} [UT P t (.slice e)] [SZ P e 1 by'] [ZV P e z] [hc : Cel z [z]] [hf : IsF f z c] (hx : ev fr x = some (.int k i)) (hy : ev fr y = some (.int k' i)) (h0 : 0 ≤ i)
    (hb : (by' : Int) * i ≤ 281474976710656) (h63 : i ≤ 9223372036854775807) :
    Step P (.makeSlice t x y) ty fr L (fun v : Value => v) (fun v => own e 1 v i.toNat ((List.replicate i.toNat c).map f) :: L) := by
  have := g_makeSlice (P := P) (t := t) (ty := ty) (L := L) hx hy h0 hb h63 (zs := [z]) rfl
  rwa [(nrm_rep (f := f) (u := z) (c := c)).out] at this
theorem g_buildSlice {e : TypeId} {sz by' len : Nat} {z : Value} {zs : List Value} {xs : List (Nat × Operand)} {vs : List (Nat × Value)} {uss : List (List Value)} [UT P t (.slice e)] [SZ P e sz by'] [ZV P e z] [hz : Cel z zs] (hzs : zs.length = sz) (hx : Evc fr xs vs uss)
    (hid : vs.map (·.1) = List.range len) (hs : (uss.map (·.length)) = List.replicate len sz) (hlim : (decide (len * sz ≤ 16777216)) = true) :
    Step P (.buildSlice t len xs.toArray) ty fr L (fun v : Value => v) (fun v => own e sz v len uss.flatten :: L) := s_buildSlice hz.out hzs hx hid hs hlim
theorem g_buildSliceM {α : Type} {f : α → Value} {l : List α} {e : TypeId} {by' len : Nat} {z : Value} {zs : List Value} {xs : List (Nat × Operand)} {vs : List (Nat × Value)} {uss : List (List Value)} [UT P t (.slice e)] [SZ P e 1 by'] [ZV P e z] [hz : Cel z zs] (hzs : zs.length = 1) (hx : Evc fr xs vs uss)
    [hm : NrmF uss f l] (hid : vs.map (·.1) = List.range len) (hs : (uss.map (·.length)) = List.replicate len 1) (hlim : (decide (len * 1 ≤ 16777216)) = true) :
    Step P (.buildSlice t len xs.toArray) ty fr L (fun v : Value => v) (fun v => own e 1 v len (l.map f) :: L) := by
  rw [← hm.out]; exact s_buildSlice hz.out hzs hx hid hs hlim
theorem p_buildC {z : Value} {zs : List Value} {pl : List (Nat × Nat)} {xs : List (Nat × Operand)} {vs : List (Nat × Value)} {uss : List (List Value)} [ZV P t z] [BL P t pl] (hz : z.cells = zs.toArray) (hx : Evc fr xs vs uss)
    (hok : layOk pl zs.length ((vs.zip uss).map fun p => (p.1.1, p.2.length)) = true) {us : List Value} (hus : lay pl zs ((vs.zip uss).map fun p => (p.1.1, p.2)) = us) :
    Pure P (.build t xs.toArray) ty fr (.agg us.toArray) := p_build hz hx hok hus
theorem p_pick_b {c x y : Operand} {b : Bool} {u w : Value} (hc : ev fr c = some (.bool b)) (hx : ev fr x = some u) (hy : ev fr y = some w) : Pure P (.pick c x y) ty fr (if b = true then u else w) := by
  cases b
  · exact p_pick_f hc hy
  · exact p_pick_t hc hx
theorem p_makeFn {f : FuncId} {xs : List Operand} {vs : List Value} (hx : xs.mapM (ev fr) = some vs) : Pure P (.makeFunc (.func f) #[] xs.toArray) ty fr (.func (.func f) #[] vs.toArray) := p_makeFunc (by simpa using hx)

theorem g_storeAg' {x y : Operand} {b o m : Nat} {T : TypeId} {vs us : List Value} [AG P t m] [h : PkB b L T vs R] [h1 : AllOne us] (hx : ev fr x = some (.pointer (some ⟨b, o, none⟩))) (hy : ev fr y = some (.agg us.toArray)) (hm : us.length = m)
    (ho : o + m ≤ vs.length) : Step P (.store t x y) ty fr L (fun _ : Unit => undef) (fun _ => blk b T (over vs o us) :: R) := s_store_ag hx hy h1.out h.out hm (by omega)
theorem over_mid {vs us : List Value} {o k m : Nat} (hk : k + us.length ≤ m) (hm : o + m ≤ vs.length) : ((over vs (o + k) us).drop o).take m = over ((vs.drop o).take m) k us := by
  unfold over
  apply List.ext_getElem?
  intro i
  simp only [List.getElem?_take, List.getElem?_drop, List.getElem?_append, List.length_take, List.length_append, List.length_drop]
  by_cases hi : i < m
  · by_cases h1 : i < k
    · simp only [hi, if_true]
      rw [if_pos (by omega), if_pos (by omega), if_pos (by omega), if_pos (by omega), if_pos (by omega)]
      rw [if_pos (by omega)]
    · by_cases h2 : i < k + us.length
      · simp only [hi, if_true]
        rw [if_pos (by omega), if_neg (by omega), if_pos (by omega), if_neg (by omega)]
        congr 1
        omega
      · simp only [hi, if_true]
        rw [if_neg (by omega), if_neg (by omega), if_pos (by omega)]
        congr 1
        omega
  · simp only [hi, if_false]
    symm
    rw [if_neg (by omega), if_neg (by omega)]
theorem g_storeAgS {T : TypeId} {x y : Operand} {k m : Nat} {us : List Value} [AG P t m] [h : PkO v L T sz n xs R] [h1 : AllOne us] (hx : ev fr x = some (elp v k)) (hy : ev fr y = some (.agg us.toArray)) (hm : us.length = m) (hk : k + m ≤ xs.length) (h0 : 0 < xs.length) :
    Step P (.store t x y) ty fr L (fun _ : Unit => undef) (fun _ => own T sz v n (over xs k us) :: R) := by
  intro n' F a w d pos after g K Q hr hh hkk
  obtain ⟨hl, hone, ⟨_, _, hx0, _⟩ | ⟨b, o, cap, vs, rfl, hnc, hcap, ht, hb⟩⟩ := holds_own (h.out F w hh)
  · rw [hx0] at h0; cases h0
  · have hx' : ev fr x = some (.pointer (some ⟨b, o + k, none⟩)) := by rw [hx]; simp [elp, addr_add]
    have hlen : xs.length ≤ vs.length - o := by rw [← ht]; simp; omega
    refine s_store_ag (P := P) (L := blk b T vs :: R) (ty := ty) hx' hy h1.out (.refl _) hm (by omega) n' F a w d pos after g K Q hr hb fun _ w' hw' => hkk () w' ?_
    have ho : o + n * sz ≤ vs.length := by
      have : n * sz ≤ cap * sz := Nat.mul_le_mul_right _ hnc
      omega
    refine own_holds ?_ ?_ hnc ?_ ?_ hw'
    · rw [over_length (by omega)]; exact hl
    · intro z hz
      unfold over at hz
      rcases List.mem_append.1 hz with hz | hz
      · rcases List.mem_append.1 hz with hz | hz
        · exact hone z (List.mem_of_mem_take hz)
        · exact h1.out z hz
      · exact hone z (List.mem_of_mem_drop hz)
    · rw [over_length (by omega)]; exact hcap
    · rw [over_mid (by omega) ho, ht]
theorem g_copySub {T : TypeId} {dT sT e : TypeId} {by' k dn cap m sz' : Nat} {x y : Operand} {yv : Value} {ys : List Value} {esz : Nat} {R' : List HProp} [UT P dT (.slice e)] [SZ P e esz by'] [h : PkO v L T sz n xs R] [h' : PkS yv R C sz' m ys R'] (hx : ev fr x = some (sub v k dn cap)) (hy : ev fr y = some yv)
    (he : esz = sz') (hk : k + dn * esz ≤ xs.length) (h0 : 0 < xs.length) :
    Step P (.call ⟨.builtin .copy, #[x, y], #[dT, sT]⟩) ty fr L (fun _ : Unit => .int .i64 (min m dn : Nat)) (fun _ => own T sz v n (over xs k (ys.take (min m dn * esz))) :: R) := by
  subst he
  have := h'.rs
  exact s_copy_sub hx hy h.out (fun F w hh => srcC_of_rs (C := C) (h'.out F w hh)) hk (by intro e; rw [e] at h0; cases h0)
theorem g_copySubB {T T' : TypeId} {dT sT e : TypeId} {by' k dn cap m b o cap' : Nat} {x y : Operand} {vs : List Value} {esz : Nat} {R' : List HProp} [UT P dT (.slice e)] [SZ P e esz by'] [h : PkO v L T sz n xs R] [h' : PkB b R T' vs R'] [h1 : AllOne vs] (hx : ev fr x = some (sub v k dn cap)) (hy : ev fr y = some (.slice (some ⟨b, o, none⟩) m cap'))
    (ho : o + m * esz ≤ vs.length) (hk : k + dn * esz ≤ xs.length) (h0 : 0 < xs.length) :
    Step P (.call ⟨.builtin .copy, #[x, y], #[dT, sT]⟩) ty fr L (fun _ : Unit => .int .i64 (min m dn : Nat)) (fun _ => own T sz v n (over xs k (((vs.drop o).take (m * esz)).take (min m dn * esz))) :: R) :=
  s_copy_sub hx hy h.out (fun F w hh => srcC_of_blk (by rw [List.length_take, List.length_drop]; omega) (fun y hy => h1.out y (List.mem_of_mem_drop (List.mem_of_mem_take hy))) rfl (h'.out F w hh)) hk (by intro e; rw [e] at h0; cases h0)
theorem over_full {vs us : List Value} (h : us.length = vs.length) : over vs 0 us = us := by unfold over; simp [h]
theorem over_same {vs : List Value} {o m : Nat} (h : o + m ≤ vs.length) : over vs o ((vs.drop o).take m) = vs := by
  unfold over
  rw [List.length_take, List.length_drop, Nat.min_eq_left (by omega), ← List.drop_drop, List.append_assoc, List.take_append_drop, List.take_append_drop]
theorem g_clearSub {T : TypeId} {dT e : TypeId} {by' k dn cap : Nat} {x : Operand} {esz : Nat} {z : Value} {zs : List Value} [UT P dT (.slice e)] [SZ P e esz by'] [ZV P e z] [Cel z zs] [h : PkO v L T sz n xs R] (hx : ev fr x = some (sub v k dn cap))
    (hk : k + dn * esz ≤ xs.length) (h0 : 0 < xs.length) (hzs : zs.length = esz) :
    Step P (.call ⟨.builtin .clear, #[x], #[dT]⟩) ty fr L (fun _ : Unit => .tuple #[]) (fun _ => own T sz v n (over xs k (List.replicate dn zs).flatten) :: R) := s_clear_sub hx h.out hk (by intro e; rw [e] at h0; cases h0) hzs

/-! ### What a slice's value tells of itself -/
class Ln (v : Value) (n : outParam Nat) : Prop where
  out : ∃ a c, v = .slice a n c ∧ (n = 0 ∨ ∃ b o : Nat, a = some ⟨b, o, none⟩)
instance (priority := 500) one_ln {v : Value} {n : Nat} [h : Ln v n] : One v := ⟨by obtain ⟨a, c, rfl, _⟩ := h.out; rfl⟩
theorem ln_of [u : Rs C sz v n xs] {F : Base} {w : World} (h : Holds (C :: L) F w) : Ln v n := by
  obtain ⟨_, _, ⟨a0, cap, hv, hn, _⟩ | ⟨b, o, cap, T, vs, fz, hv, _⟩⟩ := holds_rs h
  · exact ⟨_, _, hv, .inl hn⟩
  · exact ⟨_, _, hv, .inr ⟨_, _, rfl⟩⟩
theorem ent_ln [h : PkS v L C sz n xs R] : Ent L (pur (Ln v n) :: L) := fun F w hh => by
  have := h.rs
  exact holds_pur.2 ⟨ln_of (h.out F w hh), hh⟩
theorem p_lenL {x : Operand} {e ats : TypeId} [UT P ats (.slice e)] [h : Ln v n] (hx : ev fr x = some v) : Pure P (.call ⟨.builtin .len, #[x], #[ats]⟩) ty fr (.int .i64 n) := by
  obtain ⟨a, c, rfl, _⟩ := h.out
  exact p_len_slice hx
theorem p_indexL {x ix : Operand} {by' : Nat} {e : TypeId} {k : IntKind} {i : Int} [UT P t (.slice e)] [SZ P e sz by'] [h : Ln v n] (hx : ev fr x = some v) (hi : ev fr ix = some (.int k i)) (h0 : 0 ≤ i) (h1 : i < n) :
    Pure P (.indexAddr t x ix) ty fr (elp v (i.toNat * sz)) := by
  obtain ⟨a, c, rfl, h2⟩ := h.out
  rcases h2 with h2 | ⟨b, o, rfl⟩
  · omega
  · have hut (w : World) : (underlying t).run P w = .ok (.slice e) w := run_ut
    have hsz' (w : World) : (sizeOf e).run P w = .ok sz w := run_size
    intro n' a' w d pos after g hr
    simp [execOp, hr.ev hx, hr.ev hi, Instr.indexAt, asIntOf, hut, hsz', h0, h1, elp]
theorem p_indexL1 {x ix : Operand} {by' : Nat} {e : TypeId} {k : IntKind} {i : Int} [UT P t (.slice e)] [SZ P e 1 by'] [h : Ln v n] (hx : ev fr x = some v) (hi : ev fr ix = some (.int k i)) (h0 : 0 ≤ i) (h1 : i < n) :
    Pure P (.indexAddr t x ix) ty fr (elp v i.toNat) := by
  have := p_indexL (P := P) (ty := ty) (t := t) (sz := 1) hx hi h0 h1
  rwa [Nat.mul_one] at this
theorem p_nilE {x : Operand} {k : Nat} [h : Ln v n] (hx : ev fr x = some (elp v k)) (hk : 0 < n) : Pure P (.nilCheck x) ty fr (elp v k) := by
  obtain ⟨a, c, rfl, h2⟩ := h.out
  rcases h2 with h2 | ⟨b, o, rfl⟩
  · omega
  · exact p_nil_ptr hx
theorem p_fieldE {s : TypeId} {x : Operand} {i k off : Nat} {ft : TypeId} [u : FL P s i off ft] [h : Ln v n] (hx : ev fr x = some (elp v k)) (hk : 0 < n) : Pure P (.fieldAddr s x i) ty fr (elp v (k + off)) := by
  obtain ⟨a, c, rfl, h2⟩ := h.out
  rcases h2 with h2 | ⟨b, o, rfl⟩
  · omega
  · have hx' : ev fr x = some (.pointer (some ⟨b, o + k, none⟩)) := by rw [hx]; simp [elp, addr_add]
    have := p_fieldAddr (P := P) (s := s) (i := i) (ty := ty) hx'
    simpa [elp, addr_add, Nat.add_assoc] using this

def isNilV : Value → Bool
  | .slice none _ _ => true
  | _ => false
theorem eqIn_nils {w : World} {m : Nat} {e : TypeId} {a : Option Addr} {n' c : Nat} [UT P t (.slice e)] : (Op.equalIn (m + 1) t (.slice a n' c) (.slice none 0 0)).run P w = .ok a.isNone w := by
  have hut : (underlying t).run P w = .ok (.slice e) w := run_ut
  unfold Op.equalIn
  simp only [Sem.run_bind, hut, Result.andThen_ok]
  cases a <;> rfl
theorem p_eql_nils {x y : Operand} {yt e : TypeId} [UT P t (.slice e)] [h : Ln v n] (hx : ev fr x = some v) (hy : ev fr y = some (.slice none 0 0)) : Pure P (.binOp .eql t x y yt) ty fr (.bool (isNilV v)) := by
  obtain ⟨a, c, rfl, _⟩ := h.out
  intro n' a' w d pos after g hr
  have he : (Op.equal t (.slice a n c) (.slice none 0 0)).run P w = .ok a.isNone w := eqIn_nils (e := e)
  have e2 : isNilV (.slice a n c) = a.isNone := by cases a <;> rfl
  simp [execOp, hr.ev hx, hr.ev hy, eqGuard, binOp, he, e2]
theorem p_neq_nils {x y : Operand} {yt e : TypeId} [UT P t (.slice e)] [h : Ln v n] (hx : ev fr x = some v) (hy : ev fr y = some (.slice none 0 0)) : Pure P (.binOp .neq t x y yt) ty fr (.bool (!isNilV v)) := by
  obtain ⟨a, c, rfl, _⟩ := h.out
  intro n' a' w d pos after g hr
  have he : (Op.equal t (.slice a n c) (.slice none 0 0)).run P w = .ok a.isNone w := eqIn_nils (e := e)
  have e2 : isNilV (.slice a n c) = a.isNone := by cases a <;> rfl
  simp [execOp, hr.ev hx, hr.ev hy, eqGuard, binOp, he, e2]
theorem ln_isNil [h : Ln v n] (hv : isNilV v = true) : n = 0 := by
  obtain ⟨a, c, rfl, h2 | ⟨b, o, rfl⟩⟩ := h.out
  · exact h2
  · cases hv
instance (priority := 100) pks_any [h : Rs C sz v n xs] : PkS v (C :: L) C sz n xs L := ⟨h, .refl _⟩
theorem Goes.nilOwn {T : TypeId} {L cs : List HProp} (h : Goes L cs) : Goes L (own T sz (.slice none 0 0) 0 [] :: cs) := by
  obtain ⟨R, h⟩ := h
  exact ⟨R, fun F w hh => Ent.nilOwn F w (h F w hh)⟩
/-- A part of what one owns, to be looked at. -/
theorem rs_sub {T : TypeId} {k m c sz' : Nat} (h : k + m * sz' ≤ xs.length) (h0 : 0 < xs.length) : Rs (own T sz v n xs) sz' (sub v k m c) m ((xs.drop k).take (m * sz')) where
  len H hh := by rw [List.length_take, List.length_drop]; omega
  one H hh x hx := hh.2.1 x (List.mem_of_mem_drop (List.mem_of_mem_take hx))
  out H hh := by
    obtain ⟨hl, ho, ⟨hv, hn, _⟩ | ⟨b, o, cap, vs, fz, hv, hH, _, hnc, hle, ht⟩⟩ := hh
    · subst hn; rw [Nat.zero_mul] at hl; omega
    · subst hv
      refine .inr ⟨b, o + k, c, T, vs, fz, ?_, hH, ?_⟩
      · simp [sub, addr_add]
      · have : ((xs.drop k).take (m * sz')).length = m * sz' := by rw [List.length_take, List.length_drop]; omega
        rw [this]
        have e : xs.drop k = (vs.drop (o + k)).take (n * sz - k) := by rw [← ht, List.drop_take, List.drop_drop]
        rw [e, List.take_take]
        congr 1
        omega

theorem p_sliceArrE {x lo : Operand} {k len esz by' : Nat} {e : TypeId} {ik : IntKind} {i : Int} [UT P t (.array len e)] [SZ P e esz by'] [h : Ln v n] (hx : ev fr x = some (elp v k)) (hlo : ev fr lo = some (.int ik i)) (h0 : 0 ≤ i) (h1 : i ≤ len) (hn : 0 < n) :
    Pure P (.slice t x (some lo) none none) ty fr (sub v (if len = i.toNat then k else k + i.toNat * esz) (len - i.toNat) (len - i.toNat)) := by
  obtain ⟨a, c, rfl, h2⟩ := h.out
  rcases h2 with h2 | ⟨b, o, rfl⟩
  · omega
  · have hx' : ev fr x = some (.pointer (some ⟨b, o + k, none⟩)) := by rw [hx]; simp [elp, addr_add]
    have := p_slice_arr (P := P) (t := t) (ty := ty) (len := len) (e := e) (esz := esz) hx' hlo h0 h1
    by_cases hc : len = i.toNat
    · simpa [sub, addr_add, hc] using this
    · simpa [sub, addr_add, hc, Nat.add_assoc] using this
theorem p_sliceArrE0 {x : Operand} {k len esz by' : Nat} {e : TypeId} [UT P t (.array len e)] [SZ P e esz by'] [h : Ln v n] (hx : ev fr x = some (elp v k)) (hn : 0 < n) :
    Pure P (.slice t x none none none) ty fr (sub v k len len) := by
  obtain ⟨a, c, rfl, h2⟩ := h.out
  rcases h2 with h2 | ⟨b, o, rfl⟩
  · omega
  · have hx' : ev fr x = some (.pointer (some ⟨b, o + k, none⟩)) := by rw [hx]; simp [elp, addr_add]
    have := p_slice_arr0 (P := P) (t := t) (ty := ty) (len := len) (e := e) (esz := esz) hx'
    simpa [sub, addr_add] using this

/-! ### Strings, truth values, pointers compared -/
theorem extract_st (l : List UInt8) (a b : Nat) : (ByteArray.mk l.toArray).extract a b = ⟨((l.take b).drop a).toArray⟩ := by
  apply ByteArray.ext
  rw [ByteArray.data_extract]
  simp [List.drop_take]
theorem size_mk (l : List UInt8) : (ByteArray.mk l.toArray).size = l.length := by simp [ByteArray.size]
theorem p_stL {x lo : Operand} {l : List UInt8} {k : IntKind} {i : Int} [UT P t .string] (hx : ev fr x = some (st l)) (hlo : ev fr lo = some (.int k i)) (h0 : 0 ≤ i) (h1 : i ≤ l.length) :
    Pure P (.slice t x (some lo) none none) ty fr (st (l.drop i.toNat)) := by
  intro n' a w d pos after g hr
  have hut : (underlying t).run P w = .ok .string w := run_ut
  have h2 : i ≤ (l.length : Int) := h1
  simp [execOp, hr.ev hx, hr.ev hlo, st, Instr.sliceAt, Instr.slice, hut, Instr.sliceBounds, Instr.sliceBound, asIntOf, h0, h2, extract_st, size_mk]
theorem p_stH {x hi : Operand} {l : List UInt8} {k : IntKind} {i : Int} [UT P t .string] (hx : ev fr x = some (st l)) (hhi : ev fr hi = some (.int k i)) (h0 : 0 ≤ i) (h1 : i ≤ l.length) :
    Pure P (.slice t x none (some hi) none) ty fr (st (l.take i.toNat)) := by
  intro n' a w d pos after g hr
  have hut : (underlying t).run P w = .ok .string w := run_ut
  have h2 : i ≤ (l.length : Int) := h1
  simp [execOp, hr.ev hx, hr.ev hhi, st, Instr.sliceAt, Instr.slice, hut, Instr.sliceBounds, Instr.sliceBound, asIntOf, h0, h2, extract_st, size_mk]
theorem p_stLH {x lo hi : Operand} {l : List UInt8} {k k' : IntKind} {i j : Int} [UT P t .string] (hx : ev fr x = some (st l)) (hlo : ev fr lo = some (.int k i)) (hhi : ev fr hi = some (.int k' j)) (h0 : 0 ≤ i) (h1 : i ≤ j) (h2 : j ≤ l.length) :
    Pure P (.slice t x (some lo) (some hi) none) ty fr (st ((l.take j.toNat).drop i.toNat)) := by
  intro n' a w d pos after g hr
  have hut : (underlying t).run P w = .ok .string w := run_ut
  have h3 : j ≤ (l.length : Int) := h2
  have h4 : 0 ≤ j := by omega
  have h5 : i ≤ (j.toNat : Int) := by omega
  simp [execOp, hr.ev hx, hr.ev hlo, hr.ev hhi, st, Instr.sliceAt, Instr.slice, hut, Instr.sliceBounds, Instr.sliceBound, asIntOf, h0, h1, h3, h4, extract_st, size_mk, show i ≤ max j 0 by omega]
theorem eqIn_b {w : World} {n : Nat} {a b : Bool} [UT P t .bool] : (Op.equalIn (n + 1) t (.bool a) (.bool b)).run P w = .ok (a == b) w := by
  have hut : (underlying t).run P w = .ok .bool w := run_ut
  unfold Op.equalIn
  simp only [Sem.run_bind, hut, Result.andThen_ok]
  rfl
theorem eqIn_nil {w : World} {n : Nat} {e : TypeId} {b : Option Addr} [UT P t (.pointer e)] : (Op.equalIn (n + 1) t (.pointer b) (.pointer none)).run P w = .ok b.isNone w := by
  have hut : (underlying t).run P w = .ok (.pointer e) w := run_ut
  unfold Op.equalIn
  simp only [Sem.run_bind, hut, Result.andThen_ok]
  cases b <;> rfl
theorem p_eql_b {x y : Operand} {yt : TypeId} {a b : Bool} [UT P t .bool] (hx : ev fr x = some (.bool a)) (hy : ev fr y = some (.bool b)) : Pure P (.binOp .eql t x y yt) ty fr (.bool (a == b)) := by
  intro n' a' w d pos after g hr
  have he : (Op.equal t (.bool a) (.bool b)).run P w = .ok (a == b) w := eqIn_b
  simp [execOp, hr.ev hx, hr.ev hy, eqGuard, binOp, he]
theorem p_neq_b {x y : Operand} {yt : TypeId} {a b : Bool} [UT P t .bool] (hx : ev fr x = some (.bool a)) (hy : ev fr y = some (.bool b)) : Pure P (.binOp .neq t x y yt) ty fr (.bool (!(a == b))) := by
  intro n' a' w d pos after g hr
  have he : (Op.equal t (.bool a) (.bool b)).run P w = .ok (a == b) w := eqIn_b
  simp [execOp, hr.ev hx, hr.ev hy, eqGuard, binOp, he]
theorem p_eql_nil {x y : Operand} {yt e : TypeId} {b : Addr} [UT P t (.pointer e)] (hx : ev fr x = some (.pointer (some b))) (hy : ev fr y = some (.pointer none)) : Pure P (.binOp .eql t x y yt) ty fr (.bool false) := by
  intro n' a' w d pos after g hr
  have he : (Op.equal t (.pointer (some b)) (.pointer none)).run P w = .ok false w := eqIn_nil (e := e) (b := some b)
  simp [execOp, hr.ev hx, hr.ev hy, eqGuard, binOp, he]
theorem p_neq_nil {x y : Operand} {yt e : TypeId} {b : Addr} [UT P t (.pointer e)] (hx : ev fr x = some (.pointer (some b))) (hy : ev fr y = some (.pointer none)) : Pure P (.binOp .neq t x y yt) ty fr (.bool true) := by
  intro n' a' w d pos after g hr
  have he : (Op.equal t (.pointer (some b)) (.pointer none)).run P w = .ok false w := eqIn_nil (e := e) (b := some b)
  simp [execOp, hr.ev hx, hr.ev hy, eqGuard, binOp, he]
theorem p_eql_nil0 {x y : Operand} {yt e : TypeId} [UT P t (.pointer e)] (hx : ev fr x = some (.pointer none)) (hy : ev fr y = some (.pointer none)) : Pure P (.binOp .eql t x y yt) ty fr (.bool true) := by
  intro n' a' w d pos after g hr
  have he : (Op.equal t (.pointer none) (.pointer none)).run P w = .ok true w := eqIn_nil (e := e) (b := none)
  simp [execOp, hr.ev hx, hr.ev hy, eqGuard, binOp, he]
theorem p_neq_nil0 {x y : Operand} {yt e : TypeId} [UT P t (.pointer e)] (hx : ev fr x = some (.pointer none)) (hy : ev fr y = some (.pointer none)) : Pure P (.binOp .neq t x y yt) ty fr (.bool false) := by
  intro n' a' w d pos after g hr
  have he : (Op.equal t (.pointer none) (.pointer none)).run P w = .ok true w := eqIn_nil (e := e) (b := none)
  simp [execOp, hr.ev hx, hr.ev hy, eqGuard, binOp, he]

/-! ### An operation that is not carried out -/
section
variable {Q : Exit → Act → World → Prop} {N : Cfg} {F : Base} {k : List Itm} {ops : Array Oper} {rest : List Oper} {p : Plan} {S : List HProp} {σ : Ord} {al : Bool}
theorem rets_onem {fn : Func} {L' : List HProp} {d t : Nat} {v : Value} {Rf : Value → List HProp} (hds : N.ds = [markD d]) (hres : fn.results = #[.tmp t]) (hv : fr.lookup t = some v) (hp : Pick (pt d (.deferred (some []))) L L') (he : Goes L' (Rf v)) :
    Run P (bodyPostM (WF none) 0 P fn fun e w' => ∃ v, e = .returned v ∧ Holds (Rf v) F w') N F fr L (.code .ret :: k) := he.elim fun _ h => run_ent hp.ent (run_ret (ret_one_m hds hres hv h))
theorem run_pick {c : HProp} {L' : List HProp} (hp : Pick c L L') (h : Run P Q N F fr (c :: L') k) : Run P Q N F fr L k := run_ent hp.ent h
theorem ops_pick {c : HProp} {L' : List HProp} (hp : Pick c L L') (h : Ops P Q N F ops rest fr (c :: L') k) : Ops P Q N F ops rest fr L k := ops_ent hp.ent h
theorem run_ln {T : TypeId} (h : Ln v n → Run P Q N F fr (own T sz v n xs :: L) k) : Run P Q N F fr (own T sz v n xs :: L) k := run_ent (ent_ln (v := v)) (run_pur h)
theorem ops_ln {T : TypeId} (h : Ln v n → Ops P Q N F ops rest fr (own T sz v n xs :: L) k) : Ops P Q N F ops rest fr (own T sz v n xs :: L) k := ops_ent (ent_ln (v := v)) (ops_pur h)
theorem dp_ln {T : TypeId} (h : Ln v n → Dp P Q N F ops p S σ al fr (own T sz v n xs :: L) k) : Dp P Q N F ops p S σ al fr (own T sz v n xs :: L) k := dp_ent (ent_ln (v := v)) (dp_pur h)
theorem run_facts (v : Value) [h : PkS v L C sz n xs R] (hh : Ln v n → Run P Q N F fr L k) : Run P Q N F fr L k := run_ent (ent_ln (v := v)) (run_pur hh)
theorem ops_facts (v : Value) [h : PkS v L C sz n xs R] (hh : Ln v n → Ops P Q N F ops rest fr L k) : Ops P Q N F ops rest fr L k := ops_ent (ent_ln (v := v)) (ops_pur hh)
theorem dp_facts (v : Value) [h : PkS v L C sz n xs R] (hh : Ln v n → Dp P Q N F ops p S σ al fr L k) : Dp P Q N F ops p S σ al fr L k := dp_ent (ent_ln (v := v)) (dp_pur hh)
end
variable {Q : Exit → Act → World → Prop} {N : Cfg} {F : Base} {k : List Itm} {ops : Array Oper} {rest : List Oper} {p : Plan} {S : List HProp} {σ : Ord} {al : Bool} {i : Nat} {d : Option Nat} {op : Op} {pos : String} {after : Array Edge} {g : Option (Nat × Bool)}
/-- After one that waits for all, all may be looked at anew. -/
theorem dp_again (h : Dp P Q N F ops p L σ true fr L k) : Dp P Q N F ops p S σ false fr L k := by
  intro hs hQ listed taken O ho hO ht a w hr hh _
  have h0 : taken = [] := ht rfl
  subst h0
  exact h hs hQ listed [] O ho (fun q hq => absurd (hO q hq).1 (by simp)) (fun _ => rfl) a w hr hh (fun _ => hh)
/-- More stands now, and may be looked at. -/
theorem dp_grow (he : Ent L S) (h : Dp P Q N F ops p L σ true fr L k) : Dp P Q N F ops p S σ true fr L k := by
  intro hs hQ listed taken O ho hO ht a w hr hh _
  exact h hs hQ listed taken O ho (fun q hq => ⟨(hO q hq).1, fun w hw => (hO q hq).2 w (he F w hw)⟩) ht a w hr hh (fun _ => hh)
theorem dp_skipL (hi : ops[i]? = some ⟨d, op, ty, pos, after, g⟩) (he : (p.reads.contains i || p.pures.contains i) = false) (hlast : p.lasts.contains i = true) (hg : wants ops fr g = some false)
    (hd : inFr N d = true) (h : Dp P Q N F ops p S σ false (putFr fr d undef) L k) : Dp P Q N F ops p S (.cons i σ) al fr L k := by
  intro hs hQ listed taken O ho hO ht a w hr hh hS
  simp only [Bool.or_eq_false_iff] at he
  simp only [ordOk, he.1, he.2, hlast, Bool.false_eq_true, if_false, if_true, Bool.and_eq_true, beq_iff_eq] at ho
  refine G_one ho.1.1 ?_
  unfold wpOpIn
  simp only [hi, wants_spec (o := ⟨d, op, ty, pos, after, g⟩) hr hg, Bool.false_eq_true, if_false]
  have hO' : ∀ q ∈ keepL ops i O, q.1 ∈ taken ∧ ∀ w, Holds S F w → q.2 w := fun q hq => hO q (mem_keepL hq)
  have hnil : keepL ops i O = [] := by
    unfold keepL
    rw [List.filter_eq_nil_iff]
    intro q hq
    have h1 := (hO q hq).1
    have h2 := List.all_eq_true.1 ho.1.2 q.1 h1
    simp [h2]
  refine ⟨fun _ _ => trivial, al_obl hO' ht hS, ?_⟩
  rw [hnil]
  exact h hs hQ _ [] _ ho.2 (by simp) (fun _ => rfl) _ w (hr.put d (inFr_spec hd) undef) hh (by simp)
theorem dp_notQ (hi : ops[i]? = some ⟨d, op, ty, pos, after, g⟩) (he : p.reads.contains i = true) (hg : wants ops fr g = some false) (hd : inFr N d = true)
    (h : Dp P Q N F ops p S σ true (putFr fr d undef) L k) : Dp P Q N F ops p S (.cons i σ) true fr L k := by
  intro hs hQ listed taken O ho hO ht a w hr hh hS
  simp only [ordOk, he, if_true, Bool.and_eq_true] at ho
  obtain ⟨h1, h2⟩ := early_spec ho.1
  refine G_first (v := undef) (Cq := Holds S F) hi (Region.noSelect_spec hs.1) hs.2 (fun c a w => hQ.leave c a _ _ w) σ.length O listed a w (Region.free_spec hi h2) h1 ?_ (hS rfl) (fun q hq => (hO q hq).2 w (hS rfl)) ?_
  · exact .inr ⟨wants_spec hr hg, rfl⟩
  · refine h hs hQ _ (i :: taken) _ ho.2 ?_ (by simp) _ w (hr.put d (inFr_spec hd) undef) hh (fun _ => hS rfl)
    intro q hq
    rcases List.mem_cons.1 hq with rfl | hq
    · exact ⟨by simp, fun _ h => h⟩
    · exact ⟨List.mem_cons_of_mem _ (hO q hq).1, (hO q hq).2⟩
end
end Go.Proofs.YtaibgfnfmkpibaaGreatDoor.SL
