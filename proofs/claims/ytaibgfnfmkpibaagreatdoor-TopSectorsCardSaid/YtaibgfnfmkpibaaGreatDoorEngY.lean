/- Pieces found by their names: the short forms of the rules. No program in sight. -/
import Derived.Test.YtaibgfnfmkpibaaGreatDoorEngX
import Derived.Test.YtaibgfnfmkpibaaGreatDoorEngW
import Derived.Test.YtaibgfnfmkpibaaGreatDoorEngH
import Derived.Test.YtaibgfnfmkpibaaGreatDoorEngI
namespace Go.Proofs.YtaibgfnfmkpibaaGreatDoor.SL
open Go

/-- A piece is among others. -/
inductive Pick : HProp → List HProp → List HProp → Prop
  | here {c : HProp} {L : List HProp} : Pick c (c :: L) L
  | there {c d : HProp} {L R : List HProp} : Pick c L R → Pick c (d :: L) (d :: R)
  | nilOwn {T : TypeId} {sz : Nat} : Pick (own T sz (.slice none 0 0) 0 []) [] []
theorem Pick.ent {c : HProp} {L R : List HProp} (h : Pick c L R) : Ent L (c :: R) := by
  induction h with
  | here => exact .refl _
  | there _ ih => exact ih.there
  | nilOwn => exact Ent.nilOwn
/-- Some pieces are among others. -/
inductive Tki : List HProp → List HProp → List HProp → Prop
  | nil {L : List HProp} : Tki L [] L
  | cons {c : HProp} {L L1 cs R : List HProp} : Pick c L L1 → Tki L1 cs R → Tki L (c :: cs) R
theorem Tki.tk {L C R : List HProp} (h : Tki L C R) : Tk L C R := by
  induction h with
  | nil => exact Tk.nil
  | cons h _ ih => exact Tk.cons h.ent ih
theorem Tki.ent {L C R : List HProp} (h : Tki L C R) : Ent L C := h.tk.ent
theorem Tk.pick {c : HProp} {L L1 cs R : List HProp} (h : Pick c L L1) (h' : Tk L1 cs R) : Tk L (c :: cs) R := Tk.cons h.ent h'
/-- Lists put together. -/
class App (A B : List HProp) (C : outParam (List HProp)) : Prop where
  out : A ++ B = C
instance {B : List HProp} : App [] B B := ⟨rfl⟩
instance {a : HProp} {A B C : List HProp} [h : App A B C] : App (a :: A) B (a :: C) := ⟨by rw [← h.out]; rfl⟩

class PkB (b : Nat) (L : List HProp) (T : outParam TypeId) (vs : outParam (List Value)) (R : outParam (List HProp)) : Prop where
  out : Ent L (blk b T vs :: R)
instance {b T c vs L R} [h : PkB b L T vs R] : PkB b (c :: L) T vs (c :: R) := ⟨h.out.there⟩
instance {b T vs L} : PkB b (blk b T vs :: L) T vs L := ⟨.refl _⟩
class PkC (b : Nat) (L : List HProp) (C : outParam HProp) (vs : outParam (List Value)) (R : outParam (List HProp)) : Prop where
  rd : Rd C b vs
  out : Ent L (C :: R)
instance {b c C vs L R} [h : PkC b L C vs R] : PkC b (c :: L) C vs (c :: R) := ⟨h.rd, h.out.there⟩
instance {b T vs L} : PkC b (rbk b T vs :: L) (rbk b T vs) vs L := ⟨inferInstance, .refl _⟩
instance {b T vs L} : PkC b (blk b T vs :: L) (blk b T vs) vs L := ⟨inferInstance, .refl _⟩
class PkO (v : Value) (L : List HProp) (T : outParam TypeId) (sz n : outParam Nat) (xs : outParam (List Value)) (R : outParam (List HProp)) : Prop where
  out : Ent L (own T sz v n xs :: R)
instance {v T sz n c xs L R} [h : PkO v L T sz n xs R] : PkO v (c :: L) T sz n xs (c :: R) := ⟨h.out.there⟩
instance {v T sz n xs L} : PkO v (own T sz v n xs :: L) T sz n xs L := ⟨.refl _⟩
class PkS (v : Value) (L : List HProp) (C : outParam HProp) (sz n : outParam Nat) (xs : outParam (List Value)) (R : outParam (List HProp)) : Prop where
  rs : Rs C sz v n xs
  out : Ent L (C :: R)
instance {v C sz n c xs L R} [h : PkS v L C sz n xs R] : PkS v (c :: L) C sz n xs (c :: R) := ⟨h.rs, h.out.there⟩
instance {v sz n xs L} : PkS v (rsl sz v n xs :: L) (rsl sz v n xs) sz n xs L := ⟨inferInstance, .refl _⟩
instance {v ob sz n xs L} : PkS v (rxs ob sz v n xs :: L) (rxs ob sz v n xs) sz n xs L := ⟨inferInstance, .refl _⟩
instance {v T sz n xs L} : PkS v (own T sz v n xs :: L) (own T sz v n xs) sz n xs L := ⟨inferInstance, .refl _⟩
class PkM (r : Nat) (L : List HProp) (es : outParam (Array MapEntry)) (clk : outParam Nat) (R : outParam (List HProp)) : Prop where
  out : Ent L (pt r (.map es clk) :: R)
instance {r es clk c L R} [h : PkM r L es clk R] : PkM r (c :: L) es clk (c :: R) := ⟨h.out.there⟩
instance {r es clk L} : PkM r (pt r (.map es clk) :: L) es clk L := ⟨.refl _⟩

section
variable {P : Program} {fr : Fr} {L R : List HProp} {ty t : TypeId} {sz n : Nat} {v : Value} {xs : List Value} {C : HProp}

/-! ### What only looks -/
theorem k_load {x : Operand} {b o : Nat} {vs : List Value} {u : Value} [SC P t] [h : PkC b L C vs R] (hx : ev fr x = some (.pointer (some ⟨b, o, none⟩))) (hv : vs[o]? = some u) : Quiet P (.load t x) ty fr L u :=
  have := h.rd; q_load_c hx h.out hv
theorem k_loadAg {x : Operand} {b o m : Nat} {vs us : List Value} [AG P t m] [h : PkC b L C vs R] (hx : ev fr x = some (.pointer (some ⟨b, o, none⟩))) (hv : (vs.drop o).take m = us) (hl : us.length = m) : Quiet P (.load t x) ty fr L (.agg us.toArray) :=
  have := h.rd; q_load_ag_c hx h.out hv hl
theorem k_loadS {x : Operand} {k : Nat} {u : Value} [SC P t] [h : PkS v L C sz n xs R] (hx : ev fr x = some (elp v k)) (hu : xs[k]? = some u) : Quiet P (.load t x) ty fr L u :=
  have := h.rs; q_load_s hx h.out hu
theorem k_loadAgS {x : Operand} {k m : Nat} {us : List Value} [AG P t m] [h : PkS v L C sz n xs R] (hx : ev fr x = some (elp v k)) (hu : (xs.drop k).take m = us) (hm : us.length = m) (h0 : (m == 0) = false) : Quiet P (.load t x) ty fr L (.agg us.toArray) :=
  have := h.rs; q_load_ag_s hx h.out hu hm h0
theorem k_index {x ix : Operand} {by' : Nat} {e : TypeId} {k : IntKind} {i : Int} [UT P t (.slice e)] [SZ P e sz by'] [h : PkS v L C sz n xs R] (hx : ev fr x = some v) (hi : ev fr ix = some (.int k i)) (h0 : 0 ≤ i) (h1 : i < n) :
    Quiet P (.indexAddr t x ix) ty fr L (elp v (i.toNat * sz)) := have := h.rs; q_index_s hx hi h.out h0 h1
theorem k_nil {x : Operand} {k : Nat} [h : PkS v L C sz n xs R] (hx : ev fr x = some (elp v k)) (hk : k < xs.length) : Quiet P (.nilCheck x) ty fr L (elp v k) := have := h.rs; q_nil_s hx h.out hk
theorem k_field {s : TypeId} {x : Operand} {i k off : Nat} {ft : TypeId} [FL P s i off ft] [h : PkS v L C sz n xs R] (hx : ev fr x = some (elp v k)) (hk : k < xs.length) : Quiet P (.fieldAddr s x i) ty fr L (elp v (k + off)) :=
  have := h.rs; q_field_s hx h.out hk
theorem k_len {x : Operand} {e ats : TypeId} [UT P ats (.slice e)] [h : PkS v L C sz n xs R] (hx : ev fr x = some v) : Quiet P (.call ⟨.builtin .len, #[x], #[ats]⟩) ty fr L (.int .i64 n) := have := h.rs; q_len_s hx h.out
theorem k_lenM {x : Operand} {r clk : Nat} {es : Array MapEntry} {ats kt el : TypeId} [UT P ats (.map kt el)] [h : PkM r L es clk R] (hx : ev fr x = some (.map (some r))) : Quiet P (.call ⟨.builtin .len, #[x], #[ats]⟩) ty fr L (.int .i64 es.size) := q_len_map hx h.out
theorem k_lookup {x ix : Operand} {r clk : Nat} {es : Array MapEntry} {kt el : TypeId} {k z : Value} {ok : Bool} {f : Option (Nat × Value)} [UT P t (.map kt el)] [ZV P el z] [h : PkM r L es clk R] (hx : ev fr x = some (.map (some r))) (hk : ev fr ix = some k)
    (hok : KeyOk P kt k) (hf : Found P kt k es f) : Quiet P (.lookup t x ix ok) ty fr L (got ok z f) := q_lookup hx hk h.out hok hf
theorem k_bytesStr {l : List UInt8} {e dst src : TypeId} {x : Operand} [us : UT P src (.slice e)] [ue : UT P e (.int .u8)] [ud : UT P dst .string] (hx : ev fr x = some v) [h : PkS v L C 1 n xs R] (hl : xs = l.map u8) :
    Quiet P (.convert src dst x) ty fr L (st l) := by
  subst hl
  have := h.rs; exact q_bytes_str hx h.out
theorem k_tail {T e : TypeId} {by' : Nat} {x lo : Operand} {ik : IntKind} {i : Int} [UT P t (.slice e)] [SZ P e sz by'] [h : PkO v L T sz n xs R] (hx : ev fr x = some v) (hlo : ev fr lo = some (.int ik i)) (h0 : 0 ≤ i) (h1 : i ≤ n) :
    Quiet P (.slice t x (some lo) none none) ty fr L (tlv sz v i.toNat) := q_slice_tail hx hlo h.out h0 h1
theorem k_sliceArr {x lo : Operand} {k len esz by' : Nat} {e : TypeId} {ik : IntKind} {i : Int} [UT P t (.array len e)] [SZ P e esz by'] [h : PkS v L C sz n xs R] (hx : ev fr x = some (elp v k)) (hlo : ev fr lo = some (.int ik i)) (h0 : 0 ≤ i) (h1 : i ≤ len) (hk : k < xs.length) :
    Quiet P (.slice t x (some lo) none none) ty fr L (sub v (if len = i.toNat then k else k + i.toNat * esz) (len - i.toNat) (len - i.toNat)) := have := h.rs; q_slice_arr_s hx hlo h.out h0 h1 hk
theorem k_sliceArr0 {x : Operand} {k len esz by' : Nat} {e : TypeId} [UT P t (.array len e)] [SZ P e esz by'] [h : PkS v L C sz n xs R] (hx : ev fr x = some (elp v k)) (hk : k < xs.length) :
    Quiet P (.slice t x none none none) ty fr L (sub v k len len) := have := h.rs; q_slice_arr0_s hx h.out hk

/-! ### What changes something -/
theorem g_store {x y : Operand} {b o : Nat} {T : TypeId} {vs : List Value} {u : Value} [SC P t] [h : PkB b L T vs R] [hu : One u] (hx : ev fr x = some (.pointer (some ⟨b, o, none⟩))) (hy : ev fr y = some u) (ho : Nat.blt o vs.length = true) :
    Step P (.store t x y) ty fr L (fun _ : Unit => undef) (fun _ => blk b T (vs.set o u) :: R) := s_store hx hy hu.out h.out (by simpa using ho) rfl
theorem g_storeAg {x y : Operand} {b o m : Nat} {T : TypeId} {vs us : List Value} [AG P t m] [h : PkB b L T vs R] (hx : ev fr x = some (.pointer (some ⟨b, o, none⟩))) (hy : ev fr y = some (.agg us.toArray)) (h1 : ∀ u ∈ us, Value.oneCell' u = true) (hm : us.length = m)
    (ho : Nat.ble (o + us.length) vs.length = true) : Step P (.store t x y) ty fr L (fun _ : Unit => undef) (fun _ => blk b T (over vs o us) :: R) := s_store_ag hx hy h1 h.out hm (by simpa using ho)
theorem g_storeS {T : TypeId} {x y : Operand} {k : Nat} {u : Value} [SC P t] [One u] [h : PkO v L T sz n xs R] (hx : ev fr x = some (elp v k)) (hy : ev fr y = some u) (hk : k < xs.length) :
    Step P (.store t x y) ty fr L (fun _ : Unit => undef) (fun _ => own T sz v n (xs.set k u) :: R) := s_store_s hx hy h.out hk rfl
theorem g_call {f : FuncId} [BD P f] {xs : List Operand} {vs : List Value} {ats : Array TypeId} {C : List HProp} {Rf L' : Value → List HProp} (hx : Evs fr xs vs) (he : Tki L C R) (hf : Fn P f vs.toArray C Rf) [ha : ∀ v, App (Rf v) R (L' v)] :
    Step P (.call ⟨.value (.func f), xs.toArray, ats⟩) ty fr L (fun v : Value => v) L' := by
  have e : L' = fun v => Rf v ++ R := funext fun v => ((ha v).out).symm
  rw [e]
  exact s_call hx hf he.tk
theorem g_callv {f : FuncId} [BD P f] {x : Operand} {cap : Array Value} {xs : List Operand} {vs : List Value} {ats : Array TypeId} {C : List HProp} {Rf L' : Value → List HProp} (hv : ev fr x = some (.func (.func f) #[] cap)) (hx : Evs fr xs vs)
    (he : Tki L C R) (hf : Fn P f (vs.toArray ++ cap) C Rf) [ha : ∀ v, App (Rf v) R (L' v)] : Step P (.call ⟨.value x, xs.toArray, ats⟩) ty fr L (fun v : Value => v) L' := by
  have e : L' = fun v => Rf v ++ R := funext fun v => ((ha v).out).symm
  rw [e]
  exact s_callv hv hx hf he.tk
theorem g_makeSlice {x y : Operand} {k k' : IntKind} {i : Int} {e : TypeId} {by' : Nat} {z : Value} {zs : List Value} [UT P t (.slice e)] [SZ P e sz by'] [ZV P e z] [Cel z zs] (hx : ev fr x = some (.int k i)) (hy : ev fr y = some (.int k' i)) (h0 : 0 ≤ i)
    (hb : (by' : Int) * i ≤ 281474976710656) (h63 : i ≤ 9223372036854775807) (hsz : zs.length = sz) :
    Step P (.makeSlice t x y) ty fr L (fun v : Value => v) (fun v => own e sz v i.toNat (List.replicate i.toNat zs).flatten :: L) := s_makeSlice hx hy h0 hb h63 hsz
theorem g_append {e xt : TypeId} {by' : Nat} {x y : Operand} {yv : Value} {m : Nat} {ys : List Value} {z : Value} {zs : List Value} {R' : List HProp} [UT P t (.slice e)] [UT P xt (.slice e)] [SZ P e sz by'] [ZV P e z] [hc : Cel z zs] (hx : ev fr x = some v) (hy : ev fr y = some yv)
    [h : PkO v L e sz n xs R] [h' : PkS yv R C sz m ys R'] (hb : (n + m) * by' ≤ 140737488355328) (hn : n + m ≤ 140737488355328) (hz : zs.length = sz) :
    Step P (.call ⟨.builtin .append, #[x, y], #[t, xt]⟩) ty fr L (fun v' : Value => v') (fun v' => own e sz v' (n + m) (xs ++ ys) :: R) :=
  have := h'.rs
  s_append hx hy h.out (fun F w hh => src_of_rs (C := C) (h'.out F w hh)) hb hn (by rw [hc.out]; simpa using hz) rfl
theorem g_appendNil {e xt : TypeId} {by' : Nat} {x y : Operand} {yv : Value} {m : Nat} {ys : List Value} {z : Value} {zs : List Value} [UT P t (.slice e)] [UT P xt (.slice e)] [SZ P e sz by'] [ZV P e z] [hc : Cel z zs] (hx : ev fr x = some (.slice none 0 0)) (hy : ev fr y = some yv)
    [h' : PkS yv L C sz m ys R] (hb : m * by' ≤ 140737488355328) (hn : m ≤ 140737488355328) (hz : zs.length = sz) :
    Step P (.call ⟨.builtin .append, #[x, y], #[t, xt]⟩) ty fr L (fun v' : Value => v') (fun v' => own e sz v' m ys :: L) := by
  have := h'.rs
  have h := s_append (P := P) (t := t) (ty := ty) (T := e) (e := e) (n := 0) (xs := []) (L := L) (xt := xt) (m := m) (ys := ys) hx hy Ent.nilOwn (fun F w hh => src_of_rs (C := C) (h'.out F w hh)) (by simpa using hb) (by simpa using hn) (by rw [hc.out]; simpa using hz) rfl
  simpa using h
theorem g_tail {T e : TypeId} {by' : Nat} {x lo : Operand} {ik : IntKind} {i : Int} [UT P t (.slice e)] [SZ P e sz by'] [h : PkO v L T sz n xs R] (hx : ev fr x = some v) (hlo : ev fr lo = some (.int ik i)) (h0 : 0 ≤ i) (h1 : i ≤ n) :
    Step P (.slice t x (some lo) none none) ty fr L (fun v' : Value => v') (fun v' => own T sz v' (n - i.toNat) (xs.drop (i.toNat * sz)) :: R) := s_slice_tail hx hlo h.out h0 h1
theorem g_clearM {x : Operand} {kt el : TypeId} {r clk : Nat} {es : Array MapEntry} [UT P t (.map kt el)] [h : PkM r L es clk R] (hx : ev fr x = some (.map (some r))) :
    Step P (.call ⟨.builtin .clear, #[x], #[t]⟩) ty fr L (fun _ : Unit => .tuple #[]) (fun _ => pt r (.map #[] clk) :: R) := s_clear_map hx h.out
theorem g_mapUpdate {m ix y : Operand} {r clk : Nat} {es : Array MapEntry} {kt el : TypeId} {k x : Value} {f : Option (Nat × Value)} [UT P t (.map kt el)] [h : PkM r L es clk R] (hm : ev fr m = some (.map (some r))) (hk : ev fr ix = some k) (hy : ev fr y = some x)
    (hok : KeyOk P kt k) (hf : Found P kt k es f) (hst : stays es k f) : Step P (.mapUpdate t m ix y) ty fr L (fun _ : Unit => undef) (fun _ => pt r (upd es clk k x f) :: R) := s_mapUpdate hm hk hy h.out hok hf hst
theorem g_delete {m ix : Operand} {r clk : Nat} {es : Array MapEntry} {kt el t2 : TypeId} {k : Value} {f : Option (Nat × Value)} [UT P t (.map kt el)] [h : PkM r L es clk R] (hm : ev fr m = some (.map (some r))) (hk : ev fr ix = some k)
    (hok : KeyOk P kt k) (hf : Found P kt k es f) : Step P (.call ⟨.builtin .delete, #[m, ix], #[t, t2]⟩) ty fr L (fun _ : Unit => .tuple #[]) (fun _ => pt r (del es clk f) :: R) := s_delete hm hk h.out hok hf
theorem g_range {x : Operand} {r clk : Nat} {es : Array MapEntry} {kt el : TypeId} [UT P t (.map kt el)] [h : PkM r L es clk R] (hx : ev fr x = some (.map (some r))) :
    Step P (.range t x) ty fr L (fun b : Nat => .pointer (some ⟨b, 0, none⟩)) (fun b => pt b (.mapIter (some r) clk #[] clk) :: pt r (.map es clk) :: R) := s_range hx h.out

/-! ### Control -/
variable {Q : Exit → Act → World → Prop} {N : Cfg} {F : Base} {k : List Itm} {ops : Array Oper} {rest : List Oper} {p : Plan} {S : List HProp} {σ : Ord} {al : Bool}
theorem run_allt {A L' : List HProp} [h : App A L L'] (hh : Run P Q N F fr L' k) : Run P Q N F fr (All A :: L) k := run_all (by rw [h.out]; exact hh)
theorem ops_allt {A L' : List HProp} [h : App A L L'] (hh : Ops P Q N F ops rest fr L' k) : Ops P Q N F ops rest fr (All A :: L) k := ops_all (by rw [h.out]; exact hh)
theorem dp_allt {A L' : List HProp} [h : App A L L'] (hh : Dp P Q N F ops p S σ al fr L' k) : Dp P Q N F ops p S σ al fr (All A :: L) k := dp_all (by rw [h.out]; exact hh)
/-- The first piece is a slice's: its value is of one cell. -/
theorem run_one {T : TypeId} (h : One v → Run P Q N F fr (own T sz v n xs :: L) k) : Run P Q N F fr (own T sz v n xs :: L) k := run_ent Ent.ownOne (run_pur fun x => h ⟨x⟩)
theorem ops_one {T : TypeId} (h : One v → Ops P Q N F ops rest fr (own T sz v n xs :: L) k) : Ops P Q N F ops rest fr (own T sz v n xs :: L) k := ops_ent Ent.ownOne (ops_pur fun x => h ⟨x⟩)
theorem dp_one {T : TypeId} (h : One v → Dp P Q N F ops p S σ al fr (own T sz v n xs :: L) k) : Dp P Q N F ops p S σ al fr (own T sz v n xs :: L) k := dp_ent Ent.ownOne (dp_pur fun x => h ⟨x⟩)
theorem ent_one_at {T : TypeId} (h : Ent L (own T sz v n xs :: R)) : Ent L (pur (v.oneCell' = true) :: L) := fun F w hh => by
  have h1 := Ent.ownOne F w (h F w hh)
  exact holds_pur.2 ⟨(holds_pur.1 h1).1, hh⟩
theorem ent_len_at [h : PkS v L C sz n xs R] : Ent L (pur (xs.length = n * sz) :: L) := fun F w hh => by
  have := h.rs
  exact holds_pur.2 ⟨(holds_rs (h.out F w hh)).1, hh⟩
/-- Any slice's. -/
theorem run_oneAt {T : TypeId} (v : Value) [h : PkO v L T sz n xs R] (hh : One v → Run P Q N F fr L k) : Run P Q N F fr L k := run_ent (ent_one_at h.out) (run_pur fun x => hh ⟨x⟩)
theorem ops_oneAt {T : TypeId} (v : Value) [h : PkO v L T sz n xs R] (hh : One v → Ops P Q N F ops rest fr L k) : Ops P Q N F ops rest fr L k := ops_ent (ent_one_at h.out) (ops_pur fun x => hh ⟨x⟩)
theorem run_lenAt (v : Value) [h : PkS v L C sz n xs R] (hh : xs.length = n * sz → Run P Q N F fr L k) : Run P Q N F fr L k := run_ent (ent_len_at (v := v)) (run_pur hh)
theorem ops_lenAt (v : Value) [h : PkS v L C sz n xs R] (hh : xs.length = n * sz → Ops P Q N F ops rest fr L k) : Ops P Q N F ops rest fr L k := ops_ent (ent_len_at (v := v)) (ops_pur hh)
theorem run_to {ι : Type} {frI : ι → Fr} {LI : ι → List HProp} {p : ι → Prop} (i : ι) {R : List HProp} (hp : p i) (hs : Sub (frI i) fr) (he : Tk L (LI i) R) : Run P Q N F fr L (.pred (Is N F frI LI p) :: k) := run_is i hp hs he.ent
theorem sc {fr fr' : Fr} (t : Nat) {v : Value} (h : fr.lookup t = some v) (hs : Sub fr' fr) : Sub ((t, v) :: fr') fr := Sub.cons h hs
/-- Some pieces are there, whatever is left. -/
def Goes (L C : List HProp) : Prop := ∃ R, Tk L C R
theorem Goes.nil {L : List HProp} : Goes L [] := ⟨L, Tk.nil⟩
theorem Goes.cons {c : HProp} {L L1 cs : List HProp} (h : Pick c L L1) : Goes L1 cs → Goes L (c :: cs) := fun ⟨R, h'⟩ => ⟨R, Tk.pick h h'⟩
theorem Goes.pur {q : Prop} {L cs : List HProp} (h : q) : Goes L cs → Goes L (SL.pur q :: cs) := fun ⟨R, h'⟩ => ⟨R, Tk.pur h h'⟩
theorem Goes.exi {α : Sort _} {f : α → HProp} {L cs : List HProp} {x : α} : Goes L (f x :: cs) → Goes L (SL.exi f :: cs) := fun ⟨R, h'⟩ => ⟨R, Tk.exi x h'⟩
theorem Goes.all {A L cs C : List HProp} [h : App A cs C] : Goes L C → Goes L (All A :: cs) := fun ⟨R, h'⟩ => ⟨R, Tk.all (by rw [h.out]; exact h')⟩
theorem Goes.ent {L C : List HProp} : Goes L C → Ent L C := fun ⟨_, h⟩ => h.ent
theorem goes_of {L L' C : List HProp} (h : Ent L L') : Goes L' C → Goes L C := fun ⟨R, h'⟩ => ⟨R, Ent.trans h h'⟩
theorem rets_one {fn : Func} {t : Nat} {v : Value} {Rf : Value → List HProp} (hds : N.ds = []) (hres : fn.results = #[.tmp t]) (hv : fr.lookup t = some v) (he : Goes L (Rf v)) :
    Run P (bodyPost P fn fun e w' => ∃ v, e = .returned v ∧ Holds (Rf v) F w') N F fr L (.code .ret :: k) := he.elim fun _ h => run_ret (ret_one hds hres hv h)
theorem rets_two {fn : Func} {t u : Nat} {v x : Value} {Rf : Value → List HProp} (hds : N.ds = []) (hres : fn.results = #[.tmp t, .tmp u]) (hv : fr.lookup t = some v) (hx : fr.lookup u = some x) (he : Goes L (Rf (.tuple #[v, x]))) :
    Run P (bodyPost P fn fun e w' => ∃ v, e = .returned v ∧ Holds (Rf v) F w') N F fr L (.code .ret :: k) := he.elim fun _ h => run_ret (ret_two hds hres hv hx h)
theorem rets_none {fn : Func} {Rf : Value → List HProp} (hds : N.ds = []) (hres : fn.results = #[]) (he : Goes L (Rf (.tuple #[]))) :
    Run P (bodyPost P fn fun e w' => ∃ v, e = .returned v ∧ Holds (Rf v) F w') N F fr L (.code .ret :: k) := he.elim fun _ h => run_ret (ret_none hds hres h)
theorem ends_none {fn : Func} {Rf : Value → List HProp} (hds : N.ds = []) (hres : fn.results = #[]) (he : Goes L (Rf (.tuple #[]))) :
    Run P (bodyPost P fn fun e w' => ∃ v, e = .returned v ∧ Holds (Rf v) F w') N F fr L [] := he.elim fun _ h => run_end (end_none hds hres h)
theorem runs_is {ι : Type} {frI : ι → Fr} {LI : ι → List HProp} {p : ι → Prop} (i : ι) (hp : p i) (hs : Sub (frI i) fr) (he : Goes L (LI i)) : Run P Q N F fr L (.pred (Is N F frI LI p) :: k) := run_is i hp hs he.ent
theorem runs_loop {c : Code} {ι : Type} (frI : ι → Fr) (LI : ι → List HProp) (p : ι → Prop) (μ : ι → Nat) (i0 : ι) (hp : p i0) (hs : Sub (frI i0) fr) (he : Goes L (LI i0))
    (round : ∀ i, p i → Run P Q N F (frI i) (LI i) (.code c :: .pred (Is N F frI LI (fun j => p j ∧ μ j < μ i)) :: k)) : Run P Q N F fr L (.code (.loop c) :: k) := run_loop frI LI p μ i0 hp hs he.ent round
instance one_tlv {i : Nat} [h : One v] : One (tlv sz v i) := ⟨tlv_one h.out⟩
end
end Go.Proofs.YtaibgfnfmkpibaaGreatDoor.SL
