/- The operations that only look, one law each, over owned pieces of heap. No program in sight. -/
import Derived.Test.YtaibgfnfmkpibaaGreatDoorEngA
import Derived.Laws.Sem
import Derived.Laws.World
import Derived.Laws.Cells
import GoSem.Dispatch
namespace Go.Proofs.YtaibgfnfmkpibaaGreatDoor.SL
open Go

class UT (P : Program) (t : TypeId) (d : outParam TypeDesc) : Prop where
  out : P.underlying t = some d
/-- A type's size in cells and in bytes. -/
class SZ (P : Program) (t : TypeId) (n b : outParam Nat) : Prop where
  out : ∃ i, P.info? t = some i ∧ i.size = n ∧ i.bytes = b
/-- A type's zero value. -/
class ZV (P : Program) (t : TypeId) (z : outParam Value) : Prop where
  out : ∃ i, P.info? t = some i ∧ i.zero = some z
/-- A type of one cell. -/
class SC (P : Program) (t : TypeId) : Prop where
  out : ∃ d, P.underlying t = some d ∧ (∀ fs, d ≠ .struct fs) ∧ (∀ n e, d ≠ .array n e)
  size : ∃ i, P.info? t = some i ∧ i.size = 1
/-- A struct's or an array's type, of so many cells. -/
class AG (P : Program) (t : TypeId) (n : outParam Nat) : Prop where
  out : ∃ d, P.underlying t = some d ∧ ((∃ fs, d = .struct fs) ∨ (∃ m e, d = .array m e))
  size : ∃ i, P.info? t = some i ∧ i.size = n

/-- A struct's field that has cells: where it lies, and its type. -/
class FL (P : Program) (s : TypeId) (i : Nat) (off : outParam Nat) (ft : outParam TypeId) : Prop where
  out : ∃ fs f, P.underlying s = some (.struct fs) ∧ fs[i]? = some f ∧ f.offset = off ∧ f.type = ft
  size : ∃ i, P.info? ft = some i ∧ i.size ≠ 0

theorem SZ.of {P : Program} {t : TypeId} {n b : Nat} (h : (P.info? t).map (fun i => (i.size, i.bytes)) = some (n, b)) : SZ P t n b := by
  cases hi : P.info? t with
  | none => rw [hi] at h; cases h
  | some i => rw [hi] at h; cases h; exact ⟨i, hi, rfl, rfl⟩
theorem ZV.of {P : Program} {t : TypeId} {z : Value} (h : (P.info? t).bind (fun i => i.zero) = some z) : ZV P t z := by
  cases hi : P.info? t with
  | none => rw [hi] at h; cases h
  | some i => rw [hi] at h; exact ⟨i, hi, h⟩
def isAggD : TypeDesc → Bool
  | .struct _ | .array _ _ => true
  | _ => false
def kindB (P : Program) (t : TypeId) : Option (Bool × Nat) := (P.underlying t).bind fun d => (P.info? t).map fun i => (isAggD d, i.size)
theorem kindB_spec {P : Program} {t : TypeId} {c : Bool} {n : Nat} (h : kindB P t = some (c, n)) : ∃ d i, P.underlying t = some d ∧ P.info? t = some i ∧ isAggD d = c ∧ i.size = n := by
  unfold kindB at h
  cases hd : P.underlying t with
  | none => rw [hd] at h; cases h
  | some d =>
    cases hi : P.info? t with
    | none => rw [hd, hi] at h; cases h
    | some i => rw [hd, hi] at h; cases h; exact ⟨d, i, rfl, rfl, rfl, rfl⟩
theorem SC.of {P : Program} {t : TypeId} (h : kindB P t = some (false, 1)) : SC P t := by
  obtain ⟨d, i, h1, h2, h3, h4⟩ := kindB_spec h
  exact ⟨⟨d, h1, (by rintro fs rfl; cases h3), (by rintro m e rfl; cases h3)⟩, ⟨i, h2, h4⟩⟩
theorem AG.of {P : Program} {t : TypeId} {n : Nat} (h : kindB P t = some (true, n)) : AG P t n := by
  obtain ⟨d, i, h1, h2, h3, h4⟩ := kindB_spec h
  refine ⟨⟨d, h1, ?_⟩, ⟨i, h2, h4⟩⟩
  cases d <;> first | exact .inl ⟨_, rfl⟩ | exact .inr ⟨_, _, rfl⟩ | cases h3
def flB (P : Program) (s : TypeId) (i : Nat) : Option (Nat × TypeId × Bool) := (P.underlying s).bind fun d => match d with
  | .struct fs => (fs[i]?).bind fun f => (P.info? f.type).map fun x => (f.offset, f.type, x.size == 0)
  | _ => none
theorem FL.of {P : Program} {s : TypeId} {i off : Nat} {ft : TypeId} (h : flB P s i = some (off, ft, false)) : FL P s i off ft := by
  unfold flB at h
  cases hd : P.underlying s with
  | none => rw [hd] at h; cases h
  | some d =>
    rw [hd] at h
    simp only [Option.bind_some] at h
    split at h
    · rename_i fs
      cases hf : fs[i]? with
      | none => rw [hf] at h; cases h
      | some f =>
        rw [hf] at h
        simp only [Option.bind_some] at h
        cases hx : P.info? f.type with
        | none => rw [hx] at h; cases h
        | some x =>
          rw [hx] at h
          simp only [Option.map_some, Option.some.injEq, Prod.mk.injEq] at h
          obtain ⟨h1, h2, h3⟩ := h
          exact ⟨⟨fs, f, hd, hf, h1, h2⟩, ⟨x, h2 ▸ hx, by simpa using h3⟩⟩
    · cases h

/-- A block of cells that may be written. -/
def blk (b : Nat) (T : TypeId) (vs : List Value) : HProp := fun H =>
  ∃ fz : Nat × Nat, (∀ i, i < vs.length → ¬ (fz.1 ≤ i ∧ i < fz.2)) ∧ H = [(b, .cells vs.toArray T fz)]
/-- A block of cells that may be read. -/
def rbk (b : Nat) (T : TypeId) (vs : List Value) : HProp := fun H => ∃ fz : Nat × Nat, H = [(b, .cells vs.toArray T fz)]

/-- A piece from which a block's cells can be read. -/
class Rd (c : HProp) (b : outParam Nat) (vs : outParam (List Value)) : Prop where
  out : ∀ H, c H → ∃ T fz, H = [(b, .cells vs.toArray T fz)]
instance {b : Nat} {T : TypeId} {vs : List Value} : Rd (blk b T vs) b vs := ⟨fun _ ⟨fz, _, h⟩ => ⟨T, fz, h⟩⟩
instance {b : Nat} {T : TypeId} {vs : List Value} : Rd (rbk b T vs) b vs := ⟨fun _ ⟨fz, h⟩ => ⟨T, fz, h⟩⟩

theorem holds_rd {c : HProp} {b : Nat} {vs : List Value} [r : Rd c b vs] {L : List HProp} {F : Base} {w : World} (h : Holds (c :: L) F w) :
    ∃ T fz, w.heap[b]? = some (.cells vs.toArray T fz) := by
  obtain ⟨H1, H2, h1, h2, hs⟩ := holds_cons.1 h
  obtain ⟨T, fz, rfl⟩ := r.out H1 h1
  exact ⟨T, fz, hs.has b _ (by simp)⟩

theorem cell_of {w : World} {b : Nat} {vs : List Value} {T : TypeId} {fz : Nat × Nat} (h : w.heap[b]? = some (.cells vs.toArray T fz)) (i : Nat) :
    w.cell? ⟨b, i, none⟩ = vs[i]? := by
  simp [World.cell?, h]

theorem shape_of {w : World} {b : Nat} {vs : List Value} {T : TypeId} {fz : Nat × Nat} (h : w.heap[b]? = some (.cells vs.toArray T fz)) :
    w.shape? b = some (T, vs.length) := by
  simp [World.shape?, h]

theorem addr_add (b o n : Nat) : Addr.add ⟨b, o, none⟩ n = ⟨b, o + n, none⟩ := by
  unfold Addr.add; split <;> simp_all

section
variable {P : Program} {w : World} {t : TypeId}
theorem run_ut {d : TypeDesc} [u : UT P t d] : (underlying t).run P w = .ok d w := by simp [underlying, u.out]
theorem run_size {n b : Nat} [u : SZ P t n b] : (sizeOf t).run P w = .ok n w := by
  obtain ⟨i, h, h1, h2⟩ := u.out; simp [sizeOf, typeInfo, h, h1]
theorem run_zero {z : Value} [u : ZV P t z] : (zeroValue t).run P w = .ok z w := by
  obtain ⟨i, h, h1⟩ := u.out; simp [zeroValue, typeInfo, h, h1]
theorem run_isAgg_sc [u : SC P t] : (isAgg t).run P w = .ok false w := by
  obtain ⟨d, h, h1, h2⟩ := u.out
  simp only [isAgg, underlying, Sem.run_bind, run_program, Result.andThen_ok, h]
  cases d <;> first | rfl | (exact absurd rfl (h1 _)) | (exact absurd rfl (h2 _ _))
theorem run_size_sc [u : SC P t] : (sizeOf t).run P w = .ok 1 w := by
  obtain ⟨i, h, h1⟩ := u.size; simp [sizeOf, typeInfo, h, h1]
theorem run_isAgg_ag {n : Nat} [u : AG P t n] : (isAgg t).run P w = .ok true w := by
  obtain ⟨d, h, h1⟩ := u.out
  simp only [isAgg, underlying, Sem.run_bind, run_program, Result.andThen_ok, h]
  rcases h1 with ⟨fs, rfl⟩ | ⟨m, e, rfl⟩ <;> rfl
theorem run_size_ag {n : Nat} [u : AG P t n] : (sizeOf t).run P w = .ok n w := by
  obtain ⟨i, h, h1⟩ := u.size; simp [sizeOf, typeInfo, h, h1]

theorem run_load_cell {a : Addr} {v : Value} (h : w.cell? a = some v) : (load a).run P w = .ok v w := by rw [run_load, h]
end

section
variable {P : Program} {fr : Fr} {L R : List HProp} {ty t : TypeId}

theorem p_move {x : Operand} {v : Value} (hx : ev fr x = some v) : Pure P (.move x) ty fr v := by
  intro n a w d pos after g hr
  simp [execOp, hr.ev hx]
theorem p_assign {x : Operand} {v : Value} (hx : ev fr x = some v) : Pure P (.assign x) ty fr v := by
  intro n a w d pos after g hr
  simp [execOp, hr.ev hx]
theorem p_pick_t {c x y : Operand} {v : Value} (hc : ev fr c = some (.bool true)) (hx : ev fr x = some v) : Pure P (.pick c x y) ty fr v := by
  intro n a w d pos after g hr
  simp [execOp, hr.ev hx, hr.ev hc, asBool]
theorem p_pick_f {c x y : Operand} {v : Value} (hc : ev fr c = some (.bool false)) (hx : ev fr y = some v) : Pure P (.pick c x y) ty fr v := by
  intro n a w d pos after g hr
  simp [execOp, hr.ev hx, hr.ev hc, asBool]

theorem q_load_c {x : Operand} {b o : Nat} {c : HProp} {vs : List Value} {v : Value} [Rd c b vs] [SC P t] (hx : ev fr x = some (.pointer (some ⟨b, o, none⟩)))
    (he : Ent L (c :: R)) (hv : vs[o]? = some v) : Quiet P (.load t x) ty fr L v := by
  intro n F a w d pos after g hr hh
  obtain ⟨T, fz, hb⟩ := holds_rd (he F w hh)
  simp only [execOp, hr.ev hx, Instr.loadAt, Instr.sureAddr, loadVar, pure_bind, Sem.run_bind, run_isAgg_sc, Result.andThen_ok, Bool.false_eq_true, if_false]
  rw [run_load_cell ((cell_of hb o).trans hv)]
  rfl

theorem q_load {x : Operand} {b o : Nat} {T : TypeId} {vs : List Value} {v : Value} [SC P t] (hx : ev fr x = some (.pointer (some ⟨b, o, none⟩)))
    (he : Ent L (blk b T vs :: R)) (hv : vs[o]? = some v) : Quiet P (.load t x) ty fr L v := q_load_c hx he hv
theorem q_load_r {x : Operand} {b o : Nat} {T : TypeId} {vs : List Value} {v : Value} [SC P t] (hx : ev fr x = some (.pointer (some ⟨b, o, none⟩)))
    (he : Ent L (rbk b T vs :: R)) (hv : vs[o]? = some v) : Quiet P (.load t x) ty fr L v := q_load_c hx he hv

theorem q_load_ag_c {x : Operand} {b o m : Nat} {c : HProp} {vs us : List Value} [Rd c b vs] [AG P t m] (hx : ev fr x = some (.pointer (some ⟨b, o, none⟩)))
    (he : Ent L (c :: R)) (hv : (vs.drop o).take m = us) (hl : us.length = m) : Quiet P (.load t x) ty fr L (.agg us.toArray) := by
  intro n F a w d pos after g hr hh
  obtain ⟨T, fz, hb⟩ := holds_rd (he F w hh)
  simp only [execOp, hr.ev hx, Instr.loadAt, Instr.sureAddr, loadVar, pure_bind, Sem.run_bind, run_isAgg_ag, run_size_ag, Result.andThen_ok, if_true]
  have h1 : (loadCells ⟨b, o, none⟩ m).run P w = .ok us.toArray w := by
    have := run_loadCells_list (P := P) (w := w) ⟨b, o, none⟩ us (by
      intro j v hj
      rw [addr_add, cell_of hb]
      have hlt : j < us.length := (List.getElem?_eq_some_iff.1 hj).1
      rw [← hv, List.getElem?_take_of_lt (by omega), List.getElem?_drop] at hj
      exact hj)
    rwa [hl] at this
  rw [h1]
  rfl

theorem q_load_ag {x : Operand} {b o m : Nat} {T : TypeId} {vs us : List Value} [AG P t m] (hx : ev fr x = some (.pointer (some ⟨b, o, none⟩)))
    (he : Ent L (blk b T vs :: R)) (hv : (vs.drop o).take m = us) (hl : us.length = m) : Quiet P (.load t x) ty fr L (.agg us.toArray) := q_load_ag_c hx he hv hl

theorem p_nil_ptr {x : Operand} {ad : Addr} (hx : ev fr x = some (.pointer (some ad))) : Pure P (.nilCheck x) ty fr (.pointer (some ad)) := by
  intro n a w d pos after g hr
  simp [execOp, hr.ev hx]
theorem p_nil_func {x : Operand} {f : FuncId} {u cap : Array Value} (hx : ev fr x = some (.func (.func f) u cap)) : Pure P (.nilCheck x) ty fr (.func (.func f) u cap) := by
  intro n a w d pos after g hr
  simp [execOp, hr.ev hx]

/-- A field that has cells. -/
theorem p_fieldAddr {s : TypeId} {x : Operand} {i b o off : Nat} {ft : TypeId} [u : FL P s i off ft] (hx : ev fr x = some (.pointer (some ⟨b, o, none⟩))) :
    Pure P (.fieldAddr s x i) ty fr (.pointer (some ⟨b, o + off, none⟩)) := by
  intro n a w d pos after g hr
  obtain ⟨fs, f, h1, h2, rfl, rfl⟩ := u.out
  obtain ⟨y, hy, hz⟩ := u.size
  have hs : (sizeOf f.type).run P w = .ok y.size w := by simp [sizeOf, typeInfo, hy]
  have hu : (underlying s).run P w = .ok (.struct fs) w := by simp [underlying, h1]
  simp [execOp, hr.ev hx, Instr.fieldAt, Instr.sureAddr, hu, h2, fieldPlace, hs, hz, addr_add]

theorem p_field_sc {s : TypeId} {x : Operand} {i off : Nat} {ft : TypeId} {cs : Array Value} {v : Value} [u : FL P s i off ft] [SC P ft] (hx : ev fr x = some (.agg cs))
    (hv : cs[off]? = some v) : Pure P (.field s x i) ty fr v := by
  intro n a w d pos after g hr
  obtain ⟨fs, f, h1, h2, rfl, rfl⟩ := u.out
  have hu : (underlying s).run P w = .ok (.struct fs) w := by simp [underlying, h1]
  simp [execOp, hr.ev hx, Instr.field, hu, h2, part, run_isAgg_sc, asAgg, hv]
theorem p_field_ag {s : TypeId} {x : Operand} {i off m : Nat} {ft : TypeId} {cs : Array Value} [u : FL P s i off ft] [AG P ft m] (hx : ev fr x = some (.agg cs)) :
    Pure P (.field s x i) ty fr (.agg (cs.extract off (off + m))) := by
  intro n a w d pos after g hr
  obtain ⟨fs, f, h1, h2, rfl, rfl⟩ := u.out
  have hu : (underlying s).run P w = .ok (.struct fs) w := by simp [underlying, h1]
  simp [execOp, hr.ev hx, Instr.field, hu, h2, part, run_isAgg_ag, run_size_ag, asAgg]

theorem p_indexAddr {x ix : Operand} {b o len cap sz by' : Nat} {e : TypeId} {k : IntKind} {i : Int} [UT P t (.slice e)] [SZ P e sz by'] (hx : ev fr x = some (.slice (some ⟨b, o, none⟩) len cap))
    (hi : ev fr ix = some (.int k i)) (h0 : 0 ≤ i) (h1 : i < len) : Pure P (.indexAddr t x ix) ty fr (.pointer (some ⟨b, o + i.toNat * sz, none⟩)) := by
  intro n a w d pos after g hr
  simp [execOp, hr.ev hx, hr.ev hi, Instr.indexAt, asIntOf, run_ut, run_size, h0, h1, addr_add]
theorem p_indexAddr_arr {x ix : Operand} {b o len sz by' : Nat} {e : TypeId} {k : IntKind} {i : Int} [UT P t (.array len e)] [SZ P e sz by'] (hx : ev fr x = some (.pointer (some ⟨b, o, none⟩)))
    (hi : ev fr ix = some (.int k i)) (h0 : 0 ≤ i) (h1 : i < len) : Pure P (.indexAddr t x ix) ty fr (.pointer (some ⟨b, o + i.toNat * sz, none⟩)) := by
  intro n a w d pos after g hr
  simp [execOp, hr.ev hx, hr.ev hi, Instr.indexAt, Instr.sureAddr, asIntOf, run_ut, run_size, h0, h1, addr_add]

theorem p_index_str {x ix : Operand} {s : ByteArray} {k : IntKind} {i : Int} {c : UInt8} [UT P t .string] (hx : ev fr x = some (.string s)) (hi : ev fr ix = some (.int k i)) (h0 : 0 ≤ i)
    (h1 : s.data.toList[i.toNat]? = some c) : Pure P (.index t x ix) ty fr (.int .u8 c.toNat) := by
  intro n a w d pos after g hr
  have h2 : s[i.toNat]? = some c := by
    have hlt := (List.getElem?_eq_some_iff.1 h1).1
    have hlt' : i.toNat < s.size := by simpa using hlt
    rw [getElem?_pos s i.toNat hlt']
    have := (List.getElem?_eq_some_iff.1 h1).2
    rw [← this]; rfl
  simp [execOp, hr.ev hx, hr.ev hi, Instr.index, asIntOf, run_ut, h0, h2]
theorem p_index_arr {x ix : Operand} {cs : Array Value} {len sz by' : Nat} {e : TypeId} {k : IntKind} {i : Int} {v : Value} [UT P t (.array len e)] [SZ P e sz by'] [SC P e] (hx : ev fr x = some (.agg cs))
    (hi : ev fr ix = some (.int k i)) (h0 : 0 ≤ i) (h1 : i < len) (hv : cs[i.toNat * sz]? = some v) : Pure P (.index t x ix) ty fr v := by
  intro n a w d pos after g hr
  simp [execOp, hr.ev hx, hr.ev hi, Instr.index, asIntOf, run_ut, run_size, h0, h1, part, run_isAgg_sc, hv]

theorem p_extract {x : Operand} {i : Nat} {vs : Array Value} {v : Value} (hx : ev fr x = some (.tuple vs)) (hv : vs[i]? = some v) : Pure P (.extract x i) ty fr v := by
  intro n a w d pos after g hr
  simp [execOp, hr.ev hx, Instr.extract, hv]

def notIface : TypeDesc → Bool
  | .interface _ => false
  | _ => true
theorem p_makeInterface {x : Operand} {v : Value} {D : TypeDesc} [UT P t D] (hD : notIface D = true) (hx : ev fr x = some v) : Pure P (.makeInterface t x) ty fr (.iface t v) := by
  intro n a w d pos after g hr
  simp only [execOp, hr.ev hx, Instr.makeInterface, Sem.run_bind, run_ut (P := P) (t := t), Result.andThen_ok]
  cases D <;> first | rfl | (simp [notIface] at hD)

theorem p_makeFunc {f : FuncId} {xs : Array Operand} {vs : Array Value} (hx : xs.toList.mapM (ev fr) = some vs.toList) : Pure P (.makeFunc (.func f) #[] xs) ty fr (.func (.func f) #[] vs) := by
  intro n a w d pos after g hr
  have : xs.map a.eval = vs := by
    apply Array.ext'
    rw [Array.toList_map]
    revert hx
    generalize xs.toList = l
    generalize vs.toList = u
    intro hx
    induction l generalizing u with
    | nil => simp at hx; simpa using hx
    | cons y l ih =>
      simp only [List.mapM_cons, Option.bind_eq_bind, Option.bind_eq_some_iff] at hx
      obtain ⟨v, hv, us, hus, he⟩ := hx
      cases he
      simp [hr.ev hv, ih us hus]
  simp [execOp, Instr.makeFunc, this]

/-! ### Numbers -/
variable {k : IntKind} {i j : Int} {x y : Operand} {yt : TypeId}

theorem p_add (hx : ev fr x = some (.int k i)) (hy : ev fr y = some (.int k j)) {r : Int} (hr' : k.wrap (i + j) = r) : Pure P (.binOp .add t x y yt) ty fr (.int k r) := by
  intro n a w d pos after g hr
  subst hr'
  simp [execOp, hr.ev hx, hr.ev hy, eqGuard, binOp, Op.intArith]
theorem p_sub (hx : ev fr x = some (.int k i)) (hy : ev fr y = some (.int k j)) {r : Int} (hr' : k.wrap (i - j) = r) : Pure P (.binOp .sub t x y yt) ty fr (.int k r) := by
  intro n a w d pos after g hr
  subst hr'
  simp [execOp, hr.ev hx, hr.ev hy, eqGuard, binOp, Op.intArith]
theorem p_mul (hx : ev fr x = some (.int k i)) (hy : ev fr y = some (.int k j)) {r : Int} (hr' : k.wrap (i * j) = r) : Pure P (.binOp .mul t x y yt) ty fr (.int k r) := by
  intro n a w d pos after g hr
  subst hr'
  simp [execOp, hr.ev hx, hr.ev hy, eqGuard, binOp, Op.intArith]
theorem p_quo (hx : ev fr x = some (.int k i)) (hy : ev fr y = some (.int k j)) (h0 : j ≠ 0) {r : Int} (hr' : k.wrap (i.tdiv j) = r) : Pure P (.binOp .quo t x y yt) ty fr (.int k r) := by
  intro n a w d pos after g hr
  subst hr'
  simp [execOp, hr.ev hx, hr.ev hy, eqGuard, binOp, Op.intDiv, h0]
theorem p_rem (hx : ev fr x = some (.int k i)) (hy : ev fr y = some (.int k j)) (h0 : j ≠ 0) {r : Int} (hr' : i.tmod j = r) : Pure P (.binOp .rem t x y yt) ty fr (.int k r) := by
  intro n a w d pos after g hr
  subst hr'
  simp [execOp, hr.ev hx, hr.ev hy, eqGuard, binOp, Op.intDiv, h0]
theorem p_and (hx : ev fr x = some (.int k i)) (hy : ev fr y = some (.int k j)) {r : Int} (hr' : k.wrap ((BitVec.ofInt k.bits i &&& BitVec.ofInt k.bits j).toNat) = r) : Pure P (.binOp .and t x y yt) ty fr (.int k r) := by
  intro n a w d pos after g hr
  subst hr'
  simp [execOp, hr.ev hx, hr.ev hy, eqGuard, binOp, Op.intBits]
theorem p_or (hx : ev fr x = some (.int k i)) (hy : ev fr y = some (.int k j)) {r : Int} (hr' : k.wrap ((BitVec.ofInt k.bits i ||| BitVec.ofInt k.bits j).toNat) = r) : Pure P (.binOp .or t x y yt) ty fr (.int k r) := by
  intro n a w d pos after g hr
  subst hr'
  simp [execOp, hr.ev hx, hr.ev hy, eqGuard, binOp, Op.intBits]
theorem p_xor (hx : ev fr x = some (.int k i)) (hy : ev fr y = some (.int k j)) {r : Int} (hr' : k.wrap ((BitVec.ofInt k.bits i ^^^ BitVec.ofInt k.bits j).toNat) = r) : Pure P (.binOp .xor t x y yt) ty fr (.int k r) := by
  intro n a w d pos after g hr
  subst hr'
  simp [execOp, hr.ev hx, hr.ev hy, eqGuard, binOp, Op.intBits]
theorem p_shl {k' : IntKind} (hx : ev fr x = some (.int k i)) (hy : ev fr y = some (.int k' j)) (h0 : 0 ≤ j) {r : Int} (hr' : k.wrap (i * 2 ^ (min j.toNat k.bits)) = r) : Pure P (.binOp .shl t x y yt) ty fr (.int k r) := by
  intro n a w d pos after g hr
  subst hr'
  simp [execOp, hr.ev hx, hr.ev hy, eqGuard, binOp, Op.shift, Int.not_lt.2 h0]
theorem p_shr {k' : IntKind} (hx : ev fr x = some (.int k i)) (hy : ev fr y = some (.int k' j)) (h0 : 0 ≤ j) {r : Int} (hr' : i.fdiv (2 ^ (min j.toNat k.bits)) = r) : Pure P (.binOp .shr t x y yt) ty fr (.int k r) := by
  intro n a w d pos after g hr
  subst hr'
  simp [execOp, hr.ev hx, hr.ev hy, eqGuard, binOp, Op.shift, Int.not_lt.2 h0]

theorem p_lss (hx : ev fr x = some (.int k i)) (hy : ev fr y = some (.int k j)) : Pure P (.binOp .lss t x y yt) ty fr (.bool (decide (i < j))) := by
  intro n a w d pos after g hr
  simp [execOp, hr.ev hx, hr.ev hy, eqGuard, binOp, Op.intCmp]
theorem p_leq (hx : ev fr x = some (.int k i)) (hy : ev fr y = some (.int k j)) : Pure P (.binOp .leq t x y yt) ty fr (.bool (decide (i ≤ j))) := by
  intro n a w d pos after g hr
  simp [execOp, hr.ev hx, hr.ev hy, eqGuard, binOp, Op.intCmp]
theorem p_gtr (hx : ev fr x = some (.int k i)) (hy : ev fr y = some (.int k j)) : Pure P (.binOp .gtr t x y yt) ty fr (.bool (decide (j < i))) := by
  intro n a w d pos after g hr
  simp [execOp, hr.ev hx, hr.ev hy, eqGuard, binOp, Op.intCmp]
theorem p_geq (hx : ev fr x = some (.int k i)) (hy : ev fr y = some (.int k j)) : Pure P (.binOp .geq t x y yt) ty fr (.bool (decide (j ≤ i))) := by
  intro n a w d pos after g hr
  simp [execOp, hr.ev hx, hr.ev hy, eqGuard, binOp, Op.intCmp]
theorem p_eql (hx : ev fr x = some (.int k i)) (hy : ev fr y = some (.int k j)) : Pure P (.binOp .eql t x y yt) ty fr (.bool (decide (i = j))) := by
  intro n a w d pos after g hr
  by_cases h : i = j <;> simp [execOp, hr.ev hx, hr.ev hy, eqGuard, binOp, Op.intCmp, h]
theorem p_neq (hx : ev fr x = some (.int k i)) (hy : ev fr y = some (.int k j)) : Pure P (.binOp .neq t x y yt) ty fr (.bool (decide (i ≠ j))) := by
  intro n a w d pos after g hr
  by_cases h : i = j <;> simp [execOp, hr.ev hx, hr.ev hy, eqGuard, binOp, Op.intCmp, h]

theorem p_not {c : Bool} (hx : ev fr x = some (.bool c)) : Pure P (.unOp .not t x) ty fr (.bool (!c)) := by
  intro n a w d pos after g hr
  simp [execOp, hr.ev hx, Op.unary]
theorem p_neg (hx : ev fr x = some (.int k i)) {r : Int} (hr' : k.wrap (0 - i) = r) : Pure P (.unOp .neg t x) ty fr (.int k r) := by
  intro n a w d pos after g hr
  subst hr'
  simp [execOp, hr.ev hx, Op.unary, Op.intArith]
theorem p_conv {src : TypeId} {D : TypeDesc} {k' : IntKind} [UT P src D] [UT P t (.int k')] (hx : ev fr x = some (.int k i)) {r : Int} (hr' : k'.wrap i = r) : Pure P (.convert src t x) ty fr (.int k' r) := by
  intro n a w d pos after g hr
  subst hr'
  simp only [execOp, hr.ev hx, convert, Sem.run_bind, run_ut (P := P) (t := src), run_ut (P := P) (t := t), Result.andThen_ok]
  cases D <;> rfl

theorem p_len_slice {ad : Option Addr} {len cap : Nat} {e ats : TypeId} [UT P ats (.slice e)] (hx : ev fr x = some (.slice ad len cap)) : Pure P (.call ⟨.builtin .len, #[x], #[ats]⟩) ty fr (.int .i64 len) := by
  intro n a w d pos after g hr
  simp [execOp, resolve, invoke, builtin, Builtin.len_, hr.ev hx, run_ut, goInt]
theorem p_len_str {s : ByteArray} {ats : TypeId} [UT P ats .string] (hx : ev fr x = some (.string s)) : Pure P (.call ⟨.builtin .len, #[x], #[ats]⟩) ty fr (.int .i64 s.size) := by
  intro n a w d pos after g hr
  simp [execOp, resolve, invoke, builtin, Builtin.len_, hr.ev hx, run_ut, goInt]
theorem p_min {ats : Array TypeId} (hx : ev fr x = some (.int k i)) (hy : ev fr y = some (.int k j)) : Pure P (.call ⟨.builtin .min, #[x, y], ats⟩) ty fr (.int k (if j < i then j else i)) := by
  intro n a w d pos after g hr
  simp [execOp, resolve, invoke, builtin, Builtin.min_, Builtin.min2, hr.ev hx, hr.ev hy]
theorem p_max {ats : Array TypeId} (hx : ev fr x = some (.int k i)) (hy : ev fr y = some (.int k j)) : Pure P (.call ⟨.builtin .max, #[x, y], ats⟩) ty fr (.int k (if i < j then j else i)) := by
  intro n a w d pos after g hr
  simp [execOp, resolve, invoke, builtin, Builtin.max_, Builtin.max2, hr.ev hx, hr.ev hy]
end
end Go.Proofs.YtaibgfnfmkpibaaGreatDoor.SL
