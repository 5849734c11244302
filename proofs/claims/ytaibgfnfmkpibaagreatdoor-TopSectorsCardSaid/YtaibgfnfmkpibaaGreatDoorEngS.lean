/- Slices: a base that may be none, an offset, a length, a capacity; and what may be done with them. No program in sight. -/
import Derived.Test.YtaibgfnfmkpibaaGreatDoorEngD
namespace Go.Proofs.YtaibgfnfmkpibaaGreatDoor.SL
open Go

/-- A slice, and a pointer, into a base that may be none. -/
def sv (β : Option Nat) (o n c : Nat) : Value := .slice (β.map fun b => ⟨b, o, none⟩) n c
def pv (β : Option Nat) (o : Nat) : Value := .pointer (β.map fun b => ⟨b, o, none⟩)
/-- A base's cells, that may be written; that may be read. -/
def ob (β : Option Nat) (T : TypeId) (vs : List Value) : HProp := match β with
  | none => pur (vs = [])
  | some b => blk b T vs
def orb (β : Option Nat) (T : TypeId) (vs : List Value) : HProp := match β with
  | none => pur (vs = [])
  | some b => rbk b T vs

section
variable {P : Program} {fr : Fr} {L R : List HProp} {ty t : TypeId} {F : Base} {w : World}

theorem holds_orb {β : Option Nat} {T : TypeId} {vs : List Value} (h : Holds (orb β T vs :: L) F w) (hv : vs ≠ []) :
    ∃ b, β = some b ∧ ∃ fz T, w.heap[b]? = some (.cells vs.toArray T fz) := by
  cases β with
  | none => exact absurd (holds_pur.1 h).1 hv
  | some b =>
    obtain ⟨T', fz, hb⟩ := holds_rd (c := rbk b T vs) h
    exact ⟨b, rfl, fz, T', hb⟩
theorem holds_ob {β : Option Nat} {T : TypeId} {vs : List Value} (h : Holds (ob β T vs :: L) F w) (hv : vs ≠ []) :
    ∃ b, β = some b ∧ ∃ fz T, w.heap[b]? = some (.cells vs.toArray T fz) := by
  cases β with
  | none => exact absurd (holds_pur.1 h).1 hv
  | some b =>
    obtain ⟨T', fz, hb⟩ := holds_rd (c := blk b T vs) h
    exact ⟨b, rfl, fz, T', hb⟩

theorem p_len_sv {β : Option Nat} {o n c : Nat} {e ats : TypeId} {x : Operand} [UT P ats (.slice e)] (hx : ev fr x = some (sv β o n c)) : Pure P (.call ⟨.builtin .len, #[x], #[ats]⟩) ty fr (.int .i64 n) := p_len_slice hx

/-- The address of an element: its base is not none where it has cells. -/
theorem q_indexAddr_o {x ix : Operand} {β : Option Nat} {o n c sz by' : Nat} {e T : TypeId} {k : IntKind} {i : Int} {vs : List Value} [UT P t (.slice e)] [SZ P e sz by'] (hx : ev fr x = some (sv β o n c))
    (hi : ev fr ix = some (.int k i)) (he : Ent L (ob β T vs :: R)) (h0 : 0 ≤ i) (h1 : i < n) (hv : vs ≠ []) : Quiet P (.indexAddr t x ix) ty fr L (pv β (o + i.toNat * sz)) := by
  intro n' F a w d pos after g hr hh
  obtain ⟨b, rfl, _⟩ := holds_ob (he F w hh) hv
  exact p_indexAddr (b := b) hx hi h0 h1 n' a w d pos after g hr
theorem q_indexAddr_ro {x ix : Operand} {β : Option Nat} {o n c sz by' : Nat} {e T : TypeId} {k : IntKind} {i : Int} {vs : List Value} [UT P t (.slice e)] [SZ P e sz by'] (hx : ev fr x = some (sv β o n c))
    (hi : ev fr ix = some (.int k i)) (he : Ent L (orb β T vs :: R)) (h0 : 0 ≤ i) (h1 : i < n) (hv : vs ≠ []) : Quiet P (.indexAddr t x ix) ty fr L (pv β (o + i.toNat * sz)) := by
  intro n' F a w d pos after g hr hh
  obtain ⟨b, rfl, _⟩ := holds_orb (he F w hh) hv
  exact p_indexAddr (b := b) hx hi h0 h1 n' a w d pos after g hr

theorem q_load_o {x : Operand} {β : Option Nat} {o : Nat} {T : TypeId} {vs : List Value} {v : Value} [SC P t] (hx : ev fr x = some (pv β o))
    (he : Ent L (ob β T vs :: R)) (hv : vs[o]? = some v) : Quiet P (.load t x) ty fr L v := by
  intro n' F a w d pos after g hr hh
  obtain ⟨b, rfl, _⟩ := holds_ob (he F w hh) (by rintro rfl; cases hv)
  exact q_load_c (c := blk b T vs) hx he hv n' F a w d pos after g hr hh
theorem q_load_ro {x : Operand} {β : Option Nat} {o : Nat} {T : TypeId} {vs : List Value} {v : Value} [SC P t] (hx : ev fr x = some (pv β o))
    (he : Ent L (orb β T vs :: R)) (hv : vs[o]? = some v) : Quiet P (.load t x) ty fr L v := by
  intro n' F a w d pos after g hr hh
  obtain ⟨b, rfl, _⟩ := holds_orb (he F w hh) (by rintro rfl; cases hv)
  exact q_load_c (c := rbk b T vs) hx he hv n' F a w d pos after g hr hh
theorem q_nil_o {x : Operand} {β : Option Nat} {o : Nat} {T : TypeId} {vs : List Value} (hx : ev fr x = some (pv β o))
    (he : Ent L (ob β T vs :: R)) (hv : vs ≠ []) : Quiet P (.nilCheck x) ty fr L (pv β o) := by
  intro n' F a w d pos after g hr hh
  obtain ⟨b, rfl, _⟩ := holds_ob (he F w hh) hv
  exact p_nil_ptr (ad := ⟨b, o, none⟩) hx n' a w d pos after g hr
end

theorem Ent.of_all {A L : List HProp} : Ent (All A :: L) (A ++ L) := fun _ _ hh => holds_all.1 hh
theorem Ent.all0 {L : List HProp} : Ent (All [] :: L) (L) := Ent.of_all
theorem Ent.all1 {a : HProp} {L : List HProp} : Ent (All [a] :: L) (a :: L) := Ent.of_all
theorem Ent.all2 {a b : HProp} {L : List HProp} : Ent (All [a, b] :: L) (a :: b :: L) := Ent.of_all
theorem Ent.all3 {a b c : HProp} {L : List HProp} : Ent (All [a, b, c] :: L) (a :: b :: c :: L) := Ent.of_all
theorem Ent.all4 {a b c d : HProp} {L : List HProp} : Ent (All [a, b, c, d] :: L) (a :: b :: c :: d :: L) := Ent.of_all
theorem Ent.all5 {a b c d e : HProp} {L : List HProp} : Ent (All [a, b, c, d, e] :: L) (a :: b :: c :: d :: e :: L) := Ent.of_all
theorem Ent.all6 {a b c d e f : HProp} {L : List HProp} : Ent (All [a, b, c, d, e, f] :: L) (a :: b :: c :: d :: e :: f :: L) := Ent.of_all
theorem Ent.all7 {a b c d e f g : HProp} {L : List HProp} : Ent (All [a, b, c, d, e, f, g] :: L) (a :: b :: c :: d :: e :: f :: g :: L) := Ent.of_all
theorem Ent.all8 {a b c d e f g h : HProp} {L : List HProp} : Ent (All [a, b, c, d, e, f, g, h] :: L) (a :: b :: c :: d :: e :: f :: g :: h :: L) := Ent.of_all

/-! ### Which form a goal has -/
section
variable {P : Program} {Q : Exit → Act → World → Prop} {n : Cfg} {F : Base} {fr : Fr} {L S : List HProp} {k : List Itm} {ops : Array Oper} {rest : List Oper} {p : Plan} {σ : Ord} {al : Bool} {ty t : TypeId} {v : Value}
theorem run_id (h : Run P Q n F fr L k) : Run P Q n F fr L k := h
theorem ops_id (h : Ops P Q n F ops rest fr L k) : Ops P Q n F ops rest fr L k := h
theorem dp_id (h : Dp P Q n F ops p S σ al fr L k) : Dp P Q n F ops p S σ al fr L k := h
theorem qi_move {x : Operand} (h : Quiet P (.move x) ty fr L v) : Quiet P (.move x) ty fr L v := h
theorem qi_nil {x : Operand} (h : Quiet P (.nilCheck x) ty fr L v) : Quiet P (.nilCheck x) ty fr L v := h
theorem qi_field {x : Operand} {i : Nat} (h : Quiet P (.fieldAddr t x i) ty fr L v) : Quiet P (.fieldAddr t x i) ty fr L v := h
theorem qi_load {x : Operand} (h : Quiet P (.load t x) ty fr L v) : Quiet P (.load t x) ty fr L v := h
theorem qi_index {x i : Operand} (h : Quiet P (.indexAddr t x i) ty fr L v) : Quiet P (.indexAddr t x i) ty fr L v := h
theorem qi_bin {o : BinOp} {x y : Operand} {yt : TypeId} (h : Quiet P (.binOp o t x y yt) ty fr L v) : Quiet P (.binOp o t x y yt) ty fr L v := h
theorem qi_call {c : Call} (h : Quiet P (.call c) ty fr L v) : Quiet P (.call c) ty fr L v := h
theorem si_store {x y : Operand} {ι : Type} {V : ι → Value} {R : ι → List HProp} (h : Step P (.store t x y) ty fr L V R) : Step P (.store t x y) ty fr L V R := h
theorem pu_id {op : Op} (h : Pure P op ty fr v) : Pure P op ty fr v := h
end

def u8 (c : UInt8) : Value := .int .u8 c.toNat
end Go.Proofs.YtaibgfnfmkpibaaGreatDoor.SL
