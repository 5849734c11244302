/- The operations that write and make, one law each, over owned pieces of heap. No program in sight. -/
import Derived.Test.YtaibgfnfmkpibaaGreatDoorEngB
namespace Go.Proofs.YtaibgfnfmkpibaaGreatDoor.SL
open Go

section
variable {P : Program} {fr : Fr} {L R : List HProp} {ty t : TypeId} {F : Base} {w : World}

theorem oneCell_cells {v : Value} (h : v.oneCell' = true) : v.cells = #[v] := by cases v <;> first | rfl | (simp [Value.oneCell'] at h)

theorem holds_blk {b : Nat} {T : TypeId} {vs : List Value} (h : Holds (blk b T vs :: L) F w) :
    ∃ fz : Nat × Nat, (∀ i, i < vs.length → ¬ (fz.1 ≤ i ∧ i < fz.2)) ∧ Holds (pt b (.cells vs.toArray T fz) :: L) F w := by
  obtain ⟨H1, H2, ⟨fz, h0, rfl⟩, h2, hs⟩ := holds_cons.1 h
  exact ⟨fz, h0, holds_cons.2 ⟨_, H2, rfl, h2, hs⟩⟩
theorem blk_holds {b : Nat} {T : TypeId} {vs : List Value} {fz : Nat × Nat} (h0 : ∀ i, i < vs.length → ¬ (fz.1 ≤ i ∧ i < fz.2))
    (h : Holds (pt b (.cells vs.toArray T fz) :: L) F w) : Holds (blk b T vs :: L) F w := by
  obtain ⟨H1, H2, rfl, h2, hs⟩ := holds_cons.1 h
  exact holds_cons.2 ⟨_, H2, ⟨fz, h0, rfl⟩, h2, hs⟩

theorem setCell_heap {b o : Nat} {vs : List Value} {T : TypeId} {fz : Nat × Nat} {v : Value} (h : w.heap[b]? = some (.cells vs.toArray T fz)) :
    (w.setCell ⟨b, o, none⟩ v).heap[b]? = some (.cells (vs.set o v).toArray T fz) ∧ ∀ c, c ≠ b → (w.setCell ⟨b, o, none⟩ v).heap[c]? = w.heap[c]? := by
  constructor
  · simp [World.setCell, Array.getElem?_modify, h]
  · intro c hc
    simp [World.setCell, Array.getElem?_modify, Ne.symm hc]

theorem holds_setCell {b o : Nat} {vs : List Value} {T : TypeId} {v : Value} (ho : o < vs.length) (h : Holds (blk b T vs :: L) F w) :
    w.cell? ⟨b, o, none⟩ = some vs[o] ∧ w.frozen? ⟨b, o, none⟩ = false ∧ Holds (blk b T (vs.set o v) :: L) F (w.setCell ⟨b, o, none⟩ v) := by
  obtain ⟨fz, h0, hp⟩ := holds_blk h
  have hb := holds_pt hp
  refine ⟨by rw [cell_of hb]; simp [ho], ?_, blk_holds (fz := fz) (by simpa using h0) (holds_set hp (setCell_heap hb).1 (setCell_heap hb).2 rfl rfl)⟩
  simp only [World.frozen?, hb]
  have := h0 o ho
  simpa using this

theorem run_store_blk {b o : Nat} {vs : List Value} {T : TypeId} {v : Value} (h1 : v.oneCell' = true) (ho : o < vs.length) (h : Holds (blk b T vs :: L) F w) :
    (store ⟨b, o, none⟩ v).run P w = .ok () (w.setCell ⟨b, o, none⟩ v) := by
  obtain ⟨hc, hf, _⟩ := holds_setCell (v := v) ho h
  rw [run_store _ _ _ _ _ h1, hc, hf]
  rfl

/-- A list with some of it written over. -/
def over (vs : List Value) (o : Nat) (us : List Value) : List Value := vs.take o ++ us ++ vs.drop (o + us.length)

theorem over_cons {vs : List Value} {o : Nat} {u : Value} {us : List Value} (h : o + us.length + 1 ≤ vs.length) : over (vs.set o u) (o + 1) us = over vs o (u :: us) := by
  unfold over
  have h1 : (vs.set o u).take (o + 1) = vs.take o ++ [u] := by
    rw [List.take_add_one, List.take_set_of_le (by omega)]
    simp [show o < vs.length by omega]
  rw [h1, List.drop_set_of_lt (by omega)]
  simp [Nat.add_assoc, Nat.add_comm 1]

theorem over_length {vs : List Value} {o : Nat} {us : List Value} (h : o + us.length ≤ vs.length) : (over vs o us).length = vs.length := by
  unfold over
  simp
  omega

theorem storeCells_blk {b : Nat} {T : TypeId} : ∀ (us : List Value) (o i : Nat) (vs : List Value) (w : World), (∀ u ∈ us, Value.oneCell' u = true) → o + i + us.length ≤ vs.length → Holds (blk b T vs :: L) F w →
    ∃ w', (storeCells ⟨b, o, none⟩ us i).run P w = .ok () w' ∧ Holds (blk b T (over vs (o + i) us) :: L) F w'
  | [], o, i, vs, w, _, _, h => ⟨w, rfl, by simpa [over] using h⟩
  | u :: us, o, i, vs, w, h1, hl, h => by
    have hlt : o + i < vs.length := by simp at hl; omega
    have hs := run_store_blk (P := P) (h1 u (by simp)) hlt h
    have hh := (holds_setCell (v := u) hlt h).2.2
    obtain ⟨w', hr, hh'⟩ := storeCells_blk us o (i + 1) (vs.set (o + i) u) _ (fun x hx => h1 x (by simp [hx])) (by simp at hl ⊢; omega) hh
    refine ⟨w', ?_, ?_⟩
    · simp only [storeCells, addr_add, Sem.run_bind, hs, Result.andThen_ok]
      exact hr
    · have := over_cons (vs := vs) (o := o + i) (u := u) (us := us) (by simp at hl; omega)
      rw [← this]; exact hh'

theorem wpIn_skip' {r : Option Nat} {o : Oper} {a : Act} {K : Act → World → Prop} {Q : Exit → Act → World → Prop} {w w' : World} (h : (execOp a.eval o).run P w = .ok .skip w') (hk : K (a.put o.dst undef) w') :
    Oper.wpIn (WF r) 0 P o a w K Q := by
  refine ⟨fun _ _ => trivial, ?_⟩
  rw [semAt_execOp h (by simp)]
  exact hk

theorem s_store {x y : Operand} {b o : Nat} {T : TypeId} {vs : List Value} {v : Value} [SC P t] (hx : ev fr x = some (.pointer (some ⟨b, o, none⟩))) (hy : ev fr y = some v)
    (h1 : v.oneCell' = true) (he : Ent L (blk b T vs :: R)) (ho : o < vs.length) {vs' : List Value} (hvs : vs.set o v = vs') :
    Step P (.store t x y) ty fr L (fun _ : Unit => undef) (fun _ => blk b T vs' :: R) := by
  intro n F a w d pos after g K Q hr hh hk
  have hh := he F w hh
  have hs := run_store_blk (P := P) h1 ho hh
  have hh' := (holds_setCell (v := v) ho hh).2.2
  refine wpIn_skip' (w' := w.setCell ⟨b, o, none⟩ v) ?_ (hk () _ (hvs ▸ hh'))
  simp only [execOp, hr.ev hx, hr.ev hy, Instr.storeAt, Instr.sureAddr, pure_bind, storeVar, oneCell_cells h1, Sem.run_bind, run_size_sc, Result.andThen_ok]
  simp only [List.size_toArray, List.length_cons, List.length_nil, ne_eq, Nat.zero_add, not_true_eq_false, if_false, storeCells, addr_add, Nat.add_zero, Sem.run_bind, Sem.run_pure, Result.andThen_ok, hs]

theorem s_store_ag {x y : Operand} {b o m : Nat} {T : TypeId} {vs us : List Value} [AG P t m] (hx : ev fr x = some (.pointer (some ⟨b, o, none⟩))) (hy : ev fr y = some (.agg us.toArray))
    (h1 : ∀ u ∈ us, Value.oneCell' u = true) (he : Ent L (blk b T vs :: R)) (hm : us.length = m) (ho : o + us.length ≤ vs.length) :
    Step P (.store t x y) ty fr L (fun _ : Unit => undef) (fun _ => blk b T (over vs o us) :: R) := by
  intro n F a w d pos after g K Q hr hh hk
  have hh := he F w hh
  obtain ⟨w', hrun, hh'⟩ := storeCells_blk (P := P) us o 0 vs w h1 (by simpa using ho) hh
  refine wpIn_skip' (w' := w') ?_ (hk () _ (by simpa using hh'))
  simp only [execOp, hr.ev hx, hr.ev hy, Instr.storeAt, Instr.sureAddr, pure_bind, storeVar, Value.cells, Sem.run_bind, run_size_ag, Result.andThen_ok, List.size_toArray, hm, ne_eq, not_true_eq_false, if_false, hrun, Sem.run_pure]

/-! ### New memory -/
theorem holds_alloc {o : Obj} (h : Holds L F w) : Holds (pt w.heap.size o :: L) F (w.alloc o) :=
  holds_new h (by simp) (by simp [World.alloc, -World.alloc_eq]) (fun c hc => by simp [World.alloc, -World.alloc_eq, Array.getElem?_push, hc]) rfl rfl

theorem holds_allocB {T : TypeId} {vs : List Value} (h : Holds L F w) : Holds (blk w.heap.size T vs :: L) F (w.alloc (.cells vs.toArray T)) :=
  blk_holds (fz := (0, 0)) (fun i _ => by simp) (holds_alloc h)

theorem s_alloc {z : Value} {zs : List Value} [ZV P t z] (hz : z.cells = zs.toArray) : Step P (.alloc t) ty fr L (fun b : Nat => .pointer (some ⟨b, 0, none⟩)) (fun b => blk b t zs :: L) := by
  intro n F a w d pos after g K Q hr hh hk
  refine wpIn_value (w' := w.alloc (.cells zs.toArray t)) ?_ (hk _ _ (holds_allocB hh))
  simp only [execOp, Instr.alloc, newVar, newRow, hz, Sem.run_bind, run_zero, Result.andThen_ok, run_newObj, Sem.run_pure, World.alloc_eq]

theorem s_box {x : Operand} {v : Value} {zs : List Value} (hx : ev fr x = some v) (hz : v.cells = zs.toArray) : Step P (.box t x) ty fr L (fun b : Nat => .pointer (some ⟨b, 0, none⟩)) (fun b => blk b t zs :: L) := by
  intro n F a w d pos after g K Q hr hh hk
  refine wpIn_value (w' := w.alloc (.cells zs.toArray t)) ?_ (hk _ _ (holds_allocB hh))
  simp only [execOp, hr.ev hx, Instr.box, newVar, newRow, hz, Sem.run_bind, Result.andThen_ok, run_newObj, Sem.run_pure, World.alloc_eq]

theorem s_makeMap0 : Step P (.makeMap t none) ty fr L (fun b : Nat => .map (some b)) (fun b => pt b (.map #[] 0) :: L) := by
  intro n F a w d pos after g K Q hr hh hk
  refine wpIn_value (w' := w.alloc (.map #[] 0)) ?_ (hk _ _ (holds_alloc hh))
  simp only [execOp, Instr.makeMap, Option.map_none, Sem.run_bind, Result.andThen_ok, run_newObj, Sem.run_pure, World.alloc_eq]

/-! ### Calls -/
class BD (P : Program) (f : FuncId) : Prop where
  out : ∃ fn, P.funcs[f]? = some fn ∧ fn.name ≠ "runtime.NumGoroutine" ∧ fn.body.isNone = false

def bdB (P : Program) (f : FuncId) : Bool := match P.funcs[f]? with
  | some fn => fn.name != "runtime.NumGoroutine" && fn.body.isSome
  | none => false
theorem BD.of {P : Program} {f : FuncId} (h : bdB P f = true) : BD P f := by
  unfold bdB at h
  split at h
  · rename_i fn hf
    simp only [Bool.and_eq_true, bne_iff_ne, ne_eq] at h
    exact ⟨fn, hf, h.1, by cases hb : fn.body <;> simp_all⟩
  · cases h

theorem run_callFunc {f : FuncId} [u : BD P f] {args : Array Value} : (callFunc f args).run P w = .ok (.enter f args) w := by
  obtain ⟨fn, h1, h2, h3⟩ := u.out
  have h2' : (fn.name == "runtime.NumGoroutine") = false := by simpa using h2
  simp only [callFunc, Sem.run_bind, run_program, Result.andThen_ok, h1, h2', h3, Bool.false_eq_true, if_false, Sem.run_pure]

theorem wp_of_fn {r : Option Nat} {o : Oper} {a : Act} {K : Act → World → Prop} {Q : Exit → Act → World → Prop} {f : FuncId} {args : Array Value} {C : List HProp} {Rf : Value → List HProp}
    (hrun : (execOp a.eval o).run P w = .ok (.enter f args) w) (hf : Fn P f args C Rf) (hh : Holds (C ++ R) F w)
    (hk : ∀ v w', Holds (Rf v ++ R) F w' → K (a.put o.dst v) w') : Oper.wpIn (WF r) 0 P o a w K Q := by
  refine ⟨fun _ _ => trivial, ?_⟩
  rw [semAt_execOp hrun (by simp), Oper.uponIn_enter]
  refine ⟨by simp, ?_⟩
  have h1 : CallsIn (WF none) 0 P f args w (fun e w' => ∃ v, e = .returned v ∧ Holds (Rf v ++ R) F w') := callsIn_wide.2 (hf.frame R F w hh)
  have h2 : CallsIn (WF r) 0 P f args w (fun e w' => ∃ v, e = .returned v ∧ Holds (Rf v ++ R) F w') := h1
  refine h2.mono ?_
  rintro e w' ⟨v, rfl, hv⟩
  exact hk v w' hv

theorem evs_eval {n : Cfg} {a : Act} (hr : Rep n a fr) {xs : List Operand} {vs : List Value} (hx : xs.mapM (ev fr) = some vs) : xs.toArray.map a.eval = vs.toArray := by
  induction xs generalizing vs with
  | nil => simp at hx; simp [← hx]
  | cons y l ih =>
    simp only [List.mapM_cons, Option.bind_eq_bind, Option.bind_eq_some_iff] at hx
    obtain ⟨v, hv, us, hus, he⟩ := hx
    cases he
    have := ih hus
    simp only [List.map_toArray, List.map_cons, hr.ev hv]
    simp only [List.map_toArray] at this
    simp_all

inductive Evs (fr : Fr) : List Operand → List Value → Prop
  | nil : Evs fr [] []
  | cons {x : Operand} {v : Value} {xs : List Operand} {vs : List Value} : ev fr x = some v → Evs fr xs vs → Evs fr (x :: xs) (v :: vs)

theorem Evs.eval {n : Cfg} {a : Act} (hr : Rep n a fr) {xs : List Operand} {vs : List Value} (h : Evs fr xs vs) : xs.map a.eval = vs := by
  induction h with
  | nil => rfl
  | cons h _ ih => simp [hr.ev h, ih]

theorem s_call {f : FuncId} [BD P f] {xs : List Operand} {vs : List Value} {ats : Array TypeId} {C : List HProp} {Rf : Value → List HProp} (hx : Evs fr xs vs)
    (hf : Fn P f vs.toArray C Rf) (he : Tk L C R) : Step P (.call ⟨.value (.func f), xs.toArray, ats⟩) ty fr L (fun v : Value => v) (fun v => Rf v ++ R) := by
  intro n F a w d pos after g K Q hr hh hk
  refine wp_of_fn (R := R) ?_ hf (he F w hh) hk
  have h1 := hx.eval hr
  simp [execOp, resolve, Act.eval, Deferred.ofValue, invoke, h1, run_callFunc]

/-- A call of a function value. -/
theorem s_callv {f : FuncId} [BD P f] {x : Operand} {cap : Array Value} {xs : List Operand} {vs : List Value} {ats : Array TypeId} {C : List HProp} {Rf : Value → List HProp}
    (hv : ev fr x = some (.func (.func f) #[] cap)) (hx : Evs fr xs vs)
    (hf : Fn P f (vs.toArray ++ cap) C Rf) (he : Tk L C R) : Step P (.call ⟨.value x, xs.toArray, ats⟩) ty fr L (fun v : Value => v) (fun v => Rf v ++ R) := by
  intro n F a w d pos after g K Q hr hh hk
  refine wp_of_fn (R := R) ?_ hf (he F w hh) hk
  have h1 := hx.eval hr
  simp [execOp, resolve, hr.ev hv, Deferred.ofValue, invoke, h1, run_callFunc]

/-! ### The function as a whole -/
theorem fn_of_run {f : FuncId} {fn : Func} {c : Code} {args : List Value} {C : List HProp} {Rf : Value → List HProp} (hf : P.funcs[f]? = some fn) (hb : fn.body = some c) {n : Nat} (hn : fn.ntmps = n) (hargs : args.length ≤ n)
    (h : ∀ F, Run P (bodyPost P fn fun e w' => ∃ v, e = .returned v ∧ Holds (Rf v) F w') ⟨n, [], none⟩ F (args.zipIdx.map fun p => (p.2, p.1)) C [.code c]) : Fn P f args.toArray C Rf := by
  subst hn
  intro F w hh
  refine calls_of_wp hf hb ?_
  have hrep : Rep ⟨fn.ntmps, [], none⟩ { tmps := args.toArray ++ Array.replicate (fn.ntmps - args.toArray.size) undef, defers := [] } (args.zipIdx.map fun p => (p.2, p.1)) := by
    refine ⟨by simp; omega, rfl, fun t v ht => ?_⟩
    have key : ∀ (l : List Value) (k : Nat), List.lookup t ((l.zipIdx k).map fun p => (p.2, p.1)) = some v → k ≤ t ∧ l[t - k]? = some v := by
      intro l
      induction l with
      | nil => intro k h; cases h
      | cons x l ih =>
        intro k h
        simp only [List.zipIdx_cons, List.map_cons, List.lookup_cons] at h
        by_cases e : t = k
        · subst e; simp at h; simp [h]
        · have : (t == k) = false := by simpa using e
          rw [this] at h
          obtain ⟨h1, h2⟩ := ih (k + 1) h
          refine ⟨by omega, ?_⟩
          rw [show t - k = (t - (k + 1)) + 1 by omega]
          simpa using h2
    obtain ⟨_, h2⟩ := key args 0 ht
    simp only [Nat.sub_zero] at h2
    have hlt := (List.getElem?_eq_some_iff.1 h2).1
    rw [Array.getElem?_append_left (by simpa using hlt)]
    simpa using h2
  have := h F _ w hrep hh
  refine Code.wp_mono ?_ (wpIn_wide.1 this)
  intro e a w hx
  cases e <;> exact hx

theorem ret_one {fn : Func} {n : Cfg} {t : Nat} {v : Value} {Rf : Value → List HProp} (hds : n.ds = []) (hres : fn.results = #[.tmp t]) (hv : fr.lookup t = some v) (he : Tk L (Rf v) R) :
    ∀ a w, Rep n a fr → Holds L F w → bodyPost P fn (fun e w' => ∃ v, e = .returned v ∧ Holds (Rf v) F w') .ret a w := by
  intro a w hr hh
  refine bodyPost_ret (results_tmp hres _ _ _) (hr.defers.trans hds) ⟨_, rfl, ?_⟩
  have := hr.get t v hv
  simp only [Array.getD_eq_getD_getElem?, this, Option.getD_some]
  exact he.ent F w hh
theorem ret_two {fn : Func} {n : Cfg} {t u : Nat} {v x : Value} {Rf : Value → List HProp} (hds : n.ds = []) (hres : fn.results = #[.tmp t, .tmp u]) (hv : fr.lookup t = some v) (hx : fr.lookup u = some x) (he : Tk L (Rf (.tuple #[v, x])) R) :
    ∀ a w, Rep n a fr → Holds L F w → bodyPost P fn (fun e w' => ∃ v, e = .returned v ∧ Holds (Rf v) F w') .ret a w := by
  intro a w hr hh
  refine bodyPost_ret (results_tmp2 hres _ _ _) (hr.defers.trans hds) ⟨_, rfl, ?_⟩
  have h1 := hr.get t v hv
  have h2 := hr.get u x hx
  simp only [Array.getD_eq_getD_getElem?, h1, h2, Option.getD_some]
  exact he.ent F w hh
theorem ret_none {fn : Func} {n : Cfg} {Rf : Value → List HProp} (hds : n.ds = []) (hres : fn.results = #[]) (he : Tk L (Rf (.tuple #[])) R) :
    ∀ a w, Rep n a fr → Holds L F w → bodyPost P fn (fun e w' => ∃ v, e = .returned v ∧ Holds (Rf v) F w') .ret a w := by
  intro a w hr hh
  exact bodyPost_ret (results_none hres _ _ _) (hr.defers.trans hds) ⟨_, rfl, he.ent F w hh⟩
theorem end_none {fn : Func} {n : Cfg} {Rf : Value → List HProp} (hds : n.ds = []) (hres : fn.results = #[]) (he : Tk L (Rf (.tuple #[])) R) :
    ∀ a w, Rep n a fr → Holds L F w → bodyPost P fn (fun e w' => ∃ v, e = .returned v ∧ Holds (Rf v) F w') .normal a w := by
  intro a w hr hh
  exact bodyPost_end (results_none hres _ _ _) (hr.defers.trans hds) ⟨_, rfl, he.ent F w hh⟩
end
end Go.Proofs.YtaibgfnfmkpibaaGreatDoor.SL
