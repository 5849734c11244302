/- Maps: over the block that holds one. No program in sight. -/
import Derived.Test.YtaibgfnfmkpibaaGreatDoorEngI
import Derived.MapKept
namespace Go.Proofs.YtaibgfnfmkpibaaGreatDoor.SL
open Go

section
variable {P : Program} {fr : Fr} {L R : List HProp} {ty t kt el : TypeId} {F : Base} {w : World} {r : Nat} {es : Array MapEntry} {clk : Nat}

def notCells : Obj → Bool
  | .cells .. => false
  | _ => true
theorem run_get {o : Obj} (hb : w.heap[r]? = some o) (hn : notCells o = true := by rfl) : (getObj r).run P w = .ok o w := by
  cases o <;> first | (simp [getObj, Sem.run, hb]; done) | cases hn
theorem run_set {o : Obj} (o' : Obj) (hb : w.heap[r]? = some o) (hn : notCells o = true := by rfl) : (setObj r o').run P w = .ok () { w with heap := w.heap.setIfInBounds r o' } := by
  cases o <;> first | (simp [setObj, Sem.run, hb]; done) | cases hn
theorem holds_put {o o' : Obj} (h : Holds (pt r o :: L) F w) : Holds (pt r o' :: L) F { w with heap := w.heap.setIfInBounds r o' } := by
  have hb := holds_pt h
  have hlt : r < w.heap.size := (Array.getElem?_eq_some_iff.1 hb).1
  exact holds_set h (by simp [hlt]) (fun c hc => by simp [Ne.symm hc]) rfl rfl

/-- A key that may be asked for. -/
@[reducible] def KeyOk (P : Program) (kt : TypeId) (k : Value) : Prop := ∀ (b : Bool) (w : World), (Instr.checkKey b 10000 kt k).run P w = .ok () w
/-- What is found among entries. -/
@[reducible] def Found (P : Program) (kt : TypeId) (k : Value) (es : Array MapEntry) (x : Option (Nat × Value)) : Prop := ∀ w : World, (Instr.findKey kt k es.toList).run P w = .ok x w

def got (ok : Bool) (z : Value) : Option (Nat × Value) → Value
  | some (_, v) => if ok then .tuple #[v, .bool true] else v
  | none => if ok then .tuple #[z, .bool false] else z

theorem q_lookup {x ix : Operand} {k z : Value} {ok : Bool} {f : Option (Nat × Value)} [UT P t (.map kt el)] [ZV P el z] (hx : ev fr x = some (.map (some r))) (hk : ev fr ix = some k)
    (he : Ent L (pt r (.map es clk) :: R)) (hok : KeyOk P kt k) (hf : Found P kt k es f) : Quiet P (.lookup t x ix ok) ty fr L (got ok z f) := by
  intro n F a w d pos after g hr hh
  have hb := holds_pt (he F w hh)
  have hut : (underlying t).run P w = .ok (.map kt el) w := run_ut
  have hz : (zeroValue el).run P w = .ok z w := run_zero
  have hc : (Instr.checkKey es.isEmpty 10000 kt k).run P w = .ok () w := hok _ w
  have hfw : (Instr.findKey kt k es.toList).run P w = .ok f w := hf w
  simp only [execOp, hr.ev hx, hr.ev hk, Instr.lookup, Sem.run_bind, hut, Result.andThen_ok, run_get hb, Sem.run_pure, hc, hfw]
  cases f with
  | none =>
    simp only [Sem.run_bind, hz, Result.andThen_ok, Sem.run_pure]
    cases ok <;> rfl
  | some p =>
    obtain ⟨i, v⟩ := p
    simp only [Sem.run_pure, Result.andThen_ok]
    cases ok <;> rfl

theorem q_lookup_nil {x ix : Operand} {k z : Value} {ok : Bool} [UT P t (.map kt el)] [ZV P el z] (hx : ev fr x = some (.map none)) (hk : ev fr ix = some k)
    (hok : KeyOk P kt k) (hf : Found P kt k #[] none) : Quiet P (.lookup t x ix ok) ty fr L (got ok z none) := by
  intro n F a w d pos after g hr hh
  have hut : (underlying t).run P w = .ok (.map kt el) w := run_ut
  have hz : (zeroValue el).run P w = .ok z w := run_zero
  have hc : (Instr.checkKey true 10000 kt k).run P w = .ok () w := hok _ w
  have hfw : (Instr.findKey kt k []).run P w = .ok none w := hf w
  simp only [execOp, hr.ev hx, hr.ev hk, Instr.lookup, Sem.run_bind, hut, Result.andThen_ok, Sem.run_pure]
  rw [show (#[] : Array MapEntry).isEmpty = true from rfl, hc]
  simp only [Result.andThen_ok]
  rw [hfw]
  simp only [Sem.run_bind, Result.andThen_ok, Sem.run_pure, hz]
  cases ok <;> rfl

theorem q_len_map {x : Operand} {ats : TypeId} [UT P ats (.map kt el)] (hx : ev fr x = some (.map (some r))) (he : Ent L (pt r (.map es clk) :: R)) :
    Quiet P (.call ⟨.builtin .len, #[x], #[ats]⟩) ty fr L (.int .i64 es.size) := by
  intro n F a w d pos after g hr hh
  have hb := holds_pt (he F w hh)
  have hut : (underlying ats).run P w = .ok (.map kt el) w := run_ut
  simp [execOp, resolve, invoke, builtin, Builtin.len_, hr.ev hx, hut, goInt, run_get hb]

/-- What becomes of a map in which a key is set. -/
def upd (es : Array MapEntry) (clk : Nat) (k x : Value) : Option (Nat × Value) → Obj
  | some (i, _) => .map (es.modify i fun e => { e with key := k, val := x }) clk
  | none => .map (es.push { key := k, val := x, born := clk }) (clk + 1)
def stays (es : Array MapEntry) (k : Value) : Option (Nat × Value) → Prop
  | some (i, _) => Instr.sameBits 10000 (((es[i]?).map (·.key)).getD k) k = true
  | none => True

theorem s_mapUpdate {m ix y : Operand} {k x : Value} {f : Option (Nat × Value)} [UT P t (.map kt el)] (hm : ev fr m = some (.map (some r))) (hk : ev fr ix = some k) (hy : ev fr y = some x)
    (he : Ent L (pt r (.map es clk) :: R)) (hok : KeyOk P kt k) (hf : Found P kt k es f) (hst : stays es k f) : Step P (.mapUpdate t m ix y) ty fr L (fun _ : Unit => undef) (fun _ => pt r (upd es clk k x f) :: R) := by
  intro n F a w d pos after g K Q hr hh hkk
  have hp := he F w hh
  have hb := holds_pt hp
  have hut : (underlying t).run P w = .ok (.map kt el) w := run_ut
  refine wpIn_skip' (w' := { w with heap := w.heap.setIfInBounds r (upd es clk k x f) }) ?_ (hkk () _ (holds_put hp))
  simp only [execOp, hr.ev hm, hr.ev hk, hr.ev hy, Instr.mapUpdate, Sem.run_bind, hut, Result.andThen_ok, run_get hb, hok false w, hf w]
  cases f with
  | none => simp only [run_set _ hb, Result.andThen_ok, upd, Sem.run_pure]
  | some p =>
    obtain ⟨i, v⟩ := p
    simp only [stays] at hst
    simp only [Instr.keyThatStays, hst, if_true, Sem.run_bind, Sem.run_pure, Result.andThen_ok, run_set _ hb, upd]

def del (es : Array MapEntry) (clk : Nat) : Option (Nat × Value) → Obj
  | some (i, _) => .map (es.eraseIdxIfInBounds i) clk
  | none => .map es clk
theorem s_delete {m ix : Operand} {k : Value} {f : Option (Nat × Value)} {t2 : TypeId} [UT P t (.map kt el)] (hm : ev fr m = some (.map (some r))) (hk : ev fr ix = some k)
    (he : Ent L (pt r (.map es clk) :: R)) (hok : KeyOk P kt k) (hf : Found P kt k es f) : Step P (.call ⟨.builtin .delete, #[m, ix], #[t, t2]⟩) ty fr L (fun _ : Unit => .tuple #[]) (fun _ => pt r (del es clk f) :: R) := by
  intro n F a w d pos after g K Q hr hh hkk
  have hp := he F w hh
  have hb := holds_pt hp
  have hut : (underlying t).run P w = .ok (.map kt el) w := run_ut
  refine wpIn_value (w' := { w with heap := w.heap.setIfInBounds r (del es clk f) }) ?_ (hkk () _ (holds_put hp))
  simp only [execOp, resolve, invoke, builtin, List.map_toArray, List.map_cons, List.map_nil, hr.ev hm, hr.ev hk, pure_bind, Builtin.delete_, List.getElem?_toArray, List.getElem?_cons_zero, List.getElem?_cons_succ, Sem.run_bind, hut, Result.andThen_ok, run_get hb, hok es.isEmpty w, hf w]
  cases f with
  | none => simp only [Sem.run_bind, run_set _ hb, Result.andThen_ok, del, Sem.run_pure]
  | some p => simp only [Sem.run_bind, run_set _ hb, Result.andThen_ok, del, Sem.run_pure]

theorem s_range {x : Operand} [UT P t (.map kt el)] (hx : ev fr x = some (.map (some r))) (he : Ent L (pt r (.map es clk) :: R)) :
    Step P (.range t x) ty fr L (fun b : Nat => .pointer (some ⟨b, 0, none⟩)) (fun b => pt b (.mapIter (some r) clk #[] clk) :: pt r (.map es clk) :: R) := by
  intro n F a w d pos after g K Q hr hh hkk
  have hp := he F w hh
  have hb := holds_pt hp
  have hut : (underlying t).run P w = .ok (.map kt el) w := run_ut
  refine wpIn_value (w' := w.alloc (.mapIter (some r) clk #[] clk)) ?_ (hkk _ _ (holds_alloc hp))
  simp only [execOp, hr.ev hx, Instr.range, Sem.run_bind, hut, Result.andThen_ok, run_get hb, Sem.run_pure, run_newObj, World.alloc_eq]

/-- What has not come yet. -/
def left (es : Array MapEntry) (seen : Array Nat) : Array MapEntry := es.filter fun e => !seen.contains e.born

theorem getElem_of_cut {α : Type} (xs : Array α) (h : xs.size ≠ 0) (n : Nat) : ∃ x ∈ xs, xs[n % xs.size]? = some x := by
  have hlt : n % xs.size < xs.size := Nat.mod_lt _ (by omega)
  exact ⟨xs[n % xs.size], Array.getElem_mem hlt, by simp [hlt]⟩

theorem s_next {it : Operand} {ib since last : Nat} {seen : Array Nat} (hx : ev fr it = some (.pointer (some ⟨ib, 0, none⟩))) (he : Ent L (pt ib (.mapIter (some r) since seen last) :: pt r (.map es clk) :: R))
    (hold : ∀ e ∈ es, e.born < since) (hlast : ∀ e ∈ es, e.born < last) :
    Step P (.next it false) ty fr L (fun o : Option MapEntry => match o with | none => .tuple #[.bool false] | some e => .tuple #[.bool true, e.key, e.val])
      (fun o => match o with
        | none => pur (left es seen = #[]) :: pt ib (.mapIter (some r) since seen last) :: pt r (.map es clk) :: R
        | some e => pur (e ∈ left es seen) :: pt ib (.mapIter (some r) since (seen.push e.born) clk) :: pt r (.map es clk) :: R) := by
  intro n F a w d pos after g K Q hr hh hkk
  have hp := he F w hh
  have hb := holds_pt hp
  have hmb := holds_pt (holds_perm (List.Perm.swap _ _ _) hp)
  have hg1 : (!seen.isEmpty && !es.isEmpty && es.all (fun e => decide (e.born ≥ last))) = false := by
    by_cases h0 : es.isEmpty
    · simp [h0]
    · have : es.all (fun e => decide (e.born ≥ last)) = false := by
        rw [Array.all_eq_false]
        have hsz : 0 < es.size := by
          rcases Nat.eq_zero_or_pos es.size with h | h
          · exact absurd (by simpa using h) h0
          · exact h
        exact ⟨0, hsz, by have := hlast es[0] (Array.getElem_mem hsz); simp; omega⟩
      simp [this]
  have hmemE : ∀ e ∈ left es seen, e ∈ es := fun e hm => (Array.mem_filter.1 hm).1
  have hnew : (left es seen).filter (fun e => decide (e.born ≥ since)) = #[] := by
    rw [Array.filter_eq_empty_iff]
    intro e hm
    have := hold e (hmemE e hm)
    simp; omega
  have holdF : (left es seen).filter (fun e => decide (e.born < since)) = left es seen := by
    rw [Array.filter_eq_self]
    intro e hm
    have := hold e (hmemE e hm)
    simpa using this
  by_cases hl : left es seen = #[]
  · have hrun : (execOp a.eval ⟨d, .next it false, ty, pos, after, g⟩).run P w = .ok (.value (.tuple #[.bool false])) w := by
      simp only [execOp, hr.ev hx, Instr.next, Sem.run_bind, run_get hb, Result.andThen_ok, run_get hmb]
      rw [hg1]
      simp only [Bool.false_eq_true, if_false, Sem.run_bind, Sem.run_pure, Result.andThen_ok]
      rw [show es.filter (fun e => !seen.contains e.born) = left es seen from rfl, holdF, hnew, hl]
      simp [Question.forced]
    exact wpIn_value hrun (hkk none w (holds_pur.2 ⟨hl, hp⟩))
  · have hsz : (left es seen).size ≠ 0 := by simpa using hl
    have hcand : ((if (left es seen).isEmpty then #[none] else #[]) ++ (left es seen ++ #[]).map some) = (left es seen).map some := by
      have : (left es seen).isEmpty = false := by simpa using hl
      simp [this]
    have hpick : ∃ (i : Nat) (w' : World) (e : MapEntry), (choose (.mapNext ((left es seen).map some).size)).run P w = .ok i w' ∧ w'.heap = w.heap ∧ w'.os = w.os ∧ w'.output = w.output ∧ e ∈ left es seen ∧ ((left es seen).map some)[i]? = some (some e) := by
      rw [run_choose]
      by_cases hf : Question.forced (.mapNext ((left es seen).map some).size) = true
      · have h1 : (left es seen).size ≤ 1 := by simpa [Question.forced] using hf
        have h0 : 0 < (left es seen).size := by omega
        exact ⟨0, w, (left es seen)[0], by rw [if_pos hf], rfl, rfl, rfl, Array.getElem_mem h0, by simp [h0]⟩
      · obtain ⟨e, hm, hg⟩ := getElem_of_cut (left es seen) hsz (w.tape w.drawn (.mapNext ((left es seen).map some).size))
        refine ⟨Question.cut (.mapNext ((left es seen).map some).size) (w.tape w.drawn (.mapNext ((left es seen).map some).size)), { w with drawn := w.drawn + 1 }, e, by rw [if_neg hf], rfl, rfl, rfl, hm, ?_⟩
        rw [Array.getElem?_map]
        simp only [Question.cut]
        have hsz' : ((left es seen).map some).size = (left es seen).size := by simp
        rw [hsz'] at hg ⊢
        rw [hg]
        rfl
    obtain ⟨i, w', e, hch, h1, h2, h3, hm, hi⟩ := hpick
    have hp' : Holds (pt ib (.mapIter (some r) since seen last) :: pt r (.map es clk) :: R) F w' := holds_same hp h1 h2 h3
    have hb' := holds_pt hp'
    have hrun : (execOp a.eval ⟨d, .next it false, ty, pos, after, g⟩).run P w = .ok (.value (.tuple #[.bool true, e.key, e.val])) { w' with heap := w'.heap.setIfInBounds ib (.mapIter (some r) since (seen.push e.born) clk) } := by
      simp only [execOp, hr.ev hx, Instr.next, Sem.run_bind, run_get hb, Result.andThen_ok, run_get hmb]
      rw [hg1]
      simp only [Bool.false_eq_true, if_false, Sem.run_bind, Sem.run_pure, Result.andThen_ok]
      rw [show es.filter (fun e => !seen.contains e.born) = left es seen from rfl, holdF, hnew, hcand, hch]
      simp only [Result.andThen_ok, hi, Sem.run_bind, run_set _ hb', Sem.run_pure]
    exact wpIn_value hrun (hkk (some e) _ (holds_pur.2 ⟨hm, holds_put hp'⟩))

theorem q_entry {it : Operand} {ib since stamp : Nat} {seen : Array Nat} {e : MapEntry} (hx : ev fr it = some (.pointer (some ⟨ib, 0, none⟩))) (he : Ent L (pt ib (.mapIter (some r) since seen clk) :: pt r (.map es clk) :: R))
    (hs : seen.back? = some stamp) (hf : es.find? (·.born == stamp) = some e) : Quiet P (.entry it) ty fr L (.tuple #[e.key, e.val]) := by
  intro n F a w d pos after g hr hh
  have hp := he F w hh
  have hb := holds_pt hp
  have hmb := holds_pt (holds_perm (List.Perm.swap _ _ _) hp)
  simp [execOp, hr.ev hx, Instr.entry, run_get hb, run_get hmb, hs, hf]
end
end Go.Proofs.YtaibgfnfmkpibaaGreatDoor.SL
