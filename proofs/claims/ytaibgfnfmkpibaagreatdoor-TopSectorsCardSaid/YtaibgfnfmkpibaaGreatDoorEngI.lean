/- Structs and slices built; maps. No program in sight. -/
import Derived.Test.YtaibgfnfmkpibaaGreatDoorEngH
namespace Go.Proofs.YtaibgfnfmkpibaaGreatDoor.SL
open Go

/-- Where a struct's fields lie, and how many cells each has. -/
class BL (P : Program) (t : TypeId) (pl : outParam (List (Nat × Nat))) : Prop where
  out : ∃ fields : Array Field, P.underlying t = some (.struct fields) ∧ fields.toList.map (fun f => (P.info? f.type).map fun i => (f.offset, i.size)) = pl.map some
def blB (P : Program) (t : TypeId) : Option (List (Option (Nat × Nat))) := (P.underlying t).bind fun d => match d with
  | .struct fs => some (fs.toList.map (fun f => (P.info? f.type).map fun i => (f.offset, i.size)))
  | _ => none
theorem BL.of {P : Program} {t : TypeId} {pl : List (Nat × Nat)} (h : blB P t = some (pl.map some)) : BL P t pl := by
  unfold blB at h
  cases hd : P.underlying t with
  | none => rw [hd] at h; cases h
  | some d =>
    rw [hd] at h
    cases d <;> first | (simp at h; done) | skip
    rename_i fs
    simp only [Option.bind_some, Option.some.injEq] at h
    exact ⟨⟨fs, hd, h⟩⟩

/-- Parts laid into cells. -/
def lay (pl : List (Nat × Nat)) (zs : List Value) : List (Nat × List Value) → List Value
  | [] => zs
  | (i, us) :: rest => lay pl (over zs ((pl[i]?.map (·.1)).getD 0) us) rest
def layOk (pl : List (Nat × Nat)) (zn : Nat) : List (Nat × Nat) → Bool
  | [] => true
  | (i, k) :: rest => (match pl[i]? with | some (off, sz) => k == sz && decide (off + k ≤ zn) | none => false) && layOk pl zn rest

section
variable {P : Program} {fr : Fr} {L R : List HProp} {ty t : TypeId} {F : Base} {w : World}

theorem foldl_over : ∀ (us : List Value) (cs : Array Value) (off j : Nat), off + j + us.length ≤ cs.size →
    ((us.zipIdx j).foldl (fun cs p => cs.setIfInBounds (off + p.2) p.1) cs).toList = over cs.toList (off + j) us
  | [], cs, off, j, _ => by simp [over]
  | u :: us, cs, off, j, h => by
    simp only [List.zipIdx_cons, List.foldl_cons]
    rw [foldl_over us _ off (j + 1) (by simp at h ⊢; omega)]
    have := over_cons (vs := cs.toList) (o := off + j) (u := u) (us := us) (by simp at h ⊢; omega)
    rw [← this]
    simp [Nat.add_assoc]

theorem run_fill {pl : List (Nat × Nat)} : ∀ (parts : List (Nat × Value)) (uss : List (List Value)) (cs : Array Value), parts.length = uss.length →
    (∀ p ∈ parts.zip uss, p.1.2.cells = p.2.toArray) → layOk pl cs.size ((parts.zip uss).map fun p => (p.1.1, p.2.length)) = true →
    Instr.fill (fun i => pl.toArray[i]?) cs parts = some (lay pl cs.toList ((parts.zip uss).map fun p => (p.1.1, p.2))).toArray
  | [], [], cs, _, _, _ => by simp [Instr.fill, lay]
  | (i, v) :: parts, us :: uss, cs, hl, hc, hok => by
    have hv : v.cells = us.toArray := hc ((i, v), us) (by simp)
    simp only [List.zip_cons_cons, List.map_cons, layOk, Bool.and_eq_true] at hok
    obtain ⟨h1, h2⟩ := hok
    cases hp : pl[i]? with
    | none => rw [hp] at h1; cases h1
    | some q =>
      obtain ⟨off, sz⟩ := q
      rw [hp] at h1
      simp only [Bool.and_eq_true, beq_iff_eq, decide_eq_true_eq] at h1
      have hpl : pl.toArray[i]? = some (off, sz) := by simpa using hp
      have hov : (us.zipIdx.foldl (fun cs p => cs.setIfInBounds (off + p.2) p.1) cs) = (over cs.toList off us).toArray := by
        apply Array.ext'
        have := foldl_over us cs off 0 (by omega)
        simpa using this
      have hz : (us.toArray.zipIdx.foldl (fun cs p => cs.setIfInBounds (off + p.2) p.1) cs) = (over cs.toList off us).toArray := by
        rw [← hov]
        simp
      have hlen : (over cs.toList off us).length = cs.size := by rw [over_length (by simpa using h1.2)]; simp
      simp only [Instr.fill, hpl]
      have hcond : ¬ ((decide (us.length ≠ sz) || decide (off + us.length > cs.size)) = true) := by simp [h1.1]; omega
      have hsz : us.toArray.size = us.length := by simp
      rw [hv]
      simp only [hsz]
      rw [if_neg hcond]
      have ih := run_fill (pl := pl) parts uss (over cs.toList off us).toArray (by simpa using hl) (fun p hp => hc p (by simp [hp])) (by simpa [hlen] using h2)
      have hz' : (us.toArray.zipIdx.foldl (fun cs x => match x with | (c, j) => cs.setIfInBounds (off + j) c) cs) = (over cs.toList off us).toArray := hz
      rw [hz', ih]
      simp [lay, hp]

theorem run_places {fields : List Field} {pl : List (Nat × Nat)} (h : fields.map (fun f => (P.info? f.type).map fun i => (f.offset, i.size)) = pl.map some) :
    (fields.mapM (m := Sem) fun f => do pure (f.offset, ← sizeOf f.type)).run P w = .ok pl w := by
  induction fields generalizing pl with
  | nil =>
    cases pl with
    | nil => rfl
    | cons => simp at h
  | cons f fields ih =>
    cases pl with
    | nil => simp at h
    | cons p pl =>
      simp only [List.map_cons, List.cons.injEq] at h
      cases hi : P.info? f.type with
      | none => rw [hi] at h; simp at h
      | some i =>
        rw [hi] at h
        simp only [Option.map_some, Option.some.injEq] at h
        have h1 : (sizeOf f.type).run P w = .ok i.size w := by simp [sizeOf, typeInfo, hi]
        simp only [List.mapM_cons, Sem.run_bind, h1, Result.andThen_ok, Sem.run_pure, ih h.2]
        rw [← h.1]

inductive Evc (fr : Fr) : List (Nat × Operand) → List (Nat × Value) → List (List Value) → Prop
  | nil : Evc fr [] [] []
  | cons {i : Nat} {x : Operand} {v : Value} {us : List Value} {xs : List (Nat × Operand)} {vs : List (Nat × Value)} {uss : List (List Value)} : ev fr x = some v → Cel v us → Evc fr xs vs uss → Evc fr ((i, x) :: xs) ((i, v) :: vs) (us :: uss)

theorem Evc.eval {n : Cfg} {a : Act} (hr : Rep n a fr) {xs : List (Nat × Operand)} {vs : List (Nat × Value)} {uss : List (List Value)} (h : Evc fr xs vs uss) :
    xs.map (fun p => (p.1, a.eval p.2)) = vs ∧ vs.length = uss.length ∧ (∀ p ∈ vs.zip uss, p.1.2.cells = p.2.toArray) ∧ ∀ us ∈ uss, ∀ u ∈ us, Value.oneCell' u = true := by
  induction h with
  | nil => simp
  | cons h hc _ ih =>
    obtain ⟨h1, h2, h3, h4⟩ := ih
    refine ⟨by simp [hr.ev h, h1], by simp [h2], ?_, ?_⟩
    · intro p hp
      rcases List.mem_cons.1 hp with rfl | hp
      · exact hc.out
      · exact h3 p hp
    · intro us hus
      rcases List.mem_cons.1 hus with rfl | hus
      · exact hc.one
      · exact h4 us hus

theorem p_build {z : Value} {zs : List Value} {pl : List (Nat × Nat)} {xs : List (Nat × Operand)} {vs : List (Nat × Value)} {uss : List (List Value)} [ZV P t z] [BL P t pl] (hz : z.cells = zs.toArray) (hx : Evc fr xs vs uss)
    (hok : layOk pl zs.length ((vs.zip uss).map fun p => (p.1.1, p.2.length)) = true) {us : List Value} (hus : lay pl zs ((vs.zip uss).map fun p => (p.1.1, p.2)) = us) :
    Pure P (.build t xs.toArray) ty fr (.agg us.toArray) := by
  intro n a w d pos after g hr
  obtain ⟨h1, h2, h3, _⟩ := hx.eval hr
  obtain ⟨fields, hf, hpl⟩ := (BL.out : ∃ fields : Array Field, P.underlying t = some (.struct fields) ∧ fields.toList.map (fun f => (P.info? f.type).map fun i => (f.offset, i.size)) = pl.map some)
  have hut : (underlying t).run P w = .ok (.struct fields) w := by simp [underlying, hf]
  have hzz : (zeroValue t).run P w = .ok z w := run_zero
  have hm : (fields.mapM (m := Sem) fun f => do pure (f.offset, ← sizeOf f.type)).run P w = .ok pl.toArray w := by
    rw [Array.mapM_eq_mapM_toList, Sem.run_map, run_places hpl]
    rfl
  have hfill := run_fill (pl := pl) vs uss zs.toArray h2 h3 (by simpa using hok)
  simp only [execOp, Instr.build, Sem.run_bind, hzz, Result.andThen_ok, hut, hm, hz, List.map_toArray]
  have he : (List.map (fun x => match x with | (i, x) => (i, a.eval x)) xs) = vs := h1
  rw [he]
  have hfill' : Instr.fill (fun x => pl.toArray[x]?) zs.toArray vs = some us.toArray := by rw [hfill, ← hus]
  rw [hfill']
  rfl

theorem over_over {vs us ws : List Value} {o : Nat} (h : o + us.length + ws.length ≤ vs.length) : over (over vs o us) (o + us.length) ws = over vs o (us ++ ws) := by
  unfold over
  have h1 : (vs.take o ++ us).length = o + us.length := by simp; omega
  rw [List.take_append_of_le_length (by omega), List.take_of_length_le (by omega), List.drop_append, h1, List.drop_of_length_le (by omega), List.nil_append, List.drop_drop]
  simp only [List.append_assoc, List.length_append]
  rw [show o + us.length + (o + us.length + ws.length - (o + us.length)) = o + (us.length + ws.length) by omega]

theorem flat_len {sz : Nat} : ∀ (uss : List (List Value)), (∀ us ∈ uss, us.length = sz) → uss.flatten.length = uss.length * sz
  | [], _ => by simp
  | u :: uss, h => by
    simp only [List.flatten_cons, List.length_append, List.length_cons, Nat.add_mul, Nat.one_mul]
    rw [flat_len uss (fun x hx => h x (List.mem_cons_of_mem _ hx)), h u (by simp)]
    omega

theorem run_fill_seq {sz : Nat} : ∀ (parts : List (Nat × Value)) (uss : List (List Value)) (k : Nat) (cs : Array Value), parts.length = uss.length →
    (∀ p ∈ parts.zip uss, p.1.2.cells = p.2.toArray) → parts.map (·.1) = List.range' k parts.length → (∀ us ∈ uss, us.length = sz) → (k + parts.length) * sz ≤ cs.size →
    Instr.fill (fun i => some (i * sz, sz)) cs parts = some (over cs.toList (k * sz) uss.flatten).toArray
  | [], [], k, cs, _, _, _, _, _ => by simp [Instr.fill, over]
  | (i, v) :: parts, us :: uss, k, cs, hl, hc, hid, hs, hsz => by
    have hv : v.cells = us.toArray := hc ((i, v), us) (by simp)
    have hus : us.length = sz := hs us (by simp)
    simp only [List.map_cons, List.length_cons, List.range'_succ, List.cons.injEq] at hid
    obtain ⟨rfl, hid⟩ := hid
    have hm : (i + (parts.length + 1)) * sz = i * sz + sz + parts.length * sz := by rw [Nat.add_mul, Nat.add_mul, Nat.one_mul]; omega
    simp only [List.length_cons] at hsz
    have hov : (us.toArray.zipIdx.foldl (fun cs x => match x with | (c, j) => cs.setIfInBounds (i * sz + j) c) cs) = (over cs.toList (i * sz) us).toArray := by
      apply Array.ext'
      have := foldl_over us cs (i * sz) 0 (by omega)
      simpa using this
    have hsz1 : us.toArray.size = us.length := by simp
    have hcond : ¬ ((decide (us.length ≠ sz) || decide (i * sz + us.length > cs.size)) = true) := by simp [hus]; omega
    simp only [Instr.fill, hv, hsz1]
    rw [if_neg hcond, hov]
    have hlen : (over cs.toList (i * sz) us).length = cs.size := by rw [over_length (by simp; omega)]; simp
    have ih := run_fill_seq (sz := sz) parts uss (i + 1) (over cs.toList (i * sz) us).toArray (by simpa using hl) (fun p hp => hc p (by simp [hp])) hid (fun u hu => hs u (by simp [hu])) (by rw [List.size_toArray, hlen, Nat.add_mul, Nat.add_mul, Nat.one_mul]; omega)
    rw [ih]
    have he : (i + 1) * sz = i * sz + us.length := by rw [Nat.add_mul, hus, Nat.one_mul]
    have hfl : uss.flatten.length = parts.length * sz := by
      have hpl : parts.length = uss.length := by simpa using hl
      rw [hpl]
      exact flat_len uss (fun u hu => hs u (by simp [hu]))
    rw [he]
    have := over_over (vs := cs.toList) (us := us) (ws := uss.flatten) (o := i * sz) (by rw [hfl, hus]; simp; omega)
    simp only [List.flatten_cons]
    rw [← this]

/-- All elements of a slice given, in order. -/
theorem s_buildSlice {e : TypeId} {sz by' len : Nat} {z : Value} {zs : List Value} {xs : List (Nat × Operand)} {vs : List (Nat × Value)} {uss : List (List Value)} [UT P t (.slice e)] [SZ P e sz by'] [ZV P e z] (hz : z.cells = zs.toArray) (hzs : zs.length = sz) (hx : Evc fr xs vs uss)
    (hid : vs.map (·.1) = List.range len) (hs : (uss.map (·.length)) = List.replicate len sz) (hlim : (decide (len * sz ≤ 16777216)) = true) :
    Step P (.buildSlice t len xs.toArray) ty fr L (fun v : Value => v) (fun v => own e sz v len uss.flatten :: L) := by
  intro n' F a w d pos after g K Q hr hh hkk
  obtain ⟨h1, h2, h3, h4⟩ := hx.eval hr
  have hut : (underlying t).run P w = .ok (.slice e) w := run_ut
  have hsz' : (sizeOf e).run P w = .ok sz w := run_size
  have hzz : (zeroValue e).run P w = .ok z w := run_zero
  have hlim' : len * sz ≤ 16777216 := by simpa using hlim
  have hvl : vs.length = len := by have := congrArg List.length hid; simpa using this
  have hul : ∀ us ∈ uss, us.length = sz := by
    intro us hu
    have : us.length ∈ uss.map (·.length) := List.mem_map.2 ⟨us, hu, rfl⟩
    rw [hs] at this
    exact (List.mem_replicate.1 this).2
  have hfl : uss.flatten.length = len * sz := by
    rw [flat_len uss hul, ← h2, hvl]
  have key : ∀ cs : Array Value, cs.size = len * sz → Instr.fill (fun i => some (i * sz, sz)) cs vs = some uss.flatten.toArray := by
    intro cs hcs
    rw [run_fill_seq vs uss 0 cs h2 h3 (by rw [hid, hvl, List.range_eq_range']) hul (by rw [hvl, hcs, Nat.zero_add]; exact Nat.le_refl _)]
    unfold over
    rw [Nat.zero_mul, List.take_zero, List.nil_append, List.drop_of_length_le (by rw [hfl]; simp [hcs]), List.append_nil]
  refine wpIn_value (w' := w.alloc (.cells uss.flatten.toArray e)) (v := .slice (some ⟨w.heap.size, 0, none⟩) len len) ?_ (hkk _ _ ?_)
  · simp only [execOp, Instr.buildSlice, Sem.run_bind, hut, hsz', Result.andThen_ok, List.map_toArray]
    have he : (List.map (fun x => match x with | (i, x) => (i, a.eval x)) xs) = vs := h1
    rw [he]
    have hno : ¬ (len * sz > 2 ^ 24) := by omega
    simp only [if_neg hno, Sem.run_pure, Result.andThen_ok]
    by_cases h0 : len * sz = 0
    · simp only [h0, if_true, Sem.run_bind, Sem.run_pure, Result.andThen_ok]
      rw [key _ (by simp [h0])]
      rfl
    · simp only [if_neg h0, Sem.run_bind, hzz, Result.andThen_ok, Sem.run_pure]
      rw [key _ (by simp)]
      rfl
  · refine own_holds hfl ?_ (Nat.le_refl _) (by rw [hfl]; omega) (by rw [List.drop_zero, ← hfl, List.take_length]) (holds_allocB hh)
    intro u hu
    obtain ⟨us, hus, hu⟩ := List.mem_flatten.1 hu
    exact h4 us hus u hu
end
end Go.Proofs.YtaibgfnfmkpibaaGreatDoor.SL
