/- Parts of slices, copying, clearing; strings and bytes; structs built, slices built. No program in sight. -/
import Derived.Test.YtaibgfnfmkpibaaGreatDoorEngF
namespace Go.Proofs.YtaibgfnfmkpibaaGreatDoor.SL
open Go

/-- A part of a slice: from cell k on, n elements, room for c. -/
def sub (v : Value) (k n c : Nat) : Value := match v with
  | .slice a _ _ => .slice (a.map fun a => a.add k) n c
  | v => v
instance {v : Value} {k n c : Nat} [h : One v] : One (sub v k n c) := ⟨by cases v <;> first | rfl | exact h.out⟩

section
variable {P : Program} {fr : Fr} {L R : List HProp} {ty t : TypeId} {F : Base} {w : World} {C : HProp} {sz n : Nat} {v : Value} {xs : List Value}

theorem opt_map {α β : Type} (f : α → β) (a : α) : (some a).map f = some (f a) := rfl

/-- An array within a slice's cells, cut. -/
theorem q_slice_arr_s [Rs C sz v n xs] {x lo : Operand} {k len esz by' : Nat} {e : TypeId} {ik : IntKind} {i : Int} [UT P t (.array len e)] [SZ P e esz by'] (hx : ev fr x = some (elp v k)) (hlo : ev fr lo = some (.int ik i)) (he : Ent L (C :: R))
    (h0 : 0 ≤ i) (h1 : i ≤ len) (hk : k < xs.length) : Quiet P (.slice t x (some lo) none none) ty fr L (sub v (if len = i.toNat then k else k + i.toNat * esz) (len - i.toNat) (len - i.toNat)) := by
  intro n' F a w d pos after g hr hh
  obtain ⟨hl, _, ⟨a0, cap, hv, hn, hx0⟩ | ⟨b, o, cap, T, vs, fz, hv, hb, ht⟩⟩ := holds_rs (he F w hh)
  · rw [hx0] at hk; cases hk
  · subst hv
    have hut : (underlying t).run P w = .ok (.array len e) w := run_ut
    have hsz' : (sizeOf e).run P w = .ok esz w := run_size
    by_cases hc : len = i.toNat
    · simp [execOp, hr.ev hx, hr.ev hlo, elp, addr_add, Instr.sliceAt, hut, Instr.sureAddr, Instr.sliceBounds, Instr.sliceBound, asIntOf, h0, h1, hsz', hc, sub]
      intro hlt; omega
    · simp [execOp, hr.ev hx, hr.ev hlo, elp, addr_add, Instr.sliceAt, hut, Instr.sureAddr, Instr.sliceBounds, Instr.sliceBound, asIntOf, h0, h1, hsz', hc, sub, Nat.add_assoc]
theorem q_slice_arr0_s [Rs C sz v n xs] {x : Operand} {k len esz by' : Nat} {e : TypeId} [UT P t (.array len e)] [SZ P e esz by'] (hx : ev fr x = some (elp v k)) (he : Ent L (C :: R))
    (hk : k < xs.length) : Quiet P (.slice t x none none none) ty fr L (sub v k len len) := by
  intro n' F a w d pos after g hr hh
  obtain ⟨hl, _, ⟨a0, cap, hv, hn, hx0⟩ | ⟨b, o, cap, T, vs, fz, hv, hb, ht⟩⟩ := holds_rs (he F w hh)
  · rw [hx0] at hk; cases hk
  · subst hv
    have hut : (underlying t).run P w = .ok (.array len e) w := run_ut
    have hsz' : (sizeOf e).run P w = .ok esz w := run_size
    simp [execOp, hr.ev hx, elp, addr_add, Instr.sliceAt, hut, Instr.sureAddr, Instr.sliceBounds, hsz', sub]
/-- An array in a block of its own, cut. -/
theorem p_slice_arr {x lo : Operand} {b o len esz by' : Nat} {e : TypeId} {ik : IntKind} {i : Int} [UT P t (.array len e)] [SZ P e esz by'] (hx : ev fr x = some (.pointer (some ⟨b, o, none⟩))) (hlo : ev fr lo = some (.int ik i))
    (h0 : 0 ≤ i) (h1 : i ≤ len) : Pure P (.slice t x (some lo) none none) ty fr (.slice (some ⟨b, if len = i.toNat then o else o + i.toNat * esz, none⟩) (len - i.toNat) (len - i.toNat)) := by
  intro n' a w d pos after g hr
  have hut : (underlying t).run P w = .ok (.array len e) w := run_ut
  have hsz' : (sizeOf e).run P w = .ok esz w := run_size
  by_cases hc : len = i.toNat
  · simp [execOp, hr.ev hx, hr.ev hlo, addr_add, Instr.sliceAt, hut, Instr.sureAddr, Instr.sliceBounds, Instr.sliceBound, asIntOf, h0, h1, hsz', hc]
    intro hlt; omega
  · simp [execOp, hr.ev hx, hr.ev hlo, addr_add, Instr.sliceAt, hut, Instr.sureAddr, Instr.sliceBounds, Instr.sliceBound, asIntOf, h0, h1, hsz', hc]
theorem p_slice_arr0 {x : Operand} {b o len esz by' : Nat} {e : TypeId} [UT P t (.array len e)] [SZ P e esz by'] (hx : ev fr x = some (.pointer (some ⟨b, o, none⟩))) :
    Pure P (.slice t x none none none) ty fr (.slice (some ⟨b, o, none⟩) len len) := by
  intro n' a w d pos after g hr
  have hut : (underlying t).run P w = .ok (.array len e) w := run_ut
  have hsz' : (sizeOf e).run P w = .ok esz w := run_size
  simp [execOp, hr.ev hx, Instr.sliceAt, hut, Instr.sureAddr, Instr.sliceBounds, hsz', addr_add]

/-- One's own slice, cut in front: what is left is one's own. -/
theorem s_slice_tail {T e : TypeId} {by' : Nat} {x lo : Operand} {ik : IntKind} {i : Int} [UT P t (.slice e)] [SZ P e sz by'] (hx : ev fr x = some v) (hlo : ev fr lo = some (.int ik i)) (he : Ent L (own T sz v n xs :: R)) (h0 : 0 ≤ i) (h1 : i ≤ n) :
    Step P (.slice t x (some lo) none none) ty fr L (fun v' : Value => v') (fun v' => own T sz v' (n - i.toNat) (xs.drop (i.toNat * sz)) :: R) := by
  intro n' F a w d pos after g K Q hr hh hkk
  have hut : (underlying t).run P w = .ok (.slice e) w := run_ut
  have hsz' : (sizeOf e).run P w = .ok sz w := run_size
  have hown := he F w hh
  obtain ⟨hl, ho, hc⟩ := holds_own hown
  have hin : i.toNat ≤ n := by omega
  rcases hc with ⟨hv, hn0, hx0, hR⟩ | ⟨b, o, cap, vs, hv, hnc, hle, ht, hblk⟩
  · subst hv; subst hx0
    have hi0 : i = 0 := by omega
    subst hi0; subst hn0
    refine wpIn_value (w' := w) (v := .slice none 0 0) ?_ (hkk _ w (by simpa using hown))
    simp [execOp, hr.ev hx, hr.ev hlo, Instr.sliceAt, Instr.slice, hut, Instr.sliceBounds, Instr.sliceBound, asIntOf, hsz']
  · subst hv
    have hm : n * sz = i.toNat * sz + (n - i.toNat) * sz := by rw [← Nat.add_mul]; congr 1; omega
    have hcm : cap * sz = i.toNat * sz + (cap - i.toNat) * sz := by rw [← Nat.add_mul]; congr 1; omega
    have hxl : (xs.drop (i.toNat * sz)).length = (n - i.toNat) * sz := by rw [List.length_drop, hl]; omega
    have hxo : ∀ x ∈ xs.drop (i.toNat * sz), Value.oneCell' x = true := fun x hx => ho x (List.mem_of_mem_drop hx)
    have hdt : ((vs.drop (o + i.toNat * sz)).take ((n - i.toNat) * sz)) = xs.drop (i.toNat * sz) := by
      rw [← ht, List.drop_take, List.drop_drop]; congr 1; omega
    by_cases hc : cap = i.toNat
    · have hnn : n = i.toNat := by omega
      refine wpIn_value (w' := w) (v := .slice (some ⟨b, o, none⟩) (n - i.toNat) (cap - i.toNat)) ?_ (hkk _ w ?_)
      · simp [execOp, hr.ev hx, hr.ev hlo, Instr.sliceAt, Instr.slice, hut, Instr.sliceBounds, Instr.sliceBound, asIntOf, hsz', h0, hc, hnn, h1, show i ≤ (i.toNat : Int) by omega]
        intro hlt; omega
      · refine own_holds hxl hxo (by omega) (by rw [← hc, Nat.sub_self]; omega) ?_ hblk
        rw [hnn, Nat.sub_self, Nat.zero_mul, List.take_zero]
        symm; apply List.eq_nil_of_length_eq_zero; rw [hxl, hnn]; simp
    · refine wpIn_value (w' := w) (v := .slice (some ⟨b, o + i.toNat * sz, none⟩) (n - i.toNat) (cap - i.toNat)) ?_ (hkk _ w ?_)
      · simp [execOp, hr.ev hx, hr.ev hlo, Instr.sliceAt, Instr.slice, hut, Instr.sliceBounds, Instr.sliceBound, asIntOf, hsz', h0, hc, h1, addr_add, show i ≤ (n : Int) by omega]
      · exact own_holds hxl hxo (by omega) (by omega) hdt hblk

/-! ### Strings and bytes -/
theorem u8_bytes (l : List UInt8) : (l.map u8) = (l.map fun c => (c.toNat : Int)).map (Value.int .u8) := by simp [u8, Function.comp_def]
theorem nums_bytes (l : List UInt8) : ((l.map fun c => (c.toNat : Int)).map fun n => UInt8.ofNat n.toNat) = l := by
  rw [List.map_map]
  conv => rhs; rw [← List.map_id l]
  apply List.map_congr_left
  intro c _
  simp

theorem q_bytes_str {l : List UInt8} {e dst src : TypeId} {x : Operand} [Rs C 1 v n (l.map u8)] [us : UT P src (.slice e)] [ue : UT P e (.int .u8)] [ud : UT P dst .string] (hx : ev fr x = some v) (he : Ent L (C :: R)) :
    Quiet P (.convert src dst x) ty fr L (st l) := by
  intro n' F a w d pos after g hr hh
  obtain ⟨hl, _, ⟨a0, cap, hv, hn, hx0⟩ | ⟨b, o, cap, T, vs, fz, hv, hb, ht⟩⟩ := holds_rs (he F w hh)
  · subst hv
    have hl0 : l = [] := by simpa using hx0
    subst hl0
    cases a0 with
    | none =>
      have := run_convert_bytes_nil (P := P) w src e us.out ue.out n cap dst ud.out
      simp only [execOp, hr.ev hx, Option.map_none, Sem.run_bind, this, Result.andThen_ok, Sem.run_pure]
      rfl
    | some p =>
      have := run_convert_bytes_arg (P := P) w src e us.out ue.out p.1 p.2 n cap [] (by rw [hn]; rfl) (by intro i hi; omega) dst ud.out
      simp only [execOp, hr.ev hx, Option.map_some, Sem.run_bind, this, Result.andThen_ok, Sem.run_pure]
      rfl
  · subst hv
    have hlen : (l.map fun c => (c.toNat : Int)).length = n := by simpa using hl
    have := run_convert_bytes_arg (P := P) w src e us.out ue.out b o n cap (l.map fun c => (c.toNat : Int)) hlen (by
      intro i hi
      have hi' : i < l.length := by simp at hlen; omega
      have h1 : (l.map u8)[i]? = some (u8 l[i]) := by simp [hi']
      rw [cell_of hb, take_get ht h1]
      simp [u8, List.getD, hi']) dst ud.out
    simp only [execOp, hr.ev hx, Sem.run_bind, this, Result.andThen_ok, Sem.run_pure]
    unfold strOfNums
    rw [nums_bytes]
    rfl

theorem s_str_bytes {l : List UInt8} {e dst src : TypeId} {x : Operand} [us : UT P src .string] [ud : UT P dst (.slice e)] [ue : UT P e (.int .u8)] (hx : ev fr x = some (st l)) :
    Step P (.convert src dst x) ty fr L (fun v' : Value => v') (fun v' => own e 1 v' l.length (l.map u8) :: L) := by
  intro n' F a w d pos after g K Q hr hh hkk
  have h1 : (underlying src).run P w = .ok .string w := run_ut
  have h2 : (underlying dst).run P w = .ok (.slice e) w := run_ut
  have h3 : (underlying e).run P w = .ok (.int .u8) w := run_ut
  let newc := (Question.appendCap l.length 0 e).cut (w.tape w.drawn (.appendCap l.length 0 e))
  have hnew : l.length ≤ newc := by simp only [newc, Question.cut]; omega
  let cells : List Value := l.map u8 ++ List.replicate (newc - l.length) (.int .u8 0)
  have hcl : cells.length = newc := by simp [cells]; omega
  let w1 := w.drew.alloc (.cells cells.toArray e)
  have hw1 : w1.heap[w.heap.size]? = some (.cells cells.toArray e (0, 0)) := holds_pt (holds_alloc (w := w.drew) (holds_same hh rfl rfl rfl))
  have hsh : w1.shape? w.heap.size = some (e, newc) := by rw [shape_of hw1, hcl]
  let w2 := w1.freeze ⟨w.heap.size, newc, none⟩ 1
  refine wpIn_value (w' := w2) (v := .slice (some ⟨w.heap.size, 0, none⟩) l.length newc) ?_ (hkk _ w2 ?_)
  · simp only [execOp, hr.ev hx, st, convert, Sem.run_bind, h1, h2, h3, Result.andThen_ok]
    have : (Conv.stringToBytes e ⟨l.toArray⟩).run P w = .ok (.slice (some ⟨w.heap.size, 0, none⟩) l.length newc) w2 := by
      have hsize : (ByteArray.mk l.toArray).size = l.length := by simp [ByteArray.size]
      simp only [Conv.stringToBytes, hsize, Sem.run_bind, run_choose, Question.forced, Bool.false_eq_true, if_false, Result.andThen_ok, newRow, run_newObj, Sem.run_pure]
      have hcell : (Array.map (fun b : UInt8 => Value.int .u8 (b.toNat : Int)) l.toArray ++ Array.replicate (newc - l.length) (Value.int .u8 0)) = cells.toArray := by
        apply Array.ext'
        simp [cells, u8, Function.comp_def]
      have hw1' : ({ w with drawn := w.drawn + 1, heap := w.heap.push (.cells cells.toArray e) } : World) = w1 := rfl
      simp only [newc] at hcell
      rw [hcell]
      simp only [markStringish, Sem.run_bind, run_shape]
      show Result.andThen (Result.andThen (Result.ok (w1.shape? w.heap.size) w1) _) _ = _
      rw [hsh]
      rfl
    rw [this]
    rfl
  · have hh1 : Holds (pt w.heap.size (.cells cells.toArray e) :: L) F w1 := holds_alloc (w := w.drew) (holds_same hh rfl rfl rfl)
    have hfz : Holds (pt w.heap.size (.cells cells.toArray e (newc, newc + 1)) :: L) F w2 := by
      refine holds_set hh1 ?_ ?_ rfl rfl
      · simp [w2, World.freeze, Array.getElem?_modify, hw1]
      · intro c hc
        simp [w2, World.freeze, Array.getElem?_modify, Ne.symm hc]
    refine own_holds (by simp) ?_ hnew (by rw [hcl]; omega) ?_ (blk_holds (fz := (newc, newc + 1)) ?_ hfz)
    · intro x hx
      obtain ⟨c, _, rfl⟩ := List.mem_map.1 hx
      rfl
    · rw [List.drop_zero, Nat.mul_one]
      simp only [cells]
      rw [List.take_append_of_le_length (by simp), List.take_of_length_le (by simp)]
    · intro i hi
      rw [hcl] at hi
      simp only
      omega

theorem p_len_st {l : List UInt8} {x : Operand} {ats : TypeId} [UT P ats .string] (hx : ev fr x = some (st l)) : Pure P (.call ⟨.builtin .len, #[x], #[ats]⟩) ty fr (.int .i64 l.length) := by
  have := p_len_str (P := P) (ty := ty) (ats := ats) hx
  simpa [ByteArray.size] using this
theorem p_index_st {x ix : Operand} {l : List UInt8} {k : IntKind} {i : Int} {c : UInt8} [UT P t .string] (hx : ev fr x = some (st l)) (hi : ev fr ix = some (.int k i)) (h0 : 0 ≤ i)
    (h1 : l[i.toNat]? = some c) : Pure P (.index t x ix) ty fr (u8 c) := p_index_str (s := ⟨l.toArray⟩) hx hi h0 (by simpa using h1)

theorem p_add_st {x y : Operand} {yt : TypeId} {l m : List UInt8} (hx : ev fr x = some (st l)) (hy : ev fr y = some (st m)) (hb : l.length + m.length ≤ 9223372036854775807) : Pure P (.binOp .add t x y yt) ty fr (st (l ++ m)) := by
  intro n' a w d pos after g hr
  have : ¬ ((9223372036854775807 : Int) < ((l.length + m.length : Nat) : Int)) := by omega
  have h2 : (ByteArray.mk l.toArray ++ ByteArray.mk m.toArray) = ⟨(l ++ m).toArray⟩ := by
    apply ByteArray.ext
    simp
  simp only [execOp, hr.ev hx, hr.ev hy, st, eqGuard, binOp, Op.stringOp, ByteArray.size, List.size_toArray]
  simp [IntKind.max, IntKind.signed, IntKind.bits, h2]
  omega
theorem toList_mk (l : List UInt8) : (ByteArray.mk l.toArray).toList = l := by simp
theorem p_eql_st {x y : Operand} {yt : TypeId} {l m : List UInt8} (hx : ev fr x = some (st l)) (hy : ev fr y = some (st m)) : Pure P (.binOp .eql t x y yt) ty fr (.bool (decide (l = m))) := by
  intro n' a w d pos after g hr
  simp only [execOp, hr.ev hx, hr.ev hy, st, eqGuard, binOp, Op.stringOp, toList_mk]
  by_cases h : l = m <;> simp [h]
theorem p_neq_st {x y : Operand} {yt : TypeId} {l m : List UInt8} (hx : ev fr x = some (st l)) (hy : ev fr y = some (st m)) : Pure P (.binOp .neq t x y yt) ty fr (.bool (decide (l ≠ m))) := by
  intro n' a w d pos after g hr
  simp only [execOp, hr.ev hx, hr.ev hy, st, eqGuard, binOp, Op.stringOp, toList_mk]
  by_cases h : l = m <;> simp [h]
end
end Go.Proofs.YtaibgfnfmkpibaaGreatDoor.SL
