/- Copying, clearing; structs and slices built; maps. No program in sight. -/
import Derived.Test.YtaibgfnfmkpibaaGreatDoorEngG
namespace Go.Proofs.YtaibgfnfmkpibaaGreatDoor.SL
open Go

section
variable {P : Program} {fr : Fr} {L R : List HProp} {ty t : TypeId} {F : Base} {w : World} {C : HProp} {sz n : Nat} {v : Value} {xs : List Value}

/-- What can be copied: so many elements, these cells. -/
def SrcC (P : Program) (sz : Nat) (x : Value) (m : Nat) (ys : List Value) (w : World) : Prop :=
  (Builtin.lenOf x).run P w = .ok m w ∧ ys.length = m * sz ∧ (∀ y ∈ ys, Value.oneCell' y = true) ∧ ∀ j, j ≤ m → (Builtin.firstCells sz j x).run P w = .ok (ys.take (j * sz)).toArray w

theorem srcC_of_rs [u : Rs C sz v n xs] (h : Holds (C :: L) F w) : SrcC P sz v n xs w := by
  obtain ⟨hl, ho, hc⟩ := holds_rs h
  refine ⟨?_, hl, ho, ?_⟩
  · rcases hc with ⟨a, cap, rfl, _⟩ | ⟨b, o, cap, T, vs, fz, rfl, _⟩ <;> rfl
  · intro j hj
    rcases hc with ⟨a, cap, rfl, hn, rfl⟩ | ⟨b, o, cap, T, vs, fz, rfl, hb, ht⟩
    · have hj0 : j = 0 := by omega
      subst hj0
      cases a with
      | none => simp [Builtin.firstCells]
      | some p =>
        have := run_loadCells_list (P := P) (w := w) ⟨p.1, p.2, none⟩ [] (by intro j x hj; cases hj)
        show (loadCells ⟨p.1, p.2, none⟩ (0 * sz)).run P w = _
        rw [Nat.zero_mul]
        simpa using this
    · have hjl : j * sz ≤ n * sz := Nat.mul_le_mul_right _ hj
      refine firstCells_some hb (by rw [List.length_take]; omega) ?_
      rw [List.length_take, Nat.min_eq_left (by omega), ← ht, List.take_take, Nat.min_eq_left (by rw [hl]; omega)]
/-- Out of a block of cells. -/
theorem srcC_of_blk {b o cap m : Nat} {T : TypeId} {vs ys : List Value} (hy : ys.length = m * sz) (hyo : ∀ y ∈ ys, Value.oneCell' y = true) (ht : (vs.drop o).take (m * sz) = ys) (h : Holds (blk b T vs :: L) F w) :
    SrcC P sz (.slice (some ⟨b, o, none⟩) m cap) m ys w := by
  obtain ⟨fz, _, hp⟩ := holds_blk h
  refine ⟨rfl, hy, hyo, fun j hj => ?_⟩
  have hjl : j * sz ≤ m * sz := Nat.mul_le_mul_right _ hj
  refine firstCells_some (holds_pt hp) (by rw [List.length_take]; omega) ?_
  rw [List.length_take, Nat.min_eq_left (by omega), ← ht, List.take_take, Nat.min_eq_left (by omega)]
/-- A part of a slice. -/
theorem srcC_of_sub {k m cap : Nat} {sz' : Nat} {ys : List Value} [u : Rs C sz' v n xs] (hy : ys.length = m * sz) (ht : (xs.drop k).take (m * sz) = ys) (hk : k + m * sz ≤ xs.length) (hm : m * sz ≠ 0) (h : Holds (C :: L) F w) :
    SrcC P sz (sub v k m cap) m ys w := by
  obtain ⟨hl, ho, hc⟩ := holds_rs h
  rcases hc with ⟨a, c, rfl, hn, rfl⟩ | ⟨b, o, c, T, vs, fz, rfl, hb, hx⟩
  · simp at hk; omega
  · refine ⟨rfl, hy, ?_, fun j hj => ?_⟩
    · intro y hyy
      rw [← ht] at hyy
      exact ho y (List.mem_of_mem_drop (List.mem_of_mem_take hyy))
    · have hjl : j * sz ≤ m * sz := Nat.mul_le_mul_right _ hj
      simp only [sub, Option.map_some, addr_add]
      refine firstCells_some hb (by rw [List.length_take]; omega) ?_
      rw [List.length_take, Nat.min_eq_left (by omega), ← ht, List.take_take, Nat.min_eq_left (by omega)]
      rw [← hx, List.drop_take, List.take_take, List.drop_drop, Nat.min_eq_left (by omega)]

theorem run_copy {dT sT e : TypeId} {b o cap dn m : Nat} {T : TypeId} {vs ys : List Value} {y : Value} [UT P dT (.slice e)] {by' : Nat} [SZ P e sz by'] (hs : SrcC P sz y m ys w) (ho : o + dn * sz ≤ vs.length)
    (h : Holds (blk b T vs :: L) F w) : ∃ w', (Builtin.copy_ #[dT, sT] t #[.slice (some ⟨b, o, none⟩) dn cap, y]).run P w = .ok (.int .i64 (min m dn : Nat)) w' ∧ Holds (blk b T (over vs o (ys.take (min m dn * sz))) :: L) F w' := by
  obtain ⟨h1, h2, h3, h4⟩ := hs
  have hut : (underlying dT).run P w = .ok (.slice e) w := run_ut
  have hsz' : (sizeOf e).run P w = .ok sz w := run_size
  have hmm : min m dn * sz ≤ dn * sz := Nat.mul_le_mul_right _ (Nat.min_le_right _ _)
  have hmy : min m dn * sz ≤ m * sz := Nat.mul_le_mul_right _ (Nat.min_le_left _ _)
  obtain ⟨w', hr, hh⟩ := storeCells_blk (P := P) (ys.take (min m dn * sz)) o 0 vs w (fun u hu => h3 u (List.mem_of_mem_take hu)) (by rw [List.length_take]; omega) h
  refine ⟨w', ?_, by simpa using hh⟩
  simp only [Builtin.copy_]
  have hmin : Nat.min m dn = min m dn := rfl
  have h4' := h4 (min m dn) (Nat.min_le_left _ _)
  have hr' : (storeCells ⟨b, o, none⟩ (ys.take (min m dn * sz))).run P w = .ok () w' := hr
  generalize min m dn = q at *
  simp [hut, h1, hsz', goInt, hmin, h4', hr']

/-- Into a part of one's own slice. -/
theorem s_copy_sub {T : TypeId} {dT sT e : TypeId} {by' k dn cap m : Nat} {x y : Operand} {yv : Value} {ys : List Value} {esz : Nat} [UT P dT (.slice e)] [SZ P e esz by'] (hx : ev fr x = some (sub v k dn cap)) (hy : ev fr y = some yv)
    (he : Ent L (own T sz v n xs :: R)) (hs : ∀ F w, Holds R F w → SrcC P esz yv m ys w) (hk : k + dn * esz ≤ xs.length) (h0 : xs ≠ []) :
    Step P (.call ⟨.builtin .copy, #[x, y], #[dT, sT]⟩) ty fr L (fun _ : Unit => .int .i64 (min m dn : Nat)) (fun _ => own T sz v n (over xs k (ys.take (min m dn * esz))) :: R) := by
  intro n' F a w d pos after g K Q hr hh hkk
  have hown := he F w hh
  have hR : Holds R F w := Ent.drop F w hown
  have hsrc := hs F w hR
  obtain ⟨hl, ho, ⟨_, _, hx0, _⟩ | ⟨b, o, c, vs, rfl, hnc, hcap, ht, hb⟩⟩ := holds_own hown
  · exact absurd hx0 h0
  · have hmm : min m dn * esz ≤ dn * esz := Nat.mul_le_mul_right _ (Nat.min_le_right _ _)
    have hvl : o + xs.length ≤ vs.length := by
      have : n * sz ≤ c * sz := Nat.mul_le_mul_right _ hnc
      omega
    obtain ⟨w', hrun, hh'⟩ := run_copy (P := P) (t := ty) (dT := dT) (sT := sT) (e := e) (b := b) (o := o + k) (cap := cap) (dn := dn) (T := T) (vs := vs) (y := yv) hsrc (by omega) hb
    have hlen : (ys.take (min m dn * esz)).length ≤ dn * esz := by rw [List.length_take]; omega
    refine wpIn_value (w' := w') (v := .int .i64 (min m dn : Nat)) ?_ (hkk () w' ?_)
    · have hx' : a.eval x = .slice (some ⟨b, o + k, none⟩) dn cap := by rw [hr.ev hx]; simp [sub, addr_add]
      simp [execOp, resolve, invoke, builtin, hx', hr.ev hy, hrun]
    · refine own_holds ?_ ?_ hnc ?_ ?_ hh'
      · rw [over_length (by omega)]; exact hl
      · intro z hz
        unfold over at hz
        rcases List.mem_append.1 hz with hz | hz
        · rcases List.mem_append.1 hz with hz | hz
          · exact ho z (List.mem_of_mem_take hz)
          · exact hsrc.2.2.1 z (List.mem_of_mem_take hz)
        · exact ho z (List.mem_of_mem_drop hz)
      · rw [over_length (by omega)]; exact hcap
      · generalize hz : ys.take (min m dn * esz) = zs at *
        unfold over
        rw [← ht]
        apply List.ext_getElem?
        intro i
        simp only [List.getElem?_take, List.getElem?_drop, List.getElem?_append, List.length_append, List.length_take, List.length_drop]
        have e1 : min (o + k) vs.length = o + k := by omega
        have e2 : min k (min (n * sz) (vs.length - o)) = k := by omega
        rw [e1, e2]
        by_cases h1 : i < n * sz
        · simp only [h1, if_true]
          by_cases h2 : i < k
          · rw [if_pos (by omega), if_pos (by omega), if_pos (by omega), if_pos (by omega)]
            simp [h2]
          · by_cases h3 : i < k + zs.length
            · rw [if_pos (by omega), if_neg (by omega), if_pos (by omega), if_neg (by omega)]
              congr 1; omega
            · rw [if_neg (by omega), if_neg (by omega), if_pos (by omega)]
              congr 1; omega
        · simp only [h1, if_false]
          rw [if_neg (by omega)]
          rw [if_neg (by omega)]

/-- A part of one's own slice made zero. -/
theorem s_clear_sub {T : TypeId} {dT e : TypeId} {by' k dn cap : Nat} {x : Operand} {esz : Nat} {z : Value} {zs : List Value} [UT P dT (.slice e)] [SZ P e esz by'] [ZV P e z] [Cel z zs] (hx : ev fr x = some (sub v k dn cap))
    (he : Ent L (own T sz v n xs :: R)) (hk : k + dn * esz ≤ xs.length) (h0 : xs ≠ []) (hzs : zs.length = esz) :
    Step P (.call ⟨.builtin .clear, #[x], #[dT]⟩) ty fr L (fun _ : Unit => .tuple #[]) (fun _ => own T sz v n (over xs k (List.replicate dn zs).flatten) :: R) := by
  intro n' F a w d pos after g K Q hr hh hkk
  have hown := he F w hh
  have hut : (underlying dT).run P w = .ok (.slice e) w := run_ut
  have hzz : (zeroValue e).run P w = .ok z w := run_zero
  obtain ⟨hl, ho, ⟨_, _, hx0, _⟩ | ⟨b, o, c, vs, rfl, hnc, hcap, ht, hb⟩⟩ := holds_own hown
  · exact absurd hx0 h0
  · have hx' : a.eval x = .slice (some ⟨b, o + k, none⟩) dn cap := by rw [hr.ev hx]; simp [sub, addr_add]
    have hvl : o + xs.length ≤ vs.length := by
      have : n * sz ≤ c * sz := Nat.mul_le_mul_right _ hnc
      omega
    have hz1 : z.cells = zs.toArray := Cel.out
    have hzo : ∀ u ∈ zs, Value.oneCell' u = true := Cel.one (v := z)
    have hzc : (Builtin.zeroCells z.cells dn).toList = (List.replicate dn zs).flatten := by
      have := size_madeCells z.cells
      rw [hz1]
      unfold Builtin.zeroCells
      apply List.ext_getElem
      · simp
      · intro i h1 h2
        simp only [Array.toList_map, Array.toList_range, List.getElem_map, List.getElem_range, List.size_toArray]
        have hi : i < dn * zs.length := by simpa using h1
        have hpos : 0 < zs.length := by
          rcases Nat.eq_zero_or_pos zs.length with h0 | h0
          · rw [h0] at hi; omega
          · exact h0
        have hlt : i % zs.length < zs.length := Nat.mod_lt _ hpos
        rw [getElem!_pos zs.toArray (i % zs.length) (by simpa using hlt)]
        simp only [List.getElem_toArray]
        have key : ∀ (m j : Nat) (h : j < ((List.replicate m zs).flatten).length), zs[j % zs.length]'(Nat.mod_lt _ hpos) = ((List.replicate m zs).flatten)[j] := by
          intro m
          induction m with
          | zero => intro j h; simp at h
          | succ m ih =>
            intro j h
            simp only [List.replicate_succ, List.flatten_cons]
            by_cases hc : j < zs.length
            · rw [List.getElem_append_left hc]
              congr 1
              exact Nat.mod_eq_of_lt hc
            · rw [List.getElem_append_right (by omega)]
              have := ih (j - zs.length) (by simp [List.replicate_succ] at h ⊢; omega)
              rw [← this]
              congr 1
              rw [Nat.mod_eq_sub_mod (by omega)]
        exact key _ _ h2
    generalize hzs' : (List.replicate dn zs).flatten = us at *
    have hul : us.length = dn * esz := by rw [← hzs']; simp [hzs]
    have huo : ∀ u ∈ us, Value.oneCell' u = true := by
      intro u hu
      rw [← hzs', List.mem_flatten] at hu
      obtain ⟨l, hl, hu⟩ := hu
      rw [(List.mem_replicate.1 hl).2] at hu
      exact hzo u hu
    obtain ⟨w', hrun, hh'⟩ := storeCells_blk (P := P) us (o + k) 0 vs w huo (by omega) hb
    have fin : Holds (own T sz (.slice (some ⟨b, o, none⟩) n c) n (over xs k us) :: R) F w' := by
      refine own_holds ?_ ?_ hnc ?_ ?_ (by simpa using hh')
      · rw [over_length (by omega)]; exact hl
      · intro z hz
        unfold over at hz
        rcases List.mem_append.1 hz with hz | hz
        · rcases List.mem_append.1 hz with hz | hz
          · exact ho z (List.mem_of_mem_take hz)
          · exact huo z hz
        · exact ho z (List.mem_of_mem_drop hz)
      · rw [over_length (by omega)]; exact hcap
      · unfold over
        rw [← ht]
        apply List.ext_getElem?
        intro i
        simp only [List.getElem?_take, List.getElem?_drop, List.getElem?_append, List.length_append, List.length_take, List.length_drop]
        have e1 : min (o + k) vs.length = o + k := by omega
        have e2 : min k (min (n * sz) (vs.length - o)) = k := by omega
        rw [e1, e2]
        by_cases h1 : i < n * sz
        · simp only [h1, if_true]
          by_cases h2 : i < k
          · rw [if_pos (by omega), if_pos (by omega), if_pos (by omega), if_pos (by omega)]
            simp [h2]
          · by_cases h3 : i < k + us.length
            · rw [if_pos (by omega), if_neg (by omega), if_pos (by omega), if_neg (by omega)]
              congr 1; omega
            · rw [if_neg (by omega), if_neg (by omega), if_pos (by omega)]
              congr 1; omega
        · simp only [h1, if_false]
          rw [if_neg (by omega)]
          rw [if_neg (by omega)]
    refine wpIn_value (w' := w') (v := .tuple #[]) ?_ (hkk () w' fin)
    simp only [execOp, resolve, invoke, builtin, Builtin.clear_, pure_bind, List.map_toArray, List.map_cons, List.map_nil, hx']
    by_cases hd : dn = 0
    · subst hd
      have hu0 : us = [] := by apply List.eq_nil_of_length_eq_zero; rw [hul]; simp
      subst hu0
      simp only [storeCells, Sem.run_pure, Result.ok.injEq, true_and] at hrun
      subst hrun
      simp [hut]
    · obtain ⟨q, rfl⟩ : ∃ q, dn = q + 1 := ⟨dn - 1, by omega⟩
      simp [hut, hzz, hzc, hrun]
end
end Go.Proofs.YtaibgfnfmkpibaaGreatDoor.SL
