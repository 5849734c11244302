/- Appending, copying, cutting, strings, structs and literals: over owned pieces of heap. No program in sight. -/
import Derived.Test.YtaibgfnfmkpibaaGreatDoorEngE
namespace Go.Proofs.YtaibgfnfmkpibaaGreatDoor.SL
open Go

section
variable {P : Program} {fr : Fr} {L R : List HProp} {ty t : TypeId} {F : Base} {w : World} {C : HProp} {sz n : Nat} {v : Value} {xs : List Value}

theorem firstCells_some {b o len cap m : Nat} {vs ys : List Value} {T : TypeId} {fz : Nat × Nat} (hb : w.heap[b]? = some (.cells vs.toArray T fz)) (hy : ys.length = m * sz) (ht : (vs.drop o).take ys.length = ys) :
    (Builtin.firstCells sz m (.slice (some ⟨b, o, none⟩) len cap)).run P w = .ok ys.toArray w := by
  have := run_loadCells_list (P := P) (w := w) ⟨b, o, none⟩ ys (by
    intro j x hj
    rw [addr_add, cell_of hb]
    exact take_get ht hj)
  rw [hy] at this
  exact this

/-- What is appended: its cells, as it is read now. -/
def Src (P : Program) (sz : Nat) (xt : TypeId) (x : Value) (m : Nat) (ys : List Value) (w : World) : Prop :=
  (Builtin.lenOf x).run P w = .ok m w ∧ ys.length = m * sz ∧ (∀ y ∈ ys, Value.oneCell' y = true) ∧ (∀ k, P.underlying xt ≠ some (.int k)) ∧ (∃ d, P.underlying xt = some d) ∧
  ∀ w' : World, (∀ (b : Nat) (o : Obj), w.heap[b]? = some o → w'.heap[b]? = some o) → (Builtin.firstCells sz m x).run P w' = .ok ys.toArray w'

theorem src_of_rs [u : Rs C sz v n xs] {xt e : TypeId} [ut : UT P xt (.slice e)] (h : Holds (C :: L) F w) : Src P sz xt v n xs w := by
  obtain ⟨hl, ho, hc⟩ := holds_rs h
  refine ⟨?_, hl, ho, (fun k hk => by rw [ut.out] at hk; cases hk), ⟨_, ut.out⟩, ?_⟩
  · rcases hc with ⟨a, cap, rfl, _⟩ | ⟨b, o, cap, T, vs, fz, rfl, _⟩ <;> rfl
  · intro w' hw'
    rcases hc with ⟨a, cap, rfl, hn, rfl⟩ | ⟨b, o, cap, T, vs, fz, rfl, hb, ht⟩
    · subst hn
      cases a with
      | none => rfl
      | some p =>
        have := run_loadCells_list (P := P) (w := w') ⟨p.1, p.2, none⟩ [] (by intro j x hj; cases hj)
        show (loadCells ⟨p.1, p.2, none⟩ (0 * sz)).run P w' = _
        rw [Nat.zero_mul]
        exact this
    · exact firstCells_some (hw' _ _ hb) hl ht

theorem s_append {T : TypeId} {e xt : TypeId} {by' : Nat} {x y : Operand} {yv : Value} {m : Nat} {ys : List Value} {z : Value} [UT P t (.slice e)] [SZ P e sz by'] [ZV P e z] (hx : ev fr x = some v) (hy : ev fr y = some yv)
    (he : Ent L (own e sz v n xs :: R)) (hs : ∀ F w, Holds R F w → Src P sz xt yv m ys w) (hb : (n + m) * by' ≤ 140737488355328) (hn : n + m ≤ 140737488355328) (hz : z.cells.size = sz) (hT : T = e) :
    Step P (.call ⟨.builtin .append, #[x, y], #[t, xt]⟩) ty fr L (fun v' : Value => v') (fun v' => own T sz v' (n + m) (xs ++ ys) :: R) := by
  subst hT
  intro n' F a w d pos after g K Q hr hh hkk
  obtain ⟨ii, hi, h1, h2⟩ := (SZ.out : ∃ i, P.info? T = some i ∧ i.size = sz ∧ i.bytes = by')
  have hown := he F w hh
  obtain ⟨hl, ho, hc⟩ := holds_own hown
  have hR : Holds R F w := Ent.drop F w hown
  obtain ⟨hlen, hyl, hyo, hni, ⟨dd, hdd⟩, hfc⟩ := hs F w hR
  have hut : (underlying t).run P w = .ok (.slice T) w := run_ut
  have hux : (underlying xt).run P w = .ok dd w := by simp [underlying, hdd]
  have hnot : ∀ k, dd ≠ .int k := fun k hk => hni k (hk ▸ hdd)
  have hmat : (match dd with | .int _ => true | _ => false) = false := by cases dd <;> first | rfl | (exact absurd rfl (hnot _))
  have hall : ∀ x ∈ xs ++ ys, Value.oneCell' x = true := by intro q hq; rcases List.mem_append.1 hq with h | h; exact ho q h; exact hyo q h
  have htot : (xs ++ ys).length = (n + m) * sz := by rw [List.length_append, hl, hyl, Nat.add_mul]
  -- with room
  have room : ∀ (b o cap : Nat) (vs : List Value), v = .slice (some ⟨b, o, none⟩) n cap → n + m ≤ cap → o + cap * sz ≤ vs.length → (vs.drop o).take (n * sz) = xs → Holds (blk b T vs :: R) F w →
      Oper.wpIn (WF n'.r) 0 P ⟨d, .call ⟨.builtin .append, #[x, y], #[t, xt]⟩, ty, pos, after, g⟩ a w K Q := by
    intro b o cap vs hv hcap hle ht hb'
    subst hv
    have hmul : (n + m) * sz ≤ cap * sz := Nat.mul_le_mul_right _ hcap
    obtain ⟨w', hrun, hw'⟩ := storeCells_blk (P := P) ys (o + n * sz) 0 vs w hyo (by rw [hyl]; rw [Nat.add_mul] at hmul; omega) hb'
    refine wpIn_value (w' := w') (v := .slice (some ⟨b, o, none⟩) (n + m) cap) ?_ (hkk _ w' ?_)
    · have hsz' : (sizeOf T).run P w = .ok sz w := run_size
      simp only [execOp, resolve, invoke, builtin, Builtin.append_, pure_bind, List.map_toArray, List.map_cons, List.map_nil, hr.ev hx, hr.ev hy]
      simp [hut, hsz', hux, hmat, hlen, hcap, hfc w (fun _ _ h => h), addr_add, hrun]
    · refine own_holds htot hall hcap ?_ ?_ hw'
      · rw [over_length (by rw [hyl, Nat.add_zero]; rw [Nat.add_mul] at hmul; omega)]; exact hle
      · rw [Nat.add_zero]
        unfold over
        have hol : o + n * sz ≤ vs.length := by rw [Nat.add_mul] at hmul; omega
        rw [List.append_assoc, List.drop_append_of_le_length (by rw [List.length_take]; omega), List.take_append, List.drop_take]
        have e1 : o + n * sz - o = n * sz := by omega
        rw [e1, ht]
        have e2 : (xs.take ((n + m) * sz)) = xs := List.take_of_length_le (by rw [hl, Nat.add_mul]; omega)
        rw [e2, hl, Nat.add_mul, Nat.add_sub_cancel_left]
        rw [List.take_append_of_le_length (by omega), List.take_of_length_le (by omega)]
  -- without
  have grown : ∀ (base : Option Addr) (cap : Nat), v = .slice base n cap → ¬ n + m ≤ cap → (∀ w' : World, (∀ (b : Nat) (o : Obj), w.heap[b]? = some o → w'.heap[b]? = some o) → (Builtin.firstCells sz n v).run P w' = .ok xs.toArray w') →
      Oper.wpIn (WF n'.r) 0 P ⟨d, .call ⟨.builtin .append, #[x, y], #[t, xt]⟩, ty, pos, after, g⟩ a w K Q := by
    intro base cap hv hcap hfx
    subst hv
    have hfit : Builtin.nextslicecap (n + m) cap * by' ≤ 281474976710656 := growslice_fits (by omega) hb
    have h48 : ¬ (281474976710656 < Builtin.nextslicecap (n + m) cap * by') := by omega
    have h63 : ¬ ((9223372036854775807 : Int) < (n : Int) + (m : Int)) := by omega
    let newc := (Question.appendCap (n + m) cap T).cut (w.tape w.drawn (.appendCap (n + m) cap T))
    have hnew : n + m ≤ newc := by simp only [newc, Question.cut]; omega
    let rest := Builtin.zeroCells z.cells (newc - (n + m))
    have hrest : rest.size = (newc - (n + m)) * sz := by simp [rest, Builtin.zeroCells, hz]
    let cells : List Value := xs ++ (ys ++ rest.toList)
    refine wpIn_value (w' := w.drew.alloc (.cells cells.toArray T)) (v := .slice (some ⟨w.heap.size, 0, none⟩) (n + m) newc) ?_ (hkk _ _ ?_)
    · have hsz' : ∀ w : World, (sizeOf T).run P w = .ok sz w := fun w => run_size
      have hti : ∀ w : World, (typeInfo T).run P w = .ok ii w := fun w => by simp [typeInfo, hi]
      have hzz : ∀ w : World, (zeroValue T).run P w = .ok z w := fun w => run_zero
      have hf1 := hfx w.drew (fun _ _ h => h)
      have hf2 := hfc w.drew (fun _ _ h => h)
      simp only [execOp, resolve, invoke, builtin, Builtin.append_, pure_bind, List.map_toArray, List.map_cons, List.map_nil, hr.ev hx, hr.ev hy]
      simp [hut, hsz', hti, hux, hmat, hlen, hcap, h2, h48, Question.forced, IntKind.max, IntKind.signed, IntKind.bits, h63, hf1, hf2, hzz, newRow, cells, newc, rest]
      refine congrArg (fun c => w.drew.alloc (.cells c T)) ?_
      apply Array.ext'
      simp
    · have hh' : Holds R F w.drew := holds_same hR rfl rfl rfl
      have hcl : cells.length = newc * sz := by
        simp only [cells, List.length_append, hl, hyl, Array.length_toList, hrest]
        obtain ⟨q, hq⟩ : ∃ q, newc = n + m + q := ⟨newc - (n + m), by omega⟩
        rw [hq, Nat.add_sub_cancel_left, Nat.add_mul, Nat.add_mul]; omega
      refine own_holds htot hall hnew (by omega) ?_ (holds_allocB hh')
      rw [List.drop_zero]
      simp only [cells]
      rw [← List.append_assoc, List.take_append_of_le_length (by omega), List.take_of_length_le (by omega)]
  rcases hc with ⟨hv, hn0, hx0, _⟩ | ⟨b, o, cap, vs, hv, hnc, hle, ht, hblk⟩
  · -- from nothing
    by_cases hm : m = 0
    · -- nothing to nothing
      subst hm; subst hn0; subst hx0; subst hv
      have hy0 : ys = [] := by simpa using hyl
      subst hy0
      refine wpIn_value (w' := w) (v := .slice none 0 0) ?_ (hkk _ w (by simpa using hown))
      have hsz' : (sizeOf T).run P w = .ok sz w := run_size
      simp only [execOp, resolve, invoke, builtin, Builtin.append_, pure_bind, List.map_toArray, List.map_cons, List.map_nil, hr.ev hx, hr.ev hy]
      simp [hut, hsz', hux, hmat, hlen, hfc w (fun _ _ h => h)]
    · subst hn0
      refine grown none 0 hv (by omega) ?_
      intro w' _
      subst hv; subst hx0
      rfl
  · by_cases hroom : n + m ≤ cap
    · exact room b o cap vs hv hroom hle ht hblk
    · refine grown _ cap hv hroom ?_
      intro w' hw'
      subst hv
      have hb0 := hblk
      obtain ⟨fz, _, hp⟩ := holds_blk hb0
      exact firstCells_some (hw' _ _ (holds_pt hp)) hl (by rw [hl]; exact ht)
end
end Go.Proofs.YtaibgfnfmkpibaaGreatDoor.SL
