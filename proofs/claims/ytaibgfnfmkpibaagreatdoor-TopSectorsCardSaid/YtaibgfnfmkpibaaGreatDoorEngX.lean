/- A slice's tail, that is only looked at. No program in sight. -/
import Derived.Test.YtaibgfnfmkpibaaGreatDoorEngG
import Derived.Test.YtaibgfnfmkpibaaGreatDoorEngJ
namespace Go.Proofs.YtaibgfnfmkpibaaGreatDoor.SL
open Go

/-- A slice from a place on. -/
def tlv (sz : Nat) (v : Value) (i : Nat) : Value := match v with
  | .slice (some a) n c => .slice (some (if c = i then a else a.add (i * sz))) (n - i) (c - i)
  | .slice none n c => .slice none (n - i) (c - i)
  | v => v

theorem tlv_one {sz i : Nat} {v : Value} (h : v.oneCell' = true) : (tlv sz v i).oneCell' = true := by
  unfold tlv
  split <;> first | rfl | exact h

section
variable {P : Program} {fr : Fr} {L R : List HProp} {ty t : TypeId} {F : Base} {w : World} {sz n : Nat} {v : Value} {xs : List Value}

theorem q_slice_tail {T e : TypeId} {by' : Nat} {x lo : Operand} {ik : IntKind} {i : Int} [UT P t (.slice e)] [SZ P e sz by'] (hx : ev fr x = some v) (hlo : ev fr lo = some (.int ik i)) (he : Ent L (own T sz v n xs :: R)) (h0 : 0 ≤ i) (h1 : i ≤ n) :
    Quiet P (.slice t x (some lo) none none) ty fr L (tlv sz v i.toNat) := by
  intro n' F a w d pos after g hr hh
  have hut : (underlying t).run P w = .ok (.slice e) w := run_ut
  have hsz' : (sizeOf e).run P w = .ok sz w := run_size
  obtain ⟨hl, ho, hc⟩ := holds_own (he F w hh)
  rcases hc with ⟨hv, hn0, hx0, hR⟩ | ⟨b, o, cap, vs, hv, hnc, hle, ht, hblk⟩
  · subst hv
    have hi0 : i = 0 := by omega
    subst hi0
    simp [execOp, hr.ev hx, hr.ev hlo, Instr.sliceAt, Instr.slice, hut, Instr.sliceBounds, Instr.sliceBound, asIntOf, hsz', tlv]
  · subst hv
    by_cases hc : cap = i.toNat
    · have hnn : n = i.toNat := by omega
      simp [execOp, hr.ev hx, hr.ev hlo, Instr.sliceAt, Instr.slice, hut, Instr.sliceBounds, Instr.sliceBound, asIntOf, hsz', h0, hc, hnn, h1, show i ≤ (i.toNat : Int) by omega, tlv]
      try (intro hlt; omega)
    · simp [execOp, hr.ev hx, hr.ev hlo, Instr.sliceAt, Instr.slice, hut, Instr.sliceBounds, Instr.sliceBound, asIntOf, hsz', h0, hc, h1, addr_add, show i ≤ (n : Int) by omega, tlv]

theorem Ent.ownTail {T : TypeId} {i : Nat} (h1 : i ≤ n) : Ent (own T sz v n xs :: L) (own T sz (tlv sz v i) (n - i) (xs.drop (i * sz)) :: L) := by
  intro F w hh
  obtain ⟨hl, ho, hc⟩ := holds_own hh
  rcases hc with ⟨hv, hn0, hx0, hR⟩ | ⟨b, o, cap, vs, hv, hnc, hle, ht, hblk⟩
  · subst hv; subst hx0; subst hn0
    have hi0 : i = 0 := by omega
    subst hi0
    simpa [tlv] using hh
  · subst hv
    have hm : n * sz = i * sz + (n - i) * sz := by rw [← Nat.add_mul]; congr 1; omega
    have hcm : cap * sz = i * sz + (cap - i) * sz := by rw [← Nat.add_mul]; congr 1; omega
    have hxl : (xs.drop (i * sz)).length = (n - i) * sz := by rw [List.length_drop, hl]; omega
    have hxo : ∀ x ∈ xs.drop (i * sz), Value.oneCell' x = true := fun x hx => ho x (List.mem_of_mem_drop hx)
    have hdt : ((vs.drop (o + i * sz)).take ((n - i) * sz)) = xs.drop (i * sz) := by
      rw [← ht, List.drop_take, List.drop_drop]; congr 1; omega
    by_cases hc : cap = i
    · have hnn : n = i := by omega
      have : tlv sz (.slice (some ⟨b, o, none⟩) n cap) i = .slice (some ⟨b, o, none⟩) (n - i) (cap - i) := by simp [tlv, hc]
      rw [this]
      refine own_holds hxl hxo (by omega) (by rw [hc, Nat.sub_self]; omega) ?_ hblk
      rw [hnn, Nat.sub_self, Nat.zero_mul, List.take_zero]
      symm; apply List.eq_nil_of_length_eq_zero; rw [hxl, hnn]; simp
    · have : tlv sz (.slice (some ⟨b, o, none⟩) n cap) i = .slice (some ⟨b, o + i * sz, none⟩) (n - i) (cap - i) := by simp [tlv, hc, addr_add]
      rw [this]
      exact own_holds hxl hxo (by omega) (by omega) hdt hblk
theorem s_clear_map {x : Operand} {kt el : TypeId} {r clk : Nat} {es : Array MapEntry} [UT P t (.map kt el)] (hx : ev fr x = some (.map (some r))) (he : Ent L (pt r (.map es clk) :: R)) :
    Step P (.call ⟨.builtin .clear, #[x], #[t]⟩) ty fr L (fun _ : Unit => .tuple #[]) (fun _ => pt r (.map #[] clk) :: R) := by
  intro n' F a w d pos after g K Q hr hh hkk
  have hp := he F w hh
  have hb := holds_pt hp
  have hut : (underlying t).run P w = .ok (.map kt el) w := run_ut
  refine wpIn_value (w' := { w with heap := w.heap.setIfInBounds r (.map #[] clk) }) ?_ (hkk () _ (holds_put hp))
  simp only [execOp, resolve, invoke, builtin, List.map_toArray, List.map_cons, List.map_nil, hr.ev hx, pure_bind, Builtin.clear_, List.getElem?_toArray, List.getElem?_cons_zero, Sem.run_bind, hut, Result.andThen_ok, run_get hb, run_set _ hb, Sem.run_pure]
end
end Go.Proofs.YtaibgfnfmkpibaaGreatDoor.SL
