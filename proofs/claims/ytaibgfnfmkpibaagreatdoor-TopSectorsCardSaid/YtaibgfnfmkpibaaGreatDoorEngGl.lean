/- From a contract in owned pieces to a row's own words: what is kept, an argument of bytes, a table. No program in sight. -/
import Derived.Test.YtaibgfnfmkpibaaGreatDoorEngZ
import Derived.ChangeSlices
import Derived.ChangeAgain
import Derived.SizedLaws
import Derived.OpenShut
import Derived.RowKit
import Derived.Lib.LaidTab
import Derived.Test.YtaibgfnfmkpibaaGreatDoorEngM
namespace Go.Proofs.YtaibgfnfmkpibaaGreatDoor.SL
open Go Go.ChangeShapes Go.WideShapes Go.RowKit

def Base.of (W : World) (H : Hp) : Base := { own := fun b => if b ∈ H.map (·.1) then none else W.heap[b]?, os := W.os, output := W.output }

theorem sat_of {W : World} {H : Hp} (hn : (H.map (·.1)).Nodup) (hh : ∀ b o, (b, o) ∈ H → W.heap[b]? = some o) : Sat H (Base.of W H) W where
  nodup := hn
  has := hh
  rest b o h := by
    simp only [Base.of] at h
    split at h
    · cases h
    · exact h
  apart b o h := by
    simp only [Base.of] at h
    split at h
    · cases h
    · assumption
  os := rfl
  output := rfl

/-- A law that says true and leaves its pieces as they were leaves all as it was. -/
theorem calls_kept {P : Program} {f : FuncId} {args : Array Value} {C : List HProp} {H0 : Hp} {W : World} (hC : All C H0) (hC' : ∀ H, All C H → H = H0) (hn : (H0.map (·.1)).Nodup)
    (hh : ∀ b o, (b, o) ∈ H0 → W.heap[b]? = some o) (hf : Fn P f args C (fun u => pur (u = .bool true) :: C)) :
    Calls P f args W fun e W' => e = .returned (.bool true) ∧ W'.os = W.os ∧ W'.output = W.output ∧ ∀ i, i < W.heap.size → W'.heap[i]? = W.heap[i]? := by
  refine (hf (Base.of W H0) W ⟨H0, hC, sat_of hn hh⟩).mono ?_
  rintro e W' ⟨v, rfl, hv⟩
  obtain ⟨rfl, H, hA, hs⟩ := holds_pur.1 hv
  obtain rfl := hC' H hA
  refine ⟨rfl, hs.os, hs.output, fun i hi => ?_⟩
  obtain ⟨o, ho⟩ : ∃ o, W.heap[i]? = some o := ⟨W.heap[i], Array.getElem?_eq_getElem hi⟩
  rw [ho]
  by_cases hm : i ∈ H.map (·.1)
  · obtain ⟨p, hp, rfl⟩ := List.mem_map.1 hm
    have := hh p.1 p.2 hp
    rw [ho] at this
    cases this
    exact hs.has p.1 p.2 hp
  · exact hs.rest i o (by simp only [Base.of]; rw [if_neg hm]; exact ho)

theorem keptBut_of {W W' : World} (h1 : W'.os = W.os) (h2 : W'.output = W.output) (h3 : ∀ i, i < W.heap.size → W'.heap[i]? = W.heap[i]?) (may : MemPlace → Prop) : W.keptBut W' may := by
  refine ⟨h1, h2, fun i hi => ?_⟩
  rw [h3 i hi]
  exact (World.keptBut_refl W may).2.2 i hi

theorem cell_kept {W W' : World} (h3 : ∀ i, i < W.heap.size → W'.heap[i]? = W.heap[i]?) {a : Addr} {v : Value} (h : W.cell? a = some v) : W'.cell? a = some v := by
  have hb : a.block < W.heap.size := by
    rcases Nat.lt_or_ge a.block W.heap.size with h1 | h1
    · exact h1
    · simp [World.cell?, Array.getElem?_eq_none h1] at h
  unfold World.cell? at h ⊢
  rw [h3 _ hb]
  exact h

theorem cell_cells {W : World} {b i : Nat} {v : Value} (h : W.cell? ⟨b, i, none⟩ = some v) : ∃ c T fz, W.heap[b]? = some (.cells c T fz) ∧ c[i]? = some v := by
  unfold World.cell? at h
  split at h
  · rename_i c T fz hc
    exact ⟨c, T, fz, hc, by simpa using h⟩
  · cases h

/-- An argument of bytes: its piece, how it reads, and how it reads again. -/
theorem bytes_arg {H : Type} {enc : TypeId × Value → H} {P : Program} {W : World} {t e : TypeId} {v : Value} {d : DataW H} {p : List MemPlace} {r : Reach} {base : Nat}
    (ht : P.underlying t = some (.slice e)) (he : P.underlying e = some (.int .u8)) (hc : P.cellsOf e = 1)
    (hok : Value.okWide P W r base t v) (h : DataW.Trod enc P W 0 (fun _ => true) true t v d p) :
    ∃ (ob : Option (Nat × Obj)) (l : List UInt8), rxs ob 1 v l.length (l.map u8) ob.toList ∧
      (∀ b o, ob = some (b, o) → W.heap[b]? = some o ∧ ∃ (c : Array Value) (T : TypeId) (fz : Nat × Nat) (i : Nat) (n : Int), o = .cells c T fz ∧ c[i]? = some (.int .u8 n)) ∧
      ((d = .nil ∧ l = []) ∨ ∃ es sp, d = .slice es sp ∧ l.length ≤ es.length + sp.length) ∧
      ∀ W' : World, (∀ i, i < W.heap.size → W'.heap[i]? = W.heap[i]?) → ∀ spare : Nat → Bool, (∀ b, b < W.heap.size → spare b = true) → DataW.Trod enc P W' 0 spare true t v d p := by
  obtain ⟨fuel, hf⟩ := h
  rcases open_ints ht he hc hf with ⟨h1, h2⟩ | ⟨a, len, cap, zs, h1, _, hl, hm, hz, h2, hcell, hw⟩
  · have hv : v = .slice none 0 0 := by
      simp only [Value.okWide, ht] at hok
      cases v <;> simp_all [Value.cells, Cell.okWide, Cell.ok]
    subst hv
    cases h2
    refine ⟨none, [], ⟨rfl, rfl, by simp, Or.inl ⟨none, 0, rfl, rfl, rfl⟩⟩, by simp, Or.inl ⟨rfl, rfl⟩, fun W' _ spare _ => shut_slice_nil ht⟩
  · have hv : v = .slice (some a) len cap := by
      simp only [Value.okWide, ht] at hok
      cases v <;> simp_all [Value.cells, Cell.okWide, Cell.ok]
    subst hv
    cases h2
    have hsp : a.spot = none := by
      simp only [Value.okWide, ht, Cell.okWide, Cell.ok] at hok
      exact hok.2.2.2.1
    obtain ⟨b, o, s⟩ := a
    simp only at hsp
    subst hsp
    simp only [if_true] at hz
    have hadd : ∀ i, Addr.add ⟨b, o, none⟩ i = ⟨b, o + i, none⟩ := fun i => addr_add b o i
    have hcell' : ∀ i, i < zs.length → W.cell? ⟨b, o + i, none⟩ = some (.int .u8 (zs.getD i 0)) := fun i hi => by rw [← hadd]; exact hcell i hi
    have hwf : ∀ n ∈ zs, 0 ≤ n ∧ n ≤ 255 := by
      intro n hn
      have := hw n hn
      simpa [Lit.wf, IntKind.min, IntKind.max, IntKind.signed, IntKind.bits] using this
    have hlen : ((zs.take len).map fun n => UInt8.ofNat n.toNat).length = len := by simp; omega
    have hu : ((zs.take len).map fun n => UInt8.ofNat n.toNat).map u8 = (zs.take len).map (Value.int .u8) := by
      rw [List.map_map]
      refine List.map_congr_left fun n hn => ?_
      have := hwf n (List.mem_of_mem_take hn)
      simp only [Function.comp, u8, Value.int.injEq, true_and]
      rw [UInt8.toNat_ofNat_of_lt' (by simp [UInt8.size]; omega)]
      omega
    have hread : ∀ W' : World, (∀ i, i < W.heap.size → W'.heap[i]? = W.heap[i]?) → ∀ spare : Nat → Bool, (∀ b, b < W.heap.size → spare b = true) → DataW.Trod enc P W' 0 spare true t (.slice (some ⟨b, o, none⟩) len cap) (.slice (lits .u8 (zs.take len)) (lits .u8 (zs.drop len))) (MemPlace.row ⟨b, o, none⟩ zs.length) := by
      intro W' h3 spare hspare
      refine ⟨2, shut_ints' 0 ht he hc (Nat.zero_le _) hl hm ?_ (fun i hi => cell_kept h3 (hcell' i hi)) hw⟩
      by_cases hcap : cap = 0
      · rw [hz]; split <;> omega
      · have := hcell' 0 (by omega)
        obtain ⟨c, T, fz, h4, _⟩ := cell_cells this
        have hb : b < W.heap.size := by
          rcases Nat.lt_or_ge b W.heap.size with h1 | h1
          · exact h1
          · simp [Array.getElem?_eq_none h1] at h4
        rw [hspare b hb, if_pos rfl, hz]
    refine (Nat.eq_zero_or_pos len).elim (fun h0 => ?_) (fun h0 => ?_)
    · subst h0
      refine ⟨none, [], ⟨rfl, rfl, by simp, Or.inl ⟨some (b, o), cap, rfl, rfl, rfl⟩⟩, by simp, Or.inr ⟨_, _, rfl, Nat.zero_le _⟩, hread⟩
    · obtain ⟨c, T, fz, h4, h5⟩ := cell_cells (hcell' 0 (by omega))
      refine ⟨some (b, .cells c T fz), (zs.take len).map fun n => UInt8.ofNat n.toNat, ⟨rfl, by simp, ?_, Or.inr ⟨b, o, cap, T, c.toList, fz, by rw [hlen], by simp, ?_⟩⟩, ?_, Or.inr ⟨_, _, rfl, ?_⟩, hread⟩
      · intro x hx
        obtain ⟨y, _, rfl⟩ := List.mem_map.1 hx
        rfl
      · rw [hlen, hu, Nat.mul_one]
        apply List.ext_getElem?
        intro i
        by_cases hi : i < len
        · obtain ⟨c', T', fz', h6, h7⟩ := cell_cells (hcell' i (by omega))
          rw [h4] at h6
          cases h6
          rw [List.getElem?_take_of_lt hi, List.getElem?_drop, List.getElem?_map, List.getElem?_take_of_lt hi, Array.getElem?_toList, h7]
          simp [List.getD, show i < zs.length by omega]
        · rw [List.getElem?_take_eq_none (by omega), List.getElem?_eq_none (by simp; omega)]
      · rintro b' o' h6
        cases h6
        exact ⟨h4, c, T, fz, o + 0, _, rfl, h5⟩
      · simp [lits]

/-- A table of the program's as a piece. -/
theorem table_arg {P : Program} {W : World} {name : String} {k : IntKind} {zs : List Int} {g : Nat} (hg : P.globalNamed name = some g) (h : Lib.TabIs P W name k zs) :
    ∃ ob, tab g ob (zs.map (Value.int k)) [(g, ob)] ∧ W.heap[g]? = some ob ∧ ∀ (c : Array Value) (T : TypeId) (fz : Nat × Nat), ob = .cells c T fz → ∀ (i : Nat) (v : Value), c[i]? = some v → ∃ n, v = .int k n := by
  unfold Lib.TabIs World.var? at h
  rw [hg] at h
  simp only [Option.bind_some] at h
  split at h
  · rename_i c T fz hc
    cases h
    refine ⟨_, ⟨rfl, _, T, fz, rfl, fun i v hi => by simpa using hi⟩, hc, fun c T fz h i v hi => ?_⟩
    cases h
    simp only [List.getElem?_toArray, List.getElem?_map, Option.map_eq_some_iff] at hi
    obtain ⟨n, _, rfl⟩ := hi
    exact ⟨n, rfl⟩
  · cases h
end Go.Proofs.YtaibgfnfmkpibaaGreatDoor.SL
