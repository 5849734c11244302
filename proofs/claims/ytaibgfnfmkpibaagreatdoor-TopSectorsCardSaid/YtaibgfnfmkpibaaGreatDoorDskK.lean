/- The power goes: what is on a disk then. -/
import Derived.Test.YtaibgfnfmkpibaaGreatDoorDskJ
namespace Go.Proofs.YtaibgfnfmkpibaaGreatDoor.SL
open Go

def rank (A : Dk) (k : Nat) : Nat := ((List.range k).filter fun j => A.dirty.getD j false).length
theorem rank_succ (A : Dk) (k : Nat) : rank A (k + 1) = rank A k + if A.dirty.getD k false = true then 1 else 0 := by
  unfold rank
  rw [List.range_succ, List.filter_append, List.length_append]
  congr 1
  simp only [List.filter_cons, List.filter_nil]
  split <;> rfl
theorem rank_mono (A : Dk) {j k : Nat} (h : j ≤ k) : rank A j ≤ rank A k := by
  induction k with
  | zero => rw [Nat.le_zero.1 h]; exact Nat.le_refl _
  | succ k ih =>
    rcases Nat.lt_or_ge k j with h1 | h1
    · rw [show j = k + 1 by omega]; exact Nat.le_refl _
    · rw [rank_succ]; have := ih h1; omega
theorem rank_lt (A : Dk) {j k : Nat} (h : j < k) (hd : A.dirty.getD j false = true) : rank A j < rank A k := by
  have h1 := rank_mono A (show j + 1 ≤ k from h)
  rw [rank_succ, if_pos hd] at h1
  omega
theorem rank_inj (A : Dk) {j k : Nat} (hj : A.dirty.getD j false = true) (hk : A.dirty.getD k false = true) (h : rank A j = rank A k) : j = k := by
  rcases Nat.lt_trichotomy j k with h1 | h1 | h1
  · have := rank_lt A h1 hj; omega
  · exact h1
  · have := rank_lt A h1 hk; omega
/-- The i-th of those that were written. -/
theorem dirtyL_at {A : Dk} {n i : Nat} (hi : i < (dirtyL A n).length) : ∃ k : Nat, (dirtyL A n).getD i default = (k : Int) ∧ k < n ∧ A.dirty.getD k false = true ∧ rank A k = i := by
  induction n with
  | zero => simp [dirtyL] at hi
  | succ n ih =>
    have e : dirtyL A (n + 1) = dirtyL A n ++ if A.dirty.getD n false = true then [(n : Int)] else [] := by
      unfold dirtyL
      rw [List.range_succ, List.filter_append, List.map_append]
      congr 1
      simp only [List.filter_cons, List.filter_nil]
      split <;> rfl
    have hrk : rank A n = (dirtyL A n).length := by unfold rank dirtyL; rw [List.length_map]
    rcases Nat.lt_or_ge i (dirtyL A n).length with h1 | h1
    · obtain ⟨k, h2, h3, h4, h5⟩ := ih h1
      refine ⟨k, ?_, by omega, h4, h5⟩
      rw [e, List.getD_eq_getElem?_getD, List.getElem?_append_left h1, ← List.getD_eq_getElem?_getD]
      exact h2
    · rw [e, List.length_append] at hi
      by_cases hd : A.dirty.getD n false = true
      · rw [if_pos hd] at hi e
        simp only [List.length_singleton] at hi
        have : i = (dirtyL A n).length := by omega
        subst this
        refine ⟨n, ?_, by omega, hd, hrk⟩
        rw [e, List.getD_eq_getElem?_getD, List.getElem?_append_right (Nat.le_refl _)]
        simp
      · rw [if_neg hd] at hi
        simp at hi
        omega

/-- How many bytes of a sector stay. -/
def stays' (stay : List Bool) (torn cut : Int) (i : Nat) : Nat := if (i : Int) = torn then (min (max cut 0) 128).toNat else if i < stay.length ∧ stay.getD i default = true then 128 else 0
theorem stays'_le (stay : List Bool) (torn cut : Int) (i : Nat) : stays' stay torn cut i ≤ 128 := by
  unfold stays'
  split
  · omega
  · split <;> omega
def newRow (A : Dk) (stay : List Bool) (torn cut : Int) (k : Nat) : List UInt8 := (A.now.getD k default).take (stays' stay torn cut (rank A k)) ++ (A.sure.getD k default).drop (stays' stay torn cut (rank A k))
def rowsIf (A : Dk) (n : Nat) (stay : List Bool) (torn cut : Int) (p : Nat → Bool) : List (List UInt8) := (List.range n).map fun k => if p k = true then newRow A stay torn cut k else A.now.getD k default
def crashR (A : Dk) (n : Nat) (stay : List Bool) (torn cut : Int) : Dk :=
  { now := rowsIf A n stay torn cut (fun k => A.dirty.getD k false), sure := rowsIf A n stay torn cut (fun k => A.dirty.getD k false), dirty := List.replicate n false, plan := [], off := false }

section
variable {A : Dk} {n : Nat} {stay : List Bool} {torn cut : Int}
theorem getD_len {l : List (List UInt8)} {k : Nat} (h : ∀ r ∈ l, r.length = 128) (hk : k < l.length) : (l.getD k default).length = 128 := by
  rw [List.getD_eq_getElem?_getD, List.getElem?_eq_getElem hk]
  exact h _ (List.getElem_mem _)
theorem newRow_len (hA : DkOk A n) {k : Nat} (hk : k < n) : (newRow A stay torn cut k).length = 128 := by
  have h1 := getD_len hA.rows (k := k) (by rw [hA.now]; exact hk)
  have h2 := getD_len hA.rows' (k := k) (by rw [hA.sure]; exact hk)
  have h3 := stays'_le stay torn cut (rank A k)
  unfold newRow
  rw [List.length_append, List.length_take, List.length_drop]
  omega
theorem rowsIf_len (p : Nat → Bool) : (rowsIf A n stay torn cut p).length = n := by simp [rowsIf]
theorem rowsIf_get (p : Nat → Bool) {k : Nat} (hk : k < n) : (rowsIf A n stay torn cut p).getD k default = if p k = true then newRow A stay torn cut k else A.now.getD k default := by
  simp [rowsIf, List.getD_eq_getElem?_getD, List.getElem?_map, List.getElem?_range hk]
theorem rowsIf_rows (hA : DkOk A n) (p : Nat → Bool) : ∀ r ∈ rowsIf A n stay torn cut p, r.length = 128 := by
  intro r hr
  obtain ⟨k, hk, rfl⟩ := List.mem_map.1 hr
  have hk := List.mem_range.1 hk
  split
  · exact newRow_len hA hk
  · exact getD_len hA.rows (by rw [hA.now]; exact hk)
theorem rowsIf_none (hA : DkOk A n) : rowsIf A n stay torn cut (fun _ => false) = A.now := by
  apply List.ext_getElem
  · rw [rowsIf_len, hA.now]
  · intro i h1 h2
    simp [rowsIf, List.getD_eq_getElem?_getD, h2]
theorem rowsIf_congr {p q : Nat → Bool} (h : ∀ k, k < n → p k = q k) : rowsIf A n stay torn cut p = rowsIf A n stay torn cut q := by
  unfold rowsIf
  apply List.map_congr_left
  intro k hk
  rw [h k (List.mem_range.1 hk)]
theorem rowsIf_set {p q : Nat → Bool} {k : Nat} (hk : k < n) (hq : ∀ j, j < n → q j = (p j || decide (j = k))) : (rowsIf A n stay torn cut p).set k (newRow A stay torn cut k) = rowsIf A n stay torn cut q := by
  apply List.ext_getElem
  · simp [rowsIf]
  · intro i h1 h2
    have hi : i < n := by simpa [rowsIf] using h2
    rw [List.getElem_set]
    simp only [rowsIf, List.getElem_map, List.getElem_range, hq i hi]
    by_cases e : k = i
    · subst e; simp
    · simp [e, Ne.symm e]
theorem crashR_ok (hA : DkOk A n) : DkOk (crashR A n stay torn cut) n :=
  ⟨rowsIf_len _, rowsIf_len _, by simp [crashR], rowsIf_rows hA _, rowsIf_rows hA _, fun _ _ => rfl, by simp [crashR], hA.n⟩
/-- A part of a sector written over. -/
theorem over_part {l : List (List UInt8)} {r s : List UInt8} {k m : Nat} (hl : ∀ r ∈ l, r.length = 128) (hk : k < l.length) (hr : l.getD k default = r) (hs : s.length = 128) (hm : m ≤ 128) :
    over (l.flatten.map u8) (k * 128 + m) ((s.drop m).map u8) = (l.set k (r.take m ++ s.drop m)).flatten.map u8 := by
  have hrl : r.length = 128 := by rw [← hr]; exact getD_len hl hk
  have hfl : (l.flatten.map u8).length = l.length * 128 := by rw [List.length_map, flats_len hl]
  have hkl : (k + 1) * 128 ≤ l.length * 128 := Nat.mul_le_mul_right _ hk
  rw [← over_flat hl (by rw [List.length_append, List.length_take, List.length_drop]; omega) hk, List.map_append]
  have h1 := flat_row hl hk
  have h2 : (((l.flatten.map u8).drop (k * 128)).take m) = (r.take m).map u8 := by
    rw [← List.map_drop, ← List.map_take, ← hr, ← h1, List.take_take, Nat.min_eq_left hm]
  have h3 := over_over (vs := l.flatten.map u8) (us := (r.take m).map u8) (ws := (s.drop m).map u8) (o := k * 128) (by simp only [List.length_map, List.length_take, List.length_drop] at *; omega)
  rw [← h3, ← h2, over_same (by omega)]
  congr 1
  rw [h2, List.length_map, List.length_take, hrl, Nat.min_eq_left hm]
end
end Go.Proofs.YtaibgfnfmkpibaaGreatDoor.SL
