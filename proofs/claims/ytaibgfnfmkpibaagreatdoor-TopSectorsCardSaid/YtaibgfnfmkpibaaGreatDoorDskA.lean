/- The disk and the one by hand: what both hold. -/
import Derived.Test.YtaibgfnfmkpibaaGreatDoorEngMp
import Derived.Test.YtaibgfnfmkpibaaGreatDoorEngT
namespace Go.Proofs.YtaibgfnfmkpibaaGreatDoor.SL
open Go

theorem wrap_i64 {i : Int} (h0 : -9223372036854775808 ≤ i) (h1 : i ≤ 9223372036854775807) : IntKind.wrap .i64 i = i := by
  simp [IntKind.wrap, IntKind.bits, IntKind.signed]; omega
theorem wrap_u8 {i : Int} (h0 : 0 ≤ i) (h1 : i ≤ 255) : IntKind.wrap .u8 i = i := by
  simp [IntKind.wrap, IntKind.bits, IntKind.signed]; omega
theorem wrap_u64 {i : Int} (h0 : 0 ≤ i) (h1 : i ≤ 18446744073709551615) : IntKind.wrap .u64 i = i := by
  simp [IntKind.wrap, IntKind.bits, IntKind.signed]; omega
theorem wrap_u32 {i : Int} (h0 : 0 ≤ i) (h1 : i ≤ 4294967295) : IntKind.wrap .u32 i = i := by
  simp [IntKind.wrap, IntKind.bits, IntKind.signed]; omega
theorem wrap_byte (c : UInt8) : IntKind.wrap .i64 (c.toNat : Int) = (c.toNat : Int) := wrap_i64 (by omega) (by have := c.toNat_lt; omega)
theorem mixed : Tryz.prog.follows .mixedOrders = true := by kernel_rfl

/-- What a disk is: its sectors, what they had when all was synced, which were written since, what is to come, whether it is off. -/
structure Dk where
  now : List (List UInt8)
  sure : List (List UInt8)
  dirty : List Bool
  plan : List UInt8
  off : Bool

structure DkOk (A : Dk) (n : Nat) : Prop where
  now : A.now.length = n
  sure : A.sure.length = n
  dirty : A.dirty.length = n
  rows : ∀ r ∈ A.now, r.length = 128
  rows' : ∀ r ∈ A.sure, r.length = 128
  clean : ∀ k : Nat, A.dirty[k]? = some false → A.now[k]? = A.sure[k]?
  plan : A.plan.length ≤ 100
  n : n ≤ 4096

theorem DkOk.less {A : Dk} {n : Nat} (h : DkOk A n) (p : List UInt8) (hp : p.length ≤ A.plan.length) (b : Bool) : DkOk { A with plan := p, off := b } n :=
  ⟨h.now, h.sure, h.dirty, h.rows, h.rows', h.clean, Nat.le_trans hp h.plan, h.n⟩

def secV (r : List UInt8) : Value := .agg (r.map u8).toArray

/-- The map holds the old sectors of those that were written. -/
def Olds (A : Dk) (om : List (Int × List UInt8)) : Prop := ∀ k : Int, mget om k = if 0 ≤ k ∧ A.dirty.getD k.toNat false = true then some (A.sure.getD k.toNat default) else none
theorem Olds.less {A : Dk} {om : List (Int × List UInt8)} (h : Olds A om) (p : List UInt8) (b : Bool) : Olds { A with plan := p, off := b } om := h

theorem olds_nil {A : Dk} (h : ∀ k : Nat, A.dirty.getD k false = false) : Olds A [] := by
  intro k
  rw [h]
  simp [mget]
theorem falses_getD (n k : Nat) : (List.replicate n false).getD k false = false := by
  rw [List.getD_eq_getElem?_getD, List.getElem?_replicate]
  split <;> rfl
theorem flats_len : ∀ {l : List (List UInt8)} {m : Nat}, (∀ r ∈ l, r.length = m) → l.flatten.length = l.length * m
  | [], m, _ => by simp
  | r :: l, m, h => by
    rw [List.flatten_cons, List.length_append, flats_len fun r hr => h r (List.mem_cons_of_mem _ hr), h r (List.mem_cons_self ..), List.length_cons, Nat.add_mul]; omega
theorem flat_row : ∀ {l : List (List UInt8)} {m k : Nat}, (∀ r ∈ l, r.length = m) → k < l.length → (l.flatten.drop (k * m)).take m = l.getD k default
  | [], m, k, _, hk => absurd hk (by simp)
  | r :: l, m, 0, h, _ => by
    have h1 := h r (List.mem_cons_self ..)
    simp [List.take_append_of_le_length, h1.symm]
  | r :: l, m, k + 1, h, hk => by
    have h1 := h r (List.mem_cons_self ..)
    have e : (k + 1) * m = r.length + k * m := by rw [h1, Nat.add_mul]; omega
    rw [List.flatten_cons, e, ← List.drop_drop, List.drop_left, flat_row (fun r hr => h r (List.mem_cons_of_mem _ hr)) (by simpa using hk)]
    rfl

instance : Zf secV (.agg (List.replicate 128 (.int .u8 0)).toArray) (List.replicate 128 0) := ⟨rfl⟩
theorem over_flat : ∀ {l : List (List UInt8)} {m k : Nat} {r : List UInt8}, (∀ r ∈ l, r.length = m) → r.length = m → k < l.length → over (l.flatten.map u8) (k * m) (r.map u8) = (l.set k r).flatten.map u8
  | [], _, _, _, _, _, hk => absurd hk (by simp)
  | a :: l, m, 0, r, h, hr, _ => by
    have h1 := h a (List.mem_cons_self ..)
    simp only [over, Nat.zero_mul, List.take_zero, List.nil_append, Nat.zero_add, List.length_map, hr, List.flatten_cons, List.map_append, List.set_cons_zero]
    rw [show m = (a.map u8).length by rw [List.length_map, h1], List.drop_left]
  | a :: l, m, k + 1, r, h, hr, hk => by
    have h1 := h a (List.mem_cons_self ..)
    have ih := over_flat (l := l) (m := m) (k := k) (r := r) (fun r hr => h r (List.mem_cons_of_mem _ hr)) hr (by simpa using hk)
    simp only [over, List.length_map, hr] at ih
    have e : (k + 1) * m = (a.map u8).length + k * m := by rw [List.length_map, h1, Nat.add_mul]; omega
    simp only [over, List.length_map, hr, List.flatten_cons, List.map_append, List.set_cons_succ]
    rw [e, List.take_append, List.take_of_length_le (show (a.map u8).length ≤ (a.map u8).length + k * m by omega), Nat.add_sub_cancel_left, Nat.add_assoc, ← List.drop_drop, List.drop_left, List.append_assoc, List.append_assoc, ← ih, List.append_assoc]

def dsk (x : Nat) (A : Dk) (n : Nat) : HProp := exi fun vn => exi fun vp => exi fun m => exi fun om =>
  All [pur (DkOk A n ∧ Olds A om), blk x 66 [vn, .map (some m), vp, .bool A.off], own 69 128 vn n (A.now.flatten.map u8), own 5 1 vp A.plan.length (A.plan.map u8), mp m (Value.int .i64) secV om]

def odk (y : Nat) (A : Dk) (n : Nat) : HProp := exi fun vn => exi fun vs => exi fun vd => exi fun vp =>
  All [pur (DkOk A n), blk y 43 [vn, vs, vd, vp, .bool A.off], own 9 1 vn n (A.now.map st), own 9 1 vs n (A.sure.map st), own 4 1 vd n (A.dirty.map .bool), own 5 1 vp A.plan.length (A.plan.map u8)]

section
variable {Q : Exit → Act → World → Prop} {N : Cfg} {F : Base} {fr : Fr} {L cs : List HProp} {k : List Itm} {A : Dk} {n x : Nat}
theorem run_dsk (h : ∀ vn vp m om, DkOk A n → Olds A om → Run Tryz.prog Q N F fr (blk x 66 [vn, .map (some m), vp, .bool A.off] :: own 69 128 vn n (A.now.flatten.map u8) :: own 5 1 vp A.plan.length (A.plan.map u8) :: mp m (Value.int .i64) secV om :: L) k) :
    Run Tryz.prog Q N F fr (dsk x A n :: L) k := run_exi fun vn => run_exi fun vp => run_exi fun m => run_exi fun om => run_allt (run_pur fun ⟨hA, hO⟩ => h vn vp m om hA hO)
theorem dsk_goes {vn vp : Value} {m : Nat} {om : List (Int × List UInt8)} (hA : DkOk A n) (hO : Olds A om)
    (h : Goes L (blk x 66 [vn, .map (some m), vp, .bool A.off] :: own 69 128 vn n (A.now.flatten.map u8) :: own 5 1 vp A.plan.length (A.plan.map u8) :: mp m (Value.int .i64) secV om :: cs)) : Goes L (dsk x A n :: cs) :=
  Goes.exi (x := vn) (Goes.exi (x := vp) (Goes.exi (x := m) (Goes.exi (x := om) (Goes.all (Goes.pur ⟨hA, hO⟩ h)))))
theorem run_odk (h : ∀ vn vs vd vp, DkOk A n → Run Tryz.prog Q N F fr (blk x 43 [vn, vs, vd, vp, .bool A.off] :: own 9 1 vn n (A.now.map st) :: own 9 1 vs n (A.sure.map st) :: own 4 1 vd n (A.dirty.map .bool) :: own 5 1 vp A.plan.length (A.plan.map u8) :: L) k) :
    Run Tryz.prog Q N F fr (odk x A n :: L) k := run_exi fun vn => run_exi fun vs => run_exi fun vd => run_exi fun vp => run_allt (run_pur fun hA => h vn vs vd vp hA)
theorem odk_goes {vn vs vd vp : Value} (hA : DkOk A n)
    (h : Goes L (blk x 43 [vn, vs, vd, vp, .bool A.off] :: own 9 1 vn n (A.now.map st) :: own 9 1 vs n (A.sure.map st) :: own 4 1 vd n (A.dirty.map .bool) :: own 5 1 vp A.plan.length (A.plan.map u8) :: cs)) : Goes L (odk x A n :: cs) :=
  Goes.exi (x := vn) (Goes.exi (x := vs) (Goes.exi (x := vd) (Goes.exi (x := vp) (Goes.all (Goes.pur hA h)))))
end

def meetR (A : Dk) : Int × Dk := if A.off then (7, A) else match A.plan with
  | [] => (0, A)
  | c :: p => if c = 1 then (6, { A with plan := p }) else if c = 2 then (7, { A with plan := p, off := true }) else (0, { A with plan := p })
end Go.Proofs.YtaibgfnfmkpibaaGreatDoor.SL
