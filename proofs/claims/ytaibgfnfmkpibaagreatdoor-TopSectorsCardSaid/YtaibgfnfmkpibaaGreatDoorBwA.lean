/- The campaign that comes ahead of all, reckoned out. -/
import Derived.Test.YtaibgfnfmkpibaaGreatDoorEngV
import Derived.Test.YtaibgfnfmkpibaaGreatDoorEngT
namespace Go.Proofs.YtaibgfnfmkpibaaGreatDoor.SL
open Go

/-- What is shown of functions by hand: all of a sequence, collected. -/
def bwExt (f : FuncId) (args : List SV) (h : SHp) (nx : Nat) : Option (List Out) :=
  match args with
  | [.func g [.ptr (some (b, 0))]] =>
    if f = 58 ∧ g = 60 then match h.lookup b with
      | some (.blk _ [.vs i]) => match h.lookup i with
        | some (.own T' 1 n xs) => if T' = 3 ∧ (belF nx [(0, .vs b)] && belH nx h && xs.all one && Nat.beq xs.length n && Nat.ble n 1000000) = true then some [⟨.vs nx, (nx, .own 3 1 n xs) :: h, nx + 1⟩] else none
        | _ => none
      | _ => none
    else if f = 119 ∧ g = 121 then match h.lookup b with
      | some (.blk _ [.map i]) => match h.lookup i with
        | some (.map [] _) => some [⟨.nsl, h, nx⟩]
        | _ => none
      | _ => none
    else none
  | _ => none

def bwEqs (t : TypeId) (a b : SV) : Option Bool := match a, b with
  | .agg [.int .i64 a1, .int .i64 a2, .int .i64 a3], .agg [.int .i64 b1, .int .i64 b2, .int .i64 b3] => if t = 55 ∧ a1 = 1 ∧ a2 = 5 ∧ a3 = 12 ∧ b1 = 1 ∧ b2 = 5 ∧ b3 = 12 then some true else none
  | _, _ => none
def bwChk (t : TypeId) (k : SV) : Bool := match k with
  | .agg [.int .i64 _, .int .i64 _] => t == 130
  | _ => false

theorem bwEqs_ok : EqsOk Tryz.prog bwEqs := by
  intro t a b c h σ x y w
  unfold bwEqs at h
  split at h
  · split at h
    · rename_i hc
      obtain ⟨rfl, rfl, rfl, rfl, rfl, rfl, rfl⟩ := hc
      cases h
      show (do eqGuard .eql 55 x y (.agg #[.int .i64 1, .int .i64 5, .int .i64 12]) (.agg #[.int .i64 1, .int .i64 5, .int .i64 12]); binOp .eql 55 (.agg #[.int .i64 1, .int .i64 5, .int .i64 12]) (.agg #[.int .i64 1, .int .i64 5, .int .i64 12])).run Tryz.prog w = .ok (.bool true) w
      kernel_rfl
    · cases h
  · cases h
theorem bwChk_ok : ChkOk Tryz.prog bwChk := by
  intro t k h σ b w
  unfold bwChk at h
  split at h
  · rename_i a c
    have : t = 130 := by simpa using h
    subst this
    show (Instr.checkKey b 10000 130 (.agg #[.int .i64 a, .int .i64 c])).run Tryz.prog w = .ok () w
    kernel_rfl
  · cases h

noncomputable def bwE : Env := { P := Tryz.prog, G := 0 + 1, eqs := bwEqs, chk := bwChk }
def bwTab : List SV := [0x000000, 0x864CFB, 0x8AD50D, 0x0C99F6, 0x93E6E1, 0x15AA1A, 0x1933EC, 0x9F7F17, 0xA18139, 0x27CDC2, 0x2B5434, 0xAD18CF, 0x3267D8, 0xB42B23, 0xB8B2D5, 0x3EFE2E].map (SV.int .u32)
def bwH : SHp := [(0, .rbk 0 bwTab)]
def bwGood (x : Option (List Out)) : Bool := match x with
  | some l => l.all fun o => match o.v, o.h.lookup 0 with
    | .bool true, some ob => eqO ob (.rbk 0 bwTab)
    | _, _ => false
  | none => false
theorem bw_run : bwGood (simFn bwE bwExt 300 40 4 [] bwH (0 + 1)) = true := by kernel_rfl
theorem bw_names : Tryz.prog.funcs.all (fun fn => fn.name != "runtime.NumGoroutine") = true := by kernel_rfl
end Go.Proofs.YtaibgfnfmkpibaaGreatDoor.SL
