/-
  NARROWER THAN 'FOR EVERY INPUT', by the rows' own cells (each row's printed sentence says how): TopSectors: laid.
  DERIVED. THE GIVEN ROWS OF THIS SEAT. 1 by the template 'for every input the law returns true; each argument reads behind the call as it read before'; 0 by the template 'total and deterministic' (their statements: YtaibgfnfmkpibaaGreatDoorTotals.lean).
  GIVEN WITH THE SEED: the statements are not yours to turn. If you find one false, say at which input.
  Laid BY PROGRAM, IN A SANDBOX (cutbox-rows.mjs): the forced cells as the released guide's own fill.sh prints them over the translation 0a0c9e53902ee811… (all of the seat's roots in one cut). By AI agents, Wed Nov 11 2026. No macro, syntax, notation, axiom, sorry.
-/
import Derived.Test.YtaibgfnfmkpibaaGreatDoorChecked
import GoSem.Claim
import GoSem.ClaimJoined
import GoSem.ClaimMapViews
import Derived.JoinedTies
import Derived.KernelRfl
namespace Go.Proofs.YtaibgfnfmkpibaaGreatDoor
/- THE CELL 'sum', in the pinned program and in every row, IS THE sha256 OF THE DUMP (.gsa) THAT YtaibgfnfmkpibaaGreatDoorProg.lean LOADS. Nothing in Lean hashes anything: it is a label: what it is worth is what the hold of that sum in a sandbox is worth. -/
noncomputable def Tryz.pinned : Pinned := { name := "ytaibgfnfmkpibaagreatdoor", sum := "0a0c9e53902ee811aa94f536a4fb31ebbfc8a00383f44073656583bf6c303a6c", checked := Tryz.checked }
namespace Rows
def none {H : Type} : Left H := { results := [], args := [] }

/- WHAT THE LISTED PACKAGE-LEVEL VARIABLES READ AS WHEN THE CALL BEGINS. Each datum BY PROGRAM (the guide's laid-datum.mjs) off the statement by which the dump's own 'gosem.cut.vars' lays the variable. In a bare row this is a premise. The card (YtaibgfnfmkpibaaGreatDoorCards.lean) ties it to the program's text. -/
def laid_pennant_crc_steps {H : Type} : DataW H := .agg [.lit (.int .u32 0), .lit (.int .u32 8801531), .lit (.int .u32 9098509), .lit (.int .u32 825846), .lit (.int .u32 9692897), .lit (.int .u32 1419802), .lit (.int .u32 1651692), .lit (.int .u32 10452759), .lit (.int .u32 10584377), .lit (.int .u32 2608578), .lit (.int .u32 2839604), .lit (.int .u32 11344079), .lit (.int .u32 3303384), .lit (.int .u32 11807523), .lit (.int .u32 12104405), .lit (.int .u32 4128302)]

/-- 'pennanttop.TopSectors': WHATEVER THE INPUT: true; the input reads as it did. -/
def topSectorsSpec : ChangeSpec := { name := "topSectors", fn := fun _ => fun
  | [d] => { results := [.lit (.bool true)], args := [d] }
  | _ => none }
def topSectorsRow : OpenClaim := { program := "ytaibgfnfmkpibaagreatdoor", sum := "0a0c9e53902ee811aa94f536a4fb31ebbfc8a00383f44073656583bf6c303a6c", func := "pennant/pennanttop.TopSectors", spec := "topSectors", unfollowed := true, recurses := true, named := ["pennant/crc.steps"], plainKeys := false, apart := false, laid := [("pennant/crc.steps", laid_pennant_crc_steps)] }
def TopSectorsSaid : Prop := topSectorsRow.holds Tryz.pinned (OpenSpec.ofChange topSectorsSpec)

/-- ITS FALSE NEIGHBOUR: 'it returns false'. Refute it at one input. -/
def topSectorsWrong : ChangeSpec := { name := "topSectors", fn := fun _ => fun
  | [d] => { results := [.lit (.bool false)], args := [d] }
  | _ => none }
def TopSectorsWrongFalsely : Prop := topSectorsRow.holds Tryz.pinned (OpenSpec.ofChange topSectorsWrong)

/- THE SECOND FORM. 'bulk': how many values and letters a reading holds, each counted each time it is reached (what is shared counts as often as it is met; a slice's spare places count too). A statement '..UptoSaid' is the law's where the arguments, and the package variables that the reading takes, are together of bulk at most 1048576: NARROWER than '..Said'. Prove '..Said' where nothing that the law and all that it calls make is longer than what came in: it says more and counts as full. Else prove '..UptoSaid'. A law counts once. -/
mutual
def uptoBulk {H : Type} : DataW H → Nat
  | .lit (.string bytes) => bytes.length + 1
  | .lit _ => 1
  | .nil => 1
  | .ptr d => uptoBulk d + 1
  | .slice elems spare => uptoBulkAll elems + uptoBulkAll spare + 1
  | .agg parts => uptoBulkAll parts + 1
  | .iface _ d => uptoBulk d + 1
  | .map entries => uptoBulkEntries entries + 1
  | .held _ => 1
def uptoBulkAll {H : Type} : List (DataW H) → Nat
  | [] => 0
  | d :: r => uptoBulk d + uptoBulkAll r
def uptoBulkEntries {H : Type} : List (Lit × DataW H) → Nat
  | [] => 0
  | x :: r => uptoBulkEntry x + uptoBulkEntries r
def uptoBulkEntry {H : Type} : Lit × DataW H → Nat
  | (.string bytes, d) => bytes.length + uptoBulk d + 1
  | (_, d) => uptoBulk d + 1
 end
def uptoSmall : (H : Type) → List (DataW H) → Bool := fun _ ds => decide (uptoBulkAll ds ≤ 1048576)
def OpenSpec.upto (s : _root_.Go.ChangeSpec) : _root_.Go.OpenSpec := { _root_.Go.OpenSpec.ofChange s with cond := some uptoSmall }

/-- 'pennanttop.TopSectors', WHERE WHAT IT READS IS OF BULK AT MOST 1048576: true; the input reads as it did. -/
def topSectorsUptoRow : OpenClaim := { program := "ytaibgfnfmkpibaagreatdoor", sum := "0a0c9e53902ee811aa94f536a4fb31ebbfc8a00383f44073656583bf6c303a6c", func := "pennant/pennanttop.TopSectors", spec := "topSectors", unfollowed := true, recurses := true, named := ["pennant/crc.steps"], plainKeys := false, apart := false, laid := [("pennant/crc.steps", laid_pennant_crc_steps)], narrowed := true }
def TopSectorsUptoSaid : Prop := topSectorsUptoRow.holds Tryz.pinned (OpenSpec.upto topSectorsSpec)

end Rows
end Go.Proofs.YtaibgfnfmkpibaaGreatDoor
