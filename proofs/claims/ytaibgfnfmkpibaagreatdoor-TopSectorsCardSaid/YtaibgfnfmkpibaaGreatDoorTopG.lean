/-
  'pennanttop.TopSectors' says true of every input, and the input reads as it did: the row, and its tied card.
  Conditions: those of the given statement alone (the table of the checksum stands as the program lays it).
-/
import Derived.Test.YtaibgfnfmkpibaaGreatDoorTopA
import Derived.Test.YtaibgfnfmkpibaaGreatDoorBwB
import Derived.Test.YtaibgfnfmkpibaaGreatDoorEngGl
import Derived.Test.YtaibgfnfmkpibaaGreatDoorCards
import Derived.Test.YtaibgfnfmkpibaaGreatDoorTie
import Derived.WalkKit
import Derived.ProofKit
import Derived.OpenShut
import Derived.Deep.DeepHandedRow
import Derived.Lib.LaidTab
namespace Go.Proofs.YtaibgfnfmkpibaaGreatDoor.SL
open Go Go.ChangeShapes Go.WideShapes Go.RowKit

theorem ownKn : ownKnob Tryz.prog.godebug = none := by kernel_rfl
theorem gTab : Tryz.prog.globalNamed "pennant/crc.steps" = some 0 := by kernel_rfl
theorem gTabType : (Tryz.prog.globals[0]?).map (·.type) = some 146 := by kernel_rfl
theorem cellsTab : Tryz.prog.cellsOf 146 = 16 := by kernel_rfl
theorem cells32 : Tryz.prog.cellsOf 108 = 1 := by kernel_rfl
theorem cells8 : Tryz.prog.cellsOf 5 = 1 := by kernel_rfl
theorem bytes8 : Tryz.prog.bytesOf 5 = 1 := by kernel_rfl

def nums : List Int := [0, 8801531, 9098509, 825846, 9692897, 1419802, 1651692, 10452759, 10584377, 2608578, 2839604, 11344079, 3303384, 11807523, 12104405, 4128302]
theorem steps_nums : nums.map (Value.int .u32) = steps := rfl

theorem table {W : World} (h : laidMetH Tryz.prog Rows.topSectorsRow.laid W) : Lib.TabIs Tryz.prog W "pennant/crc.steps" .u32 nums :=
  Lib.tabIs_of_head (rest := []) gTab gTabType Tryz.underlying146 Tryz.underlying108 cells32 cellsTab h

theorem two_pieces {ob : Option (Nat × Obj)} {v : Value} {l : List UInt8} {g : Nat} {og : Obj} {zs : List Value} (h1 : rxs ob 1 v l.length (l.map u8) ob.toList) (h2 : tab g og zs [(g, og)]) :
    All [rxs ob 1 v l.length (l.map u8), tab g og zs] (ob.toList ++ [(g, og)]) ∧ ∀ H, All [rxs ob 1 v l.length (l.map u8), tab g og zs] H → H = ob.toList ++ [(g, og)] := by
  refine ⟨⟨ob.toList, [(g, og)], h1, ⟨[(g, og)], [], h2, rfl, rfl⟩, rfl⟩, ?_⟩
  rintro H ⟨H1, H2, h3, ⟨H3, H4, h4, h5, rfl⟩, rfl⟩
  cases (show H4 = [] from h5)
  rw [h3.1, h4.1, List.append_nil]

set_option maxRecDepth 100000 in
theorem contract (H : Type) (enc : TypeId × Value → H) (W : World) (base : Nat) (args : Array Value) (ds gs : List (DataW H)) (before : List MemPlace)
    (hval : ∀ (j : Nat) t v, Tryz.f3.params[j]? = some t → args[j]? = some v → Value.okWide Tryz.prog W .any base t v)
    (hW : DataW.Whole enc Tryz.prog Tryz.f3.params.toList Rows.topSectorsSpec.vars false W args.toList ds gs before)
    (hsz : (DataW.weightsEach Tryz.prog (Tryz.f3.params.toList ++ (OpenSpec.ofChange Rows.topSectorsSpec).bare.plain.varTypes Tryz.prog) (ds ++ gs)).all (· ≤ reachBytes) = true)
    (hL : laidMetH Tryz.prog Rows.topSectorsRow.laid W) :
    Calls Tryz.prog 3 args W fun e W' => ∃ v, e = .returned v ∧ Rows.topSectorsSpec.post enc Tryz.prog Tryz.f3 false true false false W args v W' := by
  have hW' := hW
  obtain ⟨p, q, hA0, hV, rfl, hfz, hnd⟩ := hW
  have hA : DataW.TrodAll enc Tryz.prog W 0 (fun _ => true) true Tryz.f3.params.toList args.toList ds p := hA0
  rw [Tryz.params3] at hA hval hsz
  obtain ⟨v0, vs0, d0, ds0, p0, q0, hargs, rfl, rfl, h0, r0⟩ := trodAll_cons hA
  obtain ⟨rfl, rfl, rfl⟩ := trodAll_nil r0
  obtain rfl : args = #[v0] := by cases args; simp_all
  obtain ⟨rfl, rfl⟩ := trodVars_none hV
  have hv0 : Value.okWide Tryz.prog W .any base 22 v0 := hval 0 _ v0 (by simp) (by simp)
  obtain ⟨ob, l, h1, h2, h3, hread⟩ := bytes_arg Tryz.underlying22 Tryz.underlying5 cells8 hv0 h0
  obtain ⟨og, h4, h5, h6⟩ := table_arg gTab (table hL)
  rw [steps_nums] at h4
  have hl : l.length ≤ 140737488355328 := by
    rcases h3 with ⟨_, rfl⟩ | ⟨es, sp, rfl, h7⟩
    · exact Nat.zero_le _
    · have h8 := sized_slice hsz (j := 0) rfl rfl Tryz.underlying22
      rw [bytes8] at h8
      have h9 : reachBytes < 140737488355328 := by decide
      omega
  obtain ⟨hp1, hp2⟩ := two_pieces h1 h4
  have hkept := calls_kept (W := W) hp1 hp2
    (by
      match ob, h2 with
      | none, _ => simp
      | some (b, o), h2 =>
        obtain ⟨h7, c, T, fz, i, n, rfl, h8⟩ := h2 b o rfl
        simp only [Option.toList_some, List.singleton_append, List.map_cons, List.map_nil, List.nodup_cons, List.mem_singleton, List.not_mem_nil, not_false_eq_true, List.nodup_nil, and_true]
        rintro rfl
        rw [h5] at h7
        cases h7
        obtain ⟨m, hm⟩ := h6 c T fz rfl i _ h8
        cases hm)
    (by
      intro b o hm
      rcases List.mem_append.1 hm with h7 | h7
      · match ob, h2, h7 with
        | some (b', o'), h2, h7 =>
          cases List.mem_singleton.1 h7
          exact (h2 b o rfl).1
      · cases List.mem_singleton.1 h7
        exact h5)
    (law_spec (tab 0 og steps) (buoyWorks_spec og) ob v0 l hl)
  refine hkept.mono ?_
  rintro e W' ⟨rfl, h7, h8, h9⟩
  refine ⟨_, rfl, [d0], [], p0 ++ [] ++ [], [], p0 ++ [], [], hW', trodAll_mk1 (shut_bool Tryz.underlying4 true), ?_, rfl, keptBut_of h7 h8 h9 _, fun h => by cases h⟩
  rw [Tryz.params3]
  exact trodAll_cons_mk (hread W' h9 _ (fun b hb => by simpa using hb)) trodAll_mk0

/-- A world for the witness: the settled one, the table laid. -/
noncomputable def laidWorld (os : Os) : World :=
  { World.holding Tryz.prog os ⟨#[], #[], []⟩ with heap := (World.holding Tryz.prog os ⟨#[], #[], []⟩).heap.modify 0 fun
      | .cells _ t frozen => .cells (nums.map (Value.int .u32)).toArray t frozen
      | o => o }
theorem laid_met (os : Os) : laidMet Tryz.prog Rows.topSectorsRow.laid ((laidWorld os).forCall (fun _ _ => 0) ⟨#[], #[.slice none 0 0], []⟩).memory :=
  laidMet_of_run' 8 (by kernel_rfl) (by kernel_rfl)
theorem reads (os : Os) {H : Type} (enc : TypeId × Value → H) : ∃ places, DataW.whole enc Tryz.prog ((laidWorld os).forCall (fun _ _ => 0) ⟨#[], #[.slice none 0 0], []⟩).memory Tryz.f3.params.toList Rows.topSectorsSpec.vars false #[Value.slice none 0 0].toList 8 = some ([.nil], [], places) :=
  ⟨[], by kernel_rfl⟩

set_option maxRecDepth 100000 in
theorem lifted (os : Os) (started : os.Started) (H : Type) (enc : TypeId × Value → H) (F : Stop.Interp) :
    ReturnsInHanded {} Tryz.checked os 3 .any ((OpenSpec.ofChange Rows.topSectorsSpec).preRow enc Tryz.prog Tryz.f3 Rows.topSectorsRow.domain false Rows.topSectorsRow.laid) (((OpenSpec.ofChange Rows.topSectorsSpec).at F).post enc Tryz.prog Tryz.f3 false true false false) := by
  obtain ⟨places, hx⟩ := reads os enc
  refine returnsInHanded_of_row (C := Tryz.checked) (s := OpenSpec.ofChange Rows.topSectorsSpec) ownKn started (by kernel_rfl) Tryz.func3
    (witness_row_at (enc := enc) (C := Tryz.checked) false (laidWorld os) #[.slice none 0 0] rfl (by kernel_rfl) (by kernel_rfl) (by kernel_rfl)
      (OpenSpec.preRow_of_cond 8 hx (by kernel_rfl) (fun k hk => by cases hk) (by kernel_rfl) (laid_met os))) ?_
  intro W base args ds gs before hval hW _ _ hsz hL _ _
  exact contract H enc W base args ds gs before hval hW hsz hL

theorem said : Rows.TopSectorsSaid :=
  OpenClaim.holds_of_cond 3 Tryz.f3 rfl rfl rfl rfl rfl rfl rfl ⟨rfl, rfl, rfl, rfl, rfl⟩ rfl rfl rfl rfl rfl (by kernel_rfl) Tryz.func3 (by kernel_rfl)
    (of_decide_eq_true (by kernel_rfl)) (by unfold Func.isWrapper; first | (rw [if_pos (by decide +kernel)]; kernel_rfl) | (rw [if_neg (by decide +kernel)]; exact ⟨rfl, rfl⟩))
    (fun os started H enc _ F => by rw [OpenClaim.pre_eq_preRow]; exact lifted os started H enc F)

/-- No parameter wants a stand-in; the program's own looks are off. -/
theorem plain (f : FuncId) (fn : Func) (hf : Tryz.pinned.checked.prog.funcNamed "pennant/pennanttop.TopSectors" = some f) (hfn : Tryz.pinned.checked.prog.funcs[f]? = some fn) :
    false = Tryz.pinned.checked.prog.looks [] ∧ ∀ (j : Nat) t, fn.params[j]? = some t → Tryz.pinned.checked.prog.wantsStandIn t = false := by
  obtain rfl : f = 3 := Option.some.inj ((show Tryz.prog.funcNamed "pennant/pennanttop.TopSectors" = some 3 by kernel_rfl).symm.trans hf) |>.symm
  obtain rfl : fn = Tryz.f3 := (Option.some.inj (Tryz.func3.symm.trans hfn)).symm
  refine ⟨by kernel_rfl, fun j t ht => ?_⟩
  rw [Tryz.params3] at ht
  obtain rfl : t = 22 := by simpa using Array.mem_of_getElem? ht
  exact (show Tryz.prog.wantsStandIn 22 = false by kernel_rfl)

/-- The card. -/
theorem topSectors_card : Rows.TopSectorsCardSaid :=
  Claim7.holds_tied_plain_at .later [] _ _ _ _ said (fun _ h => by cases h) (by kernel_rfl) (fun _ h => by cases h) topSectors_row_tie rfl ⟨rfl, rfl⟩ (by kernel_rfl) rfl plain (by kernel_rfl)
#print axioms topSectors_card
end Go.Proofs.YtaibgfnfmkpibaaGreatDoor.SL
