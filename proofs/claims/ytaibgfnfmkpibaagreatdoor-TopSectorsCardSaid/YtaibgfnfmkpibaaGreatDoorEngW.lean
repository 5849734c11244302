/- A range over a function: over owned pieces of heap. No program in sight. -/
import Derived.Test.YtaibgfnfmkpibaaGreatDoorEngJ
import Derived.RangeFuncRecord
namespace Go.Proofs.YtaibgfnfmkpibaaGreatDoor.SL
open Go

section
variable {P : Program} {fr : Fr} {L R : List HProp} {ty : TypeId} {F : Base} {w : World}

theorem run_all1 {P : Program} {Q : Exit → Act → World → Prop} {n : Cfg} {F : Base} {fr : Fr} {A : List HProp} {k : List Itm} (h : Run P Q n F fr A k) : Run P Q n F fr [All A] k := run_all (by rw [List.append_nil]; exact h)
theorem Ent.use {L L' : List HProp} (h : Ent L L') {F : Base} {w : World} (hh : Holds L F w) : Holds L' F w := h F w hh
theorem Tk.mk {L C R : List HProp} (h : Ent L (C ++ R)) : Tk L C R := h
theorem Tk.toEnt {L C R : List HProp} (h : Tk L C R) : Ent L (C ++ R) := h
theorem Ent.back1 {a : HProp} {L : List HProp} : Ent (a :: L) (L ++ [a]) := Ent.perm (List.perm_append_comm (l₁ := [a]) (l₂ := L))
theorem Ent.swap {a b : HProp} {L : List HProp} : Ent (a :: b :: L) (b :: a :: L) := Ent.perm (List.Perm.swap _ _ _)
theorem Tk.perm {L C R : List HProp} (p : L.Perm (C ++ R)) : Tk L C R := Ent.perm p
theorem Tk.tail1 {a : HProp} {L : List HProp} : Tk (a :: L) L [a] := Ent.perm (List.perm_append_comm (l₁ := [a]) (l₂ := L))
theorem Tk.tail2 {a b : HProp} {L : List HProp} : Tk (a :: b :: L) L [a, b] := Ent.perm (List.perm_append_comm (l₁ := [a, b]) (l₂ := L))
theorem Tk.tail3 {a b c : HProp} {L : List HProp} : Tk (a :: b :: c :: L) L [a, b, c] := Ent.perm (List.perm_append_comm (l₁ := [a, b, c]) (l₂ := L))
theorem Ent.front1 {a : HProp} {L : List HProp} : Ent (L ++ [a]) (a :: L) := Ent.perm (List.perm_append_comm (l₁ := L) (l₂ := [a]))
theorem Ent.front2 {a b : HProp} {L : List HProp} : Ent (L ++ [a, b]) (a :: b :: L) := Ent.perm (List.perm_append_comm (l₁ := L) (l₂ := [a, b]))
theorem Ent.front3 {a b c : HProp} {L : List HProp} : Ent (L ++ [a, b, c]) (a :: b :: c :: L) := Ent.perm (List.perm_append_comm (l₁ := L) (l₂ := [a, b, c]))

/-- A slice that may be read, and that stays to the last cell. -/
def rxs (ob : Option (Nat × Obj)) (sz : Nat) (v : Value) (n : Nat) (xs : List Value) : HProp := fun H => H = ob.toList ∧
  xs.length = n * sz ∧ (∀ x ∈ xs, Value.oneCell' x = true) ∧
  ((∃ (a : Option (Nat × Nat)) (cap : Nat), v = .slice (a.map fun p => ⟨p.1, p.2, none⟩) n cap ∧ n = 0 ∧ ob = none) ∨
   ∃ (b o cap : Nat) (T : TypeId) (vs : List Value) (fz : Nat × Nat), v = .slice (some ⟨b, o, none⟩) n cap ∧ ob = some (b, .cells vs.toArray T fz) ∧ (vs.drop o).take (n * sz) = xs)
instance {ob : Option (Nat × Obj)} {sz : Nat} {v : Value} {n : Nat} {xs : List Value} : Rs (rxs ob sz v n xs) sz v n xs where
  len H h := h.2.1
  one H h := h.2.2.1
  out H h := by
    obtain ⟨hH, h1, _, ⟨a0, cap, hv, hn, hob⟩ | ⟨b, o, cap, T, vs, fz, hv, hob, ht⟩⟩ := h
    · exact .inl ⟨a0, cap, hv, hn, nil_of_len h1 hn⟩
    · exact .inr ⟨b, o, cap, T, vs, fz, hv, by rw [hH, hob]; rfl, by rw [h1]; exact ht⟩
theorem Ent.rxsFacts {ob : Option (Nat × Obj)} {sz n : Nat} {v : Value} {xs : List Value} {L : List HProp} : Ent (rxs ob sz v n xs :: L) (pur (xs.length = n * sz) :: rxs ob sz v n xs :: L) := by
  intro F w h
  obtain ⟨H1, H2, h1, h2, hs⟩ := holds_cons.1 h
  exact holds_pur.2 ⟨h1.2.1, h⟩

def yv (l : Nat) : Value := .func (.yield l) #[] #[]
/-- A loop's record: ready; in a round. -/
def lpR (fn : FuncId) (tmps : Array Value) (ps : Array Tmp) (assign body : Code) (d : Nat) : Loop := { state := .ready, pending := none, fn, tmps, params := ps, assign, body, defers := d }
def lpB (fn : FuncId) (tmps : Array Value) (ps : Array Tmp) (assign body : Code) (d : Nat) : Loop := { state := .busy, pending := none, fn, tmps, params := ps, assign, body, defers := d }

/-- A call of yield: from these pieces it comes back with those. -/
def Yl (P : Program) (l : Nat) (vs : List Value) (C : List HProp) (Rf : Value → List HProp) : Prop :=
  ∀ F w, Holds C F w → ∃ fn tmps assign body, (Instr.yield l vs.toArray).run P w = .ok (.round l fn tmps assign body) w ∧
    RoundIn (WF none) 0 P l fn tmps assign body w (fun e w' => ∃ v, e = .returned v ∧ Holds (Rf v) F w')

theorem s_yield {l : Nat} {x : Operand} {xs : List Operand} {vs : List Value} {ats : Array TypeId} {C : List HProp} {Rf : Value → List HProp} (hv : ev fr x = some (yv l)) (hx : Evs fr xs vs) (hf : Yl P l vs C Rf) (he : Tk L C R) :
    Step P (.call ⟨.value x, xs.toArray, ats⟩) ty fr L (fun v : Value => v) (fun v => Rf v ++ R) := by
  intro n F a w d pos after g K Q hr hh hk
  have hh' := he F w hh
  obtain ⟨H, hS, hs, hC⟩ := holds_append.1 hh'
  obtain ⟨fn, tmps, assign, body, hy, hround⟩ := hf _ w hC
  have h1 := hx.eval hr
  have hrun : (execOp a.eval ⟨d, .call ⟨.value x, xs.toArray, ats⟩, ty, pos, after, g⟩).run P w = .ok (.round l fn tmps assign body) w := by
    simp only [execOp, resolve, hr.ev hv, yv, Deferred.ofValue, invoke, List.map_toArray, h1, pure_bind, Array.empty_append, Array.append_empty]
    exact hy
  refine ⟨fun _ _ => trivial, ?_⟩
  rw [semAt_execOp hrun (by simp), Oper.uponIn_round]
  refine ⟨by simp, ?_⟩
  have h2 : RoundIn (WF n.r) 0 P l fn tmps assign body w (fun e w' => ∃ v, e = .returned v ∧ Holds (Rf v) (F.add H) w') := hround
  refine h2.mono ?_
  rintro e w' ⟨v, rfl, H1, hA1, hs1⟩
  exact hk v w' (holds_append.2 ⟨H, hS, hs.base hs1, H1, hA1, hs1⟩)

theorem holds_putO {r : Nat} {o o' : Obj} (h : Holds (pt r o :: L) F w) : Holds (pt r o' :: L) F (w.putObj r o') := holds_put h

/-- A round, out of its walks. -/
theorem yl_of_runs {l d n : Nat} {fn : FuncId} {tmps : Array Value} {ps : Array Tmp} {assign body : Code} {fr0 fr1 : Fr} {J J' : List HProp} {vs : List Value} (hsz : vs.toArray.size = ps.size)
    (hfr : Rep ⟨n, [], some l⟩ { tmps := (ps.zip vs.toArray).foldl (fun tmps (t, a) => tmps.setIfInBounds t a) tmps, defers := [] } fr0)
    (h1 : ∀ F, Run P (fun e a w => e = .normal ∧ Rep ⟨n, [], some l⟩ a fr1 ∧ Holds (pt l (.loop (lpR fn tmps ps assign body d)) :: J) F w) ⟨n, [], some l⟩ F fr0 (pt l (.loop (lpR fn tmps ps assign body d)) :: J) [.code assign])
    (h2 : ∀ F, Run P (fun e _ w => e = .normal ∧ Holds (pt l (.loop (lpB fn tmps ps assign body d)) :: J') F w) ⟨n, [], some l⟩ F fr1 (pt l (.loop (lpB fn tmps ps assign body d)) :: J) [.code body]) :
    Yl P l vs (pt l (.loop (lpR fn tmps ps assign body d)) :: J) (fun v => pur (v = .bool true) :: pt l (.loop (lpR fn tmps ps assign body d)) :: J') := by
  intro F w hh
  have hb := holds_pt hh
  refine ⟨fn, _, assign, body, run_yield hb hsz, ?_⟩
  refine roundIn_of_wpIn trivial ?_
  have hw1 : assign.wpIn (WF (some l)) 0 P _ _ w := h1 F _ w hfr hh
  refine wpIn_mono hw1 ?_
  rintro e a1 w1 ⟨rfl, hr1, hh1⟩
  have hb1 := holds_pt hh1
  refine ⟨_, run_beginRound hb1 rfl, ?_⟩
  have hh2 : Holds (pt l (.loop (lpB fn tmps ps assign body d)) :: J) F (w1.putObj l (.loop (lpB fn tmps ps assign body d))) := holds_putO hh1
  have hw2 : body.wpIn (WF (some l)) 0 P _ a1 _ := h2 F a1 _ hr1 hh2
  refine wpIn_mono hw2 ?_
  rintro e a2 w2 ⟨rfl, hh3⟩
  have hb3 := holds_pt hh3
  exact ⟨_, _, run_endRound none hb3, _, rfl, holds_pur.2 ⟨rfl, holds_putO hh3⟩⟩

theorem yl_of_runs1 {l d n p : Nat} {fn : FuncId} {tmps : Array Value} {assign body : Code} {fr fr1 : Fr} {J J' : List HProp} {x : Value} (hp : p < n) (hs : tmps.size = n) (hg : ∀ t v, fr.lookup t = some v → tmps[t]? = some v)
    (h1 : ∀ F, Run P (fun e a w => e = .normal ∧ Rep ⟨n, [], some l⟩ a fr1 ∧ Holds (pt l (.loop (lpR fn tmps #[p] assign body d)) :: J) F w) ⟨n, [], some l⟩ F ((p, x) :: fr) (pt l (.loop (lpR fn tmps #[p] assign body d)) :: J) [.code assign])
    (h2 : ∀ F, Run P (fun e _ w => e = .normal ∧ Holds (pt l (.loop (lpB fn tmps #[p] assign body d)) :: J') F w) ⟨n, [], some l⟩ F fr1 (pt l (.loop (lpB fn tmps #[p] assign body d)) :: J) [.code body]) :
    Yl P l [x] (pt l (.loop (lpR fn tmps #[p] assign body d)) :: J) (fun v => pur (v = .bool true) :: pt l (.loop (lpR fn tmps #[p] assign body d)) :: J') := by
  refine yl_of_runs (n := n) (fr0 := (p, x) :: fr) (fr1 := fr1) rfl ?_ h1 h2
  have h0 : Rep ⟨n, [], some l⟩ { tmps := tmps, defers := [] } fr := ⟨hs, rfl, hg⟩
  have := h0.put (some p) (by rintro t ⟨⟩; exact hp) x
  simpa [Act.put, putFr] using this

/-- A function that hands rows of values over, one after another: one of these sequences. -/
def Iter (P : Program) (f : FuncId) (cap : Array Value) (C : List HProp) (S : List (List Value) → Prop) : Prop :=
  ∀ l (I : List (List Value) → List HProp), (∀ hist vs rest, S (hist ++ vs :: rest) → Yl P l vs (I hist) (fun v => pur (v = .bool true) :: I (hist ++ [vs]))) →
    Fn P f (#[yv l] ++ cap) (C ++ I []) (fun _ => [exi fun seq => All (pur (S seq) :: (C ++ I seq))])

def markD (d : Nat) : Deferred := { target := .collected d, args := #[] }

theorem run_range {N : Nat} {Q : Exit → Act → World → Prop} {k : List Itm} {g : Operand} {ps : Array Tmp} {assign body : Code} {f : FuncId} [BD P f] {cap : Array Value} {C : List HProp} {S : List (List Value) → Prop} {J : List (List Value) → List HProp}
    (hg : ev fr g = some (.func (.func f) #[] cap)) (hit : Iter P f cap C S) (he : Ent L (C ++ J []))
    (hround : ∀ l d fn tmps hist vs rest, tmps.size = N → (∀ t v, fr.lookup t = some v → tmps[t]? = some v) → S (hist ++ vs :: rest) →
      Yl P l vs (pt l (.loop (lpR fn tmps ps assign body d)) :: J hist) (fun v => pur (v = .bool true) :: pt l (.loop (lpR fn tmps ps assign body d)) :: J (hist ++ [vs])))
    (h : ∀ d seq, S seq → Run P Q ⟨N, [markD d], none⟩ F fr (pt d (.deferred (some [])) :: (C ++ J seq)) k) :
    Run P Q ⟨N, [], none⟩ F fr L (.code (.rangeFunc g ps assign body) :: k) := by
  intro a w hr hh
  refine wpIn_rangeFunc (F := WF none) (n := 0) fun fn _ => ?_
  have hh := he F w hh
  have hh1 := holds_alloc (o := .deferred (some [])) hh
  have hh2 := holds_alloc (o := .loop (lpR fn a.tmps ps assign body w.heap.size)) hh1
  rw [World.size_alloc] at hh2
  have hres : (resolve a.eval (rangeCall g (w.heap.size + 1)) 0).run P ((w.alloc (.deferred (some []))).alloc (.loop (lpR fn a.tmps ps assign body w.heap.size))) = .ok { target := .fn (.func f) cap, args := #[yv (w.heap.size + 1)] } ((w.alloc (.deferred (some []))).alloc (.loop (lpR fn a.tmps ps assign body w.heap.size))) := by
    simp only [resolve, rangeCall, hr.ev hg, Deferred.ofValue]
    simp [Act.eval, yv]
  refine ⟨w.heap.size + 1, [markD w.heap.size], _, _, _, f, #[yv (w.heap.size + 1)] ++ cap, (w.alloc (.deferred (some []))).alloc (.loop (lpR fn a.tmps ps assign body w.heap.size)), run_enterLoop_outer fn a.tmps ps assign body, hres, fun _ _ => trivial, ?_, by simp, ?_⟩
  · simp only [invoke]
    exact run_callFunc
  · have hfn := (hit (w.heap.size + 1) (fun hist => pt (w.heap.size + 1) (.loop (lpR fn a.tmps ps assign body w.heap.size)) :: J hist)
      (fun hist vs rest hS => hround _ _ fn a.tmps hist vs rest hr.size (fun t v ht => hr.get t v ht) hS)).frame [pt w.heap.size (.deferred (some []))]
    have hpre : Holds ((C ++ (pt (w.heap.size + 1) (.loop (lpR fn a.tmps ps assign body w.heap.size)) :: J [])) ++ [pt w.heap.size (.deferred (some []))]) F ((w.alloc (.deferred (some []))).alloc (.loop (lpR fn a.tmps ps assign body w.heap.size))) := by
      refine holds_perm ?_ hh2
      have p1 : (pt (w.heap.size + 1) (.loop (lpR fn a.tmps ps assign body w.heap.size)) :: pt w.heap.size (.deferred (some [])) :: (C ++ J [])).Perm (pt w.heap.size (.deferred (some [])) :: pt (w.heap.size + 1) (.loop (lpR fn a.tmps ps assign body w.heap.size)) :: (C ++ J [])) := List.Perm.swap _ _ _
      refine p1.trans ((List.Perm.cons _ List.perm_middle.symm).trans ?_)
      exact (List.perm_append_comm (l₁ := [pt w.heap.size (.deferred (some []))]) (l₂ := C ++ (pt (w.heap.size + 1) (.loop (lpR fn a.tmps ps assign body w.heap.size)) :: J [])))
    have hc : CallsIn (WF none) 0 P f (#[yv (w.heap.size + 1)] ++ cap) _ _ := callsIn_wide.2 (hfn F _ hpre)
    show CallsIn (WF none) 0 P f (#[yv (w.heap.size + 1)] ++ cap) _ _
    refine hc.mono ?_
    rintro e w3 ⟨v, rfl, hw3⟩
    obtain ⟨seq, hw3⟩ := holds_exi.1 hw3
    have hw3 := holds_all.1 hw3
    obtain ⟨hS, hw3⟩ := holds_pur.1 hw3
    have hw4 : Holds (pt (w.heap.size + 1) (.loop (lpR fn a.tmps ps assign body w.heap.size)) :: pt w.heap.size (.deferred (some [])) :: (C ++ J seq)) F w3 := by
      refine holds_perm ?_ hw3
      have p1 : ((C ++ (pt (w.heap.size + 1) (.loop (lpR fn a.tmps ps assign body w.heap.size)) :: J seq)) ++ [pt w.heap.size (.deferred (some []))]).Perm ([pt w.heap.size (.deferred (some []))] ++ (C ++ (pt (w.heap.size + 1) (.loop (lpR fn a.tmps ps assign body w.heap.size)) :: J seq))) := List.perm_append_comm
      exact p1.trans ((List.Perm.cons _ List.perm_middle).trans (List.Perm.swap _ _ _))
    have hb := holds_pt hw4
    refine ⟨_, _, run_endLoop hb (by simp [lpR]), ?_⟩
    have hw5 := holds_putO (o' := .loop { lpR fn a.tmps ps assign body w.heap.size with state := .exhausted }) hw4
    have hw6 : Holds (pt w.heap.size (.deferred (some [])) :: (C ++ J seq)) F _ := Ent.drop F _ hw5
    exact h w.heap.size seq hS { a with defers := [markD w.heap.size] ++ a.defers } _ ⟨hr.size, by simp [hr.defers], hr.get⟩ hw6

/-! ### Functions that hold such a range -/
theorem fn_of_run_m {f : FuncId} {fn : Func} {c : Code} {args : List Value} {C : List HProp} {Rf : Value → List HProp} (hf : P.funcs[f]? = some fn) (hb : fn.body = some c) {n : Nat} (hn : fn.ntmps = n) (hargs : args.length ≤ n)
    (h : ∀ F, Run P (bodyPostM (WF none) 0 P fn fun e w' => ∃ v, e = .returned v ∧ Holds (Rf v) F w') ⟨n, [], none⟩ F (args.zipIdx.map fun p => (p.2, p.1)) C [.code c]) : Fn P f args.toArray C Rf := by
  subst hn
  intro F w hh
  refine callsIn_wide.1 (callsIn_of_wp_marks (F := WF none) (n := 0) hf hb trivial ?_)
  have hrep : Rep ⟨fn.ntmps, [], none⟩ { tmps := args.toArray ++ Array.replicate (fn.ntmps - args.toArray.size) undef, defers := [] } (args.zipIdx.map fun p => (p.2, p.1)) := by
    refine ⟨by simp; omega, rfl, fun t v ht => ?_⟩
    have key : ∀ (l : List Value) (k : Nat), List.lookup t ((l.zipIdx k).map fun p => (p.2, p.1)) = some v → k ≤ t ∧ l[t - k]? = some v := by
      intro l
      induction l with
      | nil => intro k h; cases h
      | cons x l ih =>
        intro k h
        simp only [List.zipIdx_cons, List.map_cons, List.lookup_cons] at h
        by_cases e : t = k
        · subst e; simp at h; simp [h]
        · have : (t == k) = false := by simpa using e
          rw [this] at h
          obtain ⟨h1, h2⟩ := ih (k + 1) h
          refine ⟨by omega, ?_⟩
          rw [show t - k = (t - (k + 1)) + 1 by omega]
          simpa using h2
    obtain ⟨_, h2⟩ := key args 0 ht
    simp only [Nat.sub_zero] at h2
    have hlt := (List.getElem?_eq_some_iff.1 h2).1
    rw [Array.getElem?_append_left (by simpa using hlt)]
    simpa using h2
  have := h F _ w hrep hh
  refine wpIn_mono this ?_
  intro e a w hx
  cases e <;> exact hx

/-- The end of such a function: the mark is come to. -/
theorem ret_m {fn : Func} {n : Cfg} {d : Nat} {v : Value} {Rf : Value → List HProp} (hds : n.ds = [markD d]) (hres : ∀ a, Rep n a fr → ∀ w, (results fn a.tmps).run P w = .ok v w) (he : Tk L (Rf v) R) :
    ∀ a w, Rep n a fr → Holds (pt d (.deferred (some [])) :: L) F w → bodyPostM (WF none) 0 P fn (fun e w' => ∃ v, e = .returned v ∧ Holds (Rf v) F w') .ret a w := by
  intro a w hr hh
  show LeavesInM (WF none) 0 P fn a.tmps _ a.defers .returning w
  rw [hr.defers, hds]
  have hb := holds_pt hh
  have hw' : Holds L F (w.putObj d (.deferred none)) := Ent.drop F _ (holds_putO (o' := .deferred none) hh)
  refine ⟨by simp, .inl ⟨d, _, rfl, run_takeDeferred hb, ?_⟩⟩
  show LeavesIn (WF none) 0 P fn a.tmps _ [] .returning _
  exact ⟨v, hres a hr _, v, rfl, he.ent F _ hw'⟩
theorem ret_one_m {fn : Func} {n : Cfg} {d t : Nat} {v : Value} {Rf : Value → List HProp} (hds : n.ds = [markD d]) (hres : fn.results = #[.tmp t]) (hv : fr.lookup t = some v) (he : Tk L (Rf v) R) :
    ∀ a w, Rep n a fr → Holds (pt d (.deferred (some [])) :: L) F w → bodyPostM (WF none) 0 P fn (fun e w' => ∃ v, e = .returned v ∧ Holds (Rf v) F w') .ret a w :=
  ret_m hds (fun a hr w => by
    rw [results_tmp hres]
    have := hr.get t v hv
    simp only [Array.getD_eq_getD_getElem?, this, Option.getD_some]) he
theorem Ent.ownOne {T : TypeId} {sz n : Nat} {v : Value} {xs : List Value} : Ent (own T sz v n xs :: L) (pur (v.oneCell' = true) :: own T sz v n xs :: L) := by
  intro F w h
  refine holds_pur.2 ⟨?_, h⟩
  obtain ⟨_, _, ⟨rfl, _⟩ | ⟨b, o, cap, vs, rfl, _⟩⟩ := holds_own h <;> rfl
end
end Go.Proofs.YtaibgfnfmkpibaaGreatDoor.SL
