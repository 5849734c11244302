/- Regions whose order is open: what only looks may be taken first; what writes comes when nothing else can. No program in sight. -/
import Derived.Test.YtaibgfnfmkpibaaGreatDoorEngC
namespace Go.Proofs.YtaibgfnfmkpibaaGreatDoor.SL
open Go

section
variable {P : Program} {ops : Array Oper} {Q : Exit → Act → World → Prop} {r : Option Nat}

def waitsB (ops : Array Oper) (j i : Nat) : Bool :=
  match ops[j]? with
  | some oj => oj.after.any fun e => Region.binds .any e && e.on == i
  | none => false

/-- What those that were taken first look at: by their numbers. -/
abbrev Looks := List (Nat × (World → Prop))
def keepL (ops : Array Oper) (i : Nat) (O : Looks) : Looks := O.filter fun p => !waitsB ops i p.1

/-- No operation is a deferring. -/
def noDefer (ops : Array Oper) : Bool := ops.all fun o => match o.op with
  | .defer _ => false
  | _ => true
theorem noDefer_spec (h : noDefer ops = true) {j : Nat} {o : Oper} (hj : ops[j]? = some o) : ∀ c, o.op ≠ .defer c := by
  intro c hc
  have := Array.all_eq_true'.1 h o (Array.mem_of_getElem? hj)
  rw [hc] at this
  cases this

theorem semAt_eq {ρ : Operand → Value} {o : Oper} (h : ∀ c, o.op ≠ .defer c) : o.semAt r ρ = execOp ρ o := by
  cases r with
  | none => rfl
  | some l => exact Oper.semAt_some l ρ o h

theorem yields_wpOpIn {S : World → Prop} {i : Nat} {o : Oper} {v : Value} {a : Act} (hi : ops[i]? = some o) (hy : YieldsIf P ops S o v a) {K : Act → World → Prop} {w : World} (hS : S w) (h : K (a.put o.dst v) w) :
    wpOpIn (WF r) 0 P ops Q i K a w := by
  unfold wpOpIn
  simp only [hi]
  rcases hy with ⟨hw, hv⟩ | ⟨hw, rfl⟩
  · simp only [hw, if_true]; exact wpIn_value (hv w hS) h
  · simp only [hw, Bool.false_eq_true, if_false]; exact ⟨fun _ _ => trivial, h⟩

theorem wpOpIn_putIf {S : World → Prop} {j : Nat} {oi oj : Oper} {v : Value} (hj : ops[j]? = some oj) (hap : oi.apart ops oj = true)
    (hsi : ∀ cs b, oi.op ≠ .select cs b) (hsj : ∀ cs b, oj.op ≠ .select cs b) (hdj : ∀ c, oj.op ≠ .defer c)
    (hQ : ∀ c a w, Q (.panic c) (a.put oi.dst v) w → Q (.panic c) a w) {K : Act → World → Prop} {a : Act} {w : World}
    (hy : YieldsIf P ops S oi v a) (h : wpOpIn (WF r) 0 P ops Q j K (a.put oi.dst v) w) :
    wpOpIn (WF r) 0 P ops Q j (fun a' w' => YieldsIf P ops S oi v a' ∧ K (a'.put oi.dst v) w') a w := by
  obtain ⟨h1, h2, h3⟩ := Oper.apart_spec hap
  have keep : ∀ (a : Act), YieldsIf P ops S oi v a → ∀ u, YieldsIf P ops S oi v (a.put oj.dst u) := fun a hy u =>
    hy.of_same (execOp_put oi hsi a oj.dst u h3) (wanted_put oi a oj.dst u h3)
  have keepD : ∀ d, YieldsIf P ops S oi v { a with defers := d :: a.defers } := fun d => hy.of_same rfl rfl
  unfold wpOpIn at *
  simp only [hj] at *
  rw [wanted_put oj a oi.dst v h1] at h
  split
  · rename_i hw
    simp only [hw, if_true] at h
    unfold Oper.wpIn at *
    refine ⟨fun _ _ => trivial, ?_⟩
    have h := h.2
    rw [semAt_eq hdj, execOp_put oj hsj a oi.dst v h1] at h
    rw [semAt_eq hdj]
    generalize (execOp a.eval oj).run P w = r at *
    cases r with
    | ok x w' =>
      cases x <;> simp only [Oper.uponIn] at h ⊢
      case value u => exact ⟨keep a hy u, by rw [← Act.put_comm a v u h2]; exact h⟩
      case skip => exact ⟨keep a hy _, by rw [← Act.put_comm a v undef h2]; exact h⟩
      case defer d =>
        refine ⟨keep _ (keepD d) _, ?_⟩
        rw [← Act.put_comm _ v undef h2, ← Act.put_defers]
        exact h
      case enter f args =>
        refine ⟨h.1, CallsIn.mono h.2 fun e w'' he => ?_⟩
        cases e with
        | returned u => exact ⟨keep a hy u, by rw [← Act.put_comm a v u h2]; exact he⟩
        | panicked c => exact hQ _ _ _ he
        | outgrown => exact he
      case row row args => exact ⟨h.1, RowsIn.mono h.2 fun u w'' he => ⟨keep a hy u, by rw [← Act.put_comm a v u h2]; exact he⟩⟩
      case round l f tmps assign body =>
        refine ⟨h.1, RoundIn.mono h.2 fun e w'' he => ?_⟩
        cases e with
        | returned u => exact ⟨keep a hy u, by rw [← Act.put_comm a v u h2]; exact he⟩
        | panicked c => exact hQ _ _ _ he
        | outgrown => exact he
    | halt x w' =>
      cases x <;> simp only [Oper.uponIn] at h ⊢
      case panic u => exact hQ _ _ _ h
  · rename_i hw
    simp only [hw] at h
    exact ⟨fun _ _ => trivial, keep a hy _, by rw [← Act.put_comm a v undef h2]; exact h.2⟩

/-- Whatever order is picked from here on; what those that were taken first look at stays till they must have come up. -/
def G (r : Option Nat) (P : Program) (ops : Array Oper) (Q : Exit → Act → World → Prop)   : Nat → Looks → Array Bool → Act → World → Prop
  | 0, _, listed, a, w => Region.ready .any ops listed = [] ∧ Q .normal a w
  | fuel + 1, O, listed, a, w =>
    (Region.ready .any ops listed = [] → Q .normal a w) ∧
    ∀ i ∈ Region.ready .any ops listed, wpOpIn (WF r) 0 P ops Q i (fun a' w' =>
      (∀ p ∈ keepL ops i O, p.2 w') ∧ G r P ops Q fuel (keepL ops i O) (listed.setIfInBounds i true) a' w') a w

theorem wpAny_of_G : ∀ (fuel : Nat) (O : Looks) (listed : Array Bool) (a : Act) (w : World), G r P ops Q fuel O listed a w → wpAnyIn (WF r) 0 P .any ops Q fuel listed a w
  | 0, _, _, _, _, h => h
  | fuel + 1, _, _, _, _, h => ⟨h.1, fun i hi => wpOpIn_mono (fun a' w' h' => wpAny_of_G fuel _ _ a' w' h'.2) (h.2 i hi)⟩

theorem G_less : ∀ (fuel : Nat) (O O' : Looks) (listed : Array Bool) (a : Act) (w : World), (∀ q ∈ O', q ∈ O) → G r P ops Q fuel O listed a w → G r P ops Q fuel O' listed a w
  | 0, _, _, _, _, _, _, h => h
  | fuel + 1, O, O', _, _, _, hs, h => ⟨h.1, fun i hi => wpOpIn_mono (fun a' w' h' => by
      have hs' : ∀ q ∈ keepL ops i O', q ∈ keepL ops i O := fun q hq => by
        unfold keepL at hq ⊢; rw [List.mem_filter] at hq ⊢; exact ⟨hs q hq.1, hq.2⟩
      exact ⟨fun q hq => h'.1 q (hs' q hq), G_less fuel _ _ _ a' w' hs' h'.2⟩) (h.2 i hi)⟩

theorem mem_keepL {i : Nat} {O : Looks} {p : Nat × (World → Prop)} (h : p ∈ keepL ops i O) : p ∈ O := (List.mem_filter.1 h).1

theorem G_first {i : Nat} {oi : Oper} {v : Value} {Cq : World → Prop} (hi : ops[i]? = some oi) (hsel : ∀ (j : Nat) (o : Oper) cs b, ops[j]? = some o → o.op ≠ .select cs b) (hnd : noDefer ops = true)
    (hQ : ∀ c a w, Q (.panic c) (a.put oi.dst v) w → Q (.panic c) a w) :
    ∀ (fuel : Nat) (O : Looks) (listed : Array Bool) (a : Act) (w : World),
      (∀ j oj, ops[j]? = some oj → j ≠ i → listed.getD j true = false → (∀ e ∈ oj.after, Region.binds .any e = true → e.on ≠ i) → oi.apart ops oj = true) →
      i ∈ Region.ready .any ops listed → YieldsIf P ops Cq oi v a → Cq w → (∀ p ∈ O, p.2 w) →
      G r P ops Q fuel ((i, Cq) :: O) (listed.setIfInBounds i true) (a.put oi.dst v) w → G r P ops Q (fuel + 1) O listed a w := by
  intro fuel
  induction fuel with
  | zero =>
    intro O listed a w _ hr hy hC hO H
    refine ⟨fun h => (by rw [h] at hr; cases hr), fun j hj => ?_⟩
    by_cases hji : j = i
    · subst hji; exact yields_wpOpIn hi hy hC ⟨fun q hq => hO q (mem_keepL hq), H⟩
    · have := ready_mono hj hji
      rw [H.1] at this
      cases this
  | succ fuel ih =>
    intro O listed a w hfree hr hy hC hO H
    refine ⟨fun h => (by rw [h] at hr; cases hr), fun j hj => ?_⟩
    by_cases hji : j = i
    · subst hji
      exact yields_wpOpIn hi hy hC ⟨fun q hq => hO q (mem_keepL hq), G_less _ _ _ _ _ _ (fun q hq => List.mem_cons_of_mem _ (mem_keepL hq)) H⟩
    · have h1 := H.2 j (ready_mono hj hji)
      obtain ⟨hjun, oj, hoj, hall⟩ := mem_ready.1 hj
      have hnot : ∀ e ∈ oj.after, Region.binds .any e = true → e.on ≠ i := fun e he hb heq => by
        have h1 := hall e he hb
        have h0 := (mem_ready.1 hr).1
        rw [heq] at h1
        rcases Nat.lt_or_ge i listed.size with h' | h'
        · simp [h'] at h0 h1; rw [h0] at h1; cases h1
        · simp [Array.getElem?_eq_none h'] at h1
      have hw : waitsB ops j i = false := by
        simp only [waitsB, hoj]
        rw [Array.any_eq_false']
        intro e he
        by_cases hb : Region.binds .any e = true
        · have := hnot e he hb; simp [this]
        · simp [hb]
      have h2 := wpOpIn_putIf hoj (hfree j oj hoj hji hjun hnot) (fun cs b => hsel i oi cs b hi) (fun cs b => hsel j oj cs b hoj) (noDefer_spec hnd hoj) hQ hy h1
      have hfree' : ∀ k ok, ops[k]? = some ok → k ≠ i → (listed.setIfInBounds j true).getD k true = false →
          (∀ e ∈ ok.after, Region.binds .any e = true → e.on ≠ i) → oi.apart ops ok = true := fun k ok hk hki hun hno => by
        refine hfree k ok hk hki ?_ hno
        by_cases hjk : j = k
        · subst hjk; exact hjun
        · rw [getD_set_ne true hjk] at hun; exact hun
      refine wpOpIn_mono (fun a' w' h3 => ?_) h2
      obtain ⟨hy', hO', hG⟩ := h3
      have hfil : keepL ops j ((i, Cq) :: O) = (i, Cq) :: keepL ops j O := by simp [keepL, hw]
      rw [hfil] at hO' hG
      refine ⟨fun q hq => hO' q (List.mem_cons_of_mem _ hq), ih _ (listed.setIfInBounds j true) a' w' hfree' (ready_mono hr (Ne.symm hji)) hy' (hO' (i, Cq) (by simp)) (fun q hq => hO' q (List.mem_cons_of_mem _ hq)) ?_⟩
      rw [Array.setIfInBounds_comm _ _ hji]
      exact hG

def PanOk (Q : Exit → Act → World → Prop) : Prop := ∀ c a d v w, Q (.panic c) (Act.put a d v) w → Q (.panic c) a w
theorem panOk_body {fn : Func} {R : Ending → World → Prop} : PanOk (bodyPost P fn R) := by
  intro c a d v w h
  refine ⟨?_, h.2⟩
  have := h.1
  cases d <;> exact this
theorem PanOk.leave {k : List Itm} (h : PanOk Q) : PanOk (leaveK P r Q k) := by
  intro c a d v w
  rw [leaveK_panic]
  exact h c a d v w

theorem G_add {i : Nat} {Cq : World → Prop} (hC : ∀ w, Cq w) : ∀ (fuel : Nat) (O : Looks) (listed : Array Bool) (a : Act) (w : World), G r P ops Q fuel O listed a w → G r P ops Q fuel ((i, Cq) :: O) listed a w := by
  intro fuel
  induction fuel with
  | zero => exact fun _ _ _ _ h => h
  | succ fuel ih =>
    intro O listed a w h
    refine ⟨h.1, fun j hj => wpOpIn_mono (fun a' w' h' => ?_) (h.2 j hj)⟩
    unfold keepL
    rw [List.filter_cons]
    split
    · refine ⟨fun p hp => ?_, ih _ _ _ _ h'.2⟩
      rcases List.mem_cons.1 hp with rfl | hp
      · exact hC w'
      · exact h'.1 p hp
    · exact h'

/-- Which operations are taken how: 'reads' early, while 'S' stands; 'pures' early, at any time; 'lasts' when nothing else can come, and S falls; all others when nothing else can come, and S stands. -/
structure Plan where
  reads : List Nat
  pures : List Nat
  lasts : List Nat

def early (ops : Array Oper) (listed : Array Bool) (i : Nat) : Bool := (Region.ready .any ops listed).contains i && Region.free .any ops listed i

/-- In which order: one after another; where one of several comes next, each way. -/
inductive Ord where
  | nil
  | cons (i : Nat) (o : Ord)
  | two (i : Nat) (o : Ord) (j : Nat) (o' : Ord)
  | three (i : Nat) (o : Ord) (j : Nat) (o' : Ord) (m : Nat) (o'' : Ord)

def Ord.length : Ord → Nat
  | .nil => 0
  | .cons _ o => o.length + 1
  | .two _ o _ _ => o.length + 1
  | .three _ o _ _ _ _ => o.length + 1

/-- A list of numbers, one after another. -/
def Ord.of : List Nat → Ord → Ord
  | [], o => o
  | i :: l, o => .cons i (Ord.of l o)

/-- What may come next is among these, and 'i' is carried out: the looks behind it. -/
def effOk (ops : Array Oper) (p : Plan) (taken : List Nat) (i : Nat) : Bool := !p.reads.contains i && !p.pures.contains i && (!p.lasts.contains i || taken.all (waitsB ops i))
def keepT (ops : Array Oper) (i : Nat) (taken : List Nat) : List Nat := taken.filter fun j => !waitsB ops i j
def takenOf (ops : Array Oper) (p : Plan) (taken : List Nat) (i : Nat) : List Nat := if p.lasts.contains i then [] else keepT ops i taken
theorem mem_keepT {i : Nat} {O : Looks} {taken : List Nat} {q : Nat × (World → Prop)} (h : q ∈ keepL ops i O) (ht : q.1 ∈ taken) : q.1 ∈ keepT ops i taken := by
  unfold keepL at h
  unfold keepT
  rw [List.mem_filter] at h ⊢
  exact ⟨ht, h.2⟩
theorem keepT_nil {i : Nat} {taken : List Nat} (h : taken = []) : keepT ops i taken = [] := by subst h; rfl

def ordOk (ops : Array Oper) (p : Plan) : Ord → List Nat → Array Bool → Bool
  | .nil, _, listed => (Region.ready .any ops listed).isEmpty
  | .cons i σ, taken, listed =>
    if p.reads.contains i then early ops listed i && ordOk ops p σ (i :: taken) (listed.setIfInBounds i true)
    else if p.pures.contains i then early ops listed i && ordOk ops p σ taken (listed.setIfInBounds i true)
    else if p.lasts.contains i then Region.ready .any ops listed == [i] && taken.all (waitsB ops i) && ordOk ops p σ [] (listed.setIfInBounds i true)
    else Region.ready .any ops listed == [i] && ordOk ops p σ (keepT ops i taken) (listed.setIfInBounds i true)
  | .two i σ j σ', taken, listed =>
    Region.ready .any ops listed == [i, j] && σ.length == σ'.length && effOk ops p taken i && effOk ops p taken j &&
      ordOk ops p σ (takenOf ops p taken i) (listed.setIfInBounds i true) && ordOk ops p σ' (takenOf ops p taken j) (listed.setIfInBounds j true)
  | .three i σ j σ' m σ'', taken, listed =>
    Region.ready .any ops listed == [i, j, m] && σ.length == σ'.length && σ.length == σ''.length && effOk ops p taken i && effOk ops p taken j && effOk ops p taken m &&
      ordOk ops p σ (takenOf ops p taken i) (listed.setIfInBounds i true) && ordOk ops p σ' (takenOf ops p taken j) (listed.setIfInBounds j true) && ordOk ops p σ'' (takenOf ops p taken m) (listed.setIfInBounds m true)

/-- What is left of a region whose order is open: 'σ' still to come. 'al': S stands. -/
def Dp (P : Program) (Q : Exit → Act → World → Prop) (n : Cfg) (F : Base) (ops : Array Oper) (p : Plan) (S : List HProp) (σ : Ord) (al : Bool) (fr : Fr) (L : List HProp) (k : List Itm) : Prop :=
  (Region.noSelect ops = true ∧ noDefer ops = true) → PanOk Q → ∀ listed taken (O : Looks), ordOk ops p σ taken listed = true → (∀ q ∈ O, q.1 ∈ taken ∧ ∀ w, Holds S F w → q.2 w) → (al = false → taken = []) →
    ∀ a w, Rep n a fr → Holds L F w → (al = true → Holds S F w) → G n.r P ops (leaveK P n.r Q k) σ.length O listed a w

variable {n : Cfg} {F : Base} {fr : Fr} {L S : List HProp} {k : List Itm} {p : Plan} {σ : Ord} {al : Bool}

theorem run_draw {id : Nat} {l : List Oper} (p : Plan) (σ : Ord) (S : List HProp) (hS : Ent L S) (hm : P.follows .mixedOrders = true) (hsel : (Region.noSelect l.toArray && noDefer l.toArray) = true) (hQ : PanOk Q) (hl : (σ.length == l.length) = true)
    (hB : ordOk l.toArray p σ [] (Array.replicate l.length false) = true)
    (h : Dp P Q n F l.toArray p S σ true fr L k) : Run P Q n F fr L (.code (.region id l.toArray true) :: k) := by
  intro a w hr hh
  refine wpIn_region_any hm (wpAny_of_G _ [] _ _ _ ?_)
  have hh' : Holds L F { w with drawn := w.drawn + 1 } := holds_same hh rfl rfl rfl
  have := h (by simpa using hsel) hQ (Array.replicate l.length false) [] [] hB (by simp) (by simp) a { w with drawn := w.drawn + 1 } hr hh' (fun _ => hS F _ hh')
  have hl' : σ.length = l.length := by simpa using hl
  simpa [hl'] using this

theorem dp_nil (h : Run P Q n F fr L k) : Dp P Q n F ops p S .nil al fr L k := by
  intro hs hQ listed taken O ho _ _ a w hr hh _
  exact ⟨by simpa [ordOk] using ho, h a w hr hh⟩

/-- Is an operation with this guard carried out? -/
def wants (ops : Array Oper) (fr : Fr) : Option (Nat × Bool) → Option Bool
  | none => some true
  | some (j, want) => match dstOf ops j with
    | some t => match List.lookup t fr with
      | some (.bool c) => some (c == want)
      | some (.tuple _) => some false
      | _ => none
    | none => none

theorem wants_spec {a : Act} (hr : Rep n a fr) {o : Oper} {c : Bool} (h : wants ops fr o.guard = some c) : Region.wanted o (yielded ops a.tmps) = c := by
  unfold wants at h
  split at h
  · rename_i hg; cases h; simp [Region.wanted, hg]
  · rename_i j want hg
    split at h
    · rename_i t ht
      split at h
      · rename_i cc hc
        cases h
        exact wanted_of hr ht hc o hg
      · rename_i vs hc
        cases h
        have h1 := hr.get t _ hc
        unfold dstOf at ht
        simp [Region.wanted, hg, yielded, ht, h1]
      · cases h
    · cases h

theorem early_spec {listed : Array Bool} {i : Nat} (h : early ops listed i = true) : i ∈ Region.ready .any ops listed ∧ Region.free .any ops listed i = true := by
  unfold early at h
  simp only [Bool.and_eq_true] at h
  exact ⟨by simpa using h.1, h.2⟩

section
variable {i : Nat} {d : Option Nat} {op : Op} {ty : TypeId} {pos : String} {after : Array Edge} {g : Option (Nat × Bool)} {v : Value}

/-- One that only looks. -/
theorem dp_quiet (hi : ops[i]? = some ⟨d, op, ty, pos, after, g⟩) (he : p.reads.contains i = true) (hg : wants ops fr g = some true) (hd : inFr n d = true)
    (hq : Quiet P op ty fr S v) (h : Dp P Q n F ops p S σ true (putFr fr d v) L k) : Dp P Q n F ops p S (.cons i σ) true fr L k := by
  intro hs hQ listed taken O ho hO ht a w hr hh hS
  simp only [ordOk, he, if_true, Bool.and_eq_true] at ho
  obtain ⟨h1, h2⟩ := early_spec ho.1
  refine G_first (v := v) (Cq := Holds S F) hi (Region.noSelect_spec hs.1) hs.2 (fun c a w => hQ.leave c a _ _ w) σ.length O listed a w (Region.free_spec hi h2) h1 ?_ (hS rfl) (fun q hq => (hO q hq).2 w (hS rfl)) ?_
  · exact .inl ⟨wants_spec hr hg, fun w' hw' => hq n F a w' d pos after g hr hw'⟩
  · refine h hs hQ _ (i :: taken) _ ho.2 ?_ (by simp) _ w (hr.put d (inFr_spec hd) v) hh (fun _ => hS rfl)
    intro q hq
    rcases List.mem_cons.1 hq with rfl | hq
    · exact ⟨by simp, fun _ h => h⟩
    · exact ⟨List.mem_cons_of_mem _ (hO q hq).1, (hO q hq).2⟩

theorem al_obl {O : Looks} {taken : List Nat} {w : World} (hO : ∀ q ∈ O, q.1 ∈ taken ∧ ∀ w, Holds S F w → q.2 w) (ht : al = false → taken = []) (hS : al = true → Holds S F w) : ∀ q ∈ O, q.2 w := by
  intro q hq
  obtain ⟨h1, h2⟩ := hO q hq
  refine h2 w ?_
  cases al with
  | true => exact hS rfl
  | false => rw [ht rfl] at h1; cases h1

/-- One that looks at nothing but the frame. -/
theorem dp_pure (hi : ops[i]? = some ⟨d, op, ty, pos, after, g⟩) (he : p.reads.contains i = false) (he' : p.pures.contains i = true) (hg : wants ops fr g = some true) (hd : inFr n d = true)
    (hq : Pure P op ty fr v) (h : Dp P Q n F ops p S σ al (putFr fr d v) L k) : Dp P Q n F ops p S (.cons i σ) al fr L k := by
  intro hs hQ listed taken O ho hO ht a w hr hh hS
  simp only [ordOk, he, he', if_true, Bool.false_eq_true, if_false, Bool.and_eq_true] at ho
  obtain ⟨h1, h2⟩ := early_spec ho.1
  refine G_first (v := v) (Cq := fun _ => True) hi (Region.noSelect_spec hs.1) hs.2 (fun c a w => hQ.leave c a _ _ w) σ.length O listed a w (Region.free_spec hi h2) h1 ?_ trivial (al_obl hO ht hS) ?_
  · exact .inl ⟨wants_spec hr hg, fun w' _ => hq n a w' d pos after g hr⟩
  · exact G_add (fun _ => trivial) _ _ _ _ _ (h hs hQ _ taken _ ho.2 hO ht _ w (hr.put d (inFr_spec hd) v) hh hS)

/-- One that is not carried out. -/
theorem dp_not (hi : ops[i]? = some ⟨d, op, ty, pos, after, g⟩) (he : p.reads.contains i = false) (he' : p.pures.contains i = true) (hg : wants ops fr g = some false) (hd : inFr n d = true)
    (h : Dp P Q n F ops p S σ al (putFr fr d undef) L k) : Dp P Q n F ops p S (.cons i σ) al fr L k := by
  intro hs hQ listed taken O ho hO ht a w hr hh hS
  simp only [ordOk, he, he', if_true, Bool.false_eq_true, if_false, Bool.and_eq_true] at ho
  obtain ⟨h1, h2⟩ := early_spec ho.1
  refine G_first (v := undef) (Cq := fun _ => True) hi (Region.noSelect_spec hs.1) hs.2 (fun c a w => hQ.leave c a _ _ w) σ.length O listed a w (Region.free_spec hi h2) h1 ?_ trivial (al_obl hO ht hS) ?_
  · exact .inr ⟨wants_spec hr hg, rfl⟩
  · exact G_add (fun _ => trivial) _ _ _ _ _ (h hs hQ _ taken _ ho.2 hO ht _ w (hr.put d (inFr_spec hd) undef) hh hS)

theorem G_one {fuel : Nat} {O : Looks} {listed : Array Bool} {a : Act} {w : World} (hr : Region.ready .any ops listed = [i])
    (h : wpOpIn (WF r) 0 P ops Q i (fun a' w' => (∀ p ∈ keepL ops i O, p.2 w') ∧ G r P ops Q fuel (keepL ops i O) (listed.setIfInBounds i true) a' w') a w) : G r P ops Q (fuel + 1) O listed a w :=
  ⟨fun h0 => (by rw [hr] at h0; cases h0), fun j hj => by rw [hr] at hj; rw [List.mem_singleton.1 hj]; exact h⟩

/-- One that writes, or makes, where nothing else can come, and S stands. -/
theorem dp_step {ι : Type} {V : ι → Value} {R : ι → List HProp} (hi : ops[i]? = some ⟨d, op, ty, pos, after, g⟩) (he : (p.reads.contains i || p.pures.contains i || p.lasts.contains i) = false) (hg : wants ops fr g = some true)
    (hd : inFr n d = true) (hq : Step P op ty fr L V R) (hk : ∀ x, Ent (R x) S) (h : ∀ x, Dp P Q n F ops p S σ al (putFr fr d (V x)) (R x) k) : Dp P Q n F ops p S (.cons i σ) al fr L k := by
  intro hs hQ listed taken O ho hO ht a w hr hh hS
  simp only [Bool.or_eq_false_iff] at he
  simp only [ordOk, he.1.1, he.1.2, he.2, Bool.false_eq_true, if_false, Bool.and_eq_true, beq_iff_eq] at ho
  refine G_one ho.1 ?_
  unfold wpOpIn
  simp only [hi, wants_spec (o := ⟨d, op, ty, pos, after, g⟩) hr hg, if_true]
  refine hq n F a w d pos after g _ _ hr hh fun x w' hw' => ?_
  have hO' : ∀ q ∈ keepL ops i O, q.1 ∈ keepT ops i taken ∧ ∀ w, Holds S F w → q.2 w := fun q hq => ⟨mem_keepT hq (hO q (mem_keepL hq)).1, (hO q (mem_keepL hq)).2⟩
  have ht' : al = false → keepT ops i taken = [] := fun h => keepT_nil (ht h)
  have hS' : al = true → Holds S F w' := fun _ => hk x F w' hw'
  exact ⟨al_obl hO' ht' hS', h x hs hQ _ _ _ ho.2 hO' ht' _ w' (hr.put d (inFr_spec hd) (V x)) hw' hS'⟩

/-- One that writes, or makes, where nothing else can come, and S falls. -/
theorem dp_last {ι : Type} {V : ι → Value} {R : ι → List HProp} (hi : ops[i]? = some ⟨d, op, ty, pos, after, g⟩) (he : (p.reads.contains i || p.pures.contains i) = false) (he' : p.lasts.contains i = true) (hg : wants ops fr g = some true)
    (hd : inFr n d = true) (hq : Step P op ty fr L V R) (h : ∀ x, Dp P Q n F ops p S σ false (putFr fr d (V x)) (R x) k) : Dp P Q n F ops p S (.cons i σ) al fr L k := by
  intro hs hQ listed taken O ho hO ht a w hr hh hS
  simp only [Bool.or_eq_false_iff] at he
  simp only [ordOk, he.1, he.2, he', Bool.false_eq_true, if_false, if_true, Bool.and_eq_true, beq_iff_eq] at ho
  refine G_one ho.1.1 ?_
  unfold wpOpIn
  simp only [hi, wants_spec (o := ⟨d, op, ty, pos, after, g⟩) hr hg, if_true]
  refine hq n F a w d pos after g _ _ hr hh fun x w' hw' => ?_
  have hno : keepL ops i O = [] := by
    unfold keepL
    rw [List.filter_eq_nil_iff]
    intro q hq
    have := List.all_eq_true.1 ho.1.2 q.1 (hO q hq).1
    simp [this]
  rw [hno]
  exact ⟨by simp, h x hs hQ _ [] _ ho.2 (by simp) (fun _ => rfl) _ w' (hr.put d (inFr_spec hd) (V x)) hw' (by simp)⟩

/-- One of two, of three, comes next: each way. -/
theorem G_of {fuel : Nat} {O : Looks} {listed : Array Bool} {a : Act} {w : World} {rs : List Nat} (hr : Region.ready .any ops listed = rs) (hne : rs ≠ [])
    (h : ∀ i ∈ rs, wpOpIn (WF r) 0 P ops Q i (fun a' w' => (∀ p ∈ keepL ops i O, p.2 w') ∧ G r P ops Q fuel (keepL ops i O) (listed.setIfInBounds i true) a' w') a w) : G r P ops Q (fuel + 1) O listed a w :=
  ⟨fun h0 => absurd (hr ▸ h0) hne, hr ▸ h⟩

/-- This one comes next, and what is left behind it. -/
def De (P : Program) (Q : Exit → Act → World → Prop) (n : Cfg) (F : Base) (ops : Array Oper) (p : Plan) (S : List HProp) (i : Nat) (σ : Ord) (al : Bool) (fr : Fr) (L : List HProp) (k : List Itm) : Prop :=
  (Region.noSelect ops = true ∧ noDefer ops = true) → PanOk Q → ∀ (listed : Array Bool) (taken : List Nat) (O : Looks), effOk ops p taken i = true → ordOk ops p σ (takenOf ops p taken i) (listed.setIfInBounds i true) = true →
    (∀ q ∈ O, q.1 ∈ taken ∧ ∀ w, Holds S F w → q.2 w) → (al = false → taken = []) →
    ∀ a w, Rep n a fr → Holds L F w → (al = true → Holds S F w) →
      wpOpIn (WF n.r) 0 P ops (leaveK P n.r Q k) i (fun a' w' => (∀ p ∈ keepL ops i O, p.2 w') ∧ G n.r P ops (leaveK P n.r Q k) σ.length (keepL ops i O) (listed.setIfInBounds i true) a' w') a w

theorem dp_two {j : Nat} {σ' : Ord} (h1 : De P Q n F ops p S i σ al fr L k) (h2 : De P Q n F ops p S j σ' al fr L k) : Dp P Q n F ops p S (.two i σ j σ') al fr L k := by
  intro hs hQ listed taken O ho hO ht a w hr hh hS
  simp only [ordOk, Bool.and_eq_true, beq_iff_eq] at ho
  obtain ⟨⟨⟨⟨⟨o1, o2⟩, o3⟩, o4⟩, o5⟩, o6⟩ := ho
  refine G_of o1 (by simp) fun m hm => ?_
  rcases List.mem_cons.1 hm with rfl | hm
  · exact h1 hs hQ listed taken O o3 o5 hO ht a w hr hh hS
  · rw [List.mem_singleton.1 hm, o2]
    exact h2 hs hQ listed taken O o4 o6 hO ht a w hr hh hS
theorem dp_three {j m : Nat} {σ' σ'' : Ord} (h1 : De P Q n F ops p S i σ al fr L k) (h2 : De P Q n F ops p S j σ' al fr L k) (h3 : De P Q n F ops p S m σ'' al fr L k) : Dp P Q n F ops p S (.three i σ j σ' m σ'') al fr L k := by
  intro hs hQ listed taken O ho hO ht a w hr hh hS
  simp only [ordOk, Bool.and_eq_true, beq_iff_eq] at ho
  obtain ⟨⟨⟨⟨⟨⟨⟨⟨o1, o2⟩, o3⟩, o4⟩, o5⟩, o6⟩, o7⟩, o8⟩, o9⟩ := ho
  refine G_of o1 (by simp) fun u hu => ?_
  rcases List.mem_cons.1 hu with rfl | hu
  · exact h1 hs hQ listed taken O o4 o7 hO ht a w hr hh hS
  · rcases List.mem_cons.1 hu with rfl | hu
    · rw [o2]; exact h2 hs hQ listed taken O o5 o8 hO ht a w hr hh hS
    · rw [List.mem_singleton.1 hu, o3]; exact h3 hs hQ listed taken O o6 o9 hO ht a w hr hh hS

theorem de_step {ι : Type} {V : ι → Value} {R : ι → List HProp} (hi : ops[i]? = some ⟨d, op, ty, pos, after, g⟩) (he : p.lasts.contains i = false) (hg : wants ops fr g = some true)
    (hd : inFr n d = true) (hq : Step P op ty fr L V R) (hk : ∀ x, Ent (R x) S) (h : ∀ x, Dp P Q n F ops p S σ al (putFr fr d (V x)) (R x) k) : De P Q n F ops p S i σ al fr L k := by
  intro hs hQ listed taken O _ ho hO ht a w hr hh hS
  simp only [takenOf, he, Bool.false_eq_true, if_false] at ho
  unfold wpOpIn
  simp only [hi, wants_spec (o := ⟨d, op, ty, pos, after, g⟩) hr hg, if_true]
  refine hq n F a w d pos after g _ _ hr hh fun x w' hw' => ?_
  have hO' : ∀ q ∈ keepL ops i O, q.1 ∈ keepT ops i taken ∧ ∀ w, Holds S F w → q.2 w := fun q hq => ⟨mem_keepT hq (hO q (mem_keepL hq)).1, (hO q (mem_keepL hq)).2⟩
  have ht' : al = false → keepT ops i taken = [] := fun h => keepT_nil (ht h)
  have hS' : al = true → Holds S F w' := fun _ => hk x F w' hw'
  exact ⟨al_obl hO' ht' hS', h x hs hQ _ _ _ ho hO' ht' _ w' (hr.put d (inFr_spec hd) (V x)) hw' hS'⟩
theorem de_last {ι : Type} {V : ι → Value} {R : ι → List HProp} (hi : ops[i]? = some ⟨d, op, ty, pos, after, g⟩) (he : p.lasts.contains i = true) (hg : wants ops fr g = some true)
    (hd : inFr n d = true) (hq : Step P op ty fr L V R) (h : ∀ x, Dp P Q n F ops p S σ false (putFr fr d (V x)) (R x) k) : De P Q n F ops p S i σ al fr L k := by
  intro hs hQ listed taken O hE ho hO ht a w hr hh hS
  simp only [takenOf, he, if_true] at ho
  unfold wpOpIn
  simp only [hi, wants_spec (o := ⟨d, op, ty, pos, after, g⟩) hr hg, if_true]
  refine hq n F a w d pos after g _ _ hr hh fun x w' hw' => ?_
  have hno : keepL ops i O = [] := by
    unfold keepL
    rw [List.filter_eq_nil_iff]
    intro q hq
    simp only [effOk, he, Bool.and_eq_true, Bool.not_true, Bool.false_or] at hE
    have := List.all_eq_true.1 hE.2 q.1 (hO q hq).1
    simp [this]
  rw [hno]
  exact ⟨by simp, h x hs hQ _ [] _ ho (by simp) (fun _ => rfl) _ w' (hr.put d (inFr_spec hd) (V x)) hw' (by simp)⟩

/-- One that is not carried out, in its turn. -/
theorem dp_skip (hi : ops[i]? = some ⟨d, op, ty, pos, after, g⟩) (he : (p.reads.contains i || p.pures.contains i) = false) (hg : wants ops fr g = some false)
    (hd : inFr n d = true) (h : Dp P Q n F ops p S σ al (putFr fr d undef) L k) (hl : p.lasts.contains i = false) : Dp P Q n F ops p S (.cons i σ) al fr L k := by
  intro hs hQ listed taken O ho hO ht a w hr hh hS
  simp only [Bool.or_eq_false_iff] at he
  simp only [ordOk, he.1, he.2, hl, Bool.false_eq_true, if_false, Bool.and_eq_true, beq_iff_eq] at ho
  refine G_one ho.1 ?_
  unfold wpOpIn
  simp only [hi, wants_spec (o := ⟨d, op, ty, pos, after, g⟩) hr hg, Bool.false_eq_true, if_false]
  have hO' : ∀ q ∈ keepL ops i O, q.1 ∈ keepT ops i taken ∧ ∀ w, Holds S F w → q.2 w := fun q hq => ⟨mem_keepT hq (hO q (mem_keepL hq)).1, (hO q (mem_keepL hq)).2⟩
  have ht' : al = false → keepT ops i taken = [] := fun h => keepT_nil (ht h)
  exact ⟨fun _ _ => trivial, al_obl hO' ht' hS, h hs hQ _ _ _ ho.2 hO' ht' _ w (hr.put d (inFr_spec hd) undef) hh hS⟩
end

theorem dp_ent {L' : List HProp} (he : Ent L L') (h : Dp P Q n F ops p S σ al fr L' k) : Dp P Q n F ops p S σ al fr L k :=
  fun hs hQ listed taken O ho hO ht a w hr hh hS => h hs hQ listed taken O ho hO ht a w hr (he F w hh) hS
theorem dp_exi {α : Sort _} {f : α → HProp} (h : ∀ x, Dp P Q n F ops p S σ al fr (f x :: L) k) : Dp P Q n F ops p S σ al fr (exi f :: L) k :=
  fun hs hQ listed taken O ho hO ht a w hr hh hS => let ⟨x, hx⟩ := holds_exi.1 hh; h x hs hQ listed taken O ho hO ht a w hr hx hS
theorem dp_pur {q : Prop} (h : q → Dp P Q n F ops p S σ al fr L k) : Dp P Q n F ops p S σ al fr (pur q :: L) k :=
  fun hs hQ listed taken O ho hO ht a w hr hh hS => let ⟨x, hx⟩ := holds_pur.1 hh; h x hs hQ listed taken O ho hO ht a w hr hx hS
theorem dp_all {A : List HProp} (h : Dp P Q n F ops p S σ al fr (A ++ L) k) : Dp P Q n F ops p S σ al fr (All A :: L) k :=
  fun hs hQ listed taken O ho hO ht a w hr hh hS => h hs hQ listed taken O ho hO ht a w hr (holds_all.1 hh) hS

/-- A truth value in the frame, told apart. -/
theorem sub_case {t : Nat} {c : Bool} (ht : fr.lookup t = some (.bool c)) {X : Fr → Prop} (hX : ∀ fr', Sub fr' fr → X fr' → X fr) (h1 : c = true → X ((t, .bool true) :: fr)) (h2 : c = false → X ((t, .bool false) :: fr)) : X fr := by
  cases c with
  | true => exact hX _ (Sub.again ht) (h1 rfl)
  | false => exact hX _ (Sub.again ht) (h2 rfl)
theorem dp_case (t : Nat) {c : Bool} (ht : fr.lookup t = some (.bool c)) (h1 : c = true → Dp P Q n F ops p S σ al ((t, .bool true) :: fr) L k) (h2 : c = false → Dp P Q n F ops p S σ al ((t, .bool false) :: fr) L k) : Dp P Q n F ops p S σ al fr L k :=
  sub_case (X := fun fr => Dp P Q n F ops p S σ al fr L k) ht (fun _ hsub h hs hQ listed taken O ho hO ht a w hr hh hS => h hs hQ listed taken O ho hO ht a w (hr.sub hsub) hh hS) h1 h2
theorem ops_case {rest : List Oper} (t : Nat) {c : Bool} (ht : fr.lookup t = some (.bool c)) (h1 : c = true → Ops P Q n F ops rest ((t, .bool true) :: fr) L k) (h2 : c = false → Ops P Q n F ops rest ((t, .bool false) :: fr) L k) : Ops P Q n F ops rest fr L k :=
  sub_case (X := fun fr => Ops P Q n F ops rest fr L k) ht (fun _ hs h a w hr hh => h a w (hr.sub hs) hh) h1 h2
theorem run_case (t : Nat) {c : Bool} (ht : fr.lookup t = some (.bool c)) (h1 : c = true → Run P Q n F ((t, .bool true) :: fr) L k) (h2 : c = false → Run P Q n F ((t, .bool false) :: fr) L k) : Run P Q n F fr L k :=
  sub_case (X := fun fr => Run P Q n F fr L k) ht (fun _ hs h => run_sub hs h) h1 h2

/-- Guards, outside of such regions. -/
theorem ops_yes {rest : List Oper} {d : Option Nat} {op : Op} {ty : TypeId} {pos : String} {after : Array Edge} {g : Option (Nat × Bool)} (hg : wants ops fr g = some true)
    (h : Ops P Q n F ops (⟨d, op, ty, pos, after, none⟩ :: rest) fr L k) : Ops P Q n F ops (⟨d, op, ty, pos, after, g⟩ :: rest) fr L k := by
  intro a w hr hh
  have := h a w hr hh
  unfold wpListIn at this ⊢
  rw [wants_spec (o := ⟨d, op, ty, pos, after, g⟩) hr hg]
  simp only [Region.wanted, if_true] at this ⊢
  exact this
theorem ops_no {rest : List Oper} {d : Option Nat} {op : Op} {ty : TypeId} {pos : String} {after : Array Edge} {g : Option (Nat × Bool)} (hg : wants ops fr g = some false) (hd : inFr n d = true)
    (h : Ops P Q n F ops rest (putFr fr d undef) L k) : Ops P Q n F ops (⟨d, op, ty, pos, after, g⟩ :: rest) fr L k := by
  intro a w hr hh
  unfold wpListIn
  rw [wants_spec (o := ⟨d, op, ty, pos, after, g⟩) hr hg]
  simp only [Bool.false_eq_true, if_false]
  exact ⟨fun _ _ => trivial, h _ _ (hr.put d (inFr_spec hd) undef) hh⟩
end
end Go.Proofs.YtaibgfnfmkpibaaGreatDoor.SL
