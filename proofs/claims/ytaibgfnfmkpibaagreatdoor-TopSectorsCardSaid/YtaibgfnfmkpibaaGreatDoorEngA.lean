/- The heap as owned pieces, a frame as what is known of it, and a run of code from such a state: the words and the rules for control. No program in sight. -/
import Derived.Tactics
import Derived.OrdersHeld
import Derived.TacticsIn
import Derived.OrdersIn
import Derived.RangeFuncCalls
import Derived.LoopNIn
import Derived.Laws.Sem
namespace Go.Proofs.YtaibgfnfmkpibaaGreatDoor.SL
open Go

abbrev Hp := List (Nat × Obj)
abbrev HProp := Hp → Prop

structure Base where
  own : Nat → Option Obj
  os : Os
  output : Array (Nat × ByteArray)

structure Sat (H : Hp) (F : Base) (w : World) : Prop where
  nodup : (H.map (·.1)).Nodup
  has : ∀ b o, (b, o) ∈ H → w.heap[b]? = some o
  rest : ∀ b o, F.own b = some o → w.heap[b]? = some o
  apart : ∀ b o, F.own b = some o → b ∉ H.map (·.1)
  os : w.os = F.os
  output : w.output = F.output

def All : List HProp → HProp
  | [], H => H = []
  | c :: L, H => ∃ H1 H2, c H1 ∧ All L H2 ∧ H = H1 ++ H2

def Holds (L : List HProp) (F : Base) (w : World) : Prop := ∃ H, All L H ∧ Sat H F w

def pt (b : Nat) (o : Obj) : HProp := fun H => H = [(b, o)]
def pur (p : Prop) : HProp := fun H => p ∧ H = []
def exi {α : Sort _} (f : α → HProp) : HProp := fun H => ∃ x, f x H

theorem Sat.perm {H H' : Hp} {F : Base} {w : World} (h : Sat H F w) (p : H.Perm H') : Sat H' F w where
  nodup := (p.map _).nodup_iff.1 h.nodup
  has b o hm := h.has b o (p.mem_iff.2 hm)
  rest := h.rest
  apart b o hf hm := h.apart b o hf ((p.map _).mem_iff.2 hm)
  os := h.os
  output := h.output

theorem Sat.drop {H1 H2 : Hp} {F : Base} {w : World} (h : Sat (H1 ++ H2) F w) : Sat H2 F w where
  nodup := by have := h.nodup; rw [List.map_append, List.nodup_append] at this; exact this.2.1
  has b o hm := h.has b o (List.mem_append_right _ hm)
  rest := h.rest
  apart b o hf hm := h.apart b o hf (by rw [List.map_append]; exact List.mem_append_right _ hm)
  os := h.os
  output := h.output

/-- What one list of pieces says, another says too. -/
def Ent (L L' : List HProp) : Prop := ∀ F w, Holds L F w → Holds L' F w

theorem Ent.refl (L : List HProp) : Ent L L := fun _ _ h => h
theorem Ent.trans {A B C : List HProp} (h : Ent A B) (h' : Ent B C) : Ent A C := fun F w x => h' F w (h F w x)

theorem All.append {A B : List HProp} {H : Hp} : All (A ++ B) H ↔ ∃ H1 H2, All A H1 ∧ All B H2 ∧ H = H1 ++ H2 := by
  induction A generalizing H with
  | nil => simp [All]
  | cons c A ih =>
    simp only [List.cons_append, All]
    constructor
    · rintro ⟨H1, H2, hc, hr, rfl⟩
      obtain ⟨H3, H4, h3, h4, rfl⟩ := ih.1 hr
      exact ⟨H1 ++ H3, H4, ⟨H1, H3, hc, h3, rfl⟩, h4, by simp⟩
    · rintro ⟨H1, H2, ⟨H3, H4, hc, h4, rfl⟩, h2, rfl⟩
      exact ⟨H3, H4 ++ H2, hc, ih.2 ⟨H4, H2, h4, h2, rfl⟩, by simp⟩

/-- A base that holds some pieces besides. -/
def Base.add (F : Base) (H : Hp) : Base :=
  { F with own := fun b => match H.find? (·.1 == b) with | some p => some p.2 | none => F.own b }

theorem find_of_mem {H : Hp} (hn : (H.map (·.1)).Nodup) {b : Nat} {o : Obj} (hm : (b, o) ∈ H) : H.find? (·.1 == b) = some (b, o) := by
  induction H with
  | nil => cases hm
  | cons p H ih =>
    simp only [List.map_cons, List.nodup_cons] at hn
    rw [List.find?_cons]
    rcases List.mem_cons.1 hm with rfl | hm
    · simp
    · have : (p.1 == b) = false := by
        rw [beq_eq_false_iff_ne]; intro e; exact hn.1 (e ▸ List.mem_map.2 ⟨_, hm, rfl⟩)
      rw [this]; exact ih hn.2 hm

theorem find_none {H : Hp} {b : Nat} (h : b ∉ H.map (·.1)) : H.find? (·.1 == b) = none := by
  rw [List.find?_eq_none]; intro p hp he
  exact h (List.mem_map.2 ⟨p, hp, by simpa using he⟩)

theorem Sat.split {H1 H2 : Hp} {F : Base} {w : World} : Sat (H1 ++ H2) F w ↔ (Sat H1 (F.add H2) w ∧ Sat H2 F w) := by
  constructor
  · intro h
    have hn := h.nodup
    rw [List.map_append, List.nodup_append] at hn
    refine ⟨⟨hn.1, fun b o hm => h.has b o (List.mem_append_left _ hm), ?_, ?_, h.os, h.output⟩, h.drop⟩
    · intro b o hf
      simp only [Base.add] at hf
      split at hf
      · rename_i p hp
        have hp1 : p.1 = b := by simpa using List.find?_some hp
        have := List.mem_of_find?_eq_some hp
        cases hf
        exact h.has b p.2 (List.mem_append_right _ (by rw [← hp1]; exact this))
      · exact h.rest b o hf
    · intro b o hf hm
      simp only [Base.add] at hf
      split at hf
      · rename_i p hp
        have hp1 : p.1 = b := by simpa using List.find?_some hp
        have := List.mem_of_find?_eq_some hp
        exact hn.2.2 b hm b (List.mem_map.2 ⟨p, this, hp1⟩) rfl
      · exact h.apart b o hf (by rw [List.map_append]; exact List.mem_append_left _ hm)
  · rintro ⟨h1, h2⟩
    have sep : ∀ b o, (b, o) ∈ H2 → (F.add H2).own b = some o := by
      intro b o hm; simp only [Base.add]; rw [find_of_mem h2.nodup hm]
    refine ⟨?_, ?_, h2.rest, ?_, h2.os, h2.output⟩
    · rw [List.map_append, List.nodup_append]
      refine ⟨h1.nodup, h2.nodup, ?_⟩
      rintro b hb c hc rfl
      obtain ⟨p, hp, rfl⟩ := List.mem_map.1 hc
      exact h1.apart p.1 p.2 (sep _ _ hp) hb
    · intro b o hm
      rcases List.mem_append.1 hm with hm | hm
      · exact h1.has b o hm
      · exact h2.has b o hm
    · intro b o hf hm
      rw [List.map_append] at hm
      rcases List.mem_append.1 hm with hm | hm
      · have hno : b ∉ H2.map (·.1) := h2.apart b o hf
        exact h1.apart b o (by simp only [Base.add]; rw [find_none hno]; exact hf) hm
      · exact h2.apart b o hf hm

theorem holds_append {A B : List HProp} {F : Base} {w : World} : Holds (A ++ B) F w ↔ ∃ H, All B H ∧ Sat H F w ∧ Holds A (F.add H) w := by
  constructor
  · rintro ⟨H, hA, hs⟩
    obtain ⟨H1, H2, h1, h2, rfl⟩ := All.append.1 hA
    exact ⟨H2, h2, (Sat.split.1 hs).2, H1, h1, (Sat.split.1 hs).1⟩
  · rintro ⟨H2, h2, hs2, H1, h1, hs1⟩
    exact ⟨H1 ++ H2, All.append.2 ⟨H1, H2, h1, h2, rfl⟩, Sat.split.2 ⟨hs1, hs2⟩⟩

/-- The rest stays, whatever becomes of these. -/
theorem Sat.base {H : Hp} {F : Base} {w w' : World} (h : Sat H F w) {H1 : Hp} (h' : Sat H1 (F.add H) w') : Sat H F w' where
  nodup := h.nodup
  has b o hm := h'.rest b o (by simp only [Base.add]; rw [find_of_mem h.nodup hm])
  rest b o hf := h'.rest b o (by simp only [Base.add]; rw [find_none (h.apart b o hf)]; exact hf)
  apart := h.apart
  os := h'.os
  output := h'.output

theorem holds_perm {L L' : List HProp} (p : L.Perm L') {F : Base} {w : World} (h : Holds L F w) : Holds L' F w := by
  obtain ⟨H, hA, hs⟩ := h
  suffices ∀ H, All L H → ∃ H', All L' H' ∧ H.Perm H' by
    obtain ⟨H', hA', hp⟩ := this H hA
    exact ⟨H', hA', hs.perm hp⟩
  clear hA hs H
  induction p with
  | nil => exact fun H h => ⟨H, h, .refl _⟩
  | cons c _ ih =>
    rintro H ⟨H1, H2, h1, h2, rfl⟩
    obtain ⟨H', h', hp⟩ := ih H2 h2
    exact ⟨H1 ++ H', ⟨H1, H', h1, h', rfl⟩, hp.append_left _⟩
  | swap c d L =>
    rintro H ⟨H1, H2, h1, ⟨H3, H4, h3, h4, rfl⟩, rfl⟩
    refine ⟨H3 ++ (H1 ++ H4), ⟨H3, _, h3, ⟨H1, H4, h1, h4, rfl⟩, rfl⟩, ?_⟩
    rw [← List.append_assoc, ← List.append_assoc]
    exact List.perm_append_comm.append_right _
  | trans _ _ ih1 ih2 =>
    intro H h
    obtain ⟨H', h', p1⟩ := ih1 H h
    obtain ⟨H'', h'', p2⟩ := ih2 H' h'
    exact ⟨H'', h'', p1.trans p2⟩

theorem Ent.perm {L L' : List HProp} (p : L.Perm L') : Ent L L' := fun _ _ h => holds_perm p h

theorem Ent.append {A B R : List HProp} (h : Ent A B) : Ent (A ++ R) (B ++ R) := by
  intro F w hh
  obtain ⟨H, hR, hs, hA⟩ := holds_append.1 hh
  exact holds_append.2 ⟨H, hR, hs, h _ _ hA⟩

theorem Ent.cons {A B : List HProp} (c : HProp) (h : Ent A B) : Ent (c :: A) (c :: B) := by
  have h1 : Ent (c :: A) (A ++ [c]) := .perm (List.perm_append_comm (l₁ := [c]) (l₂ := A))
  have h2 : Ent (B ++ [c]) (c :: B) := .perm (List.perm_append_comm (l₁ := B) (l₂ := [c]))
  exact h1.trans (h.append.trans h2)

theorem Ent.drop {c : HProp} {L : List HProp} : Ent (c :: L) L := by
  rintro F w ⟨H, ⟨H1, H2, _, h2, rfl⟩, hs⟩
  exact ⟨H2, h2, hs.drop⟩

theorem Ent.nil {L : List HProp} : Ent L [] := by
  induction L with
  | nil => exact .refl _
  | cons c L ih => exact Ent.drop.trans ih

/-- Taking a piece to the front. -/
theorem Ent.here {c : HProp} {L : List HProp} : Ent (c :: L) (c :: L) := .refl _
theorem Ent.there {c d : HProp} {L R : List HProp} (h : Ent L (c :: R)) : Ent (d :: L) (c :: d :: R) :=
  (h.cons d).trans (.perm (List.Perm.swap _ _ _))

/-- Taking several to the front, in this order. -/
theorem Ent.take {c : HProp} {L L1 cs R : List HProp} (h : Ent L (c :: L1)) (h' : Ent L1 (cs ++ R)) : Ent L ((c :: cs) ++ R) :=
  h.trans (by simpa using h'.cons c)

/-- Some pieces are there, and the rest. -/
def Tk (L C R : List HProp) : Prop := Ent L (C ++ R)
theorem Tk.nil {L : List HProp} : Tk L [] L := .refl L
theorem Tk.cons {c : HProp} {L L1 cs R : List HProp} (h : Ent L (c :: L1)) (h' : Tk L1 cs R) : Tk L (c :: cs) R := h.take h'

theorem holds_cons {c : HProp} {L : List HProp} {F : Base} {w : World} : Holds (c :: L) F w ↔ ∃ H1 H2, c H1 ∧ All L H2 ∧ Sat (H1 ++ H2) F w := by
  constructor
  · rintro ⟨H, ⟨H1, H2, h1, h2, rfl⟩, hs⟩; exact ⟨H1, H2, h1, h2, hs⟩
  · rintro ⟨H1, H2, h1, h2, hs⟩; exact ⟨_, ⟨H1, H2, h1, h2, rfl⟩, hs⟩

theorem holds_exi {α : Sort _} {f : α → HProp} {L : List HProp} {F : Base} {w : World} : Holds (exi f :: L) F w ↔ ∃ x, Holds (f x :: L) F w := by
  simp only [holds_cons, exi]
  constructor
  · rintro ⟨H1, H2, ⟨x, hx⟩, h⟩; exact ⟨x, H1, H2, hx, h⟩
  · rintro ⟨x, H1, H2, hx, h⟩; exact ⟨H1, H2, ⟨x, hx⟩, h⟩

theorem holds_pur {p : Prop} {L : List HProp} {F : Base} {w : World} : Holds (pur p :: L) F w ↔ p ∧ Holds L F w := by
  rw [holds_cons]
  constructor
  · rintro ⟨H1, H2, ⟨hp, rfl⟩, h2, hs⟩; exact ⟨hp, H2, h2, hs⟩
  · rintro ⟨hp, H2, h2, hs⟩; exact ⟨[], H2, ⟨hp, rfl⟩, h2, hs⟩

theorem holds_all {A L : List HProp} {F : Base} {w : World} : Holds (All A :: L) F w ↔ Holds (A ++ L) F w := by
  rw [holds_cons]
  constructor
  · rintro ⟨H1, H2, h1, h2, hs⟩; exact ⟨_, All.append.2 ⟨H1, H2, h1, h2, rfl⟩, hs⟩
  · rintro ⟨H, hA, hs⟩
    obtain ⟨H1, H2, h1, h2, rfl⟩ := All.append.1 hA
    exact ⟨H1, H2, h1, h2, hs⟩

theorem Tk.pur {p : Prop} {L cs R : List HProp} (hp : p) (h : Tk L cs R) : Tk L (pur p :: cs) R := fun F w hh => holds_pur.2 ⟨hp, h F w hh⟩
theorem Tk.exi {α : Sort _} {f : α → HProp} {L cs R : List HProp} (x : α) (h : Tk L (f x :: cs) R) : Tk L (exi f :: cs) R := fun F w hh => holds_exi.2 ⟨x, h F w hh⟩
theorem Tk.all {A L cs R : List HProp} (h : Tk L (A ++ cs) R) : Tk L (All A :: cs) R := fun F w hh => by
  have := h F w hh
  rw [List.append_assoc] at this
  exact holds_all.2 this
theorem Tk.ent {L C R : List HProp} (h : Tk L C R) : Ent L C := fun F w hh => by
  have h1 := holds_perm (List.perm_append_comm (l₁ := C) (l₂ := R)) (h F w hh)
  obtain ⟨H, hA, hs⟩ := h1
  obtain ⟨H1, H2, _, h2, rfl⟩ := All.append.1 hA
  exact ⟨H2, h2, hs.drop⟩

/-! ### What an owned block gives -/
theorem holds_pt {b : Nat} {o : Obj} {L : List HProp} {F : Base} {w : World} (h : Holds (pt b o :: L) F w) : w.heap[b]? = some o := by
  obtain ⟨H1, H2, rfl, h2, hs⟩ := holds_cons.1 h
  exact hs.has b o (by simp)

/-- A step of the world that turns one owned block alone. -/
theorem holds_set {b : Nat} {o o' : Obj} {L : List HProp} {F : Base} {w w' : World} (h : Holds (pt b o :: L) F w)
    (hb : w'.heap[b]? = some o') (hr : ∀ c, c ≠ b → w'.heap[c]? = w.heap[c]?) (ho : w'.os = w.os) (hp : w'.output = w.output) : Holds (pt b o' :: L) F w' := by
  obtain ⟨H1, H2, rfl, h2, hs⟩ := holds_cons.1 h
  refine holds_cons.2 ⟨_, H2, rfl, h2, ?_, ?_, ?_, ?_, ho.trans hs.os, hp.trans hs.output⟩
  · simpa using hs.nodup
  · intro c o1 hm
    rcases List.mem_cons.1 hm with he | hm
    · cases he; exact hb
    · have hn := hs.nodup
      simp only [List.cons_append, List.nil_append, List.map_cons, List.nodup_cons] at hn
      have hne : c ≠ b := fun e => hn.1 (e ▸ List.mem_map.2 ⟨_, hm, rfl⟩)
      rw [hr c hne]; exact hs.has c o1 (List.mem_cons_of_mem _ hm)
  · intro c o1 hf
    have hne : c ≠ b := fun e => hs.apart c o1 hf (by simp [e])
    rw [hr c hne]; exact hs.rest c o1 hf
  · simpa using hs.apart

/-- A step that makes a block. -/
theorem holds_new {o : Obj} {L : List HProp} {F : Base} {w w' : World} (h : Holds L F w) {b : Nat} (hb0 : w.heap[b]? = none)
    (hb : w'.heap[b]? = some o) (hr : ∀ c, c ≠ b → w'.heap[c]? = w.heap[c]?) (ho : w'.os = w.os) (hp : w'.output = w.output) : Holds (pt b o :: L) F w' := by
  obtain ⟨H, hA, hs⟩ := h
  have hne : ∀ c o1, w.heap[c]? = some o1 → c ≠ b := by rintro c o1 h1 rfl; rw [hb0] at h1; cases h1
  refine holds_cons.2 ⟨_, H, rfl, hA, ?_, ?_, ?_, ?_, ho.trans hs.os, hp.trans hs.output⟩
  · simp only [List.cons_append, List.nil_append, List.map_cons, List.nodup_cons]
    refine ⟨fun hm => ?_, hs.nodup⟩
    obtain ⟨p, hp1, hp2⟩ := List.mem_map.1 hm
    exact hne p.1 p.2 (hs.has _ _ hp1) hp2
  · intro c o1 hm
    rcases List.mem_cons.1 hm with he | hm
    · cases he; exact hb
    · have h1 := hs.has c o1 hm
      rw [hr c (hne c o1 h1)]; exact h1
  · intro c o1 hf
    have h1 := hs.rest c o1 hf
    rw [hr c (hne c o1 h1)]; exact h1
  · intro c o1 hf hm
    have h1 := hs.rest c o1 hf
    simp only [List.cons_append, List.nil_append, List.map_cons, List.mem_cons] at hm
    rcases hm with rfl | hm
    · exact hne _ _ h1 rfl
    · exact hs.apart c o1 hf hm

/-- A step that only draws. -/
theorem holds_same {L : List HProp} {F : Base} {w w' : World} (h : Holds L F w) (hr : w'.heap = w.heap) (ho : w'.os = w.os) (hp : w'.output = w.output) : Holds L F w' := by
  obtain ⟨H, hA, hs⟩ := h
  exact ⟨H, hA, hs.nodup, fun b o hm => by rw [hr]; exact hs.has b o hm, fun b o hf => by rw [hr]; exact hs.rest b o hf, hs.apart, ho.trans hs.os, hp.trans hs.output⟩

/-! ### Functions -/
def Fn (P : Program) (f : FuncId) (args : Array Value) (C : List HProp) (R : Value → List HProp) : Prop :=
  ∀ F w, Holds C F w → Calls P f args w fun e w' => ∃ v, e = .returned v ∧ Holds (R v) F w'

theorem Fn.frame {P : Program} {f : FuncId} {args : Array Value} {C : List HProp} {R : Value → List HProp} (h : Fn P f args C R) (S : List HProp) :
    Fn P f args (C ++ S) fun v => R v ++ S := by
  intro F w hh
  obtain ⟨H, hS, hs, hC⟩ := holds_append.1 hh
  refine (h _ w hC).mono ?_
  rintro e w' ⟨v, rfl, hR⟩
  obtain ⟨H1, hA1, hs1⟩ := hR
  exact ⟨v, rfl, holds_append.2 ⟨H, hS, hs.base hs1, H1, hA1, hs1⟩⟩

theorem Fn.ent {P : Program} {f : FuncId} {args : Array Value} {C C' : List HProp} {R R' : Value → List HProp} (h : Fn P f args C R) (hc : Ent C' C) (hr : ∀ v, Ent (R v) (R' v)) :
    Fn P f args C' R' := by
  intro F w hh
  refine (h F w (hc F w hh)).mono ?_
  rintro e w' ⟨v, rfl, hR⟩
  exact ⟨v, rfl, hr v F w' hR⟩

/-! ### Frames -/
abbrev Fr := List (Nat × Value)

/-- How a stretch of code stands: so many slots, the deferred calls' marks, the loop over a function in whose round it stands. -/
structure Cfg where
  n : Nat
  ds : List Deferred := []
  r : Option Nat := none

/-- Every function may be called. -/
abbrev WF (r : Option Nat) : Fence := { fn := fun _ => True, depth := none, alive := false, round := r }

structure Rep (n : Cfg) (a : Act) (fr : Fr) : Prop where
  size : a.tmps.size = n.n
  defers : a.defers = n.ds
  get : ∀ t v, fr.lookup t = some v → a.tmps[t]? = some v

def ev (fr : Fr) : Operand → Option Value
  | .tmp t => fr.lookup t
  | .const v => some v
  | .global g => some (.pointer (some ⟨g, 0, none⟩))
  | .func f => some (.func (.func f) #[] #[])

theorem Rep.ev {n : Cfg} {a : Act} {fr : Fr} (h : Rep n a fr) {x : Operand} {v : Value} (hx : ev fr x = some v) : a.eval x = v := by
  cases x with
  | tmp t => have := h.get t v hx; simp [Act.eval, this]
  | const c => simpa [SL.ev, Act.eval] using hx
  | global g => simpa [SL.ev, Act.eval] using hx
  | func f => simpa [SL.ev, Act.eval] using hx

def putFr (fr : Fr) : Option Nat → Value → Fr
  | some d, v => (d, v) :: fr
  | none, _ => fr

theorem Rep.put {n : Cfg} {a : Act} {fr : Fr} (h : Rep n a fr) (d : Option Nat) (hd : ∀ t, d = some t → t < n.n) (v : Value) : Rep n (a.put d v) (putFr fr d v) := by
  cases d with
  | none => exact h
  | some d =>
    have hd := hd d rfl
    refine ⟨by simpa [Act.put] using h.size, by simpa [Act.put] using h.defers, fun t u ht => ?_⟩
    simp only [putFr, List.lookup_cons] at ht
    simp only [Act.put]
    by_cases e : t = d
    · subst e
      simp only [beq_self_eq_true] at ht
      cases ht
      rw [Array.getElem?_setIfInBounds_self_of_lt (by rw [h.size]; exact hd)]
    · have : (t == d) = false := by simpa using e
      rw [this] at ht
      rw [Array.getElem?_setIfInBounds_ne (Ne.symm e)]
      exact h.get t u ht

/-- A smaller frame. -/
def Sub (fr' fr : Fr) : Prop := ∀ t v, fr'.lookup t = some v → fr.lookup t = some v

theorem Rep.sub {n : Cfg} {a : Act} {fr fr' : Fr} (h : Rep n a fr) (hs : Sub fr' fr) : Rep n a fr' := ⟨h.size, h.defers, fun t v ht => h.get t v (hs t v ht)⟩

theorem Sub.nil {fr : Fr} : Sub [] fr := fun _ _ h => by cases h
theorem Sub.cons {fr fr' : Fr} {t : Nat} {v : Value} (h : fr.lookup t = some v) (hs : Sub fr' fr) : Sub ((t, v) :: fr') fr := by
  intro u x hx
  simp only [List.lookup_cons] at hx
  by_cases e : u = t
  · subst e; simp only [beq_self_eq_true] at hx; cases hx; exact h
  · have : (u == t) = false := by simpa using e
    rw [this] at hx; exact hs u x hx
theorem Sub.again {fr : Fr} {t : Nat} {v : Value} (h : fr.lookup t = some v) : Sub ((t, v) :: fr) fr := by
  intro u x hx
  simp only [List.lookup_cons] at hx
  by_cases e : u = t
  · subst e; simp only [beq_self_eq_true] at hx; cases hx; exact h
  · have : (u == t) = false := by simpa using e
    rw [this] at hx; exact hx
theorem Sub.refl (fr : Fr) : Sub fr fr := fun _ _ h => h

/-! ### Control -/
inductive Itm where
  | code (c : Code)
  | inBlock (id : Nat)
  | pred (K : Act → World → Prop)

section
variable (P : Program) (r : Option Nat) (Q : Exit → Act → World → Prop)

def leaveK : List Itm → Exit → Act → World → Prop
  | [], e => Q e
  | .code c :: k, .normal => c.wpIn (WF r) 0 P (leaveK k)
  | .code _ :: k, e => leaveK k e
  | .inBlock _ :: k, .normal => leaveK k .normal
  | .inBlock id :: k, .exit id' => if id' = id then leaveK k .normal else leaveK k (.exit id')
  | .inBlock _ :: k, e => leaveK k e
  | .pred K :: _, .normal => K
  | .pred _ :: k, e => leaveK k e

def exitK (id : Nat) : List Itm → Option (List Itm)
  | [] => none
  | .inBlock id' :: k => if id = id' then some k else exitK id k
  | _ :: k => exitK id k

theorem leaveK_exit {id : Nat} {k k' : List Itm} (h : exitK id k = some k') : leaveK P r Q k (.exit id) = leaveK P r Q k' .normal := by
  induction k with
  | nil => cases h
  | cons i k ih =>
    cases i with
    | code c => exact ih h
    | pred K => exact ih h
    | inBlock id' =>
      simp only [exitK] at h
      simp only [leaveK]
      split at h
      · rename_i e; simp [e]; cases h; rfl
      · rename_i e; simp [e]; exact ih h

theorem leaveK_ret (k : List Itm) : leaveK P r Q k .ret = Q .ret := by
  induction k with
  | nil => rfl
  | cons i k ih => cases i <;> exact ih

theorem leaveK_panic (k : List Itm) (c : List PanicEntry) : leaveK P r Q k (.panic c) = Q (.panic c) := by
  induction k with
  | nil => rfl
  | cons i k ih => cases i <;> exact ih

end

def Run (P : Program) (Q : Exit → Act → World → Prop) (n : Cfg) (F : Base) (fr : Fr) (L : List HProp) (k : List Itm) : Prop :=
  ∀ a w, Rep n a fr → Holds L F w → leaveK P n.r Q k .normal a w

section
variable {P : Program} {Q : Exit → Act → World → Prop} {n : Cfg} {F : Base} {fr : Fr} {L : List HProp} {k : List Itm}

theorem run_seq {x y : Code} (h : Run P Q n F fr L (.code x :: .code y :: k)) : Run P Q n F fr L (.code (.seq x y) :: k) := by
  intro a w hr hh
  refine wpIn_seq (Code.wpIn_mono ?_ (h a w hr hh))
  intro e a w hx
  cases e <;> exact hx

theorem run_block {id : Nat} {c : Code} (h : Run P Q n F fr L (.code c :: .inBlock id :: k)) : Run P Q n F fr L (.code (.block id c) :: k) := by
  intro a w hr hh
  refine wpIn_block (Code.wpIn_mono ?_ (h a w hr hh))
  intro e a w hx
  cases e <;> first | exact hx | (simp only [leaveK, Exit.inBlock] at hx ⊢; split <;> simp_all)

theorem run_skip (h : Run P Q n F fr L k) : Run P Q n F fr L (.code .skip :: k) := fun a w hr hh => wpIn_skip (h a w hr hh)
theorem run_label {l : Nat} (h : Run P Q n F fr L k) : Run P Q n F fr L (.code (.label l) :: k) := fun a w hr hh => wpIn_label (h a w hr hh)
theorem run_inBlock {id : Nat} (h : Run P Q n F fr L k) : Run P Q n F fr L (.inBlock id :: k) := fun a w hr hh => h a w hr hh
theorem run_exit {id : Nat} {k' : List Itm} (he : exitK id k = some k') (h : Run P Q n F fr L k') : Run P Q n F fr L (.code (.exit id) :: k) :=
  fun a w hr hh => wpIn_exit (by rw [leaveK_exit P n.r Q he]; exact h a w hr hh)
theorem run_ret (h : ∀ a w, Rep n a fr → Holds L F w → Q .ret a w) : Run P Q n F fr L (.code .ret :: k) :=
  fun a w hr hh => wpIn_ret (by rw [leaveK_ret]; exact h a w hr hh)
theorem run_end (h : ∀ a w, Rep n a fr → Holds L F w → Q .normal a w) : Run P Q n F fr L [] := h
theorem run_pred {K : Act → World → Prop} (h : ∀ a w, Rep n a fr → Holds L F w → K a w) : Run P Q n F fr L (.pred K :: k) := h

theorem run_cond {c : Operand} {x y : Code} {t : Bool} (hc : ev fr c = some (.bool t)) (h1 : t = true → Run P Q n F fr L (.code x :: k)) (h2 : t = false → Run P Q n F fr L (.code y :: k)) :
    Run P Q n F fr L (.code (.cond c x y) :: k) := fun a w hr hh =>
  wpIn_cond_split (hr.ev hc) (fun e => h1 e a w hr hh) (fun e => h2 e a w hr hh)

theorem run_sub {fr' : Fr} (hs : Sub fr' fr) (h : Run P Q n F fr' L k) : Run P Q n F fr L k := fun a w hr hh => h a w (hr.sub hs) hh
theorem run_ent {L' : List HProp} (he : Ent L L') (h : Run P Q n F fr L' k) : Run P Q n F fr L k := fun a w hr hh => h a w hr (he F w hh)
theorem run_exi {α : Sort _} {f : α → HProp} (h : ∀ x, Run P Q n F fr (f x :: L) k) : Run P Q n F fr (exi f :: L) k := fun a w hr hh =>
  let ⟨x, hx⟩ := holds_exi.1 hh; h x a w hr hx
theorem run_pur {p : Prop} (h : p → Run P Q n F fr L k) : Run P Q n F fr (pur p :: L) k := fun a w hr hh =>
  let ⟨x, hx⟩ := holds_pur.1 hh; h x a w hr hx
theorem run_all {A : List HProp} (h : Run P Q n F fr (A ++ L) k) : Run P Q n F fr (All A :: L) k := fun a w hr hh => h a w hr (holds_all.1 hh)

/-- A state that is one of a family. -/
def Is (n : Cfg) (F : Base) {ι : Type} (frI : ι → Fr) (LI : ι → List HProp) (p : ι → Prop) (a : Act) (w : World) : Prop :=
  ∃ i, p i ∧ Rep n a (frI i) ∧ Holds (LI i) F w

/-- A stretch of code up to a state of a family; then the rest from there. -/
theorem run_cut {c : Code} {ι : Type} (frI : ι → Fr) (LI : ι → List HProp) (p : ι → Prop)
    (h1 : Run P Q n F fr L (.code c :: .pred (Is n F frI LI p) :: k)) (h2 : ∀ i, p i → Run P Q n F (frI i) (LI i) k) : Run P Q n F fr L (.code c :: k) := by
  intro a w hr hh
  refine Code.wpIn_mono ?_ (h1 a w hr hh)
  intro e a w hx
  cases e with
  | normal =>
    obtain ⟨i, hp, hr', hh'⟩ := hx
    exact h2 i hp a w hr' hh'
  | _ => exact hx

theorem run_is {ι : Type} {frI : ι → Fr} {LI : ι → List HProp} {p : ι → Prop} (i : ι) (hp : p i) (hs : Sub (frI i) fr) (he : Ent L (LI i)) : Run P Q n F fr L (.pred (Is n F frI LI p) :: k) :=
  fun _ w hr hh => ⟨i, hp, hr.sub hs, he F w hh⟩

theorem run_loop {c : Code} {ι : Type} (frI : ι → Fr) (LI : ι → List HProp) (p : ι → Prop) (μ : ι → Nat) (i0 : ι) (hp : p i0) (hs : Sub (frI i0) fr) (he : Ent L (LI i0))
    (round : ∀ i, p i → Run P Q n F (frI i) (LI i) (.code c :: .pred (Is n F frI LI (fun j => p j ∧ μ j < μ i)) :: k)) : Run P Q n F fr L (.code (.loop c) :: k) := by
  intro a w hr hh
  show (Code.loop c).wpIn (WF n.r) 0 P (leaveK P n.r Q k) a w
  intro b ks cs hro hb hrm
  have key : ∀ m i, μ i = m → p i → ∀ a w, Rep n a (frI i) → Holds (LI i) F w →
      ∃ e a' w', leaveK P n.r Q k e a' w' ∧ ArrivesIn (Machine.fenced P (WF n.r)) P (lone (b.atR a (.code c :: .inLoop c :: ks)) cs w) b ks cs e a' w' := by
    intro m
    induction m using Nat.strongRecOn with
    | _ m ih =>
      intro i hm hpi a w hr hh
      obtain ⟨e, a1, w1, hq, harr⟩ := round i hpi a w hr hh b (.inLoop c :: ks) cs hro hb hrm
      cases e with
      | normal =>
        obtain ⟨j, ⟨hpj, hlt⟩, hrj, hhj⟩ := hq
        obtain ⟨e2, a2, w2, hq2, harr2⟩ := ih (μ j) (hm ▸ hlt) j rfl hpj a1 w1 hrj hhj
        exact ⟨e2, a2, w2, hq2, .of_steps (StepsIn.trans harr (.one (fenced_calm hb hrm rfl) stepR_inLoop)) harr2⟩
      | exit id => exact ⟨_, a1, w1, hq, .pass (x := .inLoop c) rfl (fun _ _ => .inl (by simp)) harr⟩
      | goto l => exact ⟨_, a1, w1, hq, .pass (x := .inLoop c) rfl (fun _ _ => .inl (by simp)) harr⟩
      | ret => exact ⟨_, a1, w1, hq, .pass (x := .inLoop c) rfl (fun _ _ => .inl (by simp)) harr⟩
      | panic ch => exact ⟨_, a1, w1, hq, .pass (x := .inLoop c) rfl (fun _ _ => .inl (by simp)) harr⟩
      | outgrown => exact ⟨_, a1, w1, hq, .pass (x := .inLoop c) rfl (fun _ _ => .inl (by simp)) harr⟩
  obtain ⟨e, a', w', hq, harr⟩ := key _ i0 rfl hp a w (hr.sub hs) (he F w hh)
  exact ⟨e, a', w', hq, .of_steps (.one (fenced_calm hb hrm rfl) stepR_loop) harr⟩

/-- A loop, a round at a time: at most so many. -/
theorem run_unroll {c : Code} (m : Nat) (h : Run P Q n F fr L (.pred (Code.roundsIn (WF n.r) 0 P c (leaveK P n.r Q k) m) :: k)) : Run P Q n F fr L (.code (.loop c) :: k) :=
  fun a w hr hh => wpIn_loop_rounds m (h a w hr hh)
theorem run_round {c : Code} {m : Nat} (h : Run P Q n F fr L (.code c :: .pred (Code.roundsIn (WF n.r) 0 P c (leaveK P n.r Q k) m) :: k)) : Run P Q n F fr L (.pred (Code.roundsIn (WF n.r) 0 P c (leaveK P n.r Q k) (m + 1)) :: k) := by
  intro a w hr hh
  refine Code.wpIn_mono ?_ (h a w hr hh)
  intro e a w hx
  cases e <;> exact hx

theorem run_cond_t {c : Operand} {x y : Code} (hc : ev fr c = some (.bool true)) (h : Run P Q n F fr L (.code x :: k)) : Run P Q n F fr L (.code (.cond c x y) :: k) := fun a w hr hh =>
  wpIn_cond_true (hr.ev hc) (h a w hr hh)
theorem run_cond_f {c : Operand} {x y : Code} (hc : ev fr c = some (.bool false)) (h : Run P Q n F fr L (.code y :: k)) : Run P Q n F fr L (.code (.cond c x y) :: k) := fun a w hr hh =>
  wpIn_cond_false (hr.ev hc) (h a w hr hh)

/-! ### The operations of a region, in the order of the text -/
def Ops (P : Program) (Q : Exit → Act → World → Prop) (n : Cfg) (F : Base) (ops : Array Oper) (rest : List Oper) (fr : Fr) (L : List HProp) (k : List Itm) : Prop :=
  ∀ a w, Rep n a fr → Holds L F w → wpListIn (WF n.r) 0 P ops (leaveK P n.r Q k) rest a w

theorem run_region {id : Nat} {l : List Oper} (h : Ops P Q n F l.toArray l fr L k) : Run P Q n F fr L (.code (.region id l.toArray false) :: k) :=
  fun a w hr hh => wpIn_region_lit (h a w hr hh)

variable {ops : Array Oper} {rest : List Oper} {o : Oper}

theorem ops_nil (h : Run P Q n F fr L k) : Ops P Q n F ops [] fr L k := fun a w hr hh => h a w hr hh

/-- An operation that only looks. -/
def Quiet (P : Program) (op : Op) (ty : TypeId) (fr : Fr) (L : List HProp) (v : Value) : Prop :=
  ∀ n F a w d pos after g, Rep n a fr → Holds L F w → (execOp a.eval ⟨d, op, ty, pos, after, g⟩).run P w = .ok (.value v) w

/-- An operation that looks at nothing but the frame. -/
def Pure (P : Program) (op : Op) (ty : TypeId) (fr : Fr) (v : Value) : Prop :=
  ∀ n a w d pos after g, Rep n a fr → (execOp a.eval ⟨d, op, ty, pos, after, g⟩).run P w = .ok (.value v) w
theorem Pure.q {op : Op} {ty : TypeId} {v : Value} (h : Pure P op ty fr v) : Quiet P op ty fr L v := fun n _ a w d pos after g hr _ => h n a w d pos after g hr

/-- What an operation does that is no deferring: in a round as anywhere. -/
theorem semAt_execOp {r : Option Nat} {ρ : Operand → Value} {o : Oper} {x : Result Next} {w : World} (h : (execOp ρ o).run P w = x) (hx : ∀ d w', x ≠ .ok (.defer d) w') : (o.semAt r ρ).run P w = x := by
  cases r with
  | none => exact h
  | some l =>
    by_cases hd : ∃ c, o.op = .defer c
    · obtain ⟨c, hc⟩ := hd
      have h1 : execOp ρ o = (resolve ρ c o.type >>= fun d => pure (.defer d)) := by cases o; simp only at hc; subst hc; rfl
      have h2 : o.semAt (some l) ρ = (resolve ρ c o.type >>= fun d => (Instr.deferInRound l d >>= fun _ => pure .skip)) := by cases o; simp only at hc; subst hc; rfl
      rw [h1, Sem.run_bind] at h
      rw [h2, Sem.run_bind]
      cases hres : (resolve ρ c o.type).run P w with
      | ok d w' => rw [hres] at h; exact absurd h.symm (hx d w')
      | halt y w' => rw [hres] at h; exact h
    · rw [Oper.semAt_some]
      · exact h
      · exact fun c hc => hd ⟨c, hc⟩

theorem wpIn_value {r : Option Nat} {o : Oper} {a : Act} {K : Act → World → Prop} {Q : Exit → Act → World → Prop} {v : Value} {w w' : World} (h : (execOp a.eval o).run P w = .ok (.value v) w') (hk : K (a.put o.dst v) w') :
    Oper.wpIn (WF r) 0 P o a w K Q := by
  refine ⟨fun _ _ => trivial, ?_⟩
  rw [semAt_execOp h (by simp)]
  exact hk

/-- An operation that may change what is owned, and make new: one of a family of outcomes. -/
def Step (P : Program) (op : Op) (ty : TypeId) (fr : Fr) (L : List HProp) {ι : Type} (V : ι → Value) (R : ι → List HProp) : Prop :=
  ∀ n F a w d pos after g K Q, Rep n a fr → Holds L F w → (∀ i w', Holds (R i) F w' → K (a.put d (V i)) w') → Oper.wpIn (WF n.r) 0 P ⟨d, op, ty, pos, after, g⟩ a w K Q

theorem Quiet.step {op : Op} {ty : TypeId} {v : Value} (h : Quiet P op ty fr L v) : Step P op ty fr L (fun _ : Unit => v) (fun _ => L) := by
  intro n F a w d pos after g K Q hr hh hk
  exact wpIn_value (h n F a w d pos after g hr hh) (hk () w hh)

def inFr (n : Cfg) : Option Nat → Bool
  | some d => decide (d < n.n)
  | none => true
theorem inFr_spec {d : Option Nat} (h : inFr n d = true) : ∀ t, d = some t → t < n.n := by
  rintro t rfl; simpa [inFr] using h

theorem ops_quiet {d : Option Nat} {op : Op} {ty : TypeId} {pos : String} {after : Array Edge} {v : Value} (hd : inFr n d = true) (hq : Quiet P op ty fr L v)
    (h : Ops P Q n F ops rest (putFr fr d v) L k) : Ops P Q n F ops (⟨d, op, ty, pos, after, none⟩ :: rest) fr L k := by
  intro a w hr hh
  refine wpListIn_plain rfl fun K hK => ?_
  exact wpIn_value (hq n F a w d pos after none hr hh) (hK _ _ (h _ _ (hr.put d (inFr_spec hd) v) hh))

theorem ops_step {d : Option Nat} {op : Op} {ty : TypeId} {pos : String} {after : Array Edge} {ι : Type} {V : ι → Value} {R : ι → List HProp} (hd : inFr n d = true) (hq : Step P op ty fr L V R)
    (h : ∀ i, Ops P Q n F ops rest (putFr fr d (V i)) (R i) k) : Ops P Q n F ops (⟨d, op, ty, pos, after, none⟩ :: rest) fr L k := by
  intro a w hr hh
  refine wpListIn_plain rfl fun K hK => ?_
  exact hq n F a w d pos after none K _ hr hh fun i w' hw' => hK _ _ (h i _ _ (hr.put d (inFr_spec hd) (V i)) hw')

/-- Guards. -/
def dstOf (ops : Array Oper) (j : Nat) : Option Nat := (ops[j]?).bind (·.dst)

theorem wanted_of {a : Act} (hr : Rep n a fr) {j t : Nat} {want c : Bool} (hj : dstOf ops j = some t) (ht : fr.lookup t = some (.bool c)) (o : Oper) (hg : o.guard = some (j, want)) :
    Region.wanted o (yielded ops a.tmps) = (c == want) := by
  have h1 := hr.get t _ ht
  unfold dstOf at hj
  have h2 : yielded ops a.tmps j = some c := by
    unfold yielded
    cases ho : ops[j]? with
    | none => simp [ho] at hj
    | some oo =>
      simp only [ho, Option.bind_some] at hj
      simp [hj, h1]
  unfold Region.wanted
  simp only [hg, h2]
  cases c <;> cases want <;> rfl

theorem ops_guard {d : Option Nat} {op : Op} {ty : TypeId} {pos : String} {after : Array Edge} {j t : Nat} {want c : Bool} (hj : dstOf ops j = some t) (ht : fr.lookup t = some (.bool c))
    (hd : inFr n d = true) (hyes : c = want → Ops P Q n F ops (⟨d, op, ty, pos, after, none⟩ :: rest) ((t, .bool want) :: fr) L k)
    (hno : c = !want → Ops P Q n F ops rest (putFr ((t, .bool !want) :: fr) d undef) L k) : Ops P Q n F ops (⟨d, op, ty, pos, after, some (j, want)⟩ :: rest) fr L k := by
  intro a w hr hh
  have hw := wanted_of (ops := ops) hr hj ht ⟨d, op, ty, pos, after, some (j, want)⟩ rfl
  unfold wpListIn
  rw [hw]
  by_cases hc : c = want
  · subst hc
    simp only [beq_self_eq_true, if_true]
    have := hyes rfl a w (hr.sub (Sub.again ht)) hh
    unfold wpListIn at this
    simp only [Region.wanted, if_true] at this
    exact this
  · have : (c == want) = false := by simpa using hc
    simp only [this, Bool.false_eq_true, if_false]
    have hcw : c = !want := by cases c <;> cases want <;> simp_all
    exact ⟨fun _ _ => trivial, hno hcw _ _ ((hr.sub (Sub.again (hcw ▸ ht))).put d (inFr_spec hd) undef) hh⟩

theorem ops_ent {L' : List HProp} (he : Ent L L') (h : Ops P Q n F ops rest fr L' k) : Ops P Q n F ops rest fr L k := fun a w hr hh => h a w hr (he F w hh)
theorem ops_exi {α : Sort _} {f : α → HProp} (h : ∀ x, Ops P Q n F ops rest fr (f x :: L) k) : Ops P Q n F ops rest fr (exi f :: L) k := fun a w hr hh =>
  let ⟨x, hx⟩ := holds_exi.1 hh; h x a w hr hx
theorem ops_pur {p : Prop} (h : p → Ops P Q n F ops rest fr L k) : Ops P Q n F ops rest fr (pur p :: L) k := fun a w hr hh =>
  let ⟨x, hx⟩ := holds_pur.1 hh; h x a w hr hx
theorem ops_all {A : List HProp} (h : Ops P Q n F ops rest fr (A ++ L) k) : Ops P Q n F ops rest fr (All A :: L) k := fun a w hr hh => h a w hr (holds_all.1 hh)
end

end Go.Proofs.YtaibgfnfmkpibaaGreatDoor.SL
