/- Maps as lists of keys and values. No program in sight. -/
import Derived.Test.YtaibgfnfmkpibaaGreatDoorEngZ
namespace Go.Proofs.YtaibgfnfmkpibaaGreatDoor.SL
open Go

section
variable {K V : Type} [DecidableEq K]
def mget (m : List (K × V)) (a : K) : Option V := (m.find? fun p => decide (p.1 = a)).map (·.2)
def mset (m : List (K × V)) (a : K) (b : V) : List (K × V) := if a ∈ m.map (·.1) then m.map (fun p => if p.1 = a then (a, b) else p) else m ++ [(a, b)]
def mdel (m : List (K × V)) (a : K) : List (K × V) := m.filter fun p => decide (p.1 ≠ a)
end

def fnd {K : Type} [DecidableEq K] (a : K) : List K → List MapEntry → Nat → Option (Nat × Value)
  | b :: ks, e :: es, i => if b = a then some (i, e.val) else fnd a ks es (i + 1)
  | _, _, _ => none

/-- Keys that are told from one another. -/
class KeyF (P : Program) (kt : TypeId) {K : outParam Type} [DecidableEq K] (f : outParam (K → Value)) : Prop where
  ok : ∀ a, KeyOk P kt (f a)
  find : ∀ (a : K) (ks : List K) (es : List MapEntry) (w : World), es.map (·.key) = ks.map f → (Instr.findKey kt (f a) es).run P w = .ok (fnd a ks es 0) w
  same : ∀ a, Instr.sameBits 10000 (f a) (f a) = true
  inj : ∀ a b, f a = f b → a = b

theorem findNow_fnd {K : Type} [DecidableEq K] {d : TypeDesc} {f : K → Value} (hs : ∀ a b, Instr.sameNow d (f a) (f b) = some (decide (b = a))) (a : K) : ∀ (ks : List K) (es : List MapEntry) (i : Nat), es.map (·.key) = ks.map f → Instr.findNow d (f a) es i = some (fnd a ks es i)
  | [], [], i, _ => rfl
  | [], e :: es, i, h => by cases h
  | b :: ks, [], i, h => by cases h
  | b :: ks, e :: es, i, h => by
    simp only [List.map_cons, List.cons.injEq] at h
    simp only [Instr.findNow, h.1, hs, fnd]
    by_cases hb : b = a
    · simp [hb]
    · simp only [hb, decide_false, if_false]
      exact findNow_fnd hs a ks es (i + 1) h.2
instance keyF_int {P : Program} {kt : TypeId} {kd : IntKind} [u : UT P kt (.int kd)] : KeyF P kt (Value.int .i64) where
  ok a b w := by
    have hut : (underlying kt).run P w = .ok (.int kd) w := run_ut
    show (Instr.checkKey b (9999 + 1) kt _).run P w = _
    unfold Instr.checkKey
    simp only [Sem.run_bind, hut, Result.andThen_ok]
    rfl
  find a ks es w h := by
    have hut : (underlying kt).run P w = .ok (.int kd) w := run_ut
    simp only [Instr.findKey, Sem.run_bind, hut, Result.andThen_ok, findNow_fnd (d := .int kd) (f := Value.int .i64) (fun a b => by
      simp only [Instr.sameNow, if_true]
      congr 1
      by_cases h : a = b
      · simp [h]
      · simp [h, Ne.symm h]) a ks es 0 h, Sem.run_pure]
  same a := by unfold Instr.sameBits; simp
  inj a b h := by cases h; rfl
theorem ba_beq (a b : List UInt8) : (ByteArray.mk a.toArray == ByteArray.mk b.toArray) = (a == b) := by
  show (a.toArray == b.toArray) = (a == b)
  simp
instance keyF_str {P : Program} {kt : TypeId} [u : UT P kt .string] : KeyF P kt st where
  ok a b w := by
    have hut : (underlying kt).run P w = .ok .string w := run_ut
    show (Instr.checkKey b (9999 + 1) kt _).run P w = _
    unfold Instr.checkKey
    simp only [Sem.run_bind, hut, Result.andThen_ok]
    rfl
  find a ks es w h := by
    have hut : (underlying kt).run P w = .ok .string w := run_ut
    simp only [Instr.findKey, Sem.run_bind, hut, Result.andThen_ok, findNow_fnd (d := .string) (f := st) (fun a b => by
      simp only [Instr.sameNow, st, ba_beq]
      congr 1
      by_cases h : a = b
      · simp [h]
      · simp [h, Ne.symm h]) a ks es 0 h, Sem.run_pure]
  same a := by unfold Instr.sameBits; simp [st, ba_beq]
  inj a b h := by simpa [st] using h

/-! ### What a map holds -/
section
variable {K V : Type} [DecidableEq K] {f : K → Value} {g : V → Value}
structure MapIs (f : K → Value) (g : V → Value) (m : List (K × V)) (es : Array MapEntry) (clk : Nat) : Prop where
  keys : es.toList.map (·.key) = m.map fun p => f p.1
  vals : es.toList.map (·.val) = m.map fun p => g p.2
  nodup : (m.map (·.1)).Nodup
  apart : (es.toList.map (·.born)).Nodup
  old : ∀ e ∈ es, e.born < clk

end
section
variable {K V : Type} {f : K → Value} {g : V → Value}
theorem MapIs.len {m : List (K × V)} {es : Array MapEntry} {clk : Nat} (h : MapIs f g m es clk) : es.size = m.length := by
  have := congrArg List.length h.keys
  simpa using this
end
section
variable {K V : Type} [DecidableEq K] {f : K → Value} {g : V → Value}

theorem fnd_get {a : K} : ∀ {m : List (K × V)} {es : List MapEntry} {i : Nat}, es.map (·.val) = m.map (fun p => g p.2) → (fnd a (m.map (·.1)) es i).map (·.2) = (mget m a).map g
  | [], [], _, _ => rfl
  | [], e :: es, _, h => by cases h
  | p :: m, [], _, h => by cases h
  | p :: m, e :: es, i, h => by
    simp only [List.map_cons, List.cons.injEq] at h
    simp only [List.map_cons, fnd, mget, List.find?_cons]
    by_cases hp : p.1 = a
    · simp [hp, h.1]
    · simp only [hp, if_false, decide_false]
      exact fnd_get h.2
theorem fnd_none {a : K} : ∀ {ks : List K} {es : List MapEntry} {i : Nat}, es.length = ks.length → (fnd a ks es i = none ↔ a ∉ ks)
  | [], [], _, _ => by simp [fnd]
  | [], e :: es, _, h => by cases h
  | b :: ks, [], _, h => by cases h
  | b :: ks, e :: es, i, h => by
    simp only [fnd]
    by_cases hb : b = a
    · simp [hb]
    · rw [if_neg hb, fnd_none (by simpa using h)]
      simp [Ne.symm hb]
theorem fnd_some {a : K} : ∀ {ks : List K} {es : List MapEntry} {i j : Nat} {v : Value}, fnd a ks es i = some (j, v) → i ≤ j ∧ ks[j - i]? = some a ∧ ∃ e, es[j - i]? = some e
  | b :: ks, e :: es, i, j, v, h => by
    simp only [fnd] at h
    by_cases hb : b = a
    · rw [if_pos hb] at h
      cases h
      simp [hb]
    · rw [if_neg hb] at h
      obtain ⟨h1, h2, e', h3⟩ := fnd_some h
      refine ⟨by omega, ?_, e', ?_⟩
      · rw [show j - i = (j - (i + 1)) + 1 by omega]; simpa using h2
      · rw [show j - i = (j - (i + 1)) + 1 by omega]; simpa using h3
  | [], _, _, _, _, h => by simp [fnd] at h
  | _ :: _, [], _, _, _, h => by simp [fnd] at h

/-- A map, by the block that holds it. -/
def mp (r : Nat) (f : K → Value) (g : V → Value) (m : List (K × V)) : HProp := exi fun es => exi fun clk => All [pur (MapIs f g m es clk), pt r (.map es clk)]
end
class PkMp (r : Nat) (L : List HProp) {K V : outParam Type} [DecidableEq K] (f : outParam (K → Value)) (g : outParam (V → Value)) (m : outParam (List (K × V))) (R : outParam (List HProp)) : Prop where
  out : Ent L (mp r f g m :: R)

section
variable {K V : Type} [DecidableEq K] {f : K → Value} {g : V → Value} {P : Program} {fr : Fr} {L R : List HProp} {ty t kt el : TypeId} {r : Nat} {m : List (K × V)}
end
section
variable {K V : Type} {f : K → Value} {g : V → Value} {P : Program} {fr : Fr} {L R : List HProp} {ty t kt el : TypeId} {r : Nat} {m : List (K × V)}
theorem ent_mp : Ent (mp r f g m :: L) (exi (fun es => exi fun clk => All [pur (MapIs f g m es clk), pt r (.map es clk)]) :: L) := .refl _
end
section
variable {K V : Type} [DecidableEq K] {f : K → Value} {g : V → Value} {P : Program} {fr : Fr} {L R : List HProp} {ty t kt el : TypeId} {r : Nat} {m : List (K × V)}
end
section
variable {K V : Type} {f : K → Value} {g : V → Value} {P : Program} {fr : Fr} {L R : List HProp} {ty t kt el : TypeId} {r : Nat} {m : List (K × V)}
theorem holds_mp {F : Base} {w : World} (h : Holds (mp r f g m :: L) F w) : ∃ es clk, MapIs f g m es clk ∧ Holds (pt r (.map es clk) :: L) F w := by
  obtain ⟨es, h⟩ := holds_exi.1 h
  obtain ⟨clk, h⟩ := holds_exi.1 h
  have h := holds_all.1 h
  obtain ⟨h1, h2⟩ := holds_pur.1 h
  exact ⟨es, clk, h1, h2⟩
end
section
variable {K V : Type} [DecidableEq K] {f : K → Value} {g : V → Value} {P : Program} {fr : Fr} {L R : List HProp} {ty t kt el : TypeId} {r : Nat} {m : List (K × V)}
end
section
variable {K V : Type} {f : K → Value} {g : V → Value} {P : Program} {fr : Fr} {L R : List HProp} {ty t kt el : TypeId} {r : Nat} {m : List (K × V)}
theorem mp_holds {F : Base} {w : World} {es : Array MapEntry} {clk : Nat} (h1 : MapIs f g m es clk) (h2 : Holds (pt r (.map es clk) :: L) F w) : Holds (mp r f g m :: L) F w :=
  holds_exi.2 ⟨es, holds_exi.2 ⟨clk, holds_all.2 (holds_pur.2 ⟨h1, h2⟩)⟩⟩
end
section
variable {K V : Type} [DecidableEq K] {f : K → Value} {g : V → Value} {P : Program} {fr : Fr} {L R : List HProp} {ty t kt el : TypeId} {r : Nat} {m : List (K × V)}
end
section
variable {K V : Type} {f : K → Value} {g : V → Value} {P : Program} {fr : Fr} {L R : List HProp} {ty t kt el : TypeId} {r : Nat} {m : List (K × V)}
theorem mp_new : Ent (pt r (.map #[] 0) :: L) (mp r f g [] :: L) := fun _ _ h => mp_holds ⟨rfl, rfl, by simp, by simp, by simp⟩ h
end
section
variable {K V : Type} [DecidableEq K] {f : K → Value} {g : V → Value} {P : Program} {fr : Fr} {L R : List HProp} {ty t kt el : TypeId} {r : Nat} {m : List (K × V)}

def gotM (ok : Bool) (z : Value) : Option Value → Value
  | some v => if ok then .tuple #[v, .bool true] else v
  | none => if ok then .tuple #[z, .bool false] else z
theorem got_gotM {ok : Bool} {z : Value} {x : Option (Nat × Value)} : got ok z x = gotM ok z (x.map (·.2)) := by
  cases x <;> rfl

theorem m_lookup {x ix : Operand} {a : K} {k z : Value} {ok : Bool} [UT P t (.map kt el)] [ZV P el z] [h : PkMp r L f g m R] [kf : KeyF P kt f] (hx : ev fr x = some (.map (some r))) (hk : ev fr ix = some k) [ha : IsF f k a] :
    Quiet P (.lookup t x ix ok) ty fr L (gotM ok z ((mget m a).map g)) := by
  intro n F a' w d pos after gd hr hh
  obtain ⟨es, clk, hm, hh'⟩ := holds_mp (h.out F w hh)
  have hka : ev fr ix = some (f a) := by rw [hk, ha.out]
  have hq := q_lookup (P := P) (t := t) (ty := ty) (ok := ok) hx hka (.refl _) (kf.ok a) (f := fnd a (m.map (·.1)) es.toList 0) (fun w => kf.find a _ _ w (by rw [hm.keys, List.map_map]; rfl)) (L := pt r (.map es clk) :: R) (R := R)
  have := hq n F a' w d pos after gd hr hh'
  rw [this, got_gotM, fnd_get hm.vals]
/-- What is there where there is nothing. -/
class Zf {V : Type} (g : V → Value) (z : Value) (z0 : outParam V) : Prop where
  out : z = g z0
instance : Zf (Value.int .i64) (.int .i64 0) 0 := ⟨rfl⟩
instance : Zf (Value.int .u64) (.int .u64 0) 0 := ⟨rfl⟩
instance : Zf Value.bool (.bool false) false := ⟨rfl⟩
instance : Zf st (.string .empty) [] := ⟨rfl⟩
theorem m_lookupZ {x ix : Operand} {a : K} {z0 : V} {k z : Value} [UT P t (.map kt el)] [ZV P el z] [h : PkMp r L f g m R] [kf : KeyF P kt f] [hz : Zf g z z0] (hx : ev fr x = some (.map (some r))) (hk : ev fr ix = some k) [ha : IsF f k a] :
    Quiet P (.lookup t x ix false) ty fr L (g ((mget m a).getD z0)) := by
  have := m_lookup (P := P) (t := t) (ty := ty) (ok := false) (kt := kt) (el := el) (z := z) (a := a) (h := h) hx hk
  cases hg : mget m a with
  | none => rw [hg] at this; simpa [gotM, hz.out] using this
  | some b => rw [hg] at this; simpa [gotM] using this
theorem m_lookupZk {x ix : Operand} {a : K} {z0 : V} {k z : Value} [UT P t (.map kt el)] [ZV P el z] [h : PkMp r L f g m R] [kf : KeyF P kt f] [hz : Zf g z z0] (hx : ev fr x = some (.map (some r))) (hk : ev fr ix = some k) [ha : IsF f k a] :
    Quiet P (.lookup t x ix true) ty fr L (.tuple #[g ((mget m a).getD z0), .bool (mget m a).isSome]) := by
  have := m_lookup (P := P) (t := t) (ty := ty) (ok := true) (kt := kt) (el := el) (z := z) (a := a) (h := h) hx hk
  cases hg : mget m a with
  | none => rw [hg] at this; simpa [gotM, hz.out] using this
  | some b => rw [hg] at this; simpa [gotM] using this
theorem m_len {x : Operand} {ats : TypeId} [UT P ats (.map kt el)] [h : PkMp r L f g m R] (hx : ev fr x = some (.map (some r))) : Quiet P (.call ⟨.builtin .len, #[x], #[ats]⟩) ty fr L (.int .i64 m.length) := by
  intro n F a' w d pos after gd hr hh
  obtain ⟨es, clk, hm, hh'⟩ := holds_mp (h.out F w hh)
  have := q_len_map (P := P) (ty := ty) (kt := kt) (el := el) hx (.refl _) (L := pt r (.map es clk) :: R) (R := R) (ats := ats) n F a' w d pos after gd hr hh'
  rw [this, hm.len]

theorem MapIs.set {es : Array MapEntry} {clk : Nat} [kf : KeyF P kt f] (hm : MapIs f g m es clk) (a : K) (b : V) :
    ∃ es' clk', upd es clk (f a) (g b) (fnd a (m.map (·.1)) es.toList 0) = .map es' clk' ∧ MapIs f g (mset m a b) es' clk' := by
  have hlen : es.toList.length = (m.map (·.1)).length := by have := hm.len; simpa using this
  cases hf : fnd a (m.map (·.1)) es.toList 0 with
  | none =>
    have hn := (fnd_none hlen).1 hf
    refine ⟨_, _, rfl, ?_⟩
    have e : mset m a b = m ++ [(a, b)] := if_neg hn
    rw [e]
    refine ⟨by simp [hm.keys], by simp [hm.vals], ?_, ?_, ?_⟩
    · rw [List.map_append, List.nodup_append]
      refine ⟨hm.nodup, by simp, ?_⟩
      intro x hx y hy
      simp only [List.map_cons, List.map_nil, List.mem_singleton] at hy
      subst hy
      rintro rfl
      exact hn hx
    · rw [Array.toList_push, List.map_append, List.nodup_append]
      refine ⟨hm.apart, by simp, ?_⟩
      intro x hx y hy
      simp only [List.map_cons, List.map_nil, List.mem_singleton] at hy
      subst hy
      obtain ⟨e, he, rfl⟩ := List.mem_map.1 hx
      have := hm.old e (by simpa using he)
      omega
    · intro e he
      rcases Array.mem_push.1 he with he | rfl
      · have := hm.old e he; omega
      · show clk < clk + 1; omega
  | some p =>
    obtain ⟨j, v⟩ := p
    obtain ⟨_, h2, e0, h3⟩ := fnd_some hf
    simp only [Nat.sub_zero] at h2 h3
    have hin : a ∈ m.map (·.1) := List.mem_of_getElem? h2
    refine ⟨_, _, rfl, ?_⟩
    have e : mset m a b = m.map (fun p => if p.1 = a then (a, b) else p) := if_pos hin
    rw [e]
    have hjlt : j < es.toList.length := (List.getElem?_eq_some_iff.1 h3).1
    have hml : m.length = es.toList.length := by simpa using hlen.symm
    have hkj : ∀ i (h : i < m.length), m[i].1 = a ↔ i = j := by
      intro i h
      constructor
      · intro he
        have h4 : (m.map (·.1))[i]? = some a := by rw [List.getElem?_map, List.getElem?_eq_getElem h]; simp [he]
        have hn := List.pairwise_iff_getElem.1 hm.nodup
        obtain ⟨hj2, h5⟩ := List.getElem?_eq_some_iff.1 h2
        obtain ⟨hi2, h6⟩ := List.getElem?_eq_some_iff.1 h4
        rcases Nat.lt_trichotomy i j with hlt | heq | hgt
        · exact absurd (h6.trans h5.symm) (hn i j hi2 hj2 hlt)
        · exact heq
        · exact absurd (h5.trans h6.symm) (hn j i hj2 hi2 hgt)
      · rintro rfl
        have := h2
        rw [List.getElem?_map, List.getElem?_eq_getElem h] at this
        simpa using this
    have hko : ∀ i (h : i < es.toList.length) , (es.toList[i]).key = f (m[i]'(by omega)).1 := by
      intro i h
      have := congrArg (fun l => l[i]?) hm.keys
      simp only [List.getElem?_map, List.getElem?_eq_getElem h, List.getElem?_eq_getElem (show i < m.length by omega), Option.map_some] at this
      exact Option.some.inj this
    have hvo : ∀ i (h : i < es.toList.length) , (es.toList[i]).val = g (m[i]'(by omega)).2 := by
      intro i h
      have := congrArg (fun l => l[i]?) hm.vals
      simp only [List.getElem?_map, List.getElem?_eq_getElem h, List.getElem?_eq_getElem (show i < m.length by omega), Option.map_some] at this
      exact Option.some.inj this
    refine ⟨?_, ?_, ?_, ?_, ?_⟩
    · apply List.ext_getElem
      · simp [hml]
      · intro i h1 h2'
        have hi : i < es.toList.length := by simpa using h1
        have hi' : i < m.length := by omega
        simp only [List.getElem_map, Array.getElem_toList, Array.getElem_modify]
        by_cases hij : j = i
        · subst hij
          simp [(hkj j hi').2 rfl]
        · have : ¬ m[i].1 = a := fun h => hij ((hkj i hi').1 h).symm
          simp only [hij, if_false, this]
          exact hko i hi
    · apply List.ext_getElem
      · simp [hml]
      · intro i h1 h2'
        have hi : i < es.toList.length := by simpa using h1
        have hi' : i < m.length := by omega
        simp only [List.getElem_map, Array.getElem_toList, Array.getElem_modify]
        by_cases hij : j = i
        · subst hij
          simp [(hkj j hi').2 rfl]
        · have : ¬ m[i].1 = a := fun h => hij ((hkj i hi').1 h).symm
          simp only [hij, if_false, this]
          exact hvo i hi
    · rw [List.map_map]
      have : (fun p : K × V => (if p.1 = a then (a, b) else p).1) = (·.1) := by
        funext p
        by_cases h : p.1 = a
        · simp [h]
        · simp [h]
      show (m.map fun p : K × V => (if p.1 = a then (a, b) else p).1).Nodup
      rw [this]
      exact hm.nodup
    · have : (es.modify j fun e => { e with key := f a, val := g b }).toList.map (·.born) = es.toList.map (·.born) := by
        apply List.ext_getElem
        · simp
        · intro i h1 h2'
          simp only [List.getElem_map, Array.getElem_toList, Array.getElem_modify]
          split <;> rfl
      rw [this]
      exact hm.apart
    · intro e he
      obtain ⟨i, hi, rfl⟩ := Array.mem_iff_getElem.1 he
      have hi' : i < es.size := by simpa using hi
      have : (es.modify j fun e => { e with key := f a, val := g b })[i].born = es[i].born := by
        rw [Array.getElem_modify]; split <;> rfl
      rw [this]
      exact hm.old _ (Array.getElem_mem hi')

theorem m_update {mm ix y : Operand} {a : K} {b : V} {k x : Value} [UT P t (.map kt el)] [h : PkMp r L f g m R] [kf : KeyF P kt f] (hm : ev fr mm = some (.map (some r))) (hk : ev fr ix = some k) (hy : ev fr y = some x) [ha : IsF f k a] (hb : x = g b) :
    Step P (.mapUpdate t mm ix y) ty fr L (fun _ : Unit => undef) (fun _ => mp r f g (mset m a b) :: R) := by
  intro n F a' w d pos after gd KK Q hr hh hkk
  obtain ⟨es, clk, hmi, hh'⟩ := holds_mp (h.out F w hh)
  have hka : ev fr ix = some (f a) := by rw [hk, ha.out]
  have hyb : ev fr y = some (g b) := by rw [hy, hb]
  obtain ⟨es', clk', he, hm'⟩ := hmi.set (P := P) (kt := kt) a b
  have hst : stays es (f a) (fnd a (m.map (·.1)) es.toList 0) := by
    cases hf : fnd a (m.map (·.1)) es.toList 0 with
    | none => trivial
    | some p =>
      obtain ⟨j, v⟩ := p
      obtain ⟨_, h2, e0, h3⟩ := fnd_some hf
      simp only [Nat.sub_zero] at h2 h3
      have h4 : es[j]? = some e0 := by rw [← Array.getElem?_toList]; exact h3
      have h5 := congrArg (fun l => l[j]?) hmi.keys
      simp only [List.getElem?_map, h3, Option.map_some] at h5
      rw [List.getElem?_map] at h2
      have h6 : e0.key = f a := by
        cases hmj : m[j]? with
        | none => rw [hmj] at h2; cases h2
        | some q => rw [hmj] at h2 h5; cases h2; exact Option.some.inj h5
      show Instr.sameBits 10000 (((es[j]?).map (·.key)).getD (f a)) (f a) = true
      rw [h4]
      show Instr.sameBits 10000 e0.key (f a) = true
      rw [h6]
      exact kf.same a
  have hs := s_mapUpdate (P := P) (t := t) (ty := ty) hm hka hyb (.refl _) (kf.ok a) (f := fnd a (m.map (·.1)) es.toList 0) (fun w => kf.find a _ _ w (by rw [hmi.keys, List.map_map]; rfl)) hst (L := pt r (.map es clk) :: R) (R := R)
  refine hs n F a' w d pos after gd KK Q hr hh' fun _ w' hw' => hkk () w' ?_
  rw [he] at hw'
  exact mp_holds hm' hw'
theorem m_clear {x : Operand} [UT P t (.map kt el)] [h : PkMp r L f g m R] (hx : ev fr x = some (.map (some r))) :
    Step P (.call ⟨.builtin .clear, #[x], #[t]⟩) ty fr L (fun _ : Unit => .tuple #[]) (fun _ => mp r f g [] :: R) := by
  intro n F a' w d pos after gd KK Q hr hh hkk
  obtain ⟨es, clk, hmi, hh'⟩ := holds_mp (h.out F w hh)
  refine s_clear_map (P := P) (t := t) (ty := ty) (kt := kt) (el := el) hx (.refl _) (L := pt r (.map es clk) :: R) (R := R) n F a' w d pos after gd KK Q hr hh' fun _ w' hw' => hkk () w' ?_
  exact mp_holds ⟨rfl, rfl, by simp, by simp, by simp⟩ hw'

/-! ### A map gone through -/
structure LeftIs (f : K → Value) (g : V → Value) (rest : List (K × V)) (last : Option (K × V)) (es : Array MapEntry) (seen : Array Nat) : Prop where
  keys : (left es seen).toList.map (·.key) = rest.map fun p => f p.1
  vals : (left es seen).toList.map (·.val) = rest.map fun p => g p.2
  sub : ∀ q ∈ rest, q ∈ rest
  last : ∀ q, last = some q → ∃ e, seen.back? = some e.born ∧ es.find? (·.born == e.born) = some e ∧ e.key = f q.1 ∧ e.val = g q.2
def mit (ib r : Nat) (f : K → Value) (g : V → Value) (m rest : List (K × V)) (last : Option (K × V)) : HProp := exi fun es => exi fun clk => exi fun seen =>
  All [pur (MapIs f g m es clk ∧ LeftIs f g rest last es seen ∧ rest.Sublist m), pt ib (.mapIter (some r) clk seen clk), pt r (.map es clk)]
end
section
variable {K V : Type} {f : K → Value} {g : V → Value} {P : Program} {fr : Fr} {L R : List HProp} {ty t kt el : TypeId} {r : Nat} {m : List (K × V)}
theorem holds_mit {F : Base} {w : World} {ib : Nat} {rest : List (K × V)} {last : Option (K × V)} (h : Holds (mit ib r f g m rest last :: L) F w) :
    ∃ es clk seen, MapIs f g m es clk ∧ LeftIs f g rest last es seen ∧ rest.Sublist m ∧ Holds (pt ib (.mapIter (some r) clk seen clk) :: pt r (.map es clk) :: L) F w := by
  obtain ⟨es, h⟩ := holds_exi.1 h
  obtain ⟨clk, h⟩ := holds_exi.1 h
  obtain ⟨seen, h⟩ := holds_exi.1 h
  have h := holds_all.1 h
  obtain ⟨⟨h1, h2, h3⟩, h4⟩ := holds_pur.1 h
  exact ⟨es, clk, seen, h1, h2, h3, h4⟩
end
section
variable {K V : Type} [DecidableEq K] {f : K → Value} {g : V → Value} {P : Program} {fr : Fr} {L R : List HProp} {ty t kt el : TypeId} {r : Nat} {m : List (K × V)}
end
section
variable {K V : Type} {f : K → Value} {g : V → Value} {P : Program} {fr : Fr} {L R : List HProp} {ty t kt el : TypeId} {r : Nat} {m : List (K × V)}
theorem mit_holds {F : Base} {w : World} {ib : Nat} {rest : List (K × V)} {last : Option (K × V)} {es : Array MapEntry} {clk : Nat} {seen : Array Nat} (h1 : MapIs f g m es clk) (h2 : LeftIs f g rest last es seen) (h3 : rest.Sublist m)
    (h : Holds (pt ib (.mapIter (some r) clk seen clk) :: pt r (.map es clk) :: L) F w) : Holds (mit ib r f g m rest last :: L) F w :=
  holds_exi.2 ⟨es, holds_exi.2 ⟨clk, holds_exi.2 ⟨seen, holds_all.2 (holds_pur.2 ⟨⟨h1, h2, h3⟩, h⟩)⟩⟩⟩
end
section
variable {K V : Type} [DecidableEq K] {f : K → Value} {g : V → Value} {P : Program} {fr : Fr} {L R : List HProp} {ty t kt el : TypeId} {r : Nat} {m : List (K × V)}
end
section
variable {K V : Type} {f : K → Value} {g : V → Value} {P : Program} {fr : Fr} {L R : List HProp} {ty t kt el : TypeId} {r : Nat} {m : List (K × V)}
theorem mit_mp {ib : Nat} {rest : List (K × V)} {last : Option (K × V)} : Ent (mit ib r f g m rest last :: L) (mp r f g m :: L) := fun F w h => by
  obtain ⟨es, clk, seen, h1, _, _, h4⟩ := holds_mit h
  exact mp_holds h1 (Ent.drop F w h4)
end
section
variable {K V : Type} [DecidableEq K] {f : K → Value} {g : V → Value} {P : Program} {fr : Fr} {L R : List HProp} {ty t kt el : TypeId} {r : Nat} {m : List (K × V)}
theorem m_range {x : Operand} [UT P t (.map kt el)] [h : PkMp r L f g m R] (hx : ev fr x = some (.map (some r))) :
    Step P (.range t x) ty fr L (fun b : Nat => .pointer (some ⟨b, 0, none⟩)) (fun b => mit b r f g m m none :: R) := by
  intro n F a' w d pos after gd KK Q hr hh hkk
  obtain ⟨es, clk, hmi, hh'⟩ := holds_mp (h.out F w hh)
  refine s_range (P := P) (t := t) (ty := ty) (kt := kt) (el := el) hx (.refl _) (L := pt r (.map es clk) :: R) (R := R) n F a' w d pos after gd KK Q hr hh' fun b w' hw' => hkk b w' ?_
  have hl : left es #[] = es := by unfold left; simp
  exact mit_holds hmi ⟨by rw [hl]; exact hmi.keys, by rw [hl]; exact hmi.vals, fun _ h => h, by simp⟩ (.refl _) hw'

class PkIt (ib : Nat) (L : List HProp) (r : outParam Nat) {K V : outParam Type} [DecidableEq K] (f : outParam (K → Value)) (g : outParam (V → Value)) (m rest : outParam (List (K × V))) (last : outParam (Option (K × V))) (R : outParam (List HProp)) : Prop where
  out : Ent L (mit ib r f g m rest last :: R)

theorem filter_pair {α β : Type} {p : α → Bool} {q : β → Bool} {u : α → Value} {v : β → Value} : ∀ {l : List α} {l' : List β}, l.map u = l'.map v → (∀ i (h : i < l.length) (h' : i < l'.length), p l[i] = q l'[i]) → (l.filter p).map u = (l'.filter q).map v
  | [], [], _, _ => rfl
  | [], b :: l', h, _ => by cases h
  | a :: l, [], h, _ => by cases h
  | a :: l, b :: l', h, hp => by
    simp only [List.map_cons, List.cons.injEq] at h
    have h0 := hp 0 (by simp) (by simp)
    simp only [List.getElem_cons_zero] at h0
    have ih := filter_pair (p := p) (q := q) h.2 fun i hi hi' => hp (i + 1) (by simpa using hi) (by simpa using hi')
    simp only [List.filter_cons, h0]
    cases q b
    · simpa using ih
    · simp [h.1, ih]

theorem m_next {it : Operand} {ib : Nat} {rest : List (K × V)} {last : Option (K × V)} [kf : KeyF P kt f] [h : PkIt ib L r f g m rest last R] (hx : ev fr it = some (.pointer (some ⟨ib, 0, none⟩))) :
    Step P (.next it false) ty fr L (fun o : Option (K × V) => match o with | none => .tuple #[.bool false] | some p => .tuple #[.bool true, f p.1, g p.2])
      (fun o => match o with
        | none => pur (rest = []) :: mit ib r f g m rest last :: R
        | some p => pur (p ∈ rest) :: mit ib r f g m (mdel rest p.1) (some p) :: R) := by
  intro n F a' w d pos after gd KK Q hr hh hkk
  obtain ⟨es, clk, seen, hmi, hli, hsub, hh'⟩ := holds_mit (h.out F w hh)
  refine s_next (P := P) (ty := ty) hx (.refl _) hmi.old hmi.old (L := pt ib (.mapIter (some r) clk seen clk) :: pt r (.map es clk) :: R) (R := R) n F a' w d pos after gd KK Q hr hh' fun o w' hw' => ?_
  cases o with
  | none =>
    obtain ⟨h0, hw'⟩ := holds_pur.1 hw'
    refine hkk none w' (holds_pur.2 ⟨?_, mit_holds hmi hli hsub hw'⟩)
    have := hli.keys
    rw [h0] at this
    simpa using this.symm
  | some e =>
    obtain ⟨he, hw'⟩ := holds_pur.1 hw'
    have hel : e ∈ (left es seen).toList := by simpa using he
    obtain ⟨i, hi, hie⟩ := List.getElem_of_mem hel
    have hlk := congrArg List.length hli.keys
    simp only [List.length_map] at hlk
    have hir : i < rest.length := by omega
    have hk0 : ∀ j (hj : j < (left es seen).toList.length), (left es seen).toList[j].key = f (rest[j]'(by omega)).1 := by
      intro j hj
      have := congrArg (fun l => l[j]?) hli.keys
      simp only [List.getElem?_map, List.getElem?_eq_getElem hj, List.getElem?_eq_getElem (show j < rest.length by omega), Option.map_some] at this
      exact Option.some.inj this
    have hv0 : (left es seen).toList[i].val = g rest[i].2 := by
      have := congrArg (fun l => l[i]?) hli.vals
      simp only [List.getElem?_map, List.getElem?_eq_getElem hi, List.getElem?_eq_getElem hir, Option.map_some] at this
      exact Option.some.inj this
    have hkey : e.key = f rest[i].1 := by rw [← hie]; exact hk0 i hi
    have hval : e.val = g rest[i].2 := by rw [← hie]; exact hv0
    have hees : e ∈ es := (Array.mem_filter.1 he).1
    -- entries are told apart by when they were made, and by their keys
    have hborn : ∀ x ∈ es, (x.born = e.born ↔ x.key = e.key) := by
      have hpos : ∀ x ∈ es, ∃ j, ∃ hj : j < es.toList.length, es.toList[j] = x := fun x hx => List.getElem_of_mem (by simpa using hx)
      obtain ⟨j2, hj2, h2⟩ := hpos e hees
      have hml : m.length = es.toList.length := by have := hmi.len; simp; omega
      have hko : ∀ i (h : i < es.toList.length) , (es.toList[i]).key = f (m[i]'(by omega)).1 := by
        intro i h
        have := congrArg (fun l => l[i]?) hmi.keys
        simp only [List.getElem?_map, List.getElem?_eq_getElem h, List.getElem?_eq_getElem (show i < m.length by omega), Option.map_some] at this
        exact Option.some.inj this
      intro x hx
      obtain ⟨j1, hj1, h1⟩ := hpos x hx
      constructor
      · intro hb
        have : j1 = j2 := by
          rcases Nat.lt_trichotomy j1 j2 with hlt | heq | hgt
          · exact absurd (show (es.toList.map (·.born))[j1]'(by simpa using hj1) = (es.toList.map (·.born))[j2]'(by simpa using hj2) by rw [List.getElem_map, List.getElem_map, h1, h2]; exact hb) (List.pairwise_iff_getElem.1 hmi.apart _ _ _ _ hlt)
          · exact heq
          · exact absurd (show (es.toList.map (·.born))[j2]'(by simpa using hj2) = (es.toList.map (·.born))[j1]'(by simpa using hj1) by rw [List.getElem_map, List.getElem_map, h1, h2]; exact hb.symm) (List.pairwise_iff_getElem.1 hmi.apart _ _ _ _ hgt)
        subst this
        rw [← h1, ← h2]
      · intro hk
        have : j1 = j2 := by
          have hm12 : (m[j1]'(by omega)).1 = (m[j2]'(by omega)).1 := kf.inj _ _ (by rw [← hko j1 hj1, ← hko j2 hj2, h1, h2]; exact hk)
          rcases Nat.lt_trichotomy j1 j2 with hlt | heq | hgt
          · exact absurd (show (m.map (·.1))[j1]'(by simp; omega) = (m.map (·.1))[j2]'(by simp; omega) by rw [List.getElem_map, List.getElem_map]; exact hm12) (List.pairwise_iff_getElem.1 hmi.nodup _ _ _ _ hlt)
          · exact heq
          · exact absurd (show (m.map (·.1))[j2]'(by simp; omega) = (m.map (·.1))[j1]'(by simp; omega) by rw [List.getElem_map, List.getElem_map]; exact hm12.symm) (List.pairwise_iff_getElem.1 hmi.nodup _ _ _ _ hgt)
        subst this
        rw [← h1, ← h2]
    have hleft : (left es (seen.push e.born)).toList = (left es seen).toList.filter fun x => decide (x.born ≠ e.born) := by
      unfold left
      rw [Array.toList_filter, Array.toList_filter, List.filter_filter]
      congr 1
      funext x
      simp only [Array.contains_push, Bool.not_or]
      rw [Bool.and_comm]
      congr 1
      by_cases hb : x.born = e.born
      · simp [hb]
      · simp [hb]
    have hpred : ∀ j (hj : j < (left es seen).toList.length) (hj' : j < rest.length), decide ((left es seen).toList[j].born ≠ e.born) = decide (rest[j].1 ≠ rest[i].1) := by
      intro j hj hj'
      have hall : ∀ x, x ∈ (left es seen).toList → x ∈ es := fun x hx => (Array.mem_filter.1 (show x ∈ left es seen by simpa using hx)).1
      have hx : (left es seen).toList[j] ∈ es := hall _ (List.getElem_mem hj)
      have h1 := hborn _ hx
      rw [hk0 j hj, hkey] at h1
      have h2 : f rest[j].1 = f rest[i].1 ↔ rest[j].1 = rest[i].1 := ⟨kf.inj _ _, fun h => by rw [h]⟩
      rw [h2] at h1
      exact decide_eq_decide.2 (not_congr h1)
    have hfind : es.find? (·.born == e.born) = some e := by
      cases hf : es.find? (·.born == e.born) with
      | none =>
        have := Array.find?_eq_none.1 hf e hees
        simp at this
      | some x =>
        have hx1 : x.born = e.born := by simpa using Array.find?_some hf
        have hx2 := Array.mem_of_find?_eq_some hf
        obtain ⟨j1, hj1, h1⟩ := List.getElem_of_mem (show x ∈ es.toList by simpa using hx2)
        obtain ⟨j2, hj2, h2⟩ := List.getElem_of_mem (show e ∈ es.toList by simpa using hees)
        have : j1 = j2 := by
          rcases Nat.lt_trichotomy j1 j2 with hlt | heq | hgt
          · exact absurd (show (es.toList.map (·.born))[j1]'(by simpa using hj1) = (es.toList.map (·.born))[j2]'(by simpa using hj2) by rw [List.getElem_map, List.getElem_map, h1, h2]; exact hx1) (List.pairwise_iff_getElem.1 hmi.apart _ _ _ _ hlt)
          · exact heq
          · exact absurd (show (es.toList.map (·.born))[j2]'(by simpa using hj2) = (es.toList.map (·.born))[j1]'(by simpa using hj1) by rw [List.getElem_map, List.getElem_map, h1, h2]; exact hx1.symm) (List.pairwise_iff_getElem.1 hmi.apart _ _ _ _ hgt)
        subst this
        rw [← h1, h2]
    have hv : (Value.tuple #[.bool true, e.key, e.val]) = (Value.tuple #[.bool true, f rest[i].1, g rest[i].2]) := by rw [hkey, hval]
    show KK (a'.put d (Value.tuple #[.bool true, e.key, e.val])) w'
    rw [hv]
    refine hkk (some rest[i]) w' (holds_pur.2 ⟨List.getElem_mem hir, mit_holds hmi ⟨?_, ?_, fun _ h => h, ?_⟩ ?_ hw'⟩)
    · rw [hleft]; exact filter_pair hli.keys hpred
    · rw [hleft]; exact filter_pair hli.vals hpred
    · intro q hq
      cases hq
      exact ⟨e, by simp, hfind, hkey, hval⟩
    · exact (List.filter_sublist ..).trans hsub
theorem m_entry {it : Operand} {ib : Nat} {rest : List (K × V)} {p : K × V} [h : PkIt ib L r f g m rest (some p) R] (hx : ev fr it = some (.pointer (some ⟨ib, 0, none⟩))) : Quiet P (.entry it) ty fr L (.tuple #[f p.1, g p.2]) := by
  intro n F a' w d pos after gd hr hh
  obtain ⟨es, clk, seen, hmi, hli, hsub, hh'⟩ := holds_mit (h.out F w hh)
  obtain ⟨e, h1, h2, h3, h4⟩ := hli.last p rfl
  have := q_entry (P := P) (ty := ty) hx (.refl _) h1 h2 (L := pt ib (.mapIter (some r) clk seen clk) :: pt r (.map es clk) :: R) (R := R) n F a' w d pos after gd hr hh'
  rw [this, h3, h4]
instance pkMp_there {c : HProp} [h : PkMp r L f g m R] : PkMp r (c :: L) f g m (c :: R) := ⟨h.out.there⟩
instance pkMp_here : PkMp r (mp r f g m :: L) f g m L := ⟨.refl _⟩
instance pkIt_there {c : HProp} {ib : Nat} {rest : List (K × V)} {last : Option (K × V)} [h : PkIt ib L r f g m rest last R] : PkIt ib (c :: L) r f g m rest last (c :: R) := ⟨h.out.there⟩
instance pkIt_here {ib : Nat} {rest : List (K × V)} {last : Option (K × V)} : PkIt ib (mit ib r f g m rest last :: L) r f g m rest last L := ⟨.refl _⟩
theorem ent_mpFacts [h : PkMp r L f g m R] : Ent L (pur ((m.map fun x => x.1).Nodup) :: L) := fun F w hh => by
  obtain ⟨es, clk, hm, _⟩ := holds_mp (h.out F w hh)
  exact holds_pur.2 ⟨hm.nodup, hh⟩
theorem run_mpFacts {Q : Exit → Act → World → Prop} {N : Cfg} {F : Base} {k : List Itm} (r : Nat) {m : List (K × V)} {f : K → Value} {g : V → Value} {L R : List HProp} [h : PkMp r L f g m R] (hh : (m.map fun x => x.1).Nodup → Run P Q N F fr L k) : Run P Q N F fr L k := run_ent (ent_mpFacts (r := r)) (run_pur hh)
theorem mget_none {m : List (K × V)} {a : K} : mget m a = none ↔ a ∉ m.map fun x => x.1 := by
  unfold mget
  rw [Option.map_eq_none_iff, List.find?_eq_none]
  constructor
  · intro h hm
    obtain ⟨p, hp, he⟩ := List.mem_map.1 hm
    exact h p hp (by simpa using he)
  · intro h p hp he
    exact h (List.mem_map.2 ⟨p, hp, by simpa using he⟩)
theorem p_extractL {x : Operand} {i : Nat} {vs : List Value} {v : Value} (hx : ev fr x = some (.tuple vs.toArray)) (hv : vs[i]? = some v) : Pure P (.extract x i) ty fr v := p_extract hx (by simpa using hv)
end
end Go.Proofs.YtaibgfnfmkpibaaGreatDoor.SL
