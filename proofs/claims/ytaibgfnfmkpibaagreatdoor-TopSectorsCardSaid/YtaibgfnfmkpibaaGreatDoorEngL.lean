/- A run that is reckoned out, continued: regions, code, functions. No program in sight. -/
import Derived.Test.YtaibgfnfmkpibaaGreatDoorEngK
namespace Go.Proofs.YtaibgfnfmkpibaaGreatDoor.SL
open Go

mutual
def eqV : SV → SV → Bool
  | .int k i, .int k' j => decide (k = k') && decide (i = j)
  | .bool a, .bool b => a == b
  | .ptr none, .ptr none => true
  | .ptr (some (b, o)), .ptr (some (b', o')) => Nat.beq b b' && Nat.beq o o'
  | .nsl, .nsl => true
  | .nmap, .nmap => true
  | .nilf, .nilf => true
  | .vs i, .vs j => Nat.beq i j
  | .elp i k, .elp j k' => Nat.beq i j && Nat.beq k k'
  | .map i, .map j => Nat.beq i j
  | .func f l, .func g l' => Nat.beq f g && eqVs l l'
  | .agg l, .agg l' => eqVs l l'
  | .tup l, .tup l' => eqVs l l'
  | _, _ => false
def eqVs : List SV → List SV → Bool
  | [], [] => true
  | a :: l, b :: l' => eqV a b && eqVs l l'
  | _, _ => false
end
def eqEs : List (SV × SV × Nat) → List (SV × SV × Nat) → Bool
  | [], [] => true
  | (a, b, n) :: l, (a', b', n') :: l' => eqV a a' && eqV b b' && Nat.beq n n' && eqEs l l'
  | _, _ => false
def eqO : SO → SO → Bool
  | .map es c, .map es' c' => Nat.beq c c' && eqEs es es'
  | .blk T l, .blk T' l' => T == T' && eqVs l l'
  | .rbk T l, .rbk T' l' => T == T' && eqVs l l'
  | .own T sz n l, .own T' sz' n' l' => T == T' && Nat.beq sz sz' && Nat.beq n n' && eqVs l l'
  | _, _ => false

/-- What was looked at by an operation taken early, which must stay till it must have come up: the operation's number, the place, and what stands there. -/
abbrev Lk := List (Nat × Nat × SO)
def stillS (ops : Array Oper) (i : Nat) (lk : Lk) (h : SHp) : Bool := lk.all fun p => waitsB ops i p.1 || (match h.lookup p.2.1 with
  | some o => eqO p.2.2 o
  | none => false)

/-- The first of these that may be taken early: one that looks at nothing ('b': or that looks). -/
def pick (E : Env) (b : Bool) (N : Nat) (ops : Array Oper) (listed : Array Bool) (s : St) : List Nat → Option (Nat × Oper × SV × Option (Nat × SO))
  | [] => none
  | i :: is => match ops[i]? with
    | none => none
    | some o => if dOk N o.dst && Region.free .any ops listed i then
        (match wantsS ops s.fr o.guard with
        | some false => some (i, o, .undef, none)
        | some true => match pureOp E.P E.G E.eqs s.fr o.op with
          | some v => some (i, o, v, none)
          | none => match b, lookOp E.P E.G E.chk s.fr s.h o.op with
            | true, some (v, p) => match s.h.lookup p with
              | some ob => if Nat.blt p s.nx && belO s.nx ob then some (i, o, v, some (p, ob)) else pick E b N ops listed s is
              | none => pick E b N ops listed s is
            | _, _ => pick E b N ops listed s is
        | none => none)
      else pick E b N ops listed s is

def stepAt (E : Env) (call : FuncId → List SV → SHp → Nat → Option (List Out)) (N : Nat) (ops : Array Oper) (lk : Lk) (s : St) (i : Nat) : Option (List St) := match ops[i]? with
  | none => none
  | some o => if dOk N o.dst then match wantsS ops s.fr o.guard with
    | some false => some [⟨putS s.fr o.dst .undef, s.h, s.nx⟩]
    | some true => match anyOp E call s.fr s.h s.nx o.op with
      | some outs => if outs.all (fun x => stillS ops i lk x.h) then some (outs.map fun x => ⟨putS s.fr o.dst x.v, x.h, x.nx⟩) else none
      | none => none
    | none => none
    else none

def simDraw (E : Env) (call : FuncId → List SV → SHp → Nat → Option (List Out)) (N : Nat) (ops : Array Oper) : Nat → Array Bool → Lk → St → Option (List St)
  | 0, listed, _, s => if (Region.ready .any ops listed).isEmpty then some [s] else none
  | n + 1, listed, lk, s => match Region.ready .any ops listed with
    | [] => some [s]
    | r :: rs => match pick E false N ops listed s (r :: rs) with
      | some (i, o, v, _) => simDraw E call N ops n (listed.setIfInBounds i true) lk ⟨putS s.fr o.dst v, s.h, s.nx⟩
      | none => match (if rs.isEmpty then none else pick E true N ops listed s (r :: rs)) with
        | some (i, o, v, p) => simDraw E call N ops n (listed.setIfInBounds i true) (match p with | some b => (i, b) :: lk | none => lk) ⟨putS s.fr o.dst v, s.h, s.nx⟩
        | none => bindAll (fun i => match stepAt E call N ops lk s i with
          | some ss => bindAll (simDraw E call N ops n (listed.setIfInBounds i true) (lk.filter fun p => !waitsB ops i p.1)) ss
          | none => none) (r :: rs)

inductive Ex where
  | normal
  | exit (id : Nat)
  | ret
structure CO where
  ex : Ex
  s : St

def outOf (id : Nat) (o : CO) : CO := match o.ex with
  | .exit id' => if Nat.beq id' id then ⟨.normal, o.s⟩ else o
  | _ => o

def simCode (E : Env) (call : FuncId → List SV → SHp → Nat → Option (List Out)) (N : Nat) : Nat → Code → St → Option (List CO)
  | 0, _, _ => none
  | n + 1, c, s => match c with
    | .skip => some [⟨.normal, s⟩]
    | .label _ => some [⟨.normal, s⟩]
    | .seq x y => match simCode E call N n x s with
      | some os => bindAll (fun o : CO => match o.ex with
        | .normal => simCode E call N n y o.s
        | _ => some [o]) os
      | none => none
    | .cond c x y => match evS E.G s.fr c with
      | some (.bool true) => simCode E call N n x s
      | some (.bool false) => simCode E call N n y s
      | _ => none
    | .block id c => (simCode E call N n c s).map (List.map (outOf id))
    | .loop c => match simCode E call N n c s with
      | some os => bindAll (fun o : CO => match o.ex with
        | .normal => simCode E call N n (.loop c) o.s
        | _ => some [o]) os
      | none => none
    | .exit id => some [⟨.exit id, s⟩]
    | .ret => some [⟨.ret, s⟩]
    | .scope c => simCode E call N n c s
    | .region _ ops false => (simOps E call N ops ops.toList s).map (List.map fun s => ⟨.normal, s⟩)
    | .region _ ops true => if Region.noSelect ops && noDefer ops then (simDraw E call N ops ops.size (Array.replicate ops.size false) [] s).map (List.map fun s => ⟨.normal, s⟩) else none
    | _ => none

def resL (P : Program) (fr : SFr) (h : SHp) : List ResultVar → Option (List SV)
  | [] => some []
  | .tmp t :: l => match fr.lookup t, resL P fr h l with
    | some v, some vs => some (v :: vs)
    | _, _ => none
  | .cell a t :: l => match fr.lookup a, resL P fr h l with
    | some (.ptr (some (b, o))), some vs => match h.lookup b with
      | some (.blk _ us) => match loadS P t us o with
        | some v => some (v :: vs)
        | none => none
      | _ => none
    | _, _ => none
def resS (P : Program) (fr : SFr) (h : SHp) (l : List ResultVar) : Option SV := match resL P fr h l with
  | some [v] => some v
  | some vs => some (.tup vs)
  | none => none

def simFn (E : Env) (ext : FuncId → List SV → SHp → Nat → Option (List Out)) (fuel : Nat) : Nat → FuncId → List SV → SHp → Nat → Option (List Out)
  | 0, _, _, _, _ => none
  | n + 1, f, args, h, nx => match ext f args h nx with
    | some r => some r
    | none => match E.P.funcs[f]? with
      | none => none
      | some fn => match fn.body with
        | none => none
        | some c => if Nat.ble args.length fn.ntmps then
            match simCode E (simFn E ext fuel n) fn.ntmps fuel c ⟨args.zipIdx.map fun p => (p.2, p.1), h, nx⟩ with
            | some os => bindAll (fun o : CO => match o.ex with
              | .exit _ => none
              | _ => match resS E.P o.s.fr o.s.h fn.results.toList with
                | some v => some [⟨v, o.s.h, o.s.nx⟩]
                | none => none) os
            | none => none
          else none
end Go.Proofs.YtaibgfnfmkpibaaGreatDoor.SL
