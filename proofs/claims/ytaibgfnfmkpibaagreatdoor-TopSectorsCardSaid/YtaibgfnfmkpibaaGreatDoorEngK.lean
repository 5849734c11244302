/- A run that is reckoned out: values whose places in memory are numbers of one's own; what each operation, each stretch of code, each call comes to. No program in sight. -/
import Derived.Test.YtaibgfnfmkpibaaGreatDoorEngJ
namespace Go.Proofs.YtaibgfnfmkpibaaGreatDoor.SL
open Go

/-- Values; a place in memory is a number of one's own. -/
inductive SV where
  | int (k : IntKind) (i : Int)
  | bool (b : Bool)
  | str (s : ByteArray)
  | ptr (a : Option (Nat × Nat))
  | nsl
  | nmap
  | nilf
  | vs (i : Nat)
  | elp (i k : Nat)
  | map (i : Nat)
  | func (f : Nat) (cap : List SV)
  | agg (l : List SV)
  | tup (l : List SV)
  | undef

inductive SO where
  | blk (T : TypeId) (vs : List SV)
  | rbk (T : TypeId) (vs : List SV)
  | own (T : TypeId) (sz n : Nat) (xs : List SV)
  | map (es : List (SV × SV × Nat)) (clk : Nat)
  | iter (m since : Nat) (seen : List Nat) (last : Nat)

abbrev SFr := List (Nat × SV)
abbrev SHp := List (Nat × SO)

/-- Where the numbers lie, and what the tables are. -/
structure Sg where
  val : Nat → Value
  obj : Nat → Obj
instance : CoeFun Sg (fun _ => Nat → Value) := ⟨Sg.val⟩

def bk : Value → Nat
  | .pointer (some a) => a.block
  | _ => 0

mutual
def toV (σ : Sg) : SV → Value
  | .int k i => .int k i
  | .bool b => .bool b
  | .str s => .string s
  | .ptr none => .pointer none
  | .ptr (some (b, o)) => .pointer (some ⟨bk (σ b), o, none⟩)
  | .nsl => .slice none 0 0
  | .nmap => .map none
  | .nilf => .nilFunc
  | .vs i => σ i
  | .elp i k => SL.elp (σ i) k
  | .map i => .map (some (bk (σ i)))
  | .func f cap => .func (.func f) #[] (toVs σ cap).toArray
  | .agg l => .agg (toVs σ l).toArray
  | .tup l => .tuple (toVs σ l).toArray
  | .undef => Go.undef
def toVs (σ : Sg) : List SV → List Value
  | [] => []
  | v :: l => toV σ v :: toVs σ l
end

/- All places in it are below. -/
mutual
def bel (n : Nat) : SV → Bool
  | .ptr (some (b, _)) => Nat.blt b n
  | .vs i => Nat.blt i n
  | .elp i _ => Nat.blt i n
  | .map i => Nat.blt i n
  | .func _ cap => bels n cap
  | .agg l => bels n l
  | .tup l => bels n l
  | _ => true
def bels (n : Nat) : List SV → Bool
  | [] => true
  | v :: l => bel n v && bels n l
end
def belF (n : Nat) (fr : SFr) : Bool := fr.all fun p => bel n p.2
def belO (n : Nat) : SO → Bool
  | .blk _ vs => bels n vs
  | .rbk _ vs => bels n vs
  | .own _ _ _ xs => bels n xs
  | .map es _ => es.all fun e => bel n e.1 && bel n e.2.1
  | .iter m _ _ _ => Nat.blt m n
def belH (n : Nat) (h : SHp) : Bool := h.all fun p => Nat.blt p.1 n && belO n p.2

/-- Of one cell. -/
def one : SV → Bool
  | .agg _ => false
  | .tup _ => false
  | .elp _ _ => false
  | .undef => false
  | _ => true
def cellsS : SV → Option (List SV)
  | .agg l => if l.all one then some l else none
  | v => if one v then some [v] else none

def ofV1 : Value → Option SV
  | .int k i => some (.int k i)
  | .bool b => some (.bool b)
  | .string s => some (.str s)
  | .pointer none => some (.ptr none)
  | .slice none 0 0 => some .nsl
  | .map none => some .nmap
  | .nilFunc => some .nilf
  | _ => none
def ofV : Value → Option SV
  | .agg cs => (cs.toList.mapM ofV1).map .agg
  | v => ofV1 v

def evS (G : Nat) (fr : SFr) : Operand → Option SV
  | .tmp t => fr.lookup t
  | .const v => ofV v
  | .global g => if Nat.blt g G then some (.ptr (some (g, 0))) else none
  | .func f => some (.func f [])
def evsS (G : Nat) (fr : SFr) : List Operand → Option (List SV)
  | [] => some []
  | x :: xs => match evS G fr x, evsS G fr xs with
    | some v, some vs => some (v :: vs)
    | _, _ => none

/-! ### Operations that look at nothing but the frame -/
def bin (op : BinOp) (k : IntKind) (i j : Int) : Option SV := match op with
  | .add => some (.int k (k.wrap (i + j)))
  | .sub => some (.int k (k.wrap (i - j)))
  | .mul => some (.int k (k.wrap (i * j)))
  | .quo => if j = 0 then none else some (.int k (k.wrap (i.tdiv j)))
  | .and => some (.int k (k.wrap ((BitVec.ofInt k.bits i &&& BitVec.ofInt k.bits j).toNat)))
  | .xor => some (.int k (k.wrap ((BitVec.ofInt k.bits i ^^^ BitVec.ofInt k.bits j).toNat)))
  | .lss => some (.bool (decide (i < j)))
  | .leq => some (.bool (decide (i ≤ j)))
  | .gtr => some (.bool (decide (j < i)))
  | .geq => some (.bool (decide (j ≤ i)))
  | .eql => some (.bool (decide (i = j)))
  | .neq => some (.bool (decide (i ≠ j)))
  | _ => none

/-- Is a pointer none? -/
def isNil (P : Program) (t : TypeId) (x y : SV) : Option Bool := match P.underlying t, x, y with
  | some (.pointer _), .ptr none, .ptr none => some true
  | some (.pointer _), .ptr (some _), .ptr none => some false
  | some (.slice _), .nsl, .nsl => some true
  | _, _, _ => none

def pBin (P : Program) (eqs : TypeId → SV → SV → Option Bool) (op : BinOp) (t : TypeId) (x y : Option SV) : Option SV := match x, y with
  | some (.int k i), some (.int k' j) => match op with
    | .shl => if 0 ≤ j then some (.int k (k.wrap (i * 2 ^ (min j.toNat k.bits)))) else none
    | .shr => if 0 ≤ j then some (.int k (i.fdiv (2 ^ (min j.toNat k.bits)))) else none
    | _ => if k = k' then bin op k i j else none
  | some (.agg a), some (.agg b) => match op with
    | .eql => (eqs t (.agg a) (.agg b)).map .bool
    | _ => none
  | some a, some b => match op with
    | .eql => (isNil P t a b).map .bool
    | .neq => (isNil P t a b).map fun c => .bool (!c)
    | _ => none
  | _, _ => none

def minS : SV → List SV → Option SV
  | v, [] => some v
  | .int k i, .int _ j :: l => minS (.int k (if j < i then j else i)) l
  | _, _ => none
def maxS : SV → List SV → Option SV
  | v, [] => some v
  | .int k i, .int _ j :: l => maxS (.int k (if i < j then j else i)) l
  | _, _ => none

def overS (vs : List SV) (o : Nat) (us : List SV) : List SV := vs.take o ++ us ++ vs.drop (o + us.length)
def layS (pl : List (Nat × Nat)) (zs : List SV) : List (Nat × List SV) → List SV
  | [] => zs
  | (i, us) :: rest => layS pl (overS zs ((pl[i]?.map (·.1)).getD 0) us) rest

def partsS (G : Nat) (fr : SFr) : List (Nat × Operand) → Option (List (Nat × SV × List SV))
  | [] => some []
  | (i, x) :: xs => match evS G fr x, partsS G fr xs with
    | some v, some vs => match cellsS v with
      | some us => some ((i, v, us) :: vs)
      | none => none
    | _, _ => none

def allSome {α : Type} : List (Option α) → Option (List α)
  | [] => some []
  | some a :: l => match allSome l with | some r => some (a :: r) | none => none
  | none :: _ => none

def zeroS (P : Program) (t : TypeId) : Option SV := match P.info? t with
  | some i => match i.zero with
    | some z => ofV z
    | none => none
  | none => none

def pureOp (P : Program) (G : Nat) (eqs : TypeId → SV → SV → Option Bool) (fr : SFr) : Op → Option SV
  | .move x => evS G fr x
  | .assign x => evS G fr x
  | .pick c a b => match evS G fr c with
    | some (.bool true) => evS G fr a
    | some (.bool false) => evS G fr b
    | _ => none
  | .nilCheck x => match evS G fr x with
    | some (.ptr (some a)) => some (.ptr (some a))
    | some (.func f c) => some (.func f c)
    | _ => none
  | .fieldAddr s x i => match evS G fr x with
    | some (.ptr (some (b, o))) => match flB P s i with
      | some (off, _, false) => some (.ptr (some (b, o + off)))
      | _ => none
    | _ => none
  | .indexAddr t x ix => match evS G fr x, evS G fr ix, P.underlying t with
    | some (.ptr (some (b, o))), some (.int _ i), some (.array len e) => match P.info? e with
      | some info => if 0 ≤ i ∧ i < len then some (.ptr (some (b, o + i.toNat * info.size))) else none
      | none => none
    | _, _, _ => none
  | .index t x ix => match evS G fr x, evS G fr ix, P.underlying t with
    | some (.str s), some (.int _ i), some .string => if 0 ≤ i then (s.data.toList[i.toNat]?).map fun c => .int .u8 c.toNat else none
    | _, _, _ => none
  | .extract x i => match evS G fr x with
    | some (.tup l) => l[i]?
    | _ => none
  | .convert src t x => match evS G fr x, P.underlying src, P.underlying t with
    | some (.int _ i), some _, some (.int k') => some (.int k' (k'.wrap i))
    | _, _, _ => none
  | .makeFunc (.func f) first xs => if first.size = 0 then (evsS G fr xs.toList).map (.func f) else none
  | .binOp op t x y _ => pBin P eqs op t (evS G fr x) (evS G fr y)
  | .unOp .not _ x => match evS G fr x with
    | some (.bool c) => some (.bool (!c))
    | _ => none
  | .build t xs => match zeroS P t, blB P t, partsS G fr xs.toList with
    | some z, some opl, some ps => match cellsS z, allSome opl with
      | some zs, some pl => if layOk pl zs.length (ps.map fun p => (p.1, p.2.2.length)) then some (.agg (layS pl zs (ps.map fun p => (p.1, p.2.2)))) else none
      | _, _ => none
    | _, _, _ => none
  | .call ⟨.builtin .min, xs, _⟩ => match evsS G fr xs.toList with
    | some (v :: l) => minS v l
    | _ => none
  | .call ⟨.builtin .max, xs, _⟩ => match evsS G fr xs.toList with
    | some (v :: l) => maxS v l
    | _ => none
  | .call ⟨.builtin .len, xs, ats⟩ => match xs.toList, ats.toList with
    | [x], [a] => match evS G fr x, P.underlying a with
      | some .nsl, some (.slice _) => some (.int .i64 0)
      | _, _ => none
    | _, _ => none
  | _ => none

/-! ### Operations that look at one place -/
def find1 (k : IntKind) (i : Int) : List (SV × SV × Nat) → Nat → Option (Option (Nat × SV))
  | [], _ => some none
  | (.int k' j, v, _) :: es, n => if k = k' then (if i = j then some (some (n, v)) else find1 k i es (n + 1)) else none
  | _, _ => none
def findS (P : Program) (chk : TypeId → SV → Bool) (kt : TypeId) (key : SV) (es : List (SV × SV × Nat)) : Option (Option (Nat × SV)) := match P.underlying kt, key with
  | some (.int _), .int k i => find1 k i es 0
  | some _, k => if chk kt k && es.isEmpty then some none else none
  | none, _ => none

def gotS (ok : Bool) (z : SV) : Option (Nat × SV) → SV
  | some (_, v) => if ok then .tup [v, .bool true] else v
  | none => if ok then .tup [z, .bool false] else z

def loadS (P : Program) (t : TypeId) (vs : List SV) (o : Nat) : Option SV := match kindB P t with
  | some (false, 1) => vs[o]?
  | some (true, m) => if Nat.beq ((vs.drop o).take m).length m && !Nat.beq m 0 then some (.agg ((vs.drop o).take m)) else none
  | _ => none

def lookOp (P : Program) (G : Nat) (chk : TypeId → SV → Bool) (fr : SFr) (h : SHp) : Op → Option (SV × Nat)
  | .load t x => match evS G fr x with
    | some (.ptr (some (b, o))) => match h.lookup b with
      | some (.blk _ vs) => (loadS P t vs o).map fun v => (v, b)
      | some (.rbk _ vs) => match kindB P t with
        | some (false, 1) => (vs[o]?).map fun v => (v, b)
        | _ => none
      | _ => none
    | some (.elp i k) => match h.lookup i with
      | some (.own _ _ _ xs) => (loadS P t xs k).map fun v => (v, i)
      | _ => none
    | _ => none
  | .nilCheck x => match evS G fr x with
    | some (.elp i k) => match h.lookup i with
      | some (.own _ _ _ xs) => if Nat.blt k xs.length then some (.elp i k, i) else none
      | _ => none
    | _ => none
  | .fieldAddr s x i => match evS G fr x with
    | some (.elp b k) => match h.lookup b, flB P s i with
      | some (.own _ _ _ xs), some (off, _, false) => if Nat.blt k xs.length then some (.elp b (k + off), b) else none
      | _, _ => none
    | _ => none
  | .indexAddr t x ix => match evS G fr x, evS G fr ix, P.underlying t with
    | some (.vs b), some (.int _ i), some (.slice e) => match h.lookup b, P.info? e with
      | some (.own _ sz n _), some info => if info.size = sz ∧ 0 ≤ i ∧ i < n then some (.elp b (i.toNat * sz), b) else none
      | _, _ => none
    | _, _, _ => none
  | .lookup t x ix ok => match evS G fr x, evS G fr ix, P.underlying t with
    | some (.map b), some k, some (.map kt el) => match h.lookup b, zeroS P el with
      | some (.map es _), some z => (findS P chk kt k es).map fun f => (gotS ok z f, b)
      | _, _ => none
    | _, _, _ => none
  | .call ⟨.builtin .len, xs, ats⟩ => match xs.toList, ats.toList with
    | [x], [a] => match evS G fr x, P.underlying a with
      | some (.vs b), some (.slice _) => match h.lookup b with
        | some (.own _ _ n _) => some (.int .i64 n, b)
        | _ => none
      | some (.map b), some (.map _ _) => match h.lookup b with
        | some (.map es _) => some (.int .i64 es.length, b)
        | _ => none
      | _, _ => none
    | _, _ => none
  | .slice t x lo hi none => match evS G fr x, P.underlying t with
    | some (.vs b), some (.slice e) => match h.lookup b, P.info? e with
      | some (.own _ sz n _), some info => if info.size = sz ∧ (match lo with | none => true | some l => match evS G fr l with | some (.int _ 0) => true | _ => false) = true ∧ (match hi with | none => true | some u => match evS G fr u with | some (.int _ j) => decide (j = (n : Int)) | _ => false) = true then some (.vs b, b) else none
      | _, _ => none
    | _, _ => none
  | .binOp op t x y _ => match evS G fr x, evS G fr y, P.underlying t with
    | some (.vs b), some .nsl, some (.slice _) => match h.lookup b with
      | some (.own _ _ _ xs) => if xs.isEmpty then none else match op with
        | .eql => some (.bool false, b)
        | .neq => some (.bool true, b)
        | _ => none
      | _ => none
    | some (.elp b k), some (.ptr none), some (.pointer _) => match h.lookup b with
      | some (.own _ _ _ xs) => if Nat.blt k xs.length then match op with
        | .eql => some (.bool false, b)
        | .neq => some (.bool true, b)
        | _ => none
        else none
      | _ => none
    | _, _, _ => none
  | _ => none

/-! ### Operations that write, make, call -/
structure Out where
  v : SV
  h : SHp
  nx : Nat

def dropH (i : Nat) : SHp → SHp
  | [] => []
  | p :: h => if Nat.beq p.1 i then h else p :: dropH i h

def storeS (P : Program) (t : TypeId) (vs : List SV) (o : Nat) (y : SV) : Option (List SV) := match kindB P t, y with
  | some (true, m), .agg us => if us.all one && Nat.beq us.length m && Nat.ble (o + us.length) vs.length then some (overS vs o us) else none
  | some (false, 1), y => if one y && Nat.blt o vs.length then some (vs.set o y) else none
  | _, _ => none

def delS (es : List (SV × SV × Nat)) (clk : Nat) : Option (Nat × SV) → SO
  | some (i, _) => .map (es.eraseIdx i) clk
  | none => .map es clk
def leftS (es : List (SV × SV × Nat)) (seen : List Nat) : List (SV × SV × Nat) := es.filter fun e => !seen.contains e.2.2

/-- New, if all else is below. -/
def fresh (fr : SFr) (h : SHp) (nx : Nat) (o : SO) (v : SV) : Option (List Out) :=
  if belF nx fr && belH nx h then some [⟨v, (nx, o) :: h, nx + 1⟩] else none

def stepOp (P : Program) (G : Nat) (chk : TypeId → SV → Bool) (call : FuncId → List SV → SHp → Nat → Option (List Out)) (fr : SFr) (h : SHp) (nx : Nat) : Op → Option (List Out)
  | .alloc t => match zeroS P t with
    | some z => match cellsS z with
      | some zs => fresh fr h nx (.blk t zs) (.ptr (some (nx, 0)))
      | none => none
    | none => none
  | .box t x => match evS G fr x with
    | some v => match cellsS v with
      | some zs => if bels nx zs then fresh fr h nx (.blk t zs) (.ptr (some (nx, 0))) else none
      | none => none
    | none => none
  | .makeMap _ none => fresh fr h nx (.map [] 0) (.map nx)
  | .buildSlice t len xs => match P.underlying t, partsS G fr xs.toList with
    | some (.slice e), some ps => match P.info? e, zeroS P e with
      | some info, some z => match cellsS z with
        | some zs => if zs.length = info.size ∧ ps.map (·.1) = List.range len ∧ ps.map (fun p => p.2.2.length) = List.replicate len info.size ∧ len * info.size ≤ 16777216 ∧ bels nx (ps.flatMap (·.2.2)) = true
          then fresh fr h nx (.own e info.size len (ps.flatMap (·.2.2))) (.vs nx) else none
        | none => none
      | _, _ => none
    | _, _ => none
  | .store t x y => match evS G fr x, evS G fr y with
    | some (.ptr (some (b, o))), some v => match h.lookup b with
      | some (.blk T vs) => match storeS P t vs o v with
        | some vs' => some [⟨.undef, (b, .blk T vs') :: dropH b h, nx⟩]
        | none => none
      | _ => none
    | some (.elp b k), some v => match h.lookup b, kindB P t with
      | some (.own T sz n xs), some (false, 1) => if one v && Nat.blt k xs.length then some [⟨.undef, (b, .own T sz n (xs.set k v)) :: dropH b h, nx⟩] else none
      | _, _ => none
    | _, _ => none
  | .mapUpdate t m ix y => match evS G fr m, evS G fr ix, evS G fr y, P.underlying t with
    | some (.map b), some k, some x, some (.map kt _) => match h.lookup b with
      | some (.map es clk) => match findS P chk kt k es with
        | some none => some [⟨.undef, (b, .map (es ++ [(k, x, clk)]) (clk + 1)) :: dropH b h, nx⟩]
        | _ => none
      | _ => none
    | _, _, _, _ => none
  | .call ⟨.builtin .delete, xs, ats⟩ => match xs.toList, ats.toList with
    | [m, ix], [t, _] => match evS G fr m, evS G fr ix, P.underlying t with
      | some (.map b), some k, some (.map kt _) => match h.lookup b with
        | some (.map es clk) => match findS P chk kt k es with
          | some f => some [⟨.tup [], (b, delS es clk f) :: dropH b h, nx⟩]
          | none => none
        | _ => none
      | _, _, _ => none
    | _, _ => none
  | .call ⟨.builtin .append, xs, ats⟩ => match xs.toList, ats.toList with
    | [x, y], [t, xt] => match evS G fr x, evS G fr y, P.underlying t, P.underlying xt with
      | some vx, some (.vs j), some (.slice e), some (.slice _) => match P.info? e, zeroS P e, h.lookup j with
        | some info, some z, some (.own _ sz' m ys) => match cellsS z with
          | some zs => if zs.length = info.size ∧ sz' = info.size then
            match vx with
            | .nsl => if belF nx fr && belH nx h && Nat.ble (m * info.bytes) 140737488355328 && Nat.ble m 140737488355328 then some [⟨.vs nx, (nx, .own e info.size m ys) :: h, nx + 1⟩] else none
            | .vs i => match h.lookup i with
              | some (.own T sz n xs) => if T = e ∧ sz = info.size ∧ i ≠ j ∧ (belF nx fr && belH nx h && Nat.ble ((n + m) * info.bytes) 140737488355328 && Nat.ble (n + m) 140737488355328) = true
                then some [⟨.vs nx, (nx, .own e info.size (n + m) (xs ++ ys)) :: dropH i h, nx + 1⟩] else none
              | _ => none
            | _ => none
            else none
          | none => none
        | _, _, _ => none
      | _, _, _, _ => none
    | _, _ => none
  | .range t x => match evS G fr x, P.underlying t with
    | some (.map b), some (.map _ _) => match h.lookup b with
      | some (.map _ clk) => if Nat.blt b nx then fresh fr h nx (.iter b clk [] clk) (.ptr (some (nx, 0))) else none
      | _ => none
    | _, _ => none
  | .next x false => match evS G fr x with
    | some (.ptr (some (b, 0))) => match h.lookup b with
      | some (.iter m since seen last) => match h.lookup m with
        | some (.map es clk) => if es.all (fun e => Nat.blt e.2.2 since && Nat.blt e.2.2 last) && !Nat.beq b m then
          (if (leftS es seen).isEmpty then some [⟨.tup [.bool false], h, nx⟩]
           else some ((leftS es seen).map fun e => ⟨.tup [.bool true, e.1, e.2.1], (b, .iter m since (seen ++ [e.2.2]) clk) :: dropH b h, nx⟩))
          else none
        | _ => none
      | _ => none
    | _ => none
  | .entry x => match evS G fr x with
    | some (.ptr (some (b, 0))) => match h.lookup b with
      | some (.iter m since seen last) => match h.lookup m, seen.getLast? with
        | some (.map es clk), some s => if Nat.beq clk last && !Nat.beq b m then
          match es.find? (fun e => Nat.beq e.2.2 s) with
          | some e => some [⟨.tup [e.1, e.2.1], h, nx⟩]
          | none => none
          else none
        | _, _ => none
      | _ => none
    | _ => none
  | .call ⟨.value (.func f), xs, _⟩ => match evsS G fr xs.toList with
    | some vs => if belF nx fr then call f vs h nx else none
    | none => none
  | .call ⟨.value (.tmp t), xs, _⟩ => match fr.lookup t, evsS G fr xs.toList with
    | some (.func f cap), some vs => if belF nx fr then call f (vs ++ cap) h nx else none
    | _, _ => none
  | _ => none

/-! ### Regions -/
structure St where
  fr : SFr
  h : SHp
  nx : Nat

def bindAll {α β : Type} (f : α → Option (List β)) : List α → Option (List β)
  | [] => some []
  | a :: l => match f a, bindAll f l with
    | some x, some y => some (x ++ y)
    | _, _ => none

def putS (fr : SFr) : Option Nat → SV → SFr
  | some d, v => (d, v) :: fr
  | none, _ => fr

/-- Is an operation carried out? -/
def wantsS (ops : Array Oper) (fr : SFr) : Option (Nat × Bool) → Option Bool
  | none => some true
  | some (j, want) => match dstOf ops j with
    | some t => match fr.lookup t with
      | some (.bool c) => some (c == want)
      | _ => none
    | none => none

structure Env where
  P : Program
  G : Nat
  eqs : TypeId → SV → SV → Option Bool
  chk : TypeId → SV → Bool

/-- One operation, of any kind. -/
def anyOp (E : Env) (call : FuncId → List SV → SHp → Nat → Option (List Out)) (fr : SFr) (h : SHp) (nx : Nat) (op : Op) : Option (List Out) :=
  match pureOp E.P E.G E.eqs fr op with
  | some v => some [⟨v, h, nx⟩]
  | none => match lookOp E.P E.G E.chk fr h op with
    | some (v, _) => some [⟨v, h, nx⟩]
    | none => stepOp E.P E.G E.chk call fr h nx op

def dOk (N : Nat) : Option Nat → Bool
  | some d => Nat.blt d N
  | none => true

def simOps (E : Env) (call : FuncId → List SV → SHp → Nat → Option (List Out)) (N : Nat) (ops : Array Oper) : List Oper → St → Option (List St)
  | [], s => some [s]
  | o :: rest, s => if dOk N o.dst then match wantsS ops s.fr o.guard with
    | some true => match anyOp E call s.fr s.h s.nx o.op with
      | some outs => bindAll (fun x => simOps E call N ops rest ⟨putS s.fr o.dst x.v, x.h, x.nx⟩) outs
      | none => none
    | some false => simOps E call N ops rest ⟨putS s.fr o.dst .undef, s.h, s.nx⟩
    | none => none
    else none

end Go.Proofs.YtaibgfnfmkpibaaGreatDoor.SL
