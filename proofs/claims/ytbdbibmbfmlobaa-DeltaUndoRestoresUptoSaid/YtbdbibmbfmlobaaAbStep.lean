/- The evaluator of operations on abstract values: what an operation yields, what it writes, and under which condition. -/
import Derived.Test.YtbdbibmbfmlobaaAbBase
set_option linter.unusedVariables false
namespace Go.Ab

/-! ### Types -/
def tsz (P : Program) (t : TypeId) : Option Nat := (P.info? t).map (·.size)
def tby (P : Program) (t : TypeId) : Option Nat := (P.info? t).map (·.bytes)
def tagg (P : Program) (t : TypeId) : Option Bool :=
  match P.underlying t with
  | some (.struct _) => some true
  | some (.array _ _) => some true
  | some _ => some false
  | none => none
def tfield (P : Program) (s : TypeId) (i : Nat) : Option Field :=
  match P.underlying s with
  | some (.struct fs) => fs[i]?
  | _ => none
def telem (P : Program) (t : TypeId) : Option TypeId :=
  match P.underlying t with
  | some (.slice e) => some e
  | _ => none
def tarr (P : Program) (t : TypeId) : Option (Nat × TypeId) :=
  match P.underlying t with
  | some (.array n e) => some (n, e)
  | _ => none
def tzero (P : Program) (t : TypeId) : Option Value := (P.info? t).bind (·.zero)
def vcells (v : Value) : Option (List Tree) :=
  let l := v.cells.toList
  if l.all Value.oneCell' then some (l.map .sc) else none
def tzeros (P : Program) (t : TypeId) : Option (List Tree) := (tzero P t).bind vcells

/-! ### Values -/
def get : List (Nat × AVal) → Nat → AVal
  | [], _ => .junk
  | (i, v) :: l, t => bif Nat.beq i t then v else get l t
def cellsV : AVal → List AVal
  | .agg cs => cs
  | .t (.agg cs) => cs.map .t
  | v => [v]
def isCellV : AVal → Bool
  | .t T => T.isCell
  | .row _ _ => true
  | .ptr _ _ => true
  | .eptr _ _ _ _ => true
  | .cptr _ => true
  | .fn _ _ => true
  | _ => false
def allT : List AVal → Option (List Tree)
  | [] => some []
  | .t T :: l => (allT l).map (T :: ·)
  | _ :: _ => none
def aggV (cs : List AVal) : AVal :=
  match allT cs with
  | some Ts => .t (.agg Ts)
  | none => .agg cs
def mkV (ag : Bool) (cs : List AVal) : Option AVal :=
  match ag, cs with
  | true, cs => some (aggV cs)
  | false, [v] => some v
  | false, _ => none
def mkT (ag : Bool) (cs : List Tree) : Option Tree :=
  match ag, cs with
  | true, cs => some (.agg cs)
  | false, [v] => some v
  | false, _ => none
def part {α : Type} (l : List α) (off n : Nat) : Option (List α) :=
  let r := (l.drop off).take n
  bif Nat.beq r.length n then some r else none
def setRange {α : Type} (l : List α) (off : Nat) (new : List α) : Option (List α) :=
  bif Nat.ble (off + new.length) l.length then some (l.take off ++ new ++ l.drop (off + new.length)) else none
def upd (st : Store) (i : Nat) (o : Ob) : Store := fun j => bif Nat.beq j i then some o else st j
def app (st : Store) : List (Nat × Ob) → Store
  | [] => st
  | (i, o) :: l => app (upd st i o) l
def emp : Store := fun _ => none
def hasId : List Nat → Nat → Bool
  | [], _ => false
  | i :: l, j => bif Nat.beq i j then true else hasId l j
def only (st : Store) (l : List Nat) : Store := fun id => bif hasId l id then st id else none

mutual
def idsV : AVal → List Nat
  | .t _ => []
  | .row id _ => [id]
  | .ptr id _ => [id]
  | .eptr id _ _ _ => [id]
  | .cptr _ => []
  | .agg cs => idsL cs
  | .fn _ cap => idsL cap
  | .tup vs => idsL vs
  | .cond _ v => idsV v
  | .junk => []
def idsL : List AVal → List Nat
  | [] => []
  | v :: l => idsV v ++ idsL l
end

/-- A value without a place in memory. -/
def Tree.free : Tree → Bool
  | .sc _ => true
  | .agg cs => cs.all fun T => match T with | .sc _ => true | _ => false
  | .lst _ _ => false
def memfree : AVal → Bool
  | .t T => T.free
  | .tup vs => vs.all fun v => match v with | .t T => T.free | _ => false
  | _ => false

/-- A snapshot of a value: owned slices become immutable lists; with them the rows that were read, and the condition. -/
def snap1 (st : Store) : AVal → Option (AVal × List (Nat × Ob) × List Prop)
  | .row id n => match st id with
    | some (.row k fz xs) => some (.t (.lst k xs), (bif fz then [] else [(id, .row k true xs)]), [n = xs.length])
    | _ => none
  | v => some (v, [], [])
def snapL (st : Store) : List AVal → Option (List AVal × List (Nat × Ob) × List Prop)
  | [] => some ([], [], [])
  | v :: l => match snap1 st v, snapL st l with
    | some (v', f, c), some (l', g, d) => some (v' :: l', f ++ g, c ++ d)
    | _, _ => none
def snap (st : Store) : AVal → Option (AVal × List (Nat × Ob) × List Prop)
  | .agg cs => (snapL st cs).map fun (cs, f, c) => (aggV cs, f, c)
  | v => snap1 st v
def snaps (st : Store) : List AVal → Option (List AVal × List (Nat × Ob) × List Prop)
  | [] => some ([], [], [])
  | v :: l => match snap st v, snaps st l with
    | some (v', f, c), some (l', g, d) => some (v' :: l', f ++ g, c ++ d)
    | _, _ => none

/-! ### What an operation does -/
structure Dl where
  val : AVal
  wr : List (Nat × Ob)
  cnd : List Prop
structure CallOrc where
  mode : Nat
  need : List Nat
  res : AVal
  wr : List (Nat × Ob)
/-- What the prover says ahead: another form of the value, of what is written, of the element that is met; the callee's answer. -/
structure Orc where
  val : Option AVal
  wr : Option (List (Nat × Ob))
  elt : Option Tree
  call : Option CallOrc
def Orc.no : Orc := ⟨none, none, none, none⟩

abbrev Eval := Operand → AVal
def pure1 (v : AVal) (c : List Prop) : Option Dl := some ⟨v, [], c⟩
def eltOf (c : Orc) (xs : List Tree) (i : Nat) : Tree := match c.elt with | some X => X | none => xs.getD i default

def fillV (place : Nat → Option (Nat × Nat)) (cells : List AVal) : List (Nat × AVal) → Option (List AVal)
  | [] => some cells
  | (i, v) :: rest =>
    match place i with
    | none => none
    | some (off, size) =>
      let cs := cellsV v
      bif Nat.beq cs.length size then
        match setRange cells off cs with
        | some cells => fillV place cells rest
        | none => none
      else none
def structPlaces (P : Program) (fs : List Field) : Option (List (Nat × Nat)) := fs.mapM (fun f => (P.info? f.type).map fun i => (f.offset, i.size))
def placeOf (P : Program) (t : TypeId) : Option (Nat → Option (Nat × Nat)) :=
  match P.underlying t with
  | some (.struct fs) => (structPlaces P fs.toList).map fun ps i => ps[i]?
  | some (.array _ e) => (tsz P e).map fun s i => some (i * s, s)
  | _ => none
def group (ag : Bool) (k : Nat) : Nat → List Tree → Option (List Tree)
  | 0, [] => some []
  | 0, _ :: _ => none
  | n + 1, l =>
    match mkT ag (l.take k), group ag k n (l.drop k) with
    | some x, some r => bif Nat.beq (l.take k).length k then some (x :: r) else none
    | _, _ => none
def repl {α : Type} (l : List α) : Nat → List α
  | 0 => []
  | n + 1 => l ++ repl l n

def boolV : AVal → Option Bool
  | .t (.sc (.bool b)) => some b
  | _ => none
def intV : AVal → Option (IntKind × Int)
  | .t (.sc (.int k n)) => some (k, n)
  | _ => none

def binA (op : BinOp) (k : IntKind) (a b : Int) : Option Dl :=
  match op with
  | .add => pure1 (.t (.sc (.int k (k.wrap (a + b))))) []
  | .sub => pure1 (.t (.sc (.int k (k.wrap (a - b))))) []
  | .mul => pure1 (.t (.sc (.int k (k.wrap (a * b))))) []
  | .quo => pure1 (.t (.sc (.int k (k.wrap (a.tdiv b))))) [b ≠ 0]
  | .rem => pure1 (.t (.sc (.int k (a.tmod b)))) [b ≠ 0]
  | .eql => pure1 (.t (.sc (.bool (a == b)))) []
  | .neq => pure1 (.t (.sc (.bool (a != b)))) []
  | .lss => pure1 (.t (.sc (.bool (decide (a < b))))) []
  | .leq => pure1 (.t (.sc (.bool (decide (a ≤ b))))) []
  | .gtr => pure1 (.t (.sc (.bool (decide (a > b))))) []
  | .geq => pure1 (.t (.sc (.bool (decide (a ≥ b))))) []
  | _ => none
def binS (op : BinOp) (x y : ByteArray) : Option Dl :=
  let eq := x.toList == y.toList
  let lt := Op.bytesLess x.toList y.toList
  match op with
  | .add => pure1 (.t (.sc (.string (x ++ y)))) [((x.size + y.size : Nat) : Int) ≤ IntKind.i64.max]
  | .eql => pure1 (.t (.sc (.bool eq))) []
  | .neq => pure1 (.t (.sc (.bool !eq))) []
  | .lss => pure1 (.t (.sc (.bool lt))) []
  | .leq => pure1 (.t (.sc (.bool (lt || eq)))) []
  | .gtr => pure1 (.t (.sc (.bool !(lt || eq)))) []
  | .geq => pure1 (.t (.sc (.bool !lt))) []
  | _ => none
/-- Equality of two cells of plain types. -/
def eqC (d : Option TypeDesc) : Tree → Tree → Option Bool
  | .sc (.int k a), .sc (.int k' b) => match d with
    | some (.int _) => if k = k' then some (a == b) else none
    | _ => none
  | .sc (.string a), .sc (.string b) => match d with
    | some .string => some (a.toList == b.toList)
    | _ => none
  | .sc (.bool a), .sc (.bool b) => match d with
    | some .bool => some (a == b)
    | _ => none
  | _, _ => none
def eqL (P : Program) : Nat → List Field → List Tree → List Tree → Option Bool
  | _, [], [], [] => some true
  | i, f :: fs, a :: l, b :: r =>
    bif Nat.beq f.offset i && f.name != "_" then
      match eqC (P.underlying f.type) a b, eqL P (i + 1) fs l r with
      | some x, some y => some (x && y)
      | _, _ => none
    else none
  | _, _, _, _ => none
/-- Structs of plain one-cell fields. -/
def structEq (P : Program) (t : TypeId) (a b : List Tree) : Option Bool :=
  match P.underlying t with
  | some (.struct fs) => bif !P.stoodInHeld t && !P.eqGuardType P.depth t then eqL P 0 fs.toList a b else none
  | _ => none
def binK (P : Program) (op : BinOp) (t : TypeId) (x y : AVal) : Option Dl :=
  match x, y with
  | .t (.sc (.int k a)), .t (.sc (.int k' b)) => if k = k' then binA op k a b else none
  | .t (.sc (.string a)), .t (.sc (.string b)) => binS op a b
  | .t (.sc (.bool a)), .t (.sc (.bool b)) =>
    match P.underlying t, op with
    | some .bool, .eql => pure1 (.t (.sc (.bool (a == b)))) []
    | some .bool, .neq => pure1 (.t (.sc (.bool (!(a == b))))) []
    | _, _ => none
  | .t (.agg a), .t (.agg b) =>
    match op, structEq P t a b with
    | .eql, some r => pure1 (.t (.sc (.bool r))) []
    | .neq, some r => pure1 (.t (.sc (.bool (!r)))) []
    | _, _ => none
  | _, _ => none

def unK (op : UnOp) (x : AVal) : Option Dl :=
  match op, x with
  | .not, .t (.sc (.bool b)) => pure1 (.t (.sc (.bool (!b)))) []
  | .neg, .t (.sc (.int k n)) => pure1 (.t (.sc (.int k (k.wrap (0 - n))))) []
  | _, _ => none

def convK (P : Program) (src dst : TypeId) (x : AVal) : Option Dl :=
  match P.underlying src, P.underlying dst, x with
  | some _, some (.int k), .t (.sc (.int _ n)) => pure1 (.t (.sc (.int k (k.wrap n)))) []
  | some .string, some .string, .t (.sc (.string s)) => pure1 (.t (.sc (.string s))) []
  | _, _, _ => none

def loadK (P : Program) (t : TypeId) (a : AVal) (st : Store) (c : Orc) : Option Dl :=
  match tsz P t, tagg P t, a with
  | some sz, some ag, .ptr id off => match st id with
    | some (.box cs) => ((part cs off sz).bind (mkV ag)).bind (pure1 · [])
    | _ => none
  | some sz, some ag, .cptr cs => ((part cs off0 sz).bind (mkT ag)).bind fun T => pure1 (.t T) []
  | some sz, some ag, .eptr id n i sub => match st id with
    | some (.row k fz xs) =>
      let X := eltOf c xs i
      ((part X.cells sub sz).bind (mkT ag)).bind fun T => pure1 (.t T) [n = xs.length, xs[i]? = some X]
    | _ => none
  | _, _, _ => none
where off0 := 0

def setCells (X : Tree) (sub : Nat) (new : List Tree) : Option Tree :=
  match X with
  | .agg cs => (setRange cs sub new).map .agg
  | _ => match new with
    | [T] => bif Nat.beq sub 0 then some T else none
    | _ => none
def storeK (P : Program) (t : TypeId) (a v : AVal) (st : Store) (c : Orc) : Option Dl :=
  match tsz P t, a with
  | some sz, .ptr id off => match st id with
    | some (.box cs) =>
      let new := cellsV v
      bif Nat.beq new.length sz && new.all isCellV then (setRange cs off new).bind fun cs' => some ⟨.junk, [(id, .box cs')], []⟩ else none
    | _ => none
  | some sz, .eptr id n i sub => match st id with
    | some (.row k false xs) =>
      let X := eltOf c xs i
      match snap st v with
      | some (v', f, p) =>
        (allT (cellsV v')).bind fun new =>
        bif Nat.beq new.length sz && new.all Tree.isCell && !(hasId (f.map (·.1)) id) then
          (setCells X sub new).bind fun X' => some ⟨.junk, f ++ [(id, .row k false (xs.set i X'))], p ++ [n = xs.length, xs[i]? = some X]⟩
        else none
      | none => none
    | _ => none
  | _, _ => none

def fieldAddrK (P : Program) (s : TypeId) (a : AVal) (i : Nat) : Option Dl :=
  (tfield P s i).bind fun f => (tsz P f.type).bind fun z =>
  bif Nat.beq z 0 then none else
  match a with
  | .ptr id off => pure1 (.ptr id (off + f.offset)) []
  | .eptr id n j sub => pure1 (.eptr id n j (sub + f.offset)) []
  | .cptr cs => bif Nat.ble f.offset cs.length then pure1 (.cptr (cs.drop f.offset)) [] else none
  | _ => none
def fieldK (P : Program) (s : TypeId) (x : AVal) (i : Nat) : Option Dl :=
  (tfield P s i).bind fun f => (tsz P f.type).bind fun z => (tagg P f.type).bind fun ag =>
  match x with
  | .agg cs => ((part cs f.offset z).bind (mkV ag)).bind (pure1 · [])
  | .t (.agg cs) => ((part cs f.offset z).bind (mkT ag)).bind fun T => pure1 (.t T) []
  | _ => none

def szIs (P : Program) (e : TypeId) (k : Nat) : Bool := match tsz P e with | some z => Nat.beq z k | none => false
def indexAddrK (P : Program) (t : TypeId) (x i : AVal) (st : Store) (c : Orc) : Option Dl :=
  match P.underlying t, x, i with
  | some (.slice e), .t (.lst k xs), .t (.sc (.int _ j)) =>
    let X := eltOf c xs j.toNat
    bif szIs P e k then pure1 (.cptr X.cells) [0 ≤ j, xs[j.toNat]? = some X] else none
  | some (.slice e), .row id n, .t (.sc (.int _ j)) => match st id with
    | some (.row k fz xs) =>
      bif szIs P e k then pure1 (.eptr id n j.toNat 0) [n = xs.length, 0 ≤ j, j < (n : Int)] else none
    | _ => none
  | some (.array len e), .ptr id off, .t (.sc (.int _ j)) =>
    (tsz P e).bind fun z => pure1 (.ptr id (off + j.toNat * z)) [0 ≤ j, j < (len : Int)]
  | _, _, _ => none
def indexK (P : Program) (t : TypeId) (x i : AVal) : Option Dl :=
  match P.underlying t, x, i with
  | some .string, .t (.sc (.string s)), .t (.sc (.int _ j)) => pure1 (.t (.sc (.int .u8 ((s[j.toNat]?).getD 0).toNat))) [0 ≤ j, j < (s.size : Int)]
  | _, _, _ => none

def sliceT (k : Nat) (xs : List Tree) (lo hi : Option Int) : Tree :=
  match lo, hi with
  | none, none => .lst k xs
  | some l, none => .lst k (xs.drop l.toNat)
  | none, some h => .lst k (xs.take h.toNat)
  | some l, some h => .lst k ((xs.take h.toNat).drop l.toNat)
def sliceC (n : Nat) (lo hi : Option Int) : List Prop :=
  match lo, hi with
  | none, none => []
  | some l, none => [0 ≤ l, l ≤ (n : Int)]
  | none, some h => [0 ≤ h, h ≤ (n : Int)]
  | some l, some h => [0 ≤ l, l ≤ h, h ≤ (n : Int)]
def obnd (o : Option AVal) : Option (Option Int) :=
  match o with
  | none => some none
  | some (.t (.sc (.int _ j))) => some (some j)
  | some _ => none
def sliceK (P : Program) (t : TypeId) (x : AVal) (lo hi mx : Option AVal) (st : Store) : Option Dl :=
  match mx, obnd lo, obnd hi with
  | none, some lo, some hi =>
    match P.underlying t, x with
    | some .string, .t (.sc (.string s)) =>
      let l := lo.getD 0
      let h := hi.getD (s.size : Int)
      pure1 (.t (.sc (.string (s.extract l.toNat h.toNat)))) [0 ≤ l, l ≤ h, h ≤ (s.size : Int)]
    | some (.slice e), .t (.lst k xs) =>
      bif szIs P e k then
        pure1 (.t (sliceT k xs lo hi)) (sliceC xs.length lo hi) else none
    | some (.slice e), .t (.sc (.slice none 0 0)) => (tsz P e).bind fun _ => pure1 (.t (.sc (.slice none 0 0))) (sliceC 0 lo hi)
    | some (.slice e), .row id n => match st id with
      | some (.row k fz xs) =>
        bif szIs P e k then
          some ⟨.t (sliceT k xs lo hi), (bif fz then [] else [(id, .row k true xs)]), (n = xs.length) :: sliceC xs.length lo hi⟩ else none
      | _ => none
    | _, _ => none
  | _, _, _ => none

def buildK (P : Program) (t : TypeId) (parts : List (Nat × AVal)) : Option Dl :=
  (tzeros P t).bind fun z =>
  (placeOf P t).bind fun place => bif parts.all (fun p => (cellsV p.2).all isCellV) then (fillV place (z.map .t) parts).bind fun cs => pure1 (aggV cs) [] else none
def buildSliceK (P : Program) (t : TypeId) (len : Nat) (parts : List (Nat × AVal)) (st : Store) (nid : Nat) : Option Dl :=
  (telem P t).bind fun e => (tsz P e).bind fun k => (tagg P e).bind fun ag => (tzeros P e).bind fun z =>
  match snaps st (parts.map (·.2)) with
  | some (vs, f, p) =>
    bif Nat.ble (len * k) 16777216 && Nat.blt 0 k && Nat.beq z.length k && vs.all (fun v => (cellsV v).all isCellV) then
      (fillV (fun i => some (i * k, k)) ((repl z len).map .t) ((parts.map (·.1)).zip vs)).bind fun cs => (allT cs).bind fun ts => (group ag k len ts).bind fun xs =>
        some ⟨.row nid len, f ++ [(nid, .row k false xs)], p⟩
    else none
  | none => none
def allocK (P : Program) (e : TypeId) (nid : Nat) : Option Dl := (tzeros P e).bind fun z => some ⟨.ptr nid 0, [(nid, .box (z.map .t))], []⟩
def boxK (v : AVal) (nid : Nat) : Option Dl := bif (cellsV v).all isCellV then some ⟨.ptr nid 0, [(nid, .box (cellsV v))], []⟩ else none
/-- An empty slice for nil, cell by cell. -/
def TWs : List Tree → List Tree → Prop
  | [], [] => True
  | T :: l, T' :: l' => (T = T' ∨ (T = .sc (.slice none 0 0) ∧ ∃ k, 0 < k ∧ T' = .lst k [])) ∧ TWs l l'
  | _, _ => False
def makeSliceK (P : Program) (t : TypeId) (l c : AVal) (nid : Nat) (orc : Orc) : Option Dl :=
  (telem P t).bind fun e => (tsz P e).bind fun k => (tby P e).bind fun b => (tagg P e).bind fun ag => (tzeros P e).bind fun z => (mkT ag z).bind fun x =>
  match l, c with
  | .t (.sc (.int _ n)), .t (.sc (.int _ m)) =>
    bif Nat.blt 0 k && Nat.beq z.length k && Nat.ble b 256 then some ⟨.row nid n.toNat, [(nid, .row k false (List.replicate n.toNat (orc.elt.getD x)))], [0 ≤ n, n ≤ m, m ≤ 1099511627776] ++ (match orc.elt with | some y => [TWs x.cells y.cells] | none => [])⟩ else none
  | _, _ => none

def lenK (P : Program) (t : TypeId) (x : AVal) (st : Store) : Option Dl :=
  match P.underlying t, x with
  | some .string, .t (.sc (.string s)) => pure1 (.t (.sc (.int .i64 (s.size : Int)))) []
  | some (.slice _), .t (.lst _ xs) => pure1 (.t (.sc (.int .i64 (xs.length : Int)))) []
  | some (.slice _), .t (.sc (.slice _ n _)) => pure1 (.t (.sc (.int .i64 (n : Int)))) []
  | some (.slice _), .row id n => pure1 (.t (.sc (.int .i64 (n : Int)))) []
  | some (.array n _), _ => pure1 (.t (.sc (.int .i64 (n : Int)))) []
  | _, _ => none
def srcOf (st : Store) (k : Nat) : AVal → Option (List Tree × List Prop)
  | .t (.lst k' xs) => bif Nat.beq k k' then some (xs, []) else none
  | .t (.sc (.slice none 0 0)) => some ([], [])
  | .row id n => match st id with
    | some (.row k' _ xs) => bif Nat.beq k k' then some (xs, [n = xs.length]) else none
    | _ => none
  | _ => none
def appendK (P : Program) (ts : Array TypeId) (s x : AVal) (st : Store) (nid : Nat) : Option Dl :=
  match ts.toList with
  | [tS, tX] =>
    (telem P tS).bind fun e => (tsz P e).bind fun k => (tby P e).bind fun b => (tzeros P e).bind fun z => (srcOf st k x).bind fun (ys, p) =>
    bif Nat.beq tS tX && Nat.blt 0 k && Nat.ble b 128 && Nat.beq z.length k then
      match s with
      | .t (.sc (.slice none 0 0)) => some ⟨.row nid ys.length, [(nid, .row k false ys)], p ++ [ys.length ≤ 1099511627776]⟩
      | .row id n => match st id with
        | some (.row k' false xs) => bif Nat.beq k k' then some ⟨.row id (n + ys.length), [(id, .row k false (xs ++ ys))], p ++ [n = xs.length, n + ys.length ≤ 1099511627776]⟩ else none
        | _ => none
      | _ => none
    else none
  | _ => none
def minK (big : Bool) : Int → List AVal → Option Int
  | a, [] => some a
  | a, v :: l => match v with
    | .t (.sc (.int _ b)) => minK big (bif big then (if b > a then b else a) else (if b < a then b else a)) l
    | _ => none
def minMaxK (big : Bool) (xs : List AVal) : Option Dl :=
  match xs with
  | .t (.sc (.int k a)) :: l => (minK big a l).bind fun r => pure1 (.t (.sc (.int k r))) []
  | _ => none

/-! ### Calls -/
/-- The contract of a function: called with values that stand for 'args', over objects that stand for 'st', it hands back what stands for 'res', and leaves 'st''; nothing else is touched. -/
def FC (P : Program) (f : FuncId) (args : List AVal) (st : Store) (res : AVal) (st' : Store) : Prop :=
  ∀ (F : Nat → Prop) (m : Place) (w : World) (us : List Value), SRel F st m w → us.length = args.length →
    (∀ (i : Nat) (v : AVal) (u : Value), args[i]? = some v → us[i]? = some u → VRel st m w (okB F st m w) v u) →
    Calls P f us.toArray w fun e w' => ∃ v m', e = .returned v ∧ SRel F st' m' w' ∧ FrameExt F st m w st' m' w' ∧ VRel st' m' w' (okB F st' m' w') res v

/-- The function can be called at all. -/
def callable (P : Program) (f : FuncId) : Bool :=
  match P.funcs[f]? with
  | some fn => fn.body.isSome && !(fn.name == "runtime.NumGoroutine")
  | none => false

def closedS (st : Store) (need : List Nat) : Bool := need.all fun id => match st id with | some (.box cs) => (idsL cs).all (hasId need) | _ => true
def callK (P : Program) (f : FuncId) (vals : List AVal) (st : Store) (nid : Nat) (c : CallOrc) : Option Dl :=
  match c.mode with
  | 0 => match snaps st vals with
    | some (vs, _, p) => bif memfree c.res && (idsL vs).isEmpty then some ⟨c.res, [], (callable P f = true) :: (p ++ [FC P f vs emp c.res emp])⟩ else none
    | none => none
  | 1 => match snaps st vals with
    | some (vs, g, p) =>
      bif c.wr.all (fun x => Nat.ble nid x.1 && Nat.blt x.1 (nid + 8)) && (idsL vs).isEmpty then some ⟨c.res, g ++ c.wr, (callable P f = true) :: (p ++ [FC P f vs emp c.res (app emp c.wr)])⟩ else none
    | none => none
  | _ =>
    bif c.wr.all (fun x => hasId c.need x.1 || (Nat.ble nid x.1 && Nat.blt x.1 (nid + 8))) && (idsL vals).all (hasId c.need) && closedS st c.need then
      some ⟨c.res, c.wr, [callable P f = true, FC P f vals (only st c.need) c.res (app (only st c.need) c.wr)]⟩ else none

def ev (sl : List (Nat × AVal)) : Operand → AVal
  | .tmp t => get sl t
  | .const (.agg cs) => bif cs.toList.all Value.oneCell' then .t (.agg (cs.toList.map .sc)) else .junk
  | .const (.tuple _) => .junk
  | .const v => .t (.sc v)
  | .func f => .fn f []
  | .global _ => .junk
def bare : AVal → AVal
  | .cond _ v => v
  | v => v
def reqs (ρ : Eval) : List Operand → List Prop
  | [] => []
  | x :: l => match ρ x with
    | .cond c _ => (c = true) :: reqs ρ l
    | _ => reqs ρ l

def aop (P : Program) (op : Op) (ty : TypeId) (ρ : Eval) (st : Store) (nid : Nat) (c : Orc) : Option Dl :=
  match op with
  | .move x => pure1 (ρ x) []
  | .assign x => pure1 (ρ x) []
  | .alloc e => allocK P e nid
  | .box _ x => boxK (ρ x) nid
  | .build t ps => buildK P t (ps.toList.map fun (i, x) => (i, ρ x))
  | .buildSlice t len ps => buildSliceK P t len (ps.toList.map fun (i, x) => (i, ρ x)) st nid
  | .load t a => loadK P t (ρ a) st c
  | .store t a x => storeK P t (ρ a) (ρ x) st c
  | .nilCheck x => match ρ x with
    | .ptr id off => pure1 (.ptr id off) []
    | .eptr id n i sub => pure1 (.eptr id n i sub) []
    | .cptr cs => pure1 (.cptr cs) []
    | .fn f cap => pure1 (.fn f cap) []
    | _ => none
  | .binOp b t x y _ => binK P b t (ρ x) (ρ y)
  | .unOp u _ x => unK u (ρ x)
  | .convert s d x => convK P s d (ρ x)
  | .makeFunc (.func f) first cap => bif first.isEmpty then pure1 (.fn f (cap.toList.map ρ)) [] else none
  | .makeSlice t l k => makeSliceK P t (ρ l) (ρ k) nid c
  | .slice t x lo hi mx => sliceK P t (ρ x) (lo.map ρ) (hi.map ρ) (mx.map ρ) st
  | .fieldAddr s a f => fieldAddrK P s (ρ a) f
  | .field s x f => fieldK P s (ρ x) f
  | .indexAddr t x i => indexAddrK P t (ρ x) (ρ i) st c
  | .index t x i => indexK P t (ρ x) (ρ i)
  | .extract t i => match ρ t with
    | .tup vs => vs[i]?.bind (pure1 · [])
    | _ => none
  | .call { callee := .builtin .len, args, argTypes } => match args.toList, argTypes.toList with
    | [x], [t] => lenK P t (ρ x) st
    | _, _ => none
  | .call { callee := .builtin .append, args, argTypes } => match args.toList with
    | [s, x] => appendK P argTypes (ρ s) (ρ x) st nid
    | _ => none
  | .call { callee := .builtin .max, args, argTypes } => minMaxK true (args.toList.map ρ)
  | .call { callee := .builtin .min, args, argTypes } => minMaxK false (args.toList.map ρ)
  | .call { callee := .value f, args, argTypes } => match ρ f, c.call with
    | .fn f cap, some co => callK P f (args.toList.map ρ ++ cap) st nid co
    | _, _ => none
  | _ => none

/-! ### A region -/
structure St where
  sl : List (Nat × AVal)
  st : Store
  nx : Nat
structure Res where
  val : AVal
  wr : List (Nat × Ob)
  need : List Nat
  cnd : List Prop

def noStore : Op → Bool
  | .move _ => true
  | .assign _ => true
  | .pick _ _ _ => true
  | .binOp _ _ _ _ _ => true
  | .unOp _ _ _ => true
  | .nilCheck _ => true
  | .fieldAddr _ _ _ => true
  | .field _ _ _ => true
  | .makeFunc _ _ _ => true
  | .extract _ _ => true
  | .alloc _ => true
  | _ => false
def needOf (ρ : Eval) (op : Op) (c : Orc) : List Nat :=
  (bif noStore op then [] else idsL (op.operands.toList.map ρ)) ++ (match c.call with | some co => co.need | none => [])
def slotOf (ops : List Oper) (j : Nat) : Option Nat := (ops[j]?).bind (·.dst)
/-- Is the operation carried out? -/
def guardOf (ops : List Oper) (sl : List (Nat × AVal)) (o : Oper) : Option (Option Bool) :=
  match o.guard with
  | none => some none
  | some (j, want) => match slotOf ops j with
    | none => none
    | some d => match get sl d with
      | .t (.sc (.bool g)) => some (some (bif want then g else !g))
      | .cond c (.t (.sc (.bool g))) => some (some (c && (bif want then g else !g)))
      | _ => none
def pickK (c a b : AVal) : Option Dl :=
  match bare c, bare a, bare b with
  | .t (.sc (.bool g)), .t (.sc (.bool x)), .t (.sc (.bool y)) =>
    some ⟨.t (.sc (.bool (bif g then x else y))), [],
      (match c with | .cond k _ => [k = true] | _ => []) ++ (match a with | .cond k _ => [g = true → k = true] | _ => []) ++ (match b with | .cond k _ => [g = false → k = true] | _ => [])⟩
  | _, _, _ => none
def ovC {α : Type} (o : Option α) (d : α) : List Prop := match o with | some v => [v = d] | none => []
/-- Whatever d stands for, v stands for. -/
def Weak (d v : AVal) : Prop := ∀ (st : Store) (m : Place) (w : World) (ok : Nat → Prop) (u : Value), VRel st m w ok d u → VRel st m w ok v u
def wkC (o : Option AVal) (d : AVal) : List Prop := match o with | some v => [Weak d v] | none => []
def exec0 (P : Program) (s : St) (o : Oper) (nid : Nat) (c : Orc) : Option Res :=
  let ρ := ev s.sl
  match o.op with
  | .pick g a b => (pickK (ρ g) (ρ a) (ρ b)).map fun δ => ⟨δ.val, [], [], δ.cnd⟩
  | op =>
    let need := needOf ρ op c
    (aop P op o.type (fun x => bare (ρ x)) (only s.st need) nid c).map fun δ =>
      ⟨c.val.getD δ.val, c.wr.getD δ.wr, need, reqs ρ op.operands.toList ++ δ.cnd ++ wkC c.val δ.val ++ ovC c.wr δ.wr⟩
def exec1 (P : Program) (ops : List Oper) (s : St) (o : Oper) (nid : Nat) (c : Orc) : Option Res :=
  match guardOf ops s.sl o, exec0 P s o nid c with
  | some none, some r => some r
  | some (some e), some r => some ⟨.cond e r.val, r.wr, r.need, r.cnd.map (fun p => e = true → p) ++ (match r.wr with | [] => [] | _ :: _ => [e = true])⟩
  | _, _ => none
def put (sl : List (Nat × AVal)) (d : Option Nat) (v : AVal) : List (Nat × AVal) :=
  match d with
  | some d => (d, v) :: sl
  | none => sl
def orcAt : List (Nat × Orc) → Nat → Orc
  | [], _ => Orc.no
  | (i, c) :: l, j => bif Nat.beq i j then c else orcAt l j
/-- The operations in the order of the text. -/
def runL (P : Program) (ops : List Oper) (orcs : List (Nat × Orc)) (nx : Nat) : Nat → List Oper → St → Option (St × List Res)
  | _, [], s => some (s, [])
  | i, o :: rest, s =>
    match exec1 P ops s o (nx + 8 * i) (orcAt orcs i) with
    | some r => bif !(r.wr.all fun x => Nat.blt x.1 (nx + 8 * i + 8)) then none else match runL P ops orcs nx (i + 1) rest ⟨put s.sl o.dst r.val, app s.st r.wr, s.nx⟩ with
      | some (s', rs) => some (s', r :: rs)
      | none => none
    | none => none
def dstOk (n : Nat) (o : Oper) : Bool := match o.dst with | some d => Nat.blt d n | none => true
def allC : List Res → List Prop
  | [] => []
  | r :: l => r.cnd ++ allC l
def All : List Prop → Prop
  | [] => True
  | p :: l => p ∧ All l
def keepS (sl : List (Nat × AVal)) : List Nat → List (Nat × AVal)
  | [] => []
  | k :: l => (k, get sl k) :: keepS sl l

/-! Regions that draw their order: unordered operations do not meet. -/
def maskStep (ms : List Nat) (o : Oper) : Nat := o.after.toList.foldl (fun s e => bif Region.binds .any e then s ||| 2 ^ e.on ||| ms.getD e.on 0 else s) 0
def masks : List Oper → List Nat → List Nat
  | [], ms => ms
  | o :: l, ms => masks l (ms ++ [maskStep ms o])
def looks (ops : List Oper) (o : Oper) : List Nat :=
  (o.op.operands.toList.filterMap fun | .tmp t => some t | _ => none) ++ (match o.guard with | some (j, _) => (slotOf ops j).toList | none => [])
def metL (a b : List Nat) : Bool := a.any fun i => hasId b i
def wrIds (r : Res) : List Nat := r.wr.map (·.1)
/-- The earlier operation (o, r), number i, and the later one. -/
def apart (ops : List Oper) (nid : Nat) (o o' : Oper) (r r' : Res) : Bool :=
  !(match o.dst with | some d => hasId (looks ops o') d || (match o'.dst with | some d' => Nat.beq d d' | none => false) | none => false) &&
  !(match o'.dst with | some d => hasId (looks ops o) d | none => false) &&
  !(metL (wrIds r) (r'.need ++ wrIds r')) && !(metL (wrIds r') r.need) && !((wrIds r').any fun x => Nat.ble nid x && Nat.blt x (nid + 8))
def edgesOk (i : Nat) (o : Oper) : Bool := o.after.toList.all fun e => !(Region.binds .any e) || Nat.blt e.on i
def edgesAll : Nat → List Oper → Bool
  | _, [] => true
  | i, o :: l => edgesOk i o && edgesAll (i + 1) l
def apartFrom (ops : List Oper) (nid i : Nat) (o : Oper) (r : Res) : List Oper → List Res → List Nat → Bool
  | o' :: l, r' :: rs, mk :: ms => (Nat.testBit mk i || apart ops nid o o' r r') && apartFrom ops nid i o r l rs ms
  | [], [], [] => true
  | _, _, _ => false
def apartAll (ops : List Oper) (nx : Nat) : Nat → List Oper → List Res → List Nat → Bool
  | i, o :: l, r :: rs, _ :: ms => apartFrom ops (nx + 8 * i) i o r l rs ms && apartAll ops nx (i + 1) l rs ms
  | _, [], [], [] => true
  | _, _, _, _ => false
def drawOk (ops : List Oper) (nx : Nat) (rs : List Res) : Bool := edgesAll 0 ops && apartAll ops nx 0 ops rs (masks ops [])

def runR (P : Program) (n : Nat) (ops : List Oper) (draw : Bool) (orcs : List (Nat × Orc)) (keys : List Nat) (s : St) : Option (St × List Prop) :=
  match runL P ops orcs s.nx 0 ops s with
  | some (s', rs) =>
    bif (ops.all (dstOk n)) && (!draw || drawOk ops s.nx rs) then some (⟨keepS s'.sl keys, s'.st, s.nx + 8 * ops.length⟩, allC rs) else none
  | none => none

end Go.Ab
