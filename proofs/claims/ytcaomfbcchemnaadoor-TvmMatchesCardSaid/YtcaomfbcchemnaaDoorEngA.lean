/- A symbolic executor, part A: symbolic values, blocks, states, the operations. Definitions alone. -/
import Derived.WalkKit
import Derived.KernelRfl
namespace Go.Proofs.YtcaomfbcchemnaaDoor
set_option linter.unusedVariables false

/-- kinds of elements of slices that lie in memory that nobody writes any more -/
structure Thy where
  Th : Type
  dom : Th → Type
  eq : DecidableEq Th

/-- A symbolic value. The flags l: nothing in it is symbolic, so that tests on it are decided by computing. -/
inductive SV (Y : Thy) where
  | unk
  | val (v : Value)
  | int (l : Bool) (k : IntKind) (n : Int)
  | bool (l : Bool) (b : Bool)
  | str (l : Bool) (s : ByteArray)
  | ptr (b off : Nat)
  | eptr (b i w off : Nat)
  | pptr (th : Y.Th) (x : Y.dom th) (off : Nat)
  | sl (b off len w : Nat) (cap : Option Nat)
  | psl (th : Y.Th) (l : List (Y.dom th)) (full : Bool)
  | agg (cs : List (SV Y))
  | tup (vs : List (SV Y))
  | fn (f : Fn) (first cap : List (SV Y))
  | map (b : Nat)
  | pmap (es : List (Value × SV Y))
  | iface (t : TypeId) (v : SV Y)

/-- A block of memory that the executor follows. fz: so many cells are not written any more. -/
inductive Blk (Y : Thy) where
  | raw (cs : List (SV Y)) (fz : Nat) (tg : Option Y.Th)
  | rows (th : Y.Th) (l : List (Y.dom th)) (fz : Nat)
  | map (es : List (Value × SV Y))

structure TyI where
  d : TypeDesc
  size : Nat
  bytes : Nat
  zero : Value

structure Eng (Y : Thy) where
  P : Program
  ty : TypeId → Option TyI
  enc : (th : Y.Th) → Y.dom th → List (SV Y)
  w : Y.Th → Nat
  el : Y.Th → TypeId
  thOf : TypeId → Option Y.Th
  dec : (th : Y.Th) → List (SV Y) → Option (Y.dom th)
  glob : Nat → Option (SV Y)
  /-- everything is to be computed: lists are known -/
  lit : Bool
  /-- rows that may be compared -/
  eqs : List TypeId

/-- What an operation leaves: a value, new blocks, changed blocks. rd: the blocks that it reads (none: any). -/
structure Res (Y : Thy) where
  v : SV Y
  n : Nat
  mods : List Nat
  h : Nat → Option (Blk Y)
  rd : Option (List Nat)

abbrev Hp (Y : Thy) := Nat → Option (Blk Y)
abbrev Fr (Y : Thy) := Nat → SV Y

section
variable {Y : Thy}

def ofLeaf : Value → SV Y
  | .int k n => .int true k n
  | .bool b => .bool true b
  | .string s => .str true s
  | v => .val v
def ofVal : Value → SV Y
  | .agg cs => .agg (cs.toList.map ofLeaf)
  | v => ofLeaf v

def ev (T : Fr Y) : Operand → SV Y
  | .tmp t => T t
  | .const v => ofVal v
  | .global g => .val (.pointer (some ⟨g, 0, none⟩))
  | .func f => .fn (.func f) [] []

def upd {α : Type} (T : Nat → α) (d : Nat) (v : α) : Nat → α := fun j => match Nat.beq j d with | true => v | false => T j
def updO (T : Fr Y) (d : Option Nat) (v : SV Y) : Fr Y := match d with | some d => upd T d v | none => T

/-- a result that only computes -/
def quiet (rd : List Nat) (v : SV Y) : Res Y := ⟨v, 0, [], fun _ => none, some rd⟩
/-- a new block -/
def fresh (i : Nat) (v : SV Y) (b : Blk Y) (rd : List Nat) : Res Y := ⟨v, 1, [], fun j => match Nat.beq j i with | true => some b | false => none, some rd⟩
/-- one block changed -/
def change (b : Nat) (blk : Option (Blk Y)) (v : SV Y) (rd : List Nat) : Res Y := ⟨v, 0, [b], fun j => match Nat.beq j b with | true => blk | false => none, some rd⟩

def memB (b : Nat) : List Nat → Bool
  | [] => false
  | x :: r => match Nat.beq b x with | true => true | false => memB b r
/-- memory behind an operation -/
def patch (h : Hp Y) (i : Nat) (r : Res Y) : Hp Y := fun b => match memB b r.mods || (Nat.ble i b && Nat.blt b (i + r.n)) with | true => r.h b | false => h b

/- Values are brought into the form of constructors before they are kept, so that nothing is computed twice. -/
def forceB (b : Bool) (k : Bool → Prop) : Prop := match b with | true => k true | false => k false
def forceO (c : Option Nat) (k : Option Nat → Prop) : Prop := match c with | none => k none | some n => k (some n)
def forceN (n : Nat) (k : Nat → Prop) : Prop := match n with | 0 => k 0 | Nat.succ m => k (Nat.succ m)
def forceI (n : Int) (k : Int → Prop) : Prop := match n with | .ofNat m => forceN m fun m => k (.ofNat m) | .negSucc m => forceN m fun m => k (.negSucc m)
def forceNL : List Nat → (List Nat → Prop) → Prop
  | [], k => k []
  | x :: r, k => forceN x fun x => forceNL r fun r => k (x :: r)
def force0 (v : SV Y) (k : SV Y → Prop) : Prop :=
  match v with
  | .unk => k .unk
  | .val v => k (.val v)
  | .int l kd n => (match l with | true => forceI n fun n => k (.int true kd n) | false => k (.int false kd n))
  | .bool l b => forceB l fun l => k (.bool l b)
  | .str l s => forceB l fun l => k (.str l s)
  | .ptr b o => forceN b fun b => forceN o fun o => k (.ptr b o)
  | .eptr b i w o => k (.eptr b i w o)
  | .pptr th x o => k (.pptr th x o)
  | .sl b o n w c => forceN b fun b => forceO c fun c => k (.sl b o n w c)
  | .psl th l f => forceB f fun f => k (.psl th l f)
  | .agg cs => k (.agg cs)
  | .tup vs => k (.tup vs)
  | .fn f a b => k (.fn f a b)
  | .map b => k (.map b)
  | .pmap es => k (.pmap es)
  | .iface t v => k (.iface t v)
noncomputable def forceL0 (l : List (SV Y)) : (List (SV Y) → Prop) → Prop :=
  List.rec (motive := fun _ => (List (SV Y) → Prop) → Prop) (fun k => k []) (fun x _ ih k => force0 x fun x => ih fun r => k (x :: r)) l
noncomputable def force1 (v : SV Y) (k : SV Y → Prop) : Prop :=
  match v with
  | .unk => k .unk
  | .val v => k (.val v)
  | .int l kd n => (match l with | true => forceI n fun n => k (.int true kd n) | false => k (.int false kd n))
  | .bool l b => forceB l fun l => k (.bool l b)
  | .str l s => forceB l fun l => k (.str l s)
  | .ptr b o => forceN b fun b => forceN o fun o => k (.ptr b o)
  | .eptr b i w o => k (.eptr b i w o)
  | .pptr th x o => k (.pptr th x o)
  | .sl b o n w c => forceN b fun b => forceO c fun c => k (.sl b o n w c)
  | .psl th l f => forceB f fun f => k (.psl th l f)
  | .agg cs => forceL0 cs fun cs => k (.agg cs)
  | .tup vs => forceL0 vs fun vs => k (.tup vs)
  | .fn f a b => forceL0 a fun a => forceL0 b fun b => k (.fn f a b)
  | .map b => k (.map b)
  | .pmap es => k (.pmap es)
  | .iface t v => force0 v fun v => k (.iface t v)
noncomputable def forceL (l : List (SV Y)) : (List (SV Y) → Prop) → Prop :=
  List.rec (motive := fun _ => (List (SV Y) → Prop) → Prop) (fun k => k []) (fun x _ ih k => force1 x fun x => ih fun r => k (x :: r)) l
noncomputable def force (v : SV Y) (k : SV Y → Prop) : Prop :=
  match v with
  | .unk => k .unk
  | .val v => k (.val v)
  | .int l kd n => (match l with | true => forceI n fun n => k (.int true kd n) | false => k (.int false kd n))
  | .bool l b => forceB l fun l => k (.bool l b)
  | .str l s => forceB l fun l => k (.str l s)
  | .ptr b o => forceN b fun b => forceN o fun o => k (.ptr b o)
  | .eptr b i w o => k (.eptr b i w o)
  | .pptr th x o => k (.pptr th x o)
  | .sl b o n w c => forceN b fun b => forceO c fun c => k (.sl b o n w c)
  | .psl th l f => forceB f fun f => k (.psl th l f)
  | .agg cs => forceL0 cs fun cs => k (.agg cs)
  | .tup vs => forceL vs fun vs => k (.tup vs)
  | .fn f a b => forceL0 a fun a => forceL0 b fun b => k (.fn f a b)
  | .map b => k (.map b)
  | .pmap es => k (.pmap es)
  | .iface t v => force1 v fun v => k (.iface t v)
noncomputable def forceBlk : Option (Blk Y) → (Option (Blk Y) → Prop) → Prop
  | none, k => k none
  | some (.raw cs fz tg), k => forceL0 cs fun cs => k (some (.raw cs fz tg))
  | some (.rows th l fz), k => k (some (.rows th l fz))
  | some (.map es), k => k (some (.map es))

/-- wrapping, with the usual case first -/
def wr (kd : IntKind) (n : Int) : Int := kd.wrap n

/-! The blocks that a value names. -/
mutual
def idsV : SV Y → List Nat
  | .ptr b _ => [b]
  | .eptr b _ _ _ => [b]
  | .sl b _ _ _ _ => [b]
  | .map b => [b]
  | .agg cs => idsL cs
  | .tup cs => idsL cs
  | .fn _ a b => idsL a ++ idsL b
  | .iface _ v => idsV v
  | _ => []
def idsL : List (SV Y) → List Nat
  | [] => []
  | x :: r => idsV x ++ idsL r
end
def idsE : List (Value × SV Y) → List Nat
  | [] => []
  | (_, x) :: r => idsV x ++ idsE r
def idsB : Option (Blk Y) → List Nat
  | some (.raw cs _ _) => idsL cs
  | some (.map es) => idsE es
  | _ => []
def idsM (h : Hp Y) : List Nat → List Nat
  | [] => []
  | b :: r => idsB (h b) ++ idsM h r
/-- the new blocks that can be reached -/
def reach (h : Hp Y) (i : Nat) : Nat → List Nat → List Nat → List Nat
  | 0, _, seen => seen
  | _ + 1, [], seen => seen
  | f + 1, b :: w, seen => match Nat.ble i b && !(memB b seen) with | true => reach h i f (idsB (h b) ++ w) (b :: seen) | false => reach h i f w seen

/-! No block from i on is named. -/
mutual
def nid (i : Nat) : SV Y → Bool
  | .ptr b _ => Nat.blt b i
  | .eptr b _ _ _ => Nat.blt b i
  | .sl b _ _ _ _ => Nat.blt b i
  | .map b => Nat.blt b i
  | .agg cs => nidL i cs
  | .tup cs => nidL i cs
  | .fn _ a b => nidL i a && nidL i b
  | .pmap _ => false
  | .iface _ v => nid i v
  | _ => true
def nidL (i : Nat) : List (SV Y) → Bool
  | [] => true
  | x :: r => nid i x && nidL i r
end
def nidE (i : Nat) : List (Value × SV Y) → Bool
  | [] => true
  | (_, x) :: r => nid i x && nidE i r
def nidB (i : Nat) : Option (Blk Y) → Bool
  | none => true
  | some (.raw cs _ _) => nidL i cs
  | some (.rows _ _ _) => true
  | some (.map es) => nidE i es
def nidM (i : Nat) (h : Hp Y) : List Nat → Bool
  | [] => true
  | b :: r => nidB i (h b) && nidM i h r

/-- p must hold: decided where nothing is symbolic -/
def need (l : Bool) (p : Prop) [Decidable p] (K : Prop) : Prop :=
  match l with
  | true => (match decide p with | true => K | false => False)
  | false => p ∧ K
/-- the element at a place -/
def getK {α : Type} (lit : Bool) (l : List α) (j : Nat) (k : α → Prop) : Prop :=
  match lit with
  | true => (match l[j]? with | some x => k x | none => False)
  | false => j < l.length ∧ ∀ x, l[j]? = some x → k x
def ixK {α : Type} (lit : Bool) (l : List α) (n : Int) (k : α → Prop) : Prop :=
  match lit with
  | true => (match decide (0 ≤ n), l[n.toNat]? with | true, some x => k x | _, _ => False)
  | false => 0 ≤ n ∧ n < l.length ∧ ∀ x, l[n.toNat]? = some x → k x
def strK (lit : Bool) (s : ByteArray) (n : Int) (k : UInt8 → Prop) : Prop :=
  match lit with
  | true => (match decide (0 ≤ n), s[n.toNat]? with | true, some x => k x | _, _ => False)
  | false => 0 ≤ n ∧ n < s.size ∧ ∀ x, s[n.toNat]? = some x → k x
def sameN (a b : Nat) (K : Prop) : Prop := match Nat.beq a b with | true => K | false => False
/-- a test -/
def split (l b : Bool) (K : Bool → Prop) : Prop :=
  match l with
  | true => K b
  | false => (b = true → K true) ∧ (b = false → K false)

def isRowD : TypeDesc → Bool
  | .struct _ => true
  | .array _ _ => true
  | _ => false

/-- the cells of a value -/
def SV.cells : SV Y → List (SV Y)
  | .agg cs => cs
  | v => [v]

/-- a value of n cells from a place on -/
def rowAt (isRow : Bool) (n off : Nat) (cs : List (SV Y)) : Option (SV Y) :=
  match isRow with
  | true => (match decide (off + n ≤ cs.length) with | true => some (.agg ((cs.drop off).take n)) | false => none)
  | false => cs[off]?

/-- cells from a place on replaced -/
def splice (cs : List (SV Y)) (off : Nat) (vs : List (SV Y)) : List (SV Y) := cs.take off ++ vs ++ cs.drop (off + vs.length)

/-- one cell's value -/
def leafV : Value → Bool
  | .agg _ => false
  | .tuple _ => false
  | _ => true
def leaf : SV Y → Bool
  | .unk => false
  | .agg _ => false
  | .tup _ => false
  | .val v => leafV v
  | _ => true
def leaves : List (SV Y) → Bool
  | [] => true
  | x :: r => match leaf x with | true => leaves r | false => false

def sload (E : Eng Y) (t : TypeId) (x : SV Y) (h : Hp Y) (k : Res Y → Prop) : Prop :=
  match E.ty t with
  | none => False
  | some i =>
    match x with
    | .ptr b off =>
      match h b with
      | some (.raw cs _ _) => (match rowAt (isRowD i.d) i.size off cs with | some v => k (quiet [b] v) | none => False)
      | _ => False
    | .eptr b j w off =>
      match h b with
      | some (.rows th l _) => sameN w (E.w th) (getK E.lit l j fun x => match rowAt (isRowD i.d) i.size off (E.enc th x) with | some v => k (quiet [b] v) | none => False)
      | _ => False
    | .pptr th x off => (match rowAt (isRowD i.d) i.size off (E.enc th x) with | some v => k (quiet [] v) | none => False)
    | .val (.pointer (some ⟨g, 0, none⟩)) => (match E.glob g, isRowD i.d with | some v, false => k (quiet [] v) | _, _ => False)
    | _ => False

def sstore (E : Eng Y) (t : TypeId) (x v : SV Y) (h : Hp Y) (k : Res Y → Prop) : Prop :=
  match E.ty t with
  | none => False
  | some i =>
    match decide (v.cells.length = i.size) && leaves v.cells with
    | false => False
    | true =>
      match x with
      | .ptr b off =>
        match h b with
        | some (.raw cs fz tg) =>
          (match Nat.ble fz off && Nat.ble (off + i.size) cs.length with | true => k (change b (some (.raw (splice cs off v.cells) fz tg)) .unk [b]) | false => False)
        | _ => False
      | .eptr b j w off =>
        match h b with
        | some (.rows th l fz) => sameN w (E.w th) (need E.lit (fz ≤ j) (getK E.lit l j fun x =>
            match Nat.ble (off + i.size) (E.enc th x).length, E.dec th (splice (E.enc th x) off v.cells) with | true, some x' => k (change b (some (.rows th (l.set j x') fz)) .unk [b]) | _, _ => False))
        | _ => False
      | _ => False

def sfieldAddr (E : Eng Y) (s : TypeId) (x : SV Y) (f : Nat) (k : Res Y → Prop) : Prop :=
  match E.ty s with
  | some ⟨.struct fs, _, _, _⟩ =>
    match fs[f]? with
    | some fd =>
      match E.ty fd.type with
      | some ti => (match ti.size with
        | 0 => False
        | _ => (match x with
          | .ptr b off => k (quiet [] (.ptr b (off + fd.offset)))
          | .eptr b j w off => k (quiet [] (.eptr b j w (off + fd.offset)))
          | .pptr th y off => k (quiet [] (.pptr th y (off + fd.offset)))
          | _ => False))
      | none => False
    | none => False
  | _ => False

def sfield (E : Eng Y) (s : TypeId) (x : SV Y) (f : Nat) (k : Res Y → Prop) : Prop :=
  match E.ty s, x with
  | some ⟨.struct fs, _, _, _⟩, .agg cs =>
    match fs[f]? with
    | some fd =>
      match E.ty fd.type with
      | some ti => (match rowAt (isRowD ti.d) ti.size fd.offset cs with | some v => k (quiet [] v) | none => False)
      | none => False
    | none => False
  | _, _ => False

/-- the numbers of a row of integers -/
def intsOf (kd : IntKind) : List (SV Y) → Option (List Int)
  | [] => some []
  | .int _ k n :: r => (match decide (k = kd), intsOf kd r with | true, some l => some (n :: l) | _, _ => none)
  | _ :: _ => none

/-- a place in a row, case by case -/
def caseK (n : Int) (k : Nat → Prop) : Nat → Nat → Prop
  | 0, _ => True
  | c + 1, j => ((n == (j : Int)) = true → k j) ∧ ((n == (j : Int)) = false → caseK n k c (j + 1))
def sindexAddr (E : Eng Y) (t : TypeId) (x ix : SV Y) (h : Hp Y) (k : Res Y → Prop) : Prop :=
  match E.ty t, ix with
  | some ⟨.array len el, _, _, _⟩, .int l _ n =>
    match E.ty el, x, l with
    | some ti, .ptr b off, true => (match decide (0 ≤ n) && Nat.blt n.toNat len with | true => k (quiet [] (.ptr b (off + n.toNat * ti.size))) | false => False)
    | some ti, .pptr th y off, true => (match decide (0 ≤ n) && Nat.blt n.toNat len with | true => k (quiet [] (.pptr th y (off + n.toNat * ti.size))) | false => False)
    | some ti, .ptr b off, false => 0 ≤ n ∧ n < len ∧ caseK n (fun j => k (quiet [] (.ptr b (off + j * ti.size)))) len 0
    | some ti, .pptr th y off, false => 0 ≤ n ∧ n < len ∧ caseK n (fun j => k (quiet [] (.pptr th y (off + j * ti.size)))) len 0
    | _, _, _ => False
  | some ⟨.slice el, _, _, _⟩, .int l _ n =>
    match E.ty el with
    | some ti =>
      match x with
      | .psl th ls _ => sameN ti.size (E.w th) (ixK (l && E.lit) ls n fun y => k (quiet [] (.pptr th y 0)))
      | .sl b off len w _ =>
        match h b with
        | some (.raw cs _ _) => need l (0 ≤ n ∧ n < len) (sameN ti.size w (k (quiet [] (.ptr b ((off + n.toNat) * w)))))
        | some (.rows th ls _) => need (l && E.lit) (0 ≤ n ∧ n < len) (sameN ti.size w (sameN w (E.w th) (k (quiet [] (.eptr b (off + n.toNat) w 0)))))
        | _ => False
      | _ => False
    | none => False
  | _, _ => False

def sindex (E : Eng Y) (t : TypeId) (x ix : SV Y) (k : Res Y → Prop) : Prop :=
  match E.ty t, x, ix with
  | some ⟨.array len el, _, _, _⟩, .agg cs, .int l _ n =>
    match E.ty el, l with
    | some ti, true => (match decide (0 ≤ n) && Nat.blt n.toNat len, rowAt (isRowD ti.d) ti.size (n.toNat * ti.size) cs with | true, some v => k (quiet [] v) | _, _ => False)
    | some ⟨.int kd, sz, _, _⟩, false => (match intsOf kd cs, Nat.beq cs.length len && Nat.beq sz 1 with | some ls, true => 0 ≤ n ∧ n < len ∧ ∀ y, ls[n.toNat]? = some y → k (quiet [] (.int false kd y)) | _, _ => False)
    | _, _ => False
  | some ⟨.string, _, _, _⟩, .str l s, .int m _ n => strK (l && m) s n fun y => k (quiet [] (.int (l && m) .u8 y.toNat))
  | _, _, _ => False

def bitsOp (op : BinOp) (kd : IntKind) (a b : Int) : Int :=
  match op with
  | .and => kd.wrap (BitVec.ofInt kd.bits a &&& BitVec.ofInt kd.bits b).toNat
  | .or => kd.wrap (BitVec.ofInt kd.bits a ||| BitVec.ofInt kd.bits b).toNat
  | .xor => kd.wrap (BitVec.ofInt kd.bits a ^^^ BitVec.ofInt kd.bits b).toNat
  | _ => kd.wrap (BitVec.ofInt kd.bits a &&& ~~~BitVec.ofInt kd.bits b).toNat

def intR (f : Bool) (kd : IntKind) (n : Int) (k : Res Y → Prop) : Prop := k (quiet [] (.int f kd n))
def boolR (f v : Bool) (k : Res Y → Prop) : Prop := split f v fun v => k (quiet [] (.bool true v))
def sbinK (op : BinOp) (f m : Bool) (kd : IntKind) (a b : Int) (k : Res Y → Prop) : Prop :=
  match op with
  | .add => intR f kd (wr kd (a + b)) k
  | .sub => intR f kd (wr kd (a - b)) k
  | .mul => intR f kd (wr kd (a * b)) k
  | .quo => need m (b ≠ 0) (intR f kd (wr kd (a.tdiv b)) k)
  | .rem => need m (b ≠ 0) (intR f kd (a.tmod b) k)
  | .eql => boolR f (a == b) k
  | .neq => boolR f (a != b) k
  | .lss => boolR f (decide (a < b)) k
  | .leq => boolR f (decide (a ≤ b)) k
  | .gtr => boolR f (decide (a > b)) k
  | .geq => boolR f (decide (a ≥ b)) k
  | op => intR f kd (bitsOp op kd a b) k
def sbinI (op : BinOp) (l m : Bool) (kd kd' : IntKind) (a b : Int) (k : Res Y → Prop) : Prop :=
  match op with
  | .shl => need m (0 ≤ b) (intR (l && m) kd (wr kd (a * 2 ^ min b.toNat kd.bits)) k)
  | .shr => need m (0 ≤ b) (intR (l && m) kd (a.fdiv (2 ^ min b.toNat kd.bits)) k)
  | op => match decide (kd = kd') with | false => False | true => sbinK op (l && m) m kd a b k
def sbinB (E : Eng Y) (op : BinOp) (t : TypeId) (l m a b : Bool) (k : Res Y → Prop) : Prop :=
  match E.ty t with
  | some ⟨.bool, _, _, _⟩ => (match op with | .eql => boolR (l && m) (a == b) k | .neq => boolR (l && m) (!(a == b)) k | _ => False)
  | _ => False
def sbinS (op : BinOp) (l m : Bool) (a b : ByteArray) (k : Res Y → Prop) : Prop :=
  match op with
  | .add => need (l && m) (a.size + b.size ≤ 9223372036854775807) (k (quiet [] (.str (l && m) (a ++ b))))
  | .eql => boolR (l && m) (a.toList == b.toList) k
  | .neq => boolR (l && m) (!(a.toList == b.toList)) k
  | _ => False
def sbin (E : Eng Y) (op : BinOp) (t : TypeId) (x y : SV Y) (k : Res Y → Prop) : Prop :=
  match x, y with
  | .int l kd a, .int m kd' b => sbinI op l m kd kd' a b k
  | .bool l a, .bool m b => sbinB E op t l m a b k
  | .str l a, .str m b => sbinS op l m a b k
  | _, _ => False

def sun (op : UnOp) (x : SV Y) (k : Res Y → Prop) : Prop :=
  match op, x with
  | .neg, .int l kd n => k (quiet [] (.int l kd (wr kd (0 - n))))
  | .xor, .int l kd n => k (quiet [] (.int l kd (bitsOp .xor kd (if kd.signed then -1 else kd.max) n)))
  | .not, .bool l b => k (quiet [] (.bool l (!b)))
  | _, _ => False

def sconvert (E : Eng Y) (dst : TypeId) (x : SV Y) (k : Res Y → Prop) : Prop :=
  match E.ty dst, x with
  | some ⟨.int kd, _, _, _⟩, .int l _ n => k (quiet [] (.int l kd (wr kd n)))
  | some ⟨.string, _, _, _⟩, .str l s => k (quiet [] (.str l s))
  | _, _ => False

/-- the parts of a composite laid into cells -/
def sfill (place : Nat → Option (Nat × Nat)) (cells : List (SV Y)) : List (Nat × SV Y) → Option (List (SV Y))
  | [] => some cells
  | (i, v) :: rest =>
    match place i with
    | none => none
    | some (off, size) =>
      match (decide (v.cells.length = size) && leaves v.cells) && Nat.ble (off + size) cells.length with
      | true => sfill place (splice cells off v.cells) rest
      | false => none

def splaces (E : Eng Y) : List Field → Option (List (Nat × Nat))
  | [] => some []
  | f :: r => (match E.ty f.type, splaces E r with | some ti, some l => some ((f.offset, ti.size) :: l) | _, _ => none)

def sbuild (E : Eng Y) (t : TypeId) (parts : List (Nat × SV Y)) (k : Res Y → Prop) : Prop :=
  match E.ty t with
  | some ⟨.struct fs, _, _, z⟩ =>
    (match splaces E fs.toList with
    | some pl => (match sfill (fun i => pl[i]?) (ofVal z : SV Y).cells parts with | some cs => k (quiet [] (.agg cs)) | none => False)
    | none => False)
  | some ⟨.array _ el, _, _, z⟩ => (match E.ty el with | some ti => (match sfill (fun i => some (i * ti.size, ti.size)) (ofVal z : SV Y).cells parts with | some cs => k (quiet [] (.agg cs)) | none => False) | none => False)
  | _ => False

/-- rows of w cells -/
def chunks (w : Nat) : Nat → List (SV Y) → List (List (SV Y))
  | 0, _ => []
  | n + 1, cs => cs.take w :: chunks w n (cs.drop w)
def decAll (E : Eng Y) (th : Y.Th) : List (List (SV Y)) → Option (List (Y.dom th))
  | [] => some []
  | r :: rs => (match E.dec th r, decAll E th rs with | some x, some l => some (x :: l) | _, _ => none)

/-- the kind of the elements of a type, if the tables agree on it -/
def tagOf (E : Eng Y) (el : TypeId) : Option Y.Th := match E.thOf el with | some th => (match Nat.beq (E.el th) el with | true => some th | false => none) | none => none

def sbuildSlice (E : Eng Y) (t : TypeId) (len : Nat) (parts : List (Nat × SV Y)) (i : Nat) (k : Res Y → Prop) : Prop :=
  match E.ty t with
  | some ⟨.slice el, _, _, _⟩ =>
    match E.ty el with
    | some ti =>
      match (Nat.ble (len * ti.size) 16777216 && Nat.ble len 16777216) && (Nat.blt 0 ti.size && Nat.beq (ofVal ti.zero : SV Y).cells.length ti.size), sfill (fun i => some (i * ti.size, ti.size)) ((List.replicate len (ofVal ti.zero : SV Y).cells).flatten) parts with
      | true, some cs => k (fresh i (.sl i 0 len ti.size (some len)) (.raw cs 0 (tagOf E el)) [])
      | _, _ => False
    | none => False
  | _ => False

/-- the same list, seen as one of another kind that is the same -/
def castK {th' th : Y.Th} (l : List (Y.dom th')) (k : List (Y.dom th) → Prop) : Prop :=
  match Y.eq th' th with
  | isTrue e => Eq.rec (motive := fun t _ => (List (Y.dom t) → Prop) → Prop) (fun k => k l) e k
  | isFalse _ => False
/-- the elements of a slice; the blocks in which they lie -/
def contK (E : Eng Y) (h : Hp Y) (th : Y.Th) (x : SV Y) (k : Bool → List (Y.dom th) → List Nat → Prop) : Prop :=
  match x with
  | .val (.slice none 0 0) => k true [] []
  | .psl th' l _ => castK l fun l => k E.lit l []
  | .sl b off len w _ =>
    match h b with
    | some (.rows th' l _) =>
      (match Nat.beq w (E.w th') with
      | true => castK l fun l => need E.lit (off + len ≤ l.length) (match off with | 0 => k E.lit (l.take len) [b] | off => k E.lit ((l.drop off).take len) [b])
      | false => False)
    | some (.raw cs _ _) => (match Nat.beq w (E.w th), decAll E th (chunks w len (cs.drop (off * w))) with | true, some l => k true l [b] | _, _ => False)
    | _ => False
  | _ => False
def at1 (i : Nat) (x : Option (Blk Y)) : Hp Y := fun j => match Nat.beq j i with | true => x | false => none
def emptyK {α : Type} (lit : Bool) (l : List α) (A B : Prop) : Prop :=
  match lit with
  | true => (match l with | [] => A | _ :: _ => B)
  | false => (l = [] → A) ∧ (l ≠ [] → B)
def sliceForm : SV Y → Bool
  | .val (.slice none 0 0) => true
  | .psl _ _ _ => true
  | .sl _ _ _ _ _ => true
  | _ => false
def sappend (E : Eng Y) (t : TypeId) (x1 x2 : SV Y) (h : Hp Y) (i : Nat) (k : Res Y → Prop) : Prop :=
  match E.ty t with
  | some ⟨.slice el, _, _, _⟩ =>
    match E.ty el, tagOf E el with
    | some ti, some th =>
      match (Nat.blt 0 ti.bytes && sliceForm x1) && Nat.beq (ofVal ti.zero : SV Y).cells.length (E.w th) with
      | false => False
      | true => contK E h th x2 fun lit l2 rd2 => emptyK lit l2 (k (quiet rd2 x1))
        (match x1 with
        | .val (.slice none 0 0) => need lit (l2.length * ti.bytes ≤ 140737488355328) (k (fresh i (.sl i 0 l2.length (E.w th) none) (.rows th l2 0) rd2))
        | .psl th' l1 true => castK l1 fun l1 => need (E.lit && lit) ((l1.length + l2.length) * ti.bytes ≤ 140737488355328) (k (fresh i (.sl i 0 (l1.length + l2.length) (E.w th) none) (.rows th (l1 ++ l2) 0) rd2))
        | .sl b off len w (some c) => contK E h th (.sl b off len w (some c)) fun lit1 l1 rd1 =>
            need (lit1 && lit) (c < l1.length + l2.length ∧ (l1.length + l2.length) * ti.bytes ≤ 140737488355328) (k (fresh i (.sl i 0 (l1.length + l2.length) (E.w th) none) (.rows th (l1 ++ l2) 0) (rd1 ++ rd2)))
        | .sl b 0 len w none =>
          (match h b with
          | some (.rows th' l fz) =>
            (match Nat.beq w (E.w th) with
            | true => castK l fun l => need (E.lit && lit) (len ≤ l.length ∧ fz ≤ len ∧ (len + l2.length) * ti.bytes ≤ 140737488355328)
                (k ⟨.sl i 0 (len + l2.length) (E.w th) none, 1, [b], at1 i (some (.rows th (l.take len ++ l2) fz)), some (b :: rd2)⟩)
            | false => False)
          | _ => False)
        | _ => False)
    | _, _ => False
  | _ => False

def rawB (h : Hp Y) (b : Nat) : Bool := match h b with | some (.raw _ _ _) => true | _ => false
def capLess (c : Option Nat) (a : Nat) : Option Nat := match c with | some c => some (c - a) | none => none
/-- s[lo:hi:mx] -/
def sslice (E : Eng Y) (t : TypeId) (x : SV Y) (lo hi mx : Option (SV Y)) (h : Hp Y) (k : Res Y → Prop) : Prop :=
  match E.ty t, x with
  | some ⟨.slice el, _, _, _⟩, .psl th l full =>
    match E.ty el with
    | some ti =>
      (match Nat.beq ti.size (E.w th), lo, hi, mx with
      | true, none, none, none => k (quiet [] (.psl th l full))
      | true, none, some (.int f _ b), none => need (f && E.lit) (0 ≤ b ∧ b ≤ l.length) (k (quiet [] (.psl th (l.take b.toNat) false)))
      | true, some (.int f _ a), none, none => need (f && E.lit) (0 ≤ a ∧ a ≤ l.length) (k (quiet [] (.psl th (l.drop a.toNat) full)))
      | true, some (.int f _ a), some (.int f' _ b), none => need (f && f' && E.lit) (0 ≤ a ∧ a ≤ b ∧ b ≤ l.length) (k (quiet [] (.psl th ((l.take b.toNat).drop a.toNat) false)))
      | true, none, some (.int f _ b), some (.int f' _ c) => need (f && f' && E.lit) (0 ≤ b ∧ b = c ∧ b ≤ l.length) (k (quiet [] (.psl th (l.take b.toNat) true)))
      | _, _, _, _ => False)
    | none => False
  | some ⟨.slice el, _, _, _⟩, .val (.slice none 0 0) =>
    match E.ty el with
    | some _ =>
      (match lo, hi, mx with
      | none, none, none => k (quiet [] (.val (.slice none 0 0)))
      | some (.int l _ a), none, none => need l (a = 0) (k (quiet [] (.val (.slice none 0 0))))
      | none, some (.int l _ a), none => need l (a = 0) (k (quiet [] (.val (.slice none 0 0))))
      | none, some (.int l _ a), some (.int l' _ c) => need (l && l') (a = 0 ∧ c = 0) (k (quiet [] (.val (.slice none 0 0))))
      | _, _, _ => False)
    | none => False
  | some ⟨.slice el, _, _, _⟩, .sl b off len w cap =>
    match E.ty el with
    | some ti =>
      (match Nat.beq ti.size w, lo, hi, mx with
      | true, none, none, none => k (quiet [] (.sl b off len w cap))
      | true, none, some (.int l _ c), none => need (l && (E.lit || rawB h b)) (0 ≤ c ∧ c ≤ len) (k (quiet [] (.sl b off c.toNat w cap)))
      | true, none, some (.int l _ c), some (.int l' _ m) => need (l && l' && (E.lit || rawB h b)) (0 ≤ c ∧ c ≤ m ∧ m ≤ len) (k (quiet [] (.sl b off c.toNat w (some m.toNat))))
      | true, some (.int l _ a), none, none => need (l && (E.lit || rawB h b)) (0 ≤ a ∧ a ≤ len) (split (l && (E.lit || rawB h b)) (decide (a < len)) fun v =>
          (match v, tagOf E el with | true, _ => k (quiet [] (.sl b (off + a.toNat) (len - a.toNat) w (capLess cap a.toNat))) | false, some th => k (quiet [] (.psl th [] false)) | _, _ => False))
      | true, some (.int l _ a), some (.int l' _ c), none => need (l && l' && (E.lit || rawB h b)) (0 ≤ a ∧ a ≤ c ∧ c ≤ len) (split (l && l' && (E.lit || rawB h b)) (decide (a < c)) fun v =>
          (match v, tagOf E el with | true, _ => k (quiet [] (.sl b (off + a.toNat) (c.toNat - a.toNat) w (capLess cap a.toNat))) | false, some th => k (quiet [] (.psl th [] false)) | _, _ => False))
      | _, _, _, _ => False)
    | none => False
  | some ⟨.string, _, _, _⟩, .str l s =>
    (match lo, hi, mx with
    | none, none, none => k (quiet [] (.str l s))
    | none, some (.int m _ b), none => need (l && m) (0 ≤ b ∧ b ≤ s.size) (k (quiet [] (.str (l && m) (s.extract 0 b.toNat))))
    | some (.int m _ a), none, none => need (l && m) (0 ≤ a ∧ a ≤ s.size) (k (quiet [] (.str (l && m) (s.extract a.toNat s.size))))
    | some (.int m _ a), some (.int m' _ b), none => need (l && m && m') (0 ≤ a ∧ a ≤ b ∧ b ≤ s.size) (k (quiet [] (.str (l && m && m') (s.extract a.toNat b.toNat))))
    | _, _, _ => False)
  | some ⟨.array n el, _, _, _⟩, .ptr b 0 =>
    (match lo, hi, mx, E.ty el with
    | none, none, none, some ti => (match h b with | some (.raw cs _ _) => (match Nat.beq cs.length (n * ti.size) && Nat.ble n 9007199254740992 with | true => k (quiet [b] (.sl b 0 n ti.size (some n))) | false => False) | _ => False)
    | _, _, _, _ => False)
  | _, _ => False

/-- Maps. ki: the keys are integers; otherwise strings. -/
def smLook (ki : Bool) (key : SV Y) : List (Value × SV Y) → (SV Y → Prop) → Prop → Prop
  | [], _, z => z
  | (kv, v) :: r, f, z =>
    match ki, kv, key with
    | true, .int kd b, .int l kd' a => (match decide (kd' = kd) with | true => split l (a == b) (fun q => match q with | true => f v | false => smLook ki key r f z) | false => False)
    | false, .string b, .str l a => split l (a == b) fun q => (match q with | true => f v | false => smLook ki key r f z)
    | _, _, _ => False
def keyVal (ki : Bool) : SV Y → Option Value
  | .int _ kd n => (match ki with | true => some (.int kd n) | false => none)
  | .str _ s => (match ki with | false => some (.string s) | true => none)
  | _ => none
/-- a new entry behind the others, or an old one with a new value -/
def smPut (ki : Bool) (key : Value) (v : SV Y) : List (Value × SV Y) → Option (List (Value × SV Y))
  | [] => some [(key, v)]
  | (kv, u) :: r =>
    match ki, kv, key with
    | true, .int kd b, .int kd' a => (match decide (kd' = kd) with | true => (match (a == b) with | true => some ((kv, v) :: r) | false => (match smPut ki key v r with | some l => some ((kv, u) :: l) | none => none)) | false => none)
    | false, .string b, .string a => (match (a == b) with | true => some ((kv, v) :: r) | false => (match smPut ki key v r with | some l => some ((kv, u) :: l) | none => none))
    | _, _, _ => none
def keyKind (E : Eng Y) (kt : TypeId) : Option Bool :=
  match E.ty kt with
  | some ⟨.int _, _, _, _⟩ => some true
  | some ⟨.string, _, _, _⟩ => some false
  | _ => none
def mapOf (h : Hp Y) : SV Y → Option (List (Value × SV Y) × List Nat)
  | .map b => (match h b with | some (.map es) => some (es, [b]) | _ => none)
  | .pmap es => some (es, [])
  | _ => none
def slookup (E : Eng Y) (t : TypeId) (x key : SV Y) (ok : Bool) (h : Hp Y) (k : Res Y → Prop) : Prop :=
  match E.ty t with
  | some ⟨.map kt et, _, _, _⟩ =>
    match keyKind E kt, E.ty et, mapOf h x with
    | some ki, some ti, some (es, rd) =>
      smLook ki key es (fun v => k (quiet rd (match ok with | true => .tup [v, .bool true true] | false => v))) (k (quiet rd (match ok with | true => .tup [ofVal ti.zero, .bool true false] | false => ofVal ti.zero)))
    | _, _, _ => False
  | _ => False
def sput (E : Eng Y) (t : TypeId) (x key v : SV Y) (h : Hp Y) (k : Res Y → Prop) : Prop :=
  match E.ty t, x with
  | some ⟨.map kt _, _, _, _⟩, .map b =>
    match keyKind E kt, h b with
    | some ki, some (.map es) => (match keyVal ki key with | some kv => (match smPut ki kv v es with | some es' => k (change b (some (.map es')) .unk [b]) | none => False) | none => False)
    | _, _ => False
  | _, _ => False

def slen (E : Eng Y) (t : TypeId) (x : SV Y) (h : Hp Y) (k : Res Y → Prop) : Prop :=
  match E.ty t, x with
  | some ⟨.slice _, _, _, _⟩, .psl _ l _ => k (quiet [] (.int E.lit .i64 l.length))
  | some ⟨.slice _, _, _, _⟩, .sl b _ n _ _ => k (quiet [] (.int (E.lit || rawB h b) .i64 n))
  | some ⟨.slice _, _, _, _⟩, .val (.slice none n _) => k (quiet [] (.int true .i64 n))
  | some ⟨.string, _, _, _⟩, .str l s => k (quiet [] (.int l .i64 s.size))
  | some ⟨.array n _, _, _, _⟩, _ => k (quiet [] (.int true .i64 n))
  | _, _ => False

def mm2 (mx : Bool) (a b : Int) : Int := match mx with | true => if b > a then b else a | false => if b < a then b else a
def smm (mx : Bool) : SV Y → List (SV Y) → Option (SV Y)
  | x, [] => some x
  | .int l kd a, .int m kd' b :: r => (match decide (kd = kd') with | true => smm mx (.int (l && m) kd (mm2 mx a b)) r | false => none)
  | _, _ => none
def sminmax (mx : Bool) (x : SV Y) (r : List (SV Y)) (k : Res Y → Prop) : Prop := match smm mx x r with | some v => k (quiet [] v) | none => False

/-- make([]T, n, c) -/
def smake (E : Eng Y) (t : TypeId) (x1 x2 : SV Y) (i : Nat) (k : Res Y → Prop) : Prop :=
  match E.ty t, x1, x2 with
  | some ⟨.slice el, _, _, _⟩, .int l _ n, .int m _ c =>
    match E.ty el with
    | some ti =>
      match (Nat.blt 0 ti.bytes && Nat.blt 0 ti.size) && Nat.beq (ofVal ti.zero : SV Y).cells.length ti.size, l && m with
      | true, true => need true (0 ≤ n ∧ n ≤ c ∧ ti.bytes * c ≤ 281474976710656) (k (fresh i (.sl i 0 n.toNat ti.size (some c.toNat)) (.raw (List.replicate c.toNat (ofVal ti.zero : SV Y).cells).flatten 0 (tagOf E el)) []))
      | true, false =>
        (match tagOf E el with
        | some th => (match E.dec th (ofVal ti.zero : SV Y).cells with
          | some z => 0 ≤ n ∧ n ≤ c ∧ ti.bytes * c ≤ 281474976710656 ∧ k (fresh i (.sl i 0 n.toNat ti.size (some c.toNat)) (.rows th (List.replicate c.toNat z) 0) [])
          | none => False)
        | none => False)
      | _, _ => False
    | none => False
  | _, _, _ => False
/-- the cells of a slice whose block is followed cell by cell -/
def rawOf (h : Hp Y) (w : Nat) : SV Y → Option (List (SV Y) × List Nat)
  | .val (.slice none 0 0) => some ([], [])
  | .sl b off len w' _ =>
    match Nat.beq w w', h b with
    | true, some (.raw cs _ _) => (match Nat.ble ((off + len) * w) cs.length with | true => some ((cs.drop (off * w)).take (len * w), [b]) | false => none)
    | _, _ => none
  | _ => none
/-- copy -/
def scopy (E : Eng Y) (t : TypeId) (x1 x2 : SV Y) (h : Hp Y) (k : Res Y → Prop) : Prop :=
  match E.ty t, x1 with
  | some ⟨.slice el, _, _, _⟩, .sl b off len w _ =>
    match E.ty el, h b with
    | some ti, some (.rows th l fz) =>
      (match Nat.beq w (E.w th) && Nat.beq ti.size w with
      | true => contK E h th x2 fun lit l2 rd2 => need E.lit (fz ≤ off ∧ off + len ≤ l.length)
          (k (change b (some (.rows th (l.take off ++ l2.take len ++ l.drop (off + min l2.length len)) fz)) (.int (E.lit && lit) .i64 (min l2.length len : Nat)) (b :: rd2)))
      | false => False)
    | some ti, some (.raw cs fz tg) =>
      (match Nat.beq ti.size w && Nat.blt 0 w, rawOf h w x2 with
      | true, some (c2, rd2) =>
        (match (Nat.ble fz (off * w) && Nat.ble ((off + len) * w) cs.length) && leaves c2 with
        | true => k (change b (some (.raw (splice cs (off * w) (c2.take (len * w))) fz tg)) (.int true .i64 (min (c2.length / w) len : Nat)) (b :: rd2))
        | false => False)
      | _, _ => False)
    | _, _ => False
  | _, _ => False

/-- Equality of two values. The first answer: nothing in it is symbolic. -/
def eqFs (E : Eng Y) (q : TypeId → SV Y → SV Y → Option (Bool × Bool)) (xs ys : List (SV Y)) : List Field → Option (Bool × Bool)
  | [] => some (true, true)
  | f :: fs =>
    match decide (f.name = "_"), E.ty f.type with
    | false, some ti =>
      (match rowAt (isRowD ti.d) ti.size f.offset xs, rowAt (isRowD ti.d) ti.size f.offset ys with
      | some a, some b => (match q f.type a b, eqFs E q xs ys fs with | some (l, p), some (m, r) => some (l && m, p && r) | _, _ => none)
      | _, _ => none)
    | _, _ => none
def eqIs (q : SV Y → SV Y → Option (Bool × Bool)) (isRow : Bool) (sz : Nat) (xs ys : List (SV Y)) : Nat → Nat → Option (Bool × Bool)
  | 0, _ => some (true, true)
  | n + 1, j =>
    match rowAt isRow sz (j * sz) xs, rowAt isRow sz (j * sz) ys with
    | some a, some b => (match q a b, eqIs q isRow sz xs ys n (j + 1) with | some (l, p), some (m, r) => some (l && m, p && r) | _, _ => none)
    | _, _ => none
def eqT (E : Eng Y) : Nat → TypeId → SV Y → SV Y → Option (Bool × Bool)
  | 0, _, _, _ => none
  | d + 1, t, x, y =>
    match E.ty t, x, y with
    | some ⟨.int _, _, _, _⟩, .int l k a, .int m k' b => (match decide (k = k') with | true => some (l && m, a == b) | false => none)
    | some ⟨.bool, _, _, _⟩, .bool l a, .bool m b => some (l && m, a == b)
    | some ⟨.string, _, _, _⟩, .str l a, .str m b => some (l && m, a == b)
    | some ⟨.struct fs, _, _, _⟩, .agg xs, .agg ys => (match memB t E.eqs with | true => eqFs E (eqT E d) xs ys fs.toList | false => none)
    | some ⟨.array n el, _, _, _⟩, .agg xs, .agg ys => (match E.ty el with | some ti => eqIs (eqT E d el) (isRowD ti.d) ti.size xs ys n 0 | none => none)
    | _, _, _ => none
def sbinA (E : Eng Y) (op : BinOp) (t : TypeId) (x y : SV Y) (k : Res Y → Prop) : Prop :=
  match x, y with
  | .agg xs, .agg ys =>
    match memB t E.eqs, eqT E 100 t (.agg xs) (.agg ys) with
    | true, some (l, q) => (match op with | .eql => split l q fun v => k (quiet [] (.bool true v)) | .neq => split l (!q) fun v => k (quiet [] (.bool true v)) | _ => False)
    | _, _ => False
  | x, y => sbin E op t x y k

def stPick (T : Fr Y) (c a b : Operand) (k : Res Y → Prop) : Prop := match ev T c with | .bool l x => split l x (fun v => match v with | true => k (quiet [] (ev T a)) | false => k (quiet [] (ev T b))) | _ => False
def stAlloc (E : Eng Y) (t : TypeId) (i : Nat) (k : Res Y → Prop) : Prop := match E.ty t with | some ti => k (fresh i (.ptr i 0) (.raw (ofVal ti.zero : SV Y).cells 0 none) []) | none => False
def stBox (x : SV Y) (i : Nat) (k : Res Y → Prop) : Prop := match leaves x.cells with | true => k (fresh i (.ptr i 0) (.raw x.cells 0 none) []) | false => False
def stNil (x : SV Y) (k : Res Y → Prop) : Prop := match x with | .ptr b o => k (quiet [] (.ptr b o)) | .fn (.func f) a b => k (quiet [] (.fn (.func f) a b)) | _ => False
def stConv (E : Eng Y) (src dst : TypeId) (x : SV Y) (k : Res Y → Prop) : Prop := match E.ty src with | some _ => sconvert E dst x k | none => False
def stMap (E : Eng Y) (t : TypeId) (i : Nat) (k : Res Y → Prop) : Prop := match E.ty t with | some _ => k (fresh i (.map i) (.map []) []) | none => False
def stExt (x : SV Y) (n : Nat) (k : Res Y → Prop) : Prop := match x with | .tup vs => (match vs[n]? with | some v => k (quiet [] v) | none => False) | _ => False
def stLen (E : Eng Y) (c : Call) (T : Fr Y) (h : Hp Y) (k : Res Y → Prop) : Prop := match c.argTypes[0]?, c.args[0]? with | some t, some x => slen E t (ev T x) h k | _, _ => False
def stMm (mx : Bool) (c : Call) (T : Fr Y) (k : Res Y → Prop) : Prop := match c.args.toList with | x :: r => sminmax mx (ev T x) (r.map (ev T)) k | [] => False
def stApp (E : Eng Y) (c : Call) (T : Fr Y) (h : Hp Y) (i : Nat) (k : Res Y → Prop) : Prop := match c.args.toList, c.argTypes.toList with | [x, y], [t, t'] => (match Nat.beq t t' with | true => sappend E t (ev T x) (ev T y) h i k | false => False) | _, _ => False
def stCopy (E : Eng Y) (c : Call) (T : Fr Y) (h : Hp Y) (k : Res Y → Prop) : Prop := match c.args.toList, c.argTypes.toList with | [x, y], t :: _ => scopy E t (ev T x) (ev T y) h k | _, _ => False
def stVal (call : Nat → List (SV Y) → Hp Y → Nat → (Res Y → Prop) → Prop) (f : Operand) (c : Call) (T : Fr Y) (h : Hp Y) (i : Nat) (k : Res Y → Prop) : Prop := match ev T f with | .fn (.func f) a b => call f (a ++ c.args.toList.map (ev T) ++ b) h i k | _ => False
def stCall (E : Eng Y) (call : Nat → List (SV Y) → Hp Y → Nat → (Res Y → Prop) → Prop) (c : Call) (T : Fr Y) (h : Hp Y) (i : Nat) (k : Res Y → Prop) : Prop :=
  match c.callee with
  | .builtin .len => stLen E c T h k
  | .builtin .min => stMm false c T k
  | .builtin .max => stMm true c T k
  | .builtin .append => stApp E c T h i k
  | .builtin .copy => stCopy E c T h k
  | .value f => stVal call f c T h i k
  | _ => False
def stBuild (E : Eng Y) (t : TypeId) (parts : Array (Nat × Operand)) (T : Fr Y) (k : Res Y → Prop) : Prop := sbuild E t (parts.toList.map fun p => (p.1, ev T p.2)) k
def stBuildS (E : Eng Y) (t : TypeId) (len : Nat) (parts : Array (Nat × Operand)) (T : Fr Y) (i : Nat) (k : Res Y → Prop) : Prop := sbuildSlice E t len (parts.toList.map fun p => (p.1, ev T p.2)) i k
def stFunc (fn : Fn) (a b : Array Operand) (T : Fr Y) (k : Res Y → Prop) : Prop := k (quiet [] (.fn fn (a.toList.map (ev T)) (b.toList.map (ev T))))
def stSlice (E : Eng Y) (t : TypeId) (x : Operand) (lo hi mx : Option Operand) (T : Fr Y) (h : Hp Y) (k : Res Y → Prop) : Prop := sslice E t (ev T x) (lo.map (ev T)) (hi.map (ev T)) (mx.map (ev T)) h k
/-- One operation. -/
def step (E : Eng Y) (call : Nat → List (SV Y) → Hp Y → Nat → (Res Y → Prop) → Prop) (op : Op) (T : Fr Y) (h : Hp Y) (i : Nat) (k : Res Y → Prop) : Prop :=
  match op with
  | .move x => k (quiet [] (ev T x))
  | .assign x => k (quiet [] (ev T x))
  | .pick c a b => stPick T c a b k
  | .alloc t => stAlloc E t i k
  | .box t x => stBox (ev T x) i k
  | .build t parts => stBuild E t parts T k
  | .buildSlice t len parts => stBuildS E t len parts T i k
  | .load t x => sload E t (ev T x) h k
  | .store t x v => sstore E t (ev T x) (ev T v) h k
  | .nilCheck x => stNil (ev T x) k
  | .binOp op t x y _ => sbinA E op t (ev T x) (ev T y) k
  | .unOp op _ x => sun op (ev T x) k
  | .convert src dst x => stConv E src dst (ev T x) k
  | .makeFunc fn a b => stFunc fn a b T k
  | .fieldAddr s x f => sfieldAddr E s (ev T x) f k
  | .field s x f => sfield E s (ev T x) f k
  | .indexAddr t x ix => sindexAddr E t (ev T x) (ev T ix) h k
  | .index t x ix => sindex E t (ev T x) (ev T ix) k
  | .slice t x lo hi mx => stSlice E t x lo hi mx T h k
  | .makeSlice t x y => smake E t (ev T x) (ev T y) i k
  | .makeMap t none => stMap E t i k
  | .insert t m x v => sput E t (ev T m) (ev T x) (ev T v) h k
  | .mapUpdate t m x v => sput E t (ev T m) (ev T x) (ev T v) h k
  | .lookup t m x ok => slookup E t (ev T m) (ev T x) ok h k
  | .extract x n => stExt (ev T x) n k
  | .call c => stCall E call c T h i k
  | _ => False

/-- What follows an operation: its value is kept at d, its effects on memory are laid. -/
noncomputable def keepMs (h' : Hp Y) : List Nat → Hp Y → (Hp Y → Prop) → Prop
  | [], h, k => k h
  | b :: r, h, k => forceN b fun b => forceBlk (h' b) fun blk => keepMs h' r (upd h b blk) k
def newIds (rh : Hp Y) (m : List Nat) (i : Nat) : Nat → List Nat
  | 0 => m
  | n + 1 => match rh i with | some _ => i :: newIds rh m (i + 1) n | none => newIds rh m (i + 1) n
noncomputable def keepM (r : Res Y) (h : Hp Y) (i : Nat) (ms : List Nat) (k : Hp Y → Nat → List Nat → Prop) : Prop :=
  match r.n with
  | 0 => (match r.mods with | [] => k h i ms | m => keepMs r.h m h fun h => k h i (m ++ ms))
  | n => forceN (i + n) fun i' => keepMs r.h (newIds r.h r.mods i n) h fun h => k h i' (r.mods ++ ms)
noncomputable def keep (N : Nat) (d : Option Nat) (r : Res Y) (T : Fr Y) (h : Hp Y) (i : Nat) (ms : List Nat) (k : Fr Y → Hp Y → Nat → List Nat → Prop) : Prop :=
  match d with
  | none => keepM r h i ms fun h i ms => k T h i ms
  | some d =>
    match Nat.blt d N with
    | true => force r.v fun v => keepM r h i ms fun h i ms => k (upd T d v) h i ms
    | false => False

def dstOf (all : List Oper) (j : Nat) : Option Nat := match all[j]? with | some o => o.dst | none => none

def boolV : Value → Bool
  | .bool _ => true
  | _ => false
/-- The operations of a statement in the order of the text. -/
noncomputable def rgn (E : Eng Y) (N : Nat) (call : Nat → List (SV Y) → Hp Y → Nat → (Res Y → Prop) → Prop) (all : List Oper) : List Oper → Fr Y → Hp Y → Nat → List Nat → (Fr Y → Hp Y → Nat → List Nat → Prop) → Prop
  | [], T, h, i, ms, k => k T h i ms
  | o :: r, T, h, i, ms, k =>
    match o.guard with
    | none => step E call o.op T h i fun res => keep N o.dst res T h i ms fun T h i ms => rgn E N call all r T h i ms k
    | some (j, b) =>
      match dstOf all j with
      | some d =>
        match T d with
        | .bool l x => split l x fun v =>
          (match v, b with
          | true, true => step E call o.op (upd T d (.bool true true)) h i fun res => keep N o.dst res (upd T d (.bool true true)) h i ms fun T h i ms => rgn E N call all r T h i ms k
          | false, false => step E call o.op (upd T d (.bool true false)) h i fun res => keep N o.dst res (upd T d (.bool true false)) h i ms fun T h i ms => rgn E N call all r T h i ms k
          | v, _ => (match o.dst with | none => rgn E N call all r (upd T d (.bool true v)) h i ms k | some d' => rgn E N call all r (upd (upd T d (.bool true v)) d' (.val undef)) h i ms k))
        | .val u => (match boolV u with | true => False | false => (match o.dst with | none => rgn E N call all r T h i ms k | some d' => rgn E N call all r (upd T d' (.val undef)) h i ms k))
        | _ => False
      | none => False

/-! A statement whose order is drawn. -/
def waitsOf (o : Oper) : List Nat := (o.after.toList.filter (Region.binds .any)).map (·.on)
def bitB (m j : Nat) : Bool := Nat.beq (Nat.land (Nat.shiftRight m j) 1) 1
def nthN : List Nat → Nat → Nat
  | [], _ => 0
  | x :: _, 0 => x
  | _ :: r, n + 1 => nthN r n
def maskOf : List Nat → List Nat → Nat
  | [], _ => 0
  | j :: r, acc => Nat.lor (Nat.lor (Nat.shiftLeft 1 j) (nthN acc j)) (maskOf r acc)
/-- of each operation: those that it has to wait for -/
def masks : List Oper → List Nat → List Nat
  | [], acc => acc
  | o :: r, acc => masks r (acc ++ [maskOf (waitsOf o) acc])
def tmpsOf : List Operand → List Nat
  | [] => []
  | .tmp t :: r => t :: tmpsOf r
  | _ :: r => tmpsOf r
def readsOf (all : List Oper) (o : Oper) : List Nat :=
  match o.guard with
  | none => tmpsOf o.op.operands.toList
  | some (g, _) => (match dstOf all g with | some d => d :: tmpsOf o.op.operands.toList | none => tmpsOf o.op.operands.toList)
def memO (d : Option Nat) (l : List Nat) : Bool := match d with | some d => memB d l | none => false
def sameO (a b : Option Nat) : Bool := match a, b with | some a, some b => Nat.beq a b | _, _ => false
/-- two operations that do not touch the same places of the frame -/
def apartS (all : List Oper) (a b : Oper) : Bool := !(memO a.dst (readsOf all b)) && !(memO b.dst (readsOf all a)) && !(sameO a.dst b.dst)
def apartAll (all : List Oper) (b : Oper) (m : Nat) : List Oper → Nat → Bool
  | [], _ => true
  | a :: r, i => (bitB m i || apartS all a b) && apartAll all b m r (i + 1)
def allLt (j : Nat) : List Nat → Bool
  | [] => true
  | x :: r => Nat.blt x j && allLt j r
def drawOk (all : List Oper) (ms : List Nat) : List Oper → Nat → Bool
  | [], _ => true
  | b :: r, j => allLt j (waitsOf b) && apartAll all b (nthN ms j) (all.take j) 0 && drawOk all ms r (j + 1)

structure DR (Y : Thy) where
  i : Nat
  r : Res Y
def DR.new (d : DR Y) (b : Nat) : Bool := Nat.ble d.i b && Nat.blt b (d.i + d.r.n)
def noneIn (d : DR Y) : List Nat → Bool
  | [] => true
  | x :: r => !(d.new x) && noneIn d r
def disj : List Nat → List Nat → Bool
  | [], _ => true
  | x :: r, l => !(memB x l) && disj r l
def isNil : List Nat → Bool
  | [] => true
  | _ => false
/-- two operations without an order between them (a before b in the text) that do not touch the same memory -/
def apartD (a b : DR Y) : Bool :=
  (disj a.r.mods b.r.mods && noneIn a b.r.mods) &&
  (match b.r.rd with | none => isNil a.r.mods | some l => disj a.r.mods l && noneIn a l) &&
  (match a.r.rd with | none => isNil b.r.mods | some l => disj b.r.mods l && noneIn b l)
def apartDs (b : DR Y) : List (DR Y) → Bool
  | [] => true
  | a :: r => apartD a b && apartDs b r
/-- those before that it does not wait for -/
def unord (m : Nat) : List (Nat × DR Y) → List (DR Y)
  | [] => []
  | (j, d) :: r => match bitB m j with | true => unord m r | false => d :: unord m r
def withNew : List (DR Y) → List (DR Y)
  | [] => []
  | d :: r => match d.r.n with | 0 => withNew r | _ => d :: withNew r
def anyNew (b : Nat) : List (DR Y) → Bool
  | [] => false
  | d :: r => d.new b || anyNew b r
/-- memory without what those have made -/
def viewD (h : Hp Y) (un : List (DR Y)) : Hp Y :=
  match withNew un with
  | [] => h
  | l => fun b => match anyNew b l with | true => none | false => h b

noncomputable def rgnD (E : Eng Y) (N : Nat) (call : Nat → List (SV Y) → Hp Y → Nat → (Res Y → Prop) → Prop) (all : List Oper) (mks : List Nat) : List Oper → Nat → Fr Y → Hp Y → Nat → List Nat → List (Nat × DR Y) → (Fr Y → Hp Y → Nat → List Nat → Prop) → Prop
  | [], _, T, h, i, ms, _, k => k T h i ms
  | o :: r, j, T, h, i, ms, prev, k =>
    match o.guard with
    | none => step E call o.op T (viewD h (unord (nthN mks j) prev)) i fun res =>
        (match apartDs ⟨i, res⟩ (unord (nthN mks j) prev) with
        | true => keep N o.dst res T h i ms fun T h i' ms => rgnD E N call all mks r (j + 1) T h i' ms ((j, ⟨i, res⟩) :: prev) k
        | false => False)
    | some (g, b) =>
      match dstOf all g with
      | some d =>
        match T d with
        | .bool l x => split l x fun v =>
          (match v == b with
          | true => step E call o.op T (viewD h (unord (nthN mks j) prev)) i fun res =>
            (match apartDs ⟨i, res⟩ (unord (nthN mks j) prev) with
            | true => keep N o.dst res T h i ms fun T h i' ms => rgnD E N call all mks r (j + 1) T h i' ms ((j, ⟨i, res⟩) :: prev) k
            | false => False)
          | false => rgnD E N call all mks r (j + 1) (updO T o.dst .unk) h i ms ((j, ⟨i, quiet [] .unk⟩) :: prev) k)
        | _ => False
      | none => False

abbrev Sum (Y : Thy) := List (SV Y) → Hp Y → Nat → (Res Y → Prop) → Prop
/-- what follows a piece of code -/
abbrev Kont (Y : Thy) := Exit → Fr Y → Hp Y → Nat → List Nat → Prop
structure Fns (Y : Thy) where
  sums : Nat → Option (Sum Y)
  fns : Nat → Option Func
  loops : Nat → Nat → Option ((Fr Y → Hp Y → Nat → List Nat → Kont Y → Prop) → Fr Y → Hp Y → Nat → List Nat → Kont Y → Prop)

def nthD : List (SV Y) → Nat → SV Y
  | [], _ => .unk
  | x :: _, 0 => x
  | _ :: r, n + 1 => nthD r n

def resultOf (E : Eng Y) (T : Fr Y) (h : Hp Y) : ResultVar → Option (SV Y)
  | .tmp t => some (T t)
  | .cell a t =>
    match E.ty t, T a with
    | some ti, .ptr b off => (match h b with | some (.raw cs _ _) => rowAt (isRowD ti.d) ti.size off cs | _ => none)
    | _, _ => none
def resultsOf (E : Eng Y) (T : Fr Y) (h : Hp Y) : List ResultVar → Option (List (SV Y))
  | [] => some []
  | r :: rs => (match resultOf E T h r, resultsOf E T h rs with | some v, some vs => some (v :: vs) | _, _ => none)
def oneOrTup : List (SV Y) → SV Y
  | [v] => v
  | vs => .tup vs

def firstReg : Code → Option Nat
  | .region id _ _ => some id
  | .seq a _ => firstReg a
  | .block _ b => firstReg b
  | .loop b => firstReg b
  | _ => none

abbrev BodyVc (Y : Thy) := Fr Y → Hp Y → Nat → List Nat → Kont Y → Prop
def lpOf (F : Fns Y) (f : Nat) (b : Code) : Option (BodyVc Y → BodyVc Y) := match firstReg b with | some j => F.loops f j | none => none

def ltFilter (i : Nat) : List Nat → List Nat
  | [] => []
  | b :: r => match Nat.blt b i && !(memB b (ltFilter i r)) with | true => b :: ltFilter i r | false => ltFilter i r
def onlyM (h : Hp Y) (m : List Nat) : Hp Y := fun b => match memB b m with | true => h b | false => none

noncomputable def callF (E : Eng Y) (F : Fns Y) (rec : Nat → Nat → Code → Fr Y → Hp Y → Nat → List Nat → Kont Y → Prop) : Nat → List (SV Y) → Hp Y → Nat → (Res Y → Prop) → Prop := fun f args h i k =>
  match F.sums f with
  | some S => forceL args fun args => S args h i k
  | none =>
    match F.fns f with
    | some fn =>
      match fn.body with
      | some c => match Nat.ble args.length fn.ntmps with | false => False | true => forceL args fun args => rec f fn.ntmps c (nthD args) h i [] fun e T h' i' ms =>
        (match e with
        | .normal | .ret => (match resultsOf E T h' fn.results.toList with | some vs => forceL vs fun vs => forceNL (ltFilter i ms) fun ms => forceNL (reach h' i 100000 (idsL vs ++ idsM h' ms) ms) fun l => forceN (i' - i) fun n => k ⟨oneOrTup vs, n, ms, onlyM h' l, none⟩ | none => False)
        | _ => False)
      | none => False
    | none => False

abbrev Rec (Y : Thy) := Nat → Nat → Code → Fr Y → Hp Y → Nat → List Nat → Kont Y → Prop
/-! Conditions with && and ||: the ways meet again behind the statement. -/
def quietC : Callee → Bool
  | .builtin .len => true
  | .builtin .min => true
  | .builtin .max => true
  | _ => false
def quietOp : Op → Bool
  | .move _ => true
  | .pick _ _ _ => true
  | .load _ _ => true
  | .binOp _ _ _ _ _ => true
  | .unOp _ _ _ => true
  | .convert _ _ _ => true
  | .fieldAddr _ _ _ => true
  | .field _ _ _ => true
  | .indexAddr _ _ _ => true
  | .index _ _ _ => true
  | .extract _ _ => true
  | .call c => quietC c.callee
  | _ => false
def isTmp (x : Operand) (d : Nat) : Bool := match x with | .tmp t => Nat.beq t d | _ => false
/-- what follows the last choice: its value is kept in further places -/
def tailB (d : Nat) : List Oper → Option (List Nat)
  | [] => some []
  | o :: r =>
    match o.guard, o.op, o.dst, tailB d r with
    | none, .assign x, some d', some l => (match isTmp x d with | true => some (d' :: l) | false => none)
    | none, .move x, some d', some l => (match isTmp x d with | true => some (d' :: l) | false => none)
    | _, _, _, _ => none
def joinHere (o : Oper) (r : List Oper) : Option (Nat × List Nat) :=
  match o.op, o.guard, o.dst with
  | .pick _ _ _, none, some d => (match tailB d r with | some l => some (d, l) | none => none)
  | _, _, _ => none
/-- the choice that a statement ends with -/
def joinD : List Oper → Bool → Option (Nat × List Nat)
  | [], _ => none
  | o :: r, g =>
    match quietOp o.op with
    | true => (match g, joinHere o r with | true, some p => some p | _, _ => joinD r (g || o.guard.isSome))
    | false => none
def dstsOf : List Oper → List Nat
  | [] => []
  | o :: r => match o.dst with | some d => d :: dstsOf r | none => dstsOf r
def maskT : List Nat → Fr Y → Fr Y
  | [], T => T
  | d :: r, T => upd (maskT r T) d .unk
def boolT (b : Bool) : List Nat → Fr Y → Fr Y
  | [], T => T
  | d :: r, T => upd (boolT b r T) d (.bool true b)
def boolsK (T : Fr Y) (b : Bool) : List Nat → Prop
  | [] => True
  | d :: r => (match T d with | .bool _ b' => b' = b | _ => False) ∧ boolsK T b r
def joinK (d : Nat) (l : List Nat) (Q : Bool → Prop) (T : Fr Y) : Prop := match l with | [] => (match T d with | .bool _ b => Q b | _ => False) | l => (match T d with | .bool _ b => boolsK T b l ∧ Q b | _ => False)
noncomputable def vcRgn (E : Eng Y) (F : Fns Y) (rec : Rec Y) (N : Nat) (ops : List Oper) (draw : Bool) (T : Fr Y) (h : Hp Y) (i : Nat) (ms : List Nat) (K : Kont Y) : Prop :=
  match draw with
  | false =>
    (match E.lit, joinD ops false with
    | false, some (d, []) => ∃ Q : Bool → Prop, rgn E N (callF E F rec) ops ops T h i ms (fun T' _ _ _ => joinK d [] Q T') ∧
        (Q true → K .normal (boolT true [d] (maskT (dstsOf ops) T)) h i ms) ∧ (Q false → K .normal (boolT false [d] (maskT (dstsOf ops) T)) h i ms)
    | _, _ => rgn E N (callF E F rec) ops ops T h i ms (K .normal))
  | true => (match drawOk ops (masks ops []) ops 0 with | true => rgnD E N (callF E F rec) ops (masks ops []) ops 0 T h i ms [] (K .normal) | false => False)
def vcSeq (rec : Rec Y) (f N : Nat) (a b : Code) (T : Fr Y) (h : Hp Y) (i : Nat) (ms : List Nat) (K : Kont Y) : Prop :=
  rec f N a T h i ms fun e T h i ms => (match e with | .normal => rec f N b T h i ms K | e => K e T h i ms)
def vcCond (rec : Rec Y) (f N : Nat) (x : Operand) (a b : Code) (T : Fr Y) (h : Hp Y) (i : Nat) (ms : List Nat) (K : Kont Y) : Prop :=
  match ev T x with | .bool l v => split l v (fun v => match v with | true => rec f N a T h i ms K | false => rec f N b T h i ms K) | _ => False
def vcBlock (rec : Rec Y) (f N id : Nat) (b : Code) (T : Fr Y) (h : Hp Y) (i : Nat) (ms : List Nat) (K : Kont Y) : Prop :=
  rec f N b T h i ms fun e T h i ms => (match e with | .exit j => (match Nat.beq j id with | true => K .normal T h i ms | false => K (.exit j) T h i ms) | e => K e T h i ms)
def vcLoop (F : Fns Y) (rec : Rec Y) (f N : Nat) (b : Code) (T : Fr Y) (h : Hp Y) (i : Nat) (ms : List Nat) (K : Kont Y) : Prop :=
  match lpOf F f b with
  | some L => L (rec f N b) T h i ms K
  | none => rec f N b T h i ms fun e T h i ms => (match e with | .normal => rec f N (.loop b) T h i ms K | e => K e T h i ms)
noncomputable def vcB (E : Eng Y) (F : Fns Y) (rec : Rec Y) : Rec Y := fun f N c T h i ms K =>
  match c with
  | .skip => K .normal T h i ms
  | .region _ ops draw => vcRgn E F rec N ops.toList draw T h i ms K
  | .seq a b => vcSeq rec f N a b T h i ms K
  | .cond x a b => vcCond rec f N x a b T h i ms K
  | .block id b => vcBlock rec f N id b T h i ms K
  | .loop b => vcLoop F rec f N b T h i ms K
  | .exit id => K (.exit id) T h i ms
  | .ret => K .ret T h i ms
  | _ => False

noncomputable def vc (E : Eng Y) (F : Fns Y) (n : Nat) : Nat → Nat → Code → Fr Y → Hp Y → Nat → List Nat → Kont Y → Prop :=
  Nat.rec (fun _ _ _ _ _ _ _ _ => False) (fun _ ih => vcB E F ih) n
end
end Go.Proofs.YtcaomfbcchemnaaDoor
