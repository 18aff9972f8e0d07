/- A small machine over plain values: it says what a function of the program computes from plain data, without memory. Definitions only; no condition. -/
import Derived.Test.YthbojpaghbbnnaaG
import Derived.WalkKit
namespace Go.Proofs.Ythbojpaghbbnnaa.Z
open Go
set_option linter.unusedVariables false

/-- Kinds of plain values. -/
inductive T where
  | int (k : IntKind)
  | bool
  | flt
  | list (t : T)
  | pair (a b : T)
  | obj (n : Nat)
  | ptr (t : T)
  | one (t : T)
  deriving DecidableEq
/-- What a pointer to an object that is never changed stands for. -/
def OT : Nat → Type
  | 0 => Gr
  | 1 => Gr
  | 2 => List Int
  | _ => Unit
abbrev T.den : T → Type
  | .int _ => Int
  | .bool => Bool
  | .flt => Nat
  | .list t => List t.den
  | .pair a b => a.den × b.den
  | .obj n => Option (OT n)
  | .ptr t => Option t.den
  | .one t => t.den
def T.dflt : (t : T) → t.den
  | .int _ => (0 : Int)
  | .bool => false
  | .flt => (0 : Nat)
  | .list _ => []
  | .pair a b => (a.dflt, b.dflt)
  | .obj _ => none
  | .ptr _ => none
  | .one t => t.dflt
def T.size : T → Nat
  | .pair a b => a.size + b.size
  | .one t => t.size
  | _ => 1
def T.isPair : T → Bool
  | .pair _ _ => true
  | .one _ => true
  | _ => false
/-- Does it lead on to other memory? -/
def T.led : T → Bool
  | .list _ => true
  | .obj _ => true
  | .ptr _ => true
  | .one t => t.led
  | .pair a b => a.led || b.led
  | _ => false
def T.cast {a b : T} (h : a = b) (x : a.den) : b.den := h ▸ x
/-- The part of kind u that begins at cell k. -/
def T.sub (u : T) : (t : T) → Nat → t.den → Option u.den
  | .int p, k, x => if h : T.int p = u ∧ k = 0 then some (T.cast h.1 x) else none
  | .bool, k, x => if h : T.bool = u ∧ k = 0 then some (T.cast h.1 x) else none
  | .flt, k, x => if h : T.flt = u ∧ k = 0 then some (T.cast h.1 x) else none
  | .list t, k, x => if h : T.list t = u ∧ k = 0 then some (T.cast h.1 x) else none
  | .obj n, k, x => if h : T.obj n = u ∧ k = 0 then some (T.cast h.1 x) else none
  | .ptr t, k, x => if h : T.ptr t = u ∧ k = 0 then some (T.cast h.1 x) else none
  | .one t, k, x => if h : T.one t = u ∧ k = 0 then some (T.cast h.1 x) else T.sub u t k x
  | .pair a b, k, x => if h : T.pair a b = u ∧ k = 0 then some (T.cast h.1 x) else if k < a.size then T.sub u a k x.1 else T.sub u b (k - a.size) x.2
/-- The same, with another part there. -/
def T.upd (u : T) (y : u.den) : (t : T) → Nat → t.den → Option t.den
  | .int p, k, _ => if h : u = T.int p ∧ k = 0 then some (T.cast h.1 y) else none
  | .bool, k, _ => if h : u = T.bool ∧ k = 0 then some (T.cast h.1 y) else none
  | .flt, k, _ => if h : u = T.flt ∧ k = 0 then some (T.cast h.1 y) else none
  | .list t, k, _ => if h : u = T.list t ∧ k = 0 then some (T.cast h.1 y) else none
  | .obj n, k, _ => if h : u = T.obj n ∧ k = 0 then some (T.cast h.1 y) else none
  | .ptr t, k, _ => if h : u = T.ptr t ∧ k = 0 then some (T.cast h.1 y) else none
  | .one t, k, x => if h : u = T.one t ∧ k = 0 then some (T.cast h.1 y) else T.upd u y t k x
  | .pair a b, k, x => if h : u = T.pair a b ∧ k = 0 then some (T.cast h.1 y) else if k < a.size then (T.upd u y a k x.1).map (fun z => (z, x.2)) else (T.upd u y b (k - a.size) x.2).map (fun z => (x.1, z))

/-- What a temporary holds. -/
inductive A where
  | un
  | und
  | v (t : T) (x : t.den)
  | nls
  | nlp
  | row (i : Nat)
  | cut (i n : Nat) (full : Bool)
  | adr (i j k s : Nat) (t : T)
  | ref (t : T) (x : t.den)
  | box (i k : Nat)
  | tnil
  | tcons (a b : A)
  | str (a : A)
/-- Memory of the call's own: a row of elements, or a struct. -/
inductive Ob where
  | row (e : TypeId) (t : T) (xs : List t.den)
  | cells (e : TypeId) (l : List A)
  | gone
structure St where
  tm : List A
  ob : List Ob

def atn {α : Type} (d : α) : List α → Nat → α
  | [], _ => d
  | x :: _, 0 => x
  | _ :: l, n + 1 => atn d l n
def setn {α : Type} (y : α) : List α → Nat → List α
  | [], _ => []
  | _ :: l, 0 => y :: l
  | x :: l, n + 1 => x :: setn y l n
def mapn {α : Type} (f : α → α) : List α → List α
  | [] => []
  | x :: l => f x :: mapn f l
def St.put (st : St) (d : Option Tmp) (x : A) : St :=
  match d with
  | some d => ⟨setn x st.tm d, st.ob⟩
  | none => st
def lit : Value → A
  | .int k n => .v (.int k) n
  | .bool b => .v .bool b
  | .float .f64 n => .v .flt n
  | .pointer none => .nlp
  | .slice none 0 0 => .nls
  | _ => .un
def ev (st : St) : Operand → A
  | .tmp t => atn .un st.tm t
  | .const v => lit v
  | _ => .un

/-! ### Types -/
inductive Und where
  | sc
  | ptr
  | sl (e : TypeId)
  | st (fs : List (Nat × TypeId))
structure TI where
  t : T
  u : Und
  bytes : Nat
abbrev Tab := List (TypeId × TI)
def Tab.find : Tab → TypeId → Option TI
  | [], _ => none
  | (k, i) :: l, t => if k = t then some i else Tab.find l t

/-! ### Reading -/
def A.toV (ob : List Ob) (u : T) : A → Option u.den
  | .v t x => if h : t = u then some (T.cast h x) else none
  | .nls => match u with
    | .list _ => some []
    | _ => none
  | .nlp => match u with
    | .obj _ => some none
    | .ptr _ => some none
    | _ => none
  | .row i => match atn .gone ob i with
    | .row _ t xs => if h : T.list t = u then some (T.cast h xs) else none
    | _ => none
  | .cut i n _ => match atn .gone ob i with
    | .row _ t xs => if h : T.list t = u then some (T.cast (a := .list t) h (List.take n xs)) else none
    | _ => none
  | _ => none
/-- Row i's content in place of the row. -/
def A.frz (o : Ob) (i : Nat) : A → A
  | .row j => if j = i then (match o with
    | .row _ t xs => .v (.list t) xs
    | _ => .un) else .row j
  | .cut j n f => if j = i then (match o with
    | .row _ t xs => .v (.list t) (List.take n xs)
    | _ => .un) else .cut j n f
  | .adr j a b s t => if j = i then .un else .adr j a b s t
  | .box j k => if j = i then .un else .box j k
  | .tcons a b => .tcons (A.frz o i a) (A.frz o i b)
  | .str a => .str (A.frz o i a)
  | .un => .un
  | .und => .und
  | .v t x => .v t x
  | .nls => .nls
  | .nlp => .nlp
  | .ref t x => .ref t x
  | .tnil => .tnil
def Ob.frz (o : Ob) (i : Nat) : Ob → Ob
  | .row e t xs => .row e t xs
  | .cells e l => .cells e (mapn (A.frz o i) l)
  | .gone => .gone
def St.frz (st : St) (i : Nat) : St :=
  match atn .gone st.ob i with
  | .row e t xs => ⟨mapn (A.frz (.row e t xs) i) st.tm, setn .gone (mapn (Ob.frz (.row e t xs) i) st.ob) i⟩
  | _ => st
/-- Nobody knows of object i any more. -/
def St.kill (st : St) (i : Nat) : St := ⟨mapn (A.frz .gone i) st.tm, mapn (Ob.frz .gone i) st.ob⟩
/-- May a single cell hold it? -/
def A.oneB : A → Bool
  | .v (.pair _ _) _ => false
  | .v (.one _) _ => false
  | .v _ _ => true
  | .nls => true
  | .nlp => true
  | .row _ => true
  | .cut _ _ _ => true
  | .adr _ _ _ _ _ => true
  | .ref _ _ => true
  | .box _ _ => true
  | _ => false
/-- May it be read as a value for ever? (A row that was handed in to be written may not.) -/
def A.thawB (own : Nat) : A → Bool
  | .row i => decide (own ≤ i)
  | .cut i _ _ => decide (own ≤ i)
  | _ => true
/-- What is to be frozen ahead of being read as a value for ever. -/
def A.thaw (x : A) (st : St) : St :=
  match x with
  | .row i => st.frz i
  | .cut i _ _ => st.frz i
  | _ => st

/-! ### Operations that only compute -/
def bitsZ (op : BinOp) (p : IntKind) (a b : Int) : Int :=
  match op with
  | .and => p.wrap ((BitVec.ofInt p.bits a &&& BitVec.ofInt p.bits b).toNat : Int)
  | .or => p.wrap ((BitVec.ofInt p.bits a ||| BitVec.ofInt p.bits b).toNat : Int)
  | .xor => p.wrap ((BitVec.ofInt p.bits a ^^^ BitVec.ofInt p.bits b).toNat : Int)
  | _ => p.wrap ((BitVec.ofInt p.bits a &&& ~~~(BitVec.ofInt p.bits b)).toNat : Int)
section
variable {R : Type}
def intZ (op : BinOp) (p : IntKind) (a : Int) (q : IntKind) (b : Int) (k : A → Option R) : Option R :=
  match op with
  | .shl => if 0 ≤ b then k (.v (.int p) (p.wrap (a * 2 ^ (min b.toNat p.bits)))) else none
  | .shr => if 0 ≤ b then k (.v (.int p) (a.fdiv (2 ^ (min b.toNat p.bits)))) else none
  | .add => if p = q then k (.v (.int p) (p.wrap (a + b))) else none
  | .sub => if p = q then k (.v (.int p) (p.wrap (a - b))) else none
  | .mul => if p = q then k (.v (.int p) (p.wrap (a * b))) else none
  | .quo => if p = q then (if b = 0 then none else k (.v (.int p) (p.wrap (a.tdiv b)))) else none
  | .rem => if p = q then (if b = 0 then none else k (.v (.int p) (a.tmod b))) else none
  | .and => if p = q then k (.v (.int p) (bitsZ .and p a b)) else none
  | .or => if p = q then k (.v (.int p) (bitsZ .or p a b)) else none
  | .xor => if p = q then k (.v (.int p) (bitsZ .xor p a b)) else none
  | .andNot => if p = q then k (.v (.int p) (bitsZ .andNot p a b)) else none
  | .eql => if p = q then k (.v .bool (a == b)) else none
  | .neq => if p = q then k (.v .bool (a != b)) else none
  | .lss => if p = q then k (.v .bool (decide (a < b))) else none
  | .leq => if p = q then k (.v .bool (decide (a ≤ b))) else none
  | .gtr => if p = q then k (.v .bool (decide (a > b))) else none
  | .geq => if p = q then k (.v .bool (decide (a ≥ b))) else none
def fltZ (op : BinOp) (a b : Nat) (k : A → Option R) : Option R :=
  match op with
  | .quo => match FloatKind.f64.format.div a b with
    | some r => k (.v .flt r)
    | none => none
  | .eql => k (.v .bool (FloatKind.f64.format.order a b == some .eq))
  | .neq => k (.v .bool (FloatKind.f64.format.order a b != some .eq))
  | .lss => k (.v .bool (FloatKind.f64.format.order a b == some .lt))
  | .geq => k (.v .bool (FloatKind.f64.format.order a b == some .gt || FloatKind.f64.format.order a b == some .eq))
  | _ => none
def eqZ (op : BinOp) (b : Bool) (k : A → Option R) : Option R :=
  match op with
  | .eql => k (.v .bool b)
  | .neq => k (.v .bool (!b))
  | _ => none
def binZ (tab : Tab) (op : BinOp) (xt : TypeId) (x y : A) (k : A → Option R) : Option R :=
  match x, y with
  | .v (.int p) a, .v (.int q) b => intZ op p a q b k
  | .v .bool a, .v .bool b => match tab.find xt with
    | some ⟨.bool, .sc, _⟩ => eqZ op (a == b) k
    | _ => none
  | .v .flt a, .v .flt b => fltZ op a b k
  | .v (.obj _) a, .nlp => match tab.find xt with
    | some ⟨_, .ptr, _⟩ => eqZ op (Option.isNone a) k
    | _ => none
  | .v (.ptr _) a, .nlp => match tab.find xt with
    | some ⟨_, .ptr, _⟩ => eqZ op (Option.isNone a) k
    | _ => none
  | .nlp, .nlp => match tab.find xt with
    | some ⟨_, .ptr, _⟩ => eqZ op true k
    | _ => none
  | .box _ _, .nlp => match tab.find xt with
    | some ⟨_, .ptr, _⟩ => eqZ op false k
    | _ => none
  | _, _ => none
def unZ (op : UnOp) (x : A) (k : A → Option R) : Option R :=
  match op, x with
  | .neg, .v (.int p) a => k (.v (.int p) (p.wrap (0 - a)))
  | .not, .v .bool a => k (.v .bool (!a))
  | _, _ => none
def convZ (tab : Tab) (src dst : TypeId) (x : A) (k : A → Option R) : Option R :=
  match x, tab.find src, tab.find dst with
  | .v (.int _) a, some _, some ⟨.int q, .sc, _⟩ => k (.v (.int q) (q.wrap a))
  | .v (.int _) a, some _, some ⟨.flt, .sc, _⟩ => k (.v .flt (FloatKind.f64.nearest a))
  | _, _, _ => none
/-- Field f of struct type s: its first cell, its kind. -/
def fldZ (tab : Tab) (s : TypeId) (f : Nat) : Option (Nat × T) :=
  match tab.find s with
  | some ⟨_, .st fs, _⟩ => match atn (0, 0) fs f with
    | (o, ft) => if f < fs.length then (match tab.find ft with
      | some i => some (o, i.t)
      | none => none) else none
  | _ => none
def fieldZ (tab : Tab) (s : TypeId) (x : A) (f : Nat) (k : A → Option R) : Option R :=
  match fldZ tab s f, x with
  | some (o, u), .v (.pair a b) y => match T.sub u (.pair a b) o y with
    | some z => k (.v u z)
    | none => none
  | _, _ => none
def fieldAddrZ (tab : Tab) (s : TypeId) (x : A) (f : Nat) (k : A → Option R) : Option R :=
  match fldZ tab s f, x with
  | some (o, u), .ref t y => match T.sub u t o y with
    | some z => k (.ref u z)
    | none => none
  | some (o, u), .v (.ptr t) y => if Option.isSome y = true then (match T.sub u t o (Option.getD y t.dflt) with
    | some z => k (.ref u z)
    | none => none) else none
  | some (o, u), .adr i j c s _ => k (.adr i j (c + o) s u)
  | some (o, _), .box i c => k (.box i (c + o))
  | _, _ => none
def lenZ (ob : List Ob) (x : A) (k : Nat → Option R) : Option R :=
  match x with
  | .v (.list _) xs => k (List.length xs)
  | .nls => k 0
  | .row i => match atn .gone ob i with
    | .row _ _ xs => k xs.length
    | _ => none
  | .cut _ n _ => k n
  | _ => none
def elemZ (tab : Tab) (t : TypeId) : Option (TypeId × TI) :=
  match tab.find t with
  | some ⟨_, .sl e, _⟩ => match tab.find e with
    | some i => some (e, i)
    | none => none
  | _ => none
def indexAddrZ (tab : Tab) (ob : List Ob) (t : TypeId) (x i : A) (k : A → Option R) : Option R :=
  match elemZ tab t, x, i with
  | some (_, e), .v (.list u) xs, .v (.int _) n => if u = e.t then (if 0 ≤ n then (if n < (List.length xs : Int) then k (.ref u (List.getD xs n.toNat u.dflt)) else none) else none) else none
  | some (_, e), .row m, .v (.int _) n => match atn .gone ob m with
    | .row _ u xs => if u = e.t then (if 0 ≤ n then (if n < (xs.length : Int) then k (.adr m n.toNat 0 u.size u) else none) else none) else none
    | _ => none
  | some (_, e), .cut m c _, .v (.int _) n => match atn .gone ob m with
    | .row _ u _ => if u = e.t then (if 0 ≤ n then (if n < (c : Int) then k (.adr m n.toNat 0 u.size u) else none) else none) else none
    | _ => none
  | _, _, _ => none
def sliceZ (tab : Tab) (ob : List Ob) (t : TypeId) (x : A) (lo hi mx : Option A) (k : A → Option R) : Option R :=
  match elemZ tab t, x, lo, hi, mx with
  | some (_, e), .v (.list u) xs, some (.v (.int _) l), none, none => if u = e.t then (if 0 ≤ l then (if l ≤ (List.length xs : Int) then k (.v (.list u) (List.drop l.toNat xs)) else none) else none) else none
  | some (_, e), .v (.list u) xs, none, some (.v (.int _) h), none => if u = e.t then (if 0 ≤ h then (if h ≤ (List.length xs : Int) then k (.v (.list u) (List.take h.toNat xs)) else none) else none) else none
  | some (_, e), .v (.list u) xs, some (.v (.int _) l), some (.v (.int _) h), none => if u = e.t then (if 0 ≤ l then (if l ≤ h then (if h ≤ (List.length xs : Int) then k (.v (.list u) (List.drop l.toNat (List.take h.toNat xs))) else none) else none) else none) else none
  | some (_, e), .row i, none, some (.v (.int _) h), none => match atn .gone ob i with
    | .row _ u xs => if u = e.t then (if 0 ≤ h then (if h ≤ (xs.length : Int) then k (.cut i h.toNat true) else none) else none) else none
    | _ => none
  | some (_, e), .row i, none, some (.v (.int _) h), some (.v (.int _) m) => match atn .gone ob i with
    | .row _ u xs => if u = e.t then (if 0 ≤ h then (if h ≤ m then (if m ≤ (xs.length : Int) then k (.cut i h.toNat false) else none) else none) else none) else none
    | _ => none
  | some (_, e), .cut i _ true, none, some (.v (.int _) h), none => match atn .gone ob i with
    | .row _ u xs => if u = e.t then (if 0 ≤ h then (if h ≤ (xs.length : Int) then k (.cut i h.toNat true) else none) else none) else none
    | _ => none
  | _, _, _, _, _ => none
def extractZ : A → Nat → (A → Option R) → Option R
  | .tcons a _, 0, k => k a
  | .tcons _ b, n + 1, k => extractZ b n k
  | _, _, _ => none
def bestZ (big : Bool) : Int → List A → IntKind → (A → Option R) → Option R
  | x, [], p, k => k (.v (.int p) x)
  | x, .v (.int _) y :: l, p, k => bestZ big (if big then (if y > x then y else x) else (if y < x then y else x)) l p k
  | _, _ :: _, _, _ => none
def builtinZ (tab : Tab) (st : St) (b : Builtin) (ts : List TypeId) (xs : List A) (k : A → Option R) : Option R :=
  match b, xs with
  | .len, [x] => match ts with
    | t :: _ => match elemZ tab t with
      | some _ => lenZ st.ob x (fun n => k (.v (.int .i64) (n : Int)))
      | none => none
    | [] => none
  | .max, .v (.int p) x :: l => bestZ true x l p k
  | .min, .v (.int p) x :: l => bestZ false x l p k
  | _, _ => none
def buildZ (tab : Tab) (st : St) (s : TypeId) (t : T) : List (Nat × Operand) → t.den → Option t.den
  | [], x => some x
  | (f, y) :: l, x => match fldZ tab s f with
    | some (o, u) => match A.toV [] u (ev st y) with
      | some z => match T.upd u z t o x with
        | some x' => buildZ tab st s t l x'
        | none => none
      | none => none
    | none => none
/-- Does a single cell hold it, whatever it is? -/
def cellB (ob : List Ob) : A → Bool
  | .row i => match atn .gone ob i with
    | .row _ _ _ => true
    | _ => false
  | x => x.oneB
/-- A struct's value, cell by cell (a row among them). -/
def strZ (tab : Tab) (st : St) (s : TypeId) : Nat → List (Nat × Operand) → Option A
  | _, [] => some .tnil
  | n, (f, y) :: l => match fldZ tab s f with
    | some (o, u) => if f = n ∧ o = n ∧ u.isPair = false ∧ cellB st.ob (ev st y) = true then (match strZ tab st s (n + 1) l with
      | some a => some (.tcons (ev st y) a)
      | none => none) else none
    | none => none
def isTup : A → Bool
  | .tcons _ b => isTup b
  | .tnil => true
  | _ => false
def listA : A → List A
  | .tcons a b => a :: listA b
  | _ => []
/-- Operations that look at no memory. -/
def pureZ (tab : Tab) (st : St) (o : Op) (k : A → Option R) : Option R :=
  match o with
  | .move x => k (ev st x)
  | .assign x => k (ev st x)
  | .pick c a b => match ev st c with
    | .v .bool x => if x = true then k (ev st a) else k (ev st b)
    | _ => none
  | .binOp op xt x y _ => binZ tab op xt (ev st x) (ev st y) k
  | .unOp op _ x => unZ op (ev st x) k
  | .convert s d x => convZ tab s d (ev st x) k
  | .nilCheck x => match ev st x with
    | .box i c => k (.box i c)
    | .adr i j c s t => k (.adr i j c s t)
    | .ref t x => k (.ref t x)
    | .v (.obj n) x => if Option.isSome x = true then k (.v (.obj n) x) else none
    | .v (.ptr t) x => if Option.isSome x = true then k (.ref t (Option.getD x t.dflt)) else none
    | _ => none
  | .fieldAddr s x f => fieldAddrZ tab s (ev st x) f k
  | .field s x f => fieldZ tab s (ev st x) f k
  | .indexAddr t x i => indexAddrZ tab st.ob t (ev st x) (ev st i) k
  | .slice t x lo hi mx => sliceZ tab st.ob t (ev st x) (lo.map (ev st)) (hi.map (ev st)) (mx.map (ev st)) k
  | .extract x i => extractZ (ev st x) i k
  | .build s ps => match tab.find s with
    | some ⟨t, .st _, _⟩ => match buildZ tab st s t ps.toList t.dflt with
      | some x => k (.v t x)
      | none => match strZ tab st s 0 ps.toList with
        | some a => if ps.toList.length = t.size then k (.str a) else none
        | none => none
    | _ => none
  | .call ⟨.builtin b, xs, ts⟩ => builtinZ tab st b ts.toList (xs.toList.map (ev st)) k
  | _ => none
/-- A struct's value out of the cells of a call's own struct. -/
def gath (l : List A) : (t : T) → Nat → Option t.den
  | .pair a b, c => match gath l a c, gath l b (c + a.size) with
    | some x, some y => some (x, y)
    | _, _ => none
  | .int p, c => A.toV [] (.int p) (atn .un l c)
  | .bool, c => A.toV [] .bool (atn .un l c)
  | .flt, c => A.toV [] .flt (atn .un l c)
  | .list t, c => A.toV [] (.list t) (atn .un l c)
  | .obj n, c => A.toV [] (.obj n) (atn .un l c)
  | .ptr t, c => A.toV [] (.ptr t) (atn .un l c)
  | .one t, c => gath l t c
/-- A load. -/
def loadZ (tab : Tab) (st : St) (t : TypeId) (a : A) (k : A → Option R) : Option R :=
  match tab.find t, a with
  | some i, .ref u x => if u = i.t then k (.v u x) else none
  | some i, .adr m j c s u => match atn .gone st.ob m with
    | .row _ w xs => if u = i.t ∧ s = w.size then (match T.sub u w c (List.getD xs j w.dflt) with
      | some z => k (.v u z)
      | none => none) else none
    | _ => none
  | some i, .box m c => match atn .gone st.ob m with
    | .cells _ l => if i.t.isPair = true then (match gath l i.t c with
      | some y => k (.v i.t y)
      | none => none) else if c < l.length then k (atn .un l c) else none
    | _ => none
  | _, _ => none
end

/-! ### Functions -/
def A.refs : A → List Nat
  | .row i => [i]
  | .cut i _ _ => [i]
  | .adr i _ _ _ _ => [i]
  | .box i _ => [i]
  | .tcons a b => A.refs a ++ A.refs b
  | .str a => A.refs a
  | _ => []
def Ob.refs : Ob → List Nat
  | .cells _ l => l.flatMap A.refs
  | _ => []
/-- A cell of a struct that is handed over to be written: a value, or a row (mv: the row may lie elsewhere behind the call). -/
inductive Fd where
  | v (t : T)
  | r (e : TypeId) (t : T) (mv : Bool)
def fsT : List Fd → T
  | [] => .bool
  | .v t :: l => .pair t (fsT l)
  | .r _ t _ :: l => .pair (.list t) (fsT l)
def fsN : List Fd → Nat
  | [] => 0
  | .v _ :: l => fsN l
  | .r _ _ _ :: l => fsN l + 1
def fsLed : List Fd → Bool
  | [] => false
  | .v t :: l => t.led || fsLed l
  | .r _ t _ :: l => t.led || fsLed l
/-- cutp: a slice that ends ahead of its row's end. val: a value; own: a row of the caller's, or a new one; bx: a pointer to a struct of the caller's; nbx: nil, or a pointer to a new struct. -/
inductive PM where
  | val (t : T)
  | own (e : TypeId) (t : T)
  | bx (e : TypeId) (fs : List Fd)
  | nbx (e : TypeId) (fs : List Fd)
  | cutp (e : TypeId) (t : T)
def PM.ty : PM → T
  | .val t => t
  | .own _ t => .list t
  | .bx _ fs => fsT fs
  | .nbx _ fs => .ptr (fsT fs)
  | .cutp _ t => .pair (.list t) (.int .i64)
def Ds : List T → Type
  | [] => Unit
  | t :: l => t.den × Ds l
def muts : List PM → List T
  | [] => []
  | .val _ :: l => muts l
  | .own _ t :: l => .list t :: muts l
  | .bx _ fs :: l => fsT fs :: muts l
  | .nbx _ _ :: l => muts l
  | .cutp _ t :: l => .list t :: muts l
structure Sig where
  ps : List PM
  rs : List PM
  pre : Ds (ps.map PM.ty) → Bool
  fn : Ds (ps.map PM.ty) → Ds (muts ps ++ rs.map PM.ty)
  fresh : Bool
/-- How a piece of code ends. -/
inductive Ex where
  | nm
  | ex (id : Nat)
  | rt
structure Head where
  keep : List (Nat × Option (Sum (TypeId × T) T))
structure Env where
  tab : Tab
  sg : List (FuncId × Sig)
  ord : Nat → List Nat
  head : Nat → Head
  tail : Nat → Ex → Head
  lp : Nat → St → ∀ {R : Type}, (Ex → St → Option R) → Option R
  own : Nat
  fx : Nat → Bool
def findSig : List (FuncId × Sig) → FuncId → Option Sig
  | [], _ => none
  | (k, s) :: l, f => if k = f then some s else findSig l f
/-- The cells of a struct, its rows being objects n, n + 1, ..; those rows. -/
def fsA : (l : List Fd) → (fsT l).den → Nat → List A
  | [], _, _ => []
  | .v t :: l, x, n => .v t x.1 :: fsA l x.2 n
  | .r _ _ _ :: l, x, n => .row n :: fsA l x.2 (n + 1)
def fsO : (l : List Fd) → (fsT l).den → List Ob
  | [], _ => []
  | .v _ :: l, x => fsO l x.2
  | .r e t _ :: l, x => .row e t x.1 :: fsO l x.2
def cellsOf (ob : List Ob) (i : Nat) : List A := match atn .gone ob i with
  | .cells _ l => l
  | _ => []
/-- A struct's content (nl: a nil row is an empty one). -/
def readF (nl : Bool) (ob : List Ob) : (fs : List Fd) → List A → Option (fsT fs).den
  | [], [] => some false
  | .v t :: fs, x :: l => match A.toV [] t x, readF nl ob fs l with
    | some y, some ys => some (y, ys)
    | _, _ => none
  | .r e t _ :: fs, .row j :: l => match atn .gone ob j with
    | .row e' u xs => if h : u = t ∧ e' = e then (match readF nl ob fs l with
      | some ys => some (T.cast (a := .list u) (b := .list t) (h.1 ▸ rfl) xs, ys)
      | none => none) else none
    | _ => none
  | .r _ t _ :: fs, .nls :: l => if nl = true then (match readF nl ob fs l with
    | some ys => some (([] : List t.den), ys)
    | none => none) else none
  | _, _ => none
def rIdx : List Fd → List A → List Nat
  | .v _ :: fs, _ :: l => rIdx fs l
  | .r _ _ _ :: fs, .row j :: l => j :: rIdx fs l
  | .r _ _ _ :: fs, _ :: l => rIdx fs l
  | _, _ => []
def mIdx : List Fd → List A → List Nat
  | .v _ :: fs, _ :: l => mIdx fs l
  | .r _ _ mv :: fs, .row j :: l => if mv = true then j :: mIdx fs l else mIdx fs l
  | .r _ _ _ :: fs, _ :: l => mIdx fs l
  | _, _ => []
def args (ob : List Ob) : (ps : List PM) → List A → Option (Ds (ps.map PM.ty))
  | [], [] => some ()
  | .val t :: ps, x :: xs => match A.toV ob t x, args ob ps xs with
    | some y, some ys => some (y, ys)
    | _, _ => none
  | .own e t :: ps, .row i :: xs => match atn .gone ob i with
    | .row e' u l => if h : u = t ∧ e' = e then (match args ob ps xs with
      | some ys => some (T.cast (a := .list u) (b := .list t) (h.1 ▸ rfl) l, ys)
      | none => none) else none
    | _ => none
  | .cutp e t :: ps, .cut i n true :: xs => match atn .gone ob i with
    | .row e' u l => if h : u = t ∧ e' = e then (match args ob ps xs with
      | some ys => some ((T.cast (a := .list u) (b := .list t) (h.1 ▸ rfl) l, (n : Int)), ys)
      | none => none) else none
    | _ => none
  | .bx e fs :: ps, .box i 0 :: xs => match atn .gone ob i with
    | .cells e' l => if e' = e then (match readF false ob fs l, args ob ps xs with
      | some y, some ys => some (y, ys)
      | _, _ => none) else none
    | _ => none
  | _, _ => none
/-- The objects that are handed over to be written: their numbers. -/
def ownArgs (ob : List Ob) : List PM → List A → List Nat
  | .own _ _ :: ps, .row i :: xs => i :: ownArgs ob ps xs
  | .cutp _ _ :: ps, .cut i _ _ :: xs => i :: ownArgs ob ps xs
  | .bx _ fs :: ps, .box i _ :: xs => i :: (rIdx fs (cellsOf ob i) ++ ownArgs ob ps xs)
  | _ :: ps, _ :: xs => ownArgs ob ps xs
  | _, _ => []
/-- Those that may lie elsewhere behind the call. -/
def movArgs (ob : List Ob) : List PM → List A → List Nat
  | .bx _ fs :: ps, .box i _ :: xs => mIdx fs (cellsOf ob i) ++ movArgs ob ps xs
  | _ :: ps, _ :: xs => movArgs ob ps xs
  | _, _ => []
def valRows : List PM → List A → List Nat
  | .val _ :: ps, .row i :: xs => i :: valRows ps xs
  | .val _ :: ps, .cut i _ _ :: xs => i :: valRows ps xs
  | _ :: ps, _ :: xs => valRows ps xs
  | _, _ => []
def backA : (fs : List Fd) → (fsT fs).den → List A → List A
  | .v t :: fs, x, _ :: l => .v t x.1 :: backA fs x.2 l
  | .r _ _ _ :: fs, x, a :: l => a :: backA fs x.2 l
  | _, _, _ => []
def backO : (fs : List Fd) → (fsT fs).den → List A → List Ob → List Ob
  | .v _ :: fs, x, _ :: l, ob => backO fs x.2 l ob
  | .r e t _ :: fs, x, .row j :: l, ob => backO fs x.2 l (setn (.row e t x.1) ob j)
  | _, _, _, ob => ob
/-- What a call leaves in the objects that it was handed; its results. (o: the objects ahead of the call.) -/
def giveBack (o : List Ob) : (ps : List PM) → List A → {rs : List T} → Ds (muts ps ++ rs) → List Ob → Option (List Ob × Ds rs)
  | [], _, _, d, ob => some (ob, d)
  | .val _ :: ps, _ :: xs, _, d, ob => giveBack o ps xs d ob
  | .own e t :: ps, .row i :: xs, _, d, ob => giveBack o ps xs d.2 (setn (.row e t d.1) ob i)
  | .cutp e t :: ps, .cut i _ _ :: xs, _, d, ob => giveBack o ps xs d.2 (setn (.row e t d.1) ob i)
  | .bx e fs :: ps, .box i _ :: xs, _, d, ob => giveBack o ps xs d.2 (backO fs d.1 (cellsOf o i) (setn (.cells e (backA fs d.1 (cellsOf o i))) ob i))
  | _, _, _, _, _ => none
section
variable {R : Type}
/-- The results, as the caller has them. -/
def resK : (rs : List PM) → Ds (rs.map PM.ty) → List Ob → (List A → List Ob → Option R) → Option R
  | [], _, ob, k => k [] ob
  | .val t :: rs, d, ob, k => resK rs d.2 ob (fun l ob' => k (.v t d.1 :: l) ob')
  | .own e t :: rs, d, ob, k => resK rs d.2 (ob ++ [.row e t d.1]) (fun l ob' => k (.row ob.length :: l) ob')
  | .nbx e fs :: rs, d, ob, k => if Option.isNone (α := (fsT fs).den) d.1 = true then resK rs d.2 (ob ++ List.replicate (1 + fsN fs) .gone) (fun l ob' => k (.nlp :: l) ob')
      else resK rs d.2 (ob ++ (.cells e (fsA fs (Option.getD (α := (fsT fs).den) d.1 (fsT fs).dflt) (ob.length + 1)) :: fsO fs (Option.getD (α := (fsT fs).den) d.1 (fsT fs).dflt))) (fun l ob' => k (.box ob.length 0 :: l) ob')
  | .cutp e t :: rs, d, ob, k => resK rs d.2 (ob ++ [.row e t d.1.1]) (fun l ob' => k (.cut ob.length (Int.toNat d.1.2) true :: l) ob')
  | .bx _ _ :: _, _, _, _ => none
end
def tupA : List A → A
  | [] => .tnil
  | x :: l => .tcons x (tupA l)
def oneA : List A → A
  | [x] => x
  | l => tupA l
def nodupB : List Nat → Bool
  | [] => true
  | x :: l => !(l.contains x) && nodupB l
def anyLed : List PM → Bool
  | [] => false
  | .val t :: l => t.led || anyLed l
  | .own _ t :: l => t.led || anyLed l
  | .bx _ fs :: l => fsLed fs || anyLed l
  | .nbx _ fs :: l => fsLed fs || anyLed l
  | .cutp _ t :: l => t.led || anyLed l
def ownLed : List PM → Bool
  | [] => false
  | .val _ :: l => ownLed l
  | .own _ t :: l => t.led || ownLed l
  | .bx _ fs :: l => fsLed fs || ownLed l
  | .nbx _ _ :: l => ownLed l
  | .cutp _ t :: l => t.led || ownLed l
/-- May what it gives lead into what it was handed to read? (fresh: it does not.) -/
def Sig.led (s : Sig) : Bool := !s.fresh && (anyLed s.rs || ownLed s.ps)
def frzAll : List Nat → St → St
  | [], st => st
  | i :: l, st => frzAll l (st.frz i)
def scat : (t : T) → t.den → List A
  | .pair a b, x => scat a x.1 ++ scat b x.2
  | .int p, x => [.v (.int p) x]
  | .bool, x => [.v .bool x]
  | .flt, x => [.v .flt x]
  | .list t, x => [.v (.list t) x]
  | .obj n, x => [.v (.obj n) x]
  | .ptr t, x => [.v (.ptr t) x]
  | .one t, x => scat t x
def zeroA : T → List A
  | .pair a b => zeroA a ++ zeroA b
  | .list _ => [.nls]
  | .int p => [.v (.int p) (0 : Int)]
  | .bool => [.v .bool false]
  | .flt => [.v .flt (0 : Nat)]
  | .obj n => [.v (.obj n) none]
  | .ptr t => [.v (.ptr t) none]
  | .one t => zeroA t
def partsV (ob : List Ob) (u : T) : Nat → List (Nat × A) → Option (List u.den)
  | _, [] => some []
  | n, (i, x) :: l => if i = n then (match A.toV ob u x, partsV ob u (n + 1) l with
    | some y, some ys => some (y :: ys)
    | _, _ => none) else none
def thawAllB (own : Nat) : List A → Bool
  | [] => true
  | x :: l => x.thawB own && thawAllB own l
def thawAll : List A → St → St
  | [], st => st
  | x :: l, st => thawAll l (x.thaw st)
section
variable {R : Type}
/-- Nobody but the struct itself knows of the rows that may move. -/
def movFree (ob : List Ob) (tm : List A) (os ms : List Nat) : Bool := ms.all (fun j => tm.all (fun x => !(x.refs.contains j)) && (List.range ob.length).all (fun i => os.contains i || !((Ob.refs (atn .gone ob i)).contains j)))
def callZ (E : Env) (f : FuncId) (xs : List A) (d : Option Tmp) (st : St) (k : St → Option R) : Option R :=
  match findSig E.sg f with
  | some s =>
    if nodupB (ownArgs st.ob s.ps xs) && (ownArgs st.ob s.ps xs).all (fun i => !((valRows s.ps xs).contains i)) && (!s.led || (valRows s.ps xs).all (fun i => decide (E.own ≤ i))) && (movArgs st.ob s.ps xs).all (fun i => decide (E.own ≤ i) || !(E.fx i)) then
      (match args st.ob s.ps xs with
      | some a => if s.pre a = true then (match (if s.led = true then frzAll (valRows s.ps xs) st else st) with
        | st1 => if movFree st1.ob st1.tm (ownArgs st.ob s.ps xs) (movArgs st.ob s.ps xs) = true then (match giveBack st.ob s.ps xs (s.fn a) st1.ob with
          | some (ob2, r) => resK s.rs r ob2 (fun l ob3 => k (St.put ⟨st1.tm, ob3⟩ d (oneA l)))
          | none => none) else none) else none
      | none => none)
    else none
  | none => none
def newRow (e : TypeId) (t : T) (xs : List t.den) (d : Option Tmp) (st : St) (k : St → Option R) : Option R :=
  k (St.put ⟨st.tm, st.ob ++ [.row e t xs]⟩ d (.row st.ob.length))
def appC (own : Nat) (e : TypeId) (i : TI) (ys : List i.t.den) (d : Option Tmp) (st : St) (k : St → Option R) : A → Option R
  | .nls => if ys.length * i.bytes ≤ 140737488355328 then newRow e i.t ys d st k else none
  | .row m => match atn .gone st.ob m with
    | .row e' u xs => if h : u = i.t ∧ e' = e ∧ own ≤ m then (if (xs.length + ys.length) * i.bytes ≤ 140737488355328 then
        (match st.kill m with
        | st' => k (St.put ⟨st'.tm, setn (.row e i.t (T.cast (a := .list u) (b := .list i.t) (h.1 ▸ rfl) xs ++ ys)) st'.ob m⟩ d (.row m))) else none) else none
    | _ => none
  | _ => none
def appendZ (own : Nat) (tab : Tab) (t : TypeId) (x y : A) (d : Option Tmp) (st : St) (k : St → Option R) : Option R :=
  match elemZ tab t with
  | some (e, i) => match A.toV st.ob (.list i.t) y with
    | some ys => if i.t.led = true then (if y.thawB own = true then appC own e i ys d (y.thaw st) k x else none) else appC own e i ys d st k x
    | none => none
  | none => none
def storeZ (own : Nat) (tab : Tab) (t : TypeId) (a x : A) (st : St) (k : St → Option R) : Option R :=
  match tab.find t, a with
  | some i, .adr m j c s u => if u = i.t ∧ x.thawB own = true then (match A.toV st.ob u x, x.thaw st with
    | some y, st => match atn .gone st.ob m with
      | .row e w xs => if s = w.size then match T.upd u y w c (List.getD xs j w.dflt) with
        | some z => if j < xs.length then k ⟨st.tm, setn (.row e w (xs.set j z)) st.ob m⟩ else none
        | none => none
        else none
      | _ => none
    | _, _ => none) else none
  | some i, .box m c => match atn .gone st.ob m with
    | .cells e l => if i.t.isPair = false ∧ c < l.length ∧ x.oneB = true then k ⟨st.tm, setn (.cells e (setn x l c)) st.ob m⟩ else none
    | _ => none
  | _, _ => none
def isZero : Operand → Bool
  | .const (.int .i64 n) => n == 0
  | _ => false
/-- Operations that make or change memory. -/
def effZ (E : Env) (o : Oper) (st : St) (k : St → Option R) : Option R :=
  match o.op with
  | .call ⟨.value (.func f), xs, _⟩ => callZ E f (xs.toList.map (ev st)) o.dst st k
  | .call ⟨.builtin .append, xs, ts⟩ => match xs.toList, ts.toList with
    | [x, y], [t, t'] => if t = t' then appendZ E.own E.tab t (ev st x) (ev st y) o.dst st k else none
    | _, _ => none
  | .makeSlice t l c => match elemZ E.tab t, ev st l, ev st c with
    | some (e, i), .v (.int .i64) n, .v (.int .i64) m =>
      if isZero l = true then (if 0 ≤ m then (if m.toNat * i.bytes ≤ 140737488355328 then newRow e i.t [] o.dst st k else none) else none)
      else if n = m then (if 0 ≤ n then (if n.toNat * i.bytes ≤ 140737488355328 then newRow e i.t (List.replicate n.toNat i.t.dflt) o.dst st k else none) else none) else none
    | _, _, _ => none
  | .buildSlice t n ps => match elemZ E.tab t with
    | some (e, i) => match partsV st.ob i.t 0 (ps.toList.map (fun p => (p.1, ev st p.2))) with
      | some l => if List.length l = n ∧ n * i.t.size ≤ 16777216 ∧ thawAllB E.own (ps.toList.map (fun p => ev st p.2)) = true then newRow e i.t l o.dst (thawAll (ps.toList.map (fun p => ev st p.2)) st) k else none
      | none => none
    | none => none
  | .alloc e => match E.tab.find e with
    | some i => k (St.put ⟨st.tm, st.ob ++ [.cells e (zeroA i.t)]⟩ o.dst (.box st.ob.length 0))
    | none => none
  | .box e x => match ev st x with
    | .str a => if isTup a = true then k (St.put ⟨st.tm, st.ob ++ [.cells e (listA a)]⟩ o.dst (.box st.ob.length 0)) else none
    | _ => match E.tab.find e with
      | some i => match A.toV st.ob i.t (ev st x), (ev st x).thaw st with
        | some y, st' => if (ev st x).thawB E.own = true then k (St.put ⟨st'.tm, st'.ob ++ [.cells e (scat i.t y)]⟩ o.dst (.box st'.ob.length 0)) else none
        | _, _ => none
      | none => none
  | .store t a x => storeZ E.own E.tab t (ev st a) (ev st x) st (fun st => k (St.put st o.dst .und))
  | _ => none
def isPure : Op → Bool
  | .load _ _ => false
  | .call ⟨.builtin .append, _, _⟩ => false
  | .call ⟨.builtin _, _, _⟩ => true
  | .call _ => false
  | .makeSlice _ _ _ => false
  | .buildSlice _ _ _ => false
  | .alloc _ => false
  | .box _ _ => false
  | .store _ _ _ => false
  | _ => true
def isLoad : Op → Bool
  | .load _ _ => true
  | _ => false
/-- One operation. -/
def op1 (E : Env) (o : Oper) (st : St) (k : St → Option R) : Option R :=
  if isPure o.op = true then pureZ E.tab st o.op (fun x => k (St.put st o.dst x)) else match o.op with
  | .load t a => loadZ E.tab st t (ev st a) (fun x => k (St.put st o.dst x))
  | _ => effZ E o st k
def dstOf (l : List Oper) (j : Nat) : Option Tmp :=
  match l, j with
  | [], _ => none
  | o :: _, 0 => o.dst
  | _ :: l, j + 1 => dstOf l j
/-- One operation, under its guard. -/
def opG (E : Env) (l : List Oper) (o : Oper) (st : St) (k : St → Option R) : Option R :=
  match o.guard with
  | none => op1 E o st k
  | some (j, b) => match dstOf l j with
    | some d => match atn .un st.tm d with
      | .v .bool x => if x = b then op1 E o ⟨setn (.v .bool b) st.tm d, st.ob⟩ k else k (St.put ⟨setn (.v .bool (!b)) st.tm d, st.ob⟩ o.dst .und)
      | .und => k (St.put st o.dst .und)
      | _ => none
    | none => none
def opsL (E : Env) (all : List Oper) : List Oper → St → (St → Option R) → Option R
  | [], st, k => k st
  | o :: l, st, k => opG E all o st (fun st => opsL E all l st k)
def opsI (E : Env) (all : List Oper) : List Nat → St → (St → Option R) → Option R
  | [], st, k => k st
  | i :: l, st, k => match all[i]? with
    | some o => opG E all o st (fun st => opsI E all l st k)
    | none => none

/-! ### Heads of loops: what is kept, and in which shape -/
def A.ren (f : Nat → Nat) : A → A
  | .row i => .row (f i)
  | .cut i n b => .cut (f i) n b
  | .adr i j k s t => .adr (f i) j k s t
  | .box i k => .box (f i) k
  | .tcons a b => .tcons (A.ren f a) (A.ren f b)
  | .str a => .str (A.ren f a)
  | .un => .un
  | .und => .und
  | .v t x => .v t x
  | .nls => .nls
  | .nlp => .nlp
  | .ref t x => .ref t x
  | .tnil => .tnil
def Ob.ren (f : Nat → Nat) : Ob → Ob
  | .row e t xs => .row e t xs
  | .cells e l => .cells e (mapn (A.ren f) l)
  | .gone => .gone
def addNew (acc : List Nat) : List Nat → List Nat
  | [] => acc
  | i :: l => addNew (if acc.contains i then acc else acc ++ [i]) l
def posOf (i : Nat) : List Nat → Nat
  | [] => 0
  | x :: l => if x = i then 0 else posOf i l + 1
def shape (own : Nat) (st : St) : List (Nat × Option (Sum (TypeId × T) T)) → St
  | [] => st
  | (_, none) :: l => shape own st l
  | (d, some (.inl (e, t))) :: l => shape own (match atn .un st.tm d with
    | .nls => ⟨setn (.row st.ob.length) st.tm d, st.ob ++ [.row e t []]⟩
    | _ => st) l
  | (d, some (.inr t)) :: l => shape own (match atn .un st.tm d with
    | .nls => ⟨setn (.v (.list t) []) st.tm d, st.ob⟩
    | .nlp => ⟨setn (match t with
      | .obj n => .v (.obj n) none
      | .ptr t => .v (.ptr t) none
      | _ => .nlp) st.tm d, st.ob⟩
    | x => if x.thawB own = true then x.thaw st else st) l
def keepB : List (Nat × Option (Sum (TypeId × T) T)) → Nat → Bool
  | [], _ => false
  | (d, _) :: l, i => if d = i then true else keepB l i
def only (h : List (Nat × Option (Sum (TypeId × T) T))) : Nat → List A → List A
  | _, [] => []
  | n, x :: l => (if keepB h n then x else .un) :: only h (n + 1) l
def canon (own : Nat) (h : Head) (st : St) (k : St → Option R) : Option R :=
  match shape own st h.keep with
  | st => match only h.keep 0 st.tm with
    | tm => match addNew (List.range own) (tm.flatMap A.refs) with
      | r1 => match addNew r1 (r1.flatMap (fun i => Ob.refs (atn .gone st.ob i))) with
        | r => if nodupB r && r.all (fun i => decide (i < st.ob.length)) && (List.range own).all (fun i => decide (i < r.length) && atn 0 r i == i) && (r.flatMap (fun i => Ob.refs (atn .gone st.ob i))).all (fun i => r.contains i) && (tm.flatMap A.refs).all (fun i => r.contains i) then
            k ⟨mapn (A.ren (fun i => posOf i r)) tm, r.map (fun i => Ob.ren (fun i => posOf i r) (atn .gone st.ob i))⟩ else none

/-! ### Code -/
def firstRegion : Code → Nat
  | .region id _ _ => id
  | .seq a _ => firstRegion a
  | .cond _ a _ => firstRegion a
  | .block _ a => firstRegion a
  | .loop a => firstRegion a
  | _ => 0
def loopN (body : St → (Ex → St → Option R) → Option R) (cn : St → (St → Option R) → Option R) (cx : Ex → St → (St → Option R) → Option R) : Nat → St → (Ex → St → Option R) → Option R
  | 0, _, _ => none
  | n + 1, st, K => body st (fun e st' => match e with
    | .nm => cn st' (fun st => loopN body cn cx n st K)
    | .ex i => cx (.ex i) st' (K (.ex i))
    | .rt => cx .rt st' (K .rt))
/-- Code; of a loop its summary. -/
def exec (E : Env) : Code → St → (Ex → St → Option R) → Option R
  | .skip, st, K => K .nm st
  | .region id o dr, st, K => if dr = true then opsI E o.toList (E.ord id) st (K .nm) else opsL E o.toList o.toList st (K .nm)
  | .seq a b, st, K => exec E a st (fun e st' => match e with
    | .nm => exec E b st' K
    | .ex i => K (.ex i) st'
    | .rt => K .rt st')
  | .cond c a b, st, K => match ev st c with
    | .v .bool x => if x = true then exec E a st K else exec E b st K
    | _ => none
  | .block id a, st, K => exec E a st (fun e st' => match e with
    | .nm => K .nm st'
    | .ex i => if i = id then K .nm st' else K (.ex i) st'
    | .rt => K .rt st')
  | .loop a, st, K => canon E.own (E.head (firstRegion a)) st (fun st => E.lp (firstRegion a) st K)
  | .exit id, st, K => K (.ex id) st
  | .ret, st, K => K .rt st
  | _, _, _ => none
end
/-! ### A function from its call to its end -/
def startTm : (ps : List PM) → Ds (ps.map PM.ty) → Nat → List A
  | [], _, _ => []
  | .val t :: ps, d, n => .v t d.1 :: startTm ps d.2 n
  | .own _ _ :: ps, d, n => .row n :: startTm ps d.2 (n + 1)
  | .bx _ fs :: ps, d, n => .box n 0 :: startTm ps d.2 (n + (1 + fsN fs))
  | .nbx _ _ :: ps, d, n => .un :: startTm ps d.2 n
  | .cutp _ _ :: ps, d, n => .cut n (Int.toNat d.1.2) true :: startTm ps d.2 (n + 1)
def startOb : (ps : List PM) → Ds (ps.map PM.ty) → Nat → List Ob
  | [], _, _ => []
  | .val _ :: ps, d, n => startOb ps d.2 n
  | .own e t :: ps, d, n => .row e t d.1 :: startOb ps d.2 (n + 1)
  | .bx e fs :: ps, d, n => (.cells e (fsA fs d.1 (n + 1)) :: fsO fs d.1) ++ startOb ps d.2 (n + (1 + fsN fs))
  | .nbx _ _ :: ps, d, n => startOb ps d.2 n
  | .cutp e t :: ps, d, n => .row e t d.1.1 :: startOb ps d.2 (n + 1)
def start (ntmps : Nat) (ps : List PM) (d : Ds (ps.map PM.ty)) : St :=
  ⟨startTm ps d 0 ++ List.replicate (ntmps - ps.length) .und, startOb ps d 0⟩
def okRows : List Fd → List A → Nat → Bool
  | [], [], _ => true
  | .v _ :: fs, _ :: l, n => okRows fs l n
  | .r _ _ _ :: fs, .row j :: l, n => j == n && okRows fs l (n + 1)
  | _, _, _ => false
def finMuts (ob : List Ob) : (ps : List PM) → Nat → Option (Ds (muts ps))
  | [], _ => some ()
  | .val _ :: ps, n => finMuts ob ps n
  | .own e t :: ps, n => match atn .gone ob n with
    | .row e' u l => if h : u = t ∧ e' = e then (match finMuts ob ps (n + 1) with
      | some ys => some (T.cast (a := .list u) (b := .list t) (h.1 ▸ rfl) l, ys)
      | none => none) else none
    | _ => none
  | .bx e fs :: ps, n => match atn .gone ob n with
    | .cells e' l => if e' = e ∧ okRows fs l (n + 1) = true then (match readF false ob fs l, finMuts ob ps (n + (1 + fsN fs)) with
      | some y, some ys => some (y, ys)
      | _, _ => none) else none
    | _ => none
  | .nbx _ _ :: ps, n => finMuts ob ps n
  | .cutp e t :: ps, n => match atn .gone ob n with
    | .row e' u l => if h : u = t ∧ e' = e then (match finMuts ob ps (n + 1) with
      | some ys => some (T.cast (a := .list u) (b := .list t) (h.1 ▸ rfl) l, ys)
      | none => none) else none
    | _ => none
/-- A struct's value, its rows read for ever. -/
def gathR (ob : List Ob) (l : List A) : (t : T) → Nat → Option t.den
  | .pair a b, c => match gathR ob l a c, gathR ob l b (c + a.size) with
    | some x, some y => some (x, y)
    | _, _ => none
  | .int p, c => A.toV ob (.int p) (atn .un l c)
  | .bool, c => A.toV ob .bool (atn .un l c)
  | .flt, c => A.toV ob .flt (atn .un l c)
  | .list t, c => A.toV ob (.list t) (atn .un l c)
  | .obj n, c => A.toV ob (.obj n) (atn .un l c)
  | .ptr t, c => A.toV ob (.ptr t) (atn .un l c)
  | .one t, c => gathR ob l t c
/-- What is handed back to be read for ever: a value, or a pointer to a struct that nobody writes any more. -/
def outV (ob : List Ob) (u : T) (x : A) : Option u.den :=
  match u, x with
  | .ptr t, .box i 0 => match gathR ob (cellsOf ob i) t 0 with
    | some y => some (some y)
    | none => none
  | u, x => A.toV ob u x
def A.rowOf : A → List Nat
  | .row i => [i]
  | .cut i _ _ => [i]
  | _ => []
def outRows (ob : List Ob) : List PM → List A → List Nat
  | .val _ :: ps, .row i :: xs => i :: outRows ob ps xs
  | .val _ :: ps, .cut i _ _ :: xs => i :: outRows ob ps xs
  | .val _ :: ps, .box i _ :: xs => i :: ((cellsOf ob i).flatMap A.rowOf ++ outRows ob ps xs)
  | _ :: ps, _ :: xs => outRows ob ps xs
  | _, _ => []
def finRes (ob : List Ob) : (rs : List PM) → List A → Option (Ds (rs.map PM.ty))
  | [], [] => some ()
  | .val t :: rs, x :: xs => match outV ob t x, finRes ob rs xs with
    | some y, some ys => some (y, ys)
    | _, _ => none
  | .own _ t :: rs, .nls :: xs => match finRes ob rs xs with
    | some ys => some (([] : List t.den), ys)
    | none => none
  | .own e t :: rs, .row i :: xs => match atn .gone ob i with
    | .row e' u l => if h : u = t ∧ e' = e then (match finRes ob rs xs with
      | some ys => some (T.cast (a := .list u) (b := .list t) (h.1 ▸ rfl) l, ys)
      | none => none) else none
    | _ => none
  | .cutp e t :: rs, .cut i n true :: xs => match atn .gone ob i with
    | .row e' u l => if h : u = t ∧ e' = e then (match finRes ob rs xs with
      | some ys => some ((T.cast (a := .list u) (b := .list t) (h.1 ▸ rfl) l, (n : Int)), ys)
      | none => none) else none
    | _ => none
  | .nbx _ fs :: rs, .nlp :: xs => match finRes ob rs xs with
    | some ys => some ((none : Option (fsT fs).den), ys)
    | none => none
  | .nbx e fs :: rs, .box i 0 :: xs => match atn .gone ob i with
    | .cells e' l => if e' = e then (match readF true ob fs l, finRes ob rs xs with
      | some y, some ys => some (some y, ys)
      | _, _ => none) else none
    | _ => none
  | _, _ => none
def ownRes (ob : List Ob) : List PM → List A → List Nat
  | .own _ _ :: ps, .row i :: xs => i :: ownRes ob ps xs
  | .cutp _ _ :: ps, .cut i _ _ :: xs => i :: ownRes ob ps xs
  | .nbx _ fs :: ps, .box i _ :: xs => i :: (rIdx fs (cellsOf ob i) ++ ownRes ob ps xs)
  | _ :: ps, _ :: xs => ownRes ob ps xs
  | _, _ => []
def cat : {a b : List T} → Ds a → Ds b → Ds (a ++ b)
  | [], _, _, y => y
  | _ :: _, _, x, y => (x.1, cat x.2 y)
def fin (own : Nat) (res : List Tmp) (ps rs : List PM) (st : St) : Option (Ds (muts ps ++ rs.map PM.ty)) :=
  match res.map (atn .un st.tm) with
  | xs => if nodupB (ownRes st.ob rs xs) && (ownRes st.ob rs xs).all (fun i => !(i < own) && !((outRows st.ob rs xs).contains i)) && (outRows st.ob rs xs).all (fun i => !(i < own)) then
      (match finMuts st.ob ps 0, finRes st.ob rs xs with
      | some a, some b => some (cat a b)
      | _, _ => none) else none
def runF (E : Env) (ntmps : Nat) (body : Code) (res : List Tmp) (ps rs : List PM) (d : Ds (ps.map PM.ty)) : Option (Ds (muts ps ++ rs.map PM.ty)) :=
  exec E body (start ntmps ps d) (fun e st => match e with
    | .ex _ => none
    | .nm => if res.isEmpty then fin E.own res ps rs st else none
    | .rt => fin E.own res ps rs st)
/-- A loop's summary is what its rounds come to. -/
def LoopOk (E : Env) (x : Code) : Prop := ∀ st, (∀ (R : Type) (K : Ex → St → Option R), E.lp (firstRegion x) st K = none) ∨ ∃ m, ∀ (R : Type) (K : Ex → St → Option R), loopN (exec E x) (canon E.own (E.head (firstRegion x))) (fun e => canon E.own (E.tail (firstRegion x) e)) m st K = E.lp (firstRegion x) st K
def LoopsOk (E : Env) : Code → Prop
  | .seq a b => LoopsOk E a ∧ LoopsOk E b
  | .cond _ a b => LoopsOk E a ∧ LoopsOk E b
  | .block _ a => LoopsOk E a
  | .loop a => LoopOk E a ∧ LoopsOk E a
  | _ => True
end Go.Proofs.Ythbojpaghbbnnaa.Z
