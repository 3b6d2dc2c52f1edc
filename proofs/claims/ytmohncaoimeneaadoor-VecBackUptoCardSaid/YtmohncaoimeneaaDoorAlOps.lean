/-
  What an operation makes of what is known of a state: the state's own logic, by computation. No program in sight.
-/
import Derived.Test.YtmohncaoimeneaaDoorAl
import Derived.Laws.Entries
set_option linter.unusedSectionVars false
namespace Go.Proofs.YtmohncaoimeneaaDoor.AL
open Go
variable [Globs]

def getK : List AV → Nat → (AV → Prop) → Prop
  | [], _, K => K .top
  | a :: _, 0, K => K a
  | _ :: l, n + 1, K => getK l n K
def setK : List AV → Nat → AV → (List AV → Prop) → Prop
  | [], _, _, K => K []
  | _ :: l, 0, v, K => K (v :: l)
  | a :: l, n + 1, v, K => setK l n v fun l' => K (a :: l')
def getO : List AO → Nat → (AO → Prop) → Prop
  | [], _, _ => False
  | a :: _, 0, K => K a
  | _ :: l, n + 1, K => getO l n K
def setO : List AO → Nat → AO → (List AO → Prop) → Prop
  | [], _, _, _ => False
  | _ :: l, 0, v, K => K (v :: l)
  | a :: l, n + 1, v, K => setO l n v fun l' => K (a :: l')
def lenK : List AO → (Nat → Prop) → Prop
  | [], K => K 0
  | _ :: l, K => lenK l fun n => K (n + 1)
def putK (t : List AV) (d : Option Tmp) (v : AV) (K : List AV → Prop) : Prop :=
  match d with
  | some d => setK t d v K
  | none => K t
def cstK : Value → (AV → Prop) → Prop
  | .bool true, K => K .tt
  | .bool false, K => K .ff
  | v, K => K (.raw v)
def evK (t : List AV) : Operand → (AV → Prop) → Prop
  | .tmp i, K => getK t i K
  | .const v, K => cstK v K
  | .global g, K => K (.raw (.pointer (some ⟨g, 0, none⟩)))
  | .func f, K => K (.raw (.func (.func f) #[] #[]))
def evsK (t : List AV) : List Operand → (List AV → Prop) → Prop
  | [], K => K []
  | x :: l, K => evK t x fun a => evsK t l fun r => K (a :: r)
/-- A test between numerals, taken by computation. -/
def sure (p : Prop) [Decidable p] (k : Prop) : Prop :=
  match decide p with
  | true => k
  | false => False
def sizeK (P : Program) (T : TypeId) (K : Nat → Prop) : Prop :=
  match P.info? T with
  | some i => match i.size with
    | 0 => K 0
    | 1 => K 1
    | n + 2 => K (n + 2)
  | none => False
def aggB (P : Program) (T : TypeId) : Option Bool :=
  match P.underlying T with
  | some (.struct _) | some (.array _ _) => some true
  | some _ => some false
  | none => none

def sameKind (k k' : IntKind) (p : Prop) : Prop :=
  match decide (k = k') with
  | true => p
  | false => False
def intOp (op : BinOp) (k k' : IntKind) (x y : Int) (K : AV → Prop) : Prop :=
  match op with
  | .shl => 0 ≤ y ∧ K (int k (k.wrap (x * 2 ^ (min y.toNat k.bits))))
  | .shr => 0 ≤ y ∧ K (int k (x.fdiv (2 ^ (min y.toNat k.bits))))
  | .add => sameKind k k' (K (int k (k.wrap (x + y))))
  | .sub => sameKind k k' (K (int k (k.wrap (x - y))))
  | .mul => sameKind k k' (K (int k (k.wrap (x * y))))
  | .quo => sameKind k k' (y ≠ 0 ∧ K (int k (k.wrap (x.tdiv y))))
  | .rem => sameKind k k' (y ≠ 0 ∧ K (int k (x.tmod y)))
  | .and => sameKind k k' (K (int k (Go.bits .and k x y)))
  | .or => sameKind k k' (K (int k (Go.bits .or k x y)))
  | .xor => sameKind k k' (K (int k (Go.bits .xor k x y)))
  | .andNot => sameKind k k' (K (int k (Go.bits .andNot k x y)))
  | .eql => sameKind k k' (K (bool (decide (x = y))))
  | .neq => sameKind k k' (K (bool (decide (¬ x = y))))
  | .lss => sameKind k k' (K (bool (decide (x < y))))
  | .leq => sameKind k k' (K (bool (decide (x ≤ y))))
  | .gtr => sameKind k k' (K (bool (decide (y < x))))
  | .geq => sameKind k k' (K (bool (decide (y ≤ x))))
def strOp (op : BinOp) (x y : ByteArray) (K : AV → Prop) : Prop :=
  match op with
  | .add => (x.size + y.size < 9223372036854775808) ∧ K (str (x ++ y))
  | .eql => K (bool (decide (x = y)))
  | .neq => K (bool (decide (¬ x = y)))
  | .lss => K (bool (Op.bytesLess x.toList y.toList))
  | .leq => K (bool (Op.bytesLess x.toList y.toList || decide (x = y)))
  | .gtr => K (bool (!(Op.bytesLess x.toList y.toList || decide (x = y))))
  | .geq => K (bool (!Op.bytesLess x.toList y.toList))
  | _ => False
def boolOp (op : BinOp) (x y : Bool) (K : AV → Prop) : Prop :=
  match op with
  | .eql => K (bool (x == y))
  | .neq => K (bool (x != y))
  | _ => False
/-- A list whose first n entries are told by a function. -/
def tabK (n : Nat) (f : Nat → AV) (K : List AV → Prop) : Prop := K ((List.range n).map f)
def explicitInts (k : IntKind) : List AV → (List Int → Prop) → Prop
  | [], K => K []
  | .raw (.int k' n) :: l, K => sameKind k' k (explicitInts k l fun r => K (n :: r))
  | _ :: _, _ => False
/-- May two cells be compared as leaves of a type? -/
def leafOk (d : Option TypeDesc) : Value → Value → Bool
  | .int k _, .int k' _ => match d with
    | some (.int _) => decide (k = k')
    | _ => false
  | .bool _, .bool _ => match d with
    | some .bool => true
    | _ => false
  | .string _, .string _ => match d with
    | some .string => true
    | _ => false
  | _, _ => false
def leafEq : Value → Value → Bool
  | .int _ x, .int _ y => decide (x = y)
  | .bool x, .bool y => x == y
  | .string x, .string y => decide (x = y)
  | _, _ => false
def eqFieldsK (P : Program) (us vs : List AV) : List Field → (Bool → Prop) → Prop
  | [], K => K true
  | f :: fs, K => getK us f.offset fun a => getK vs f.offset fun b => match a, b with
    | .raw u, .raw v => sure (leafOk (P.underlying f.type) u v = true) <| eqFieldsK P us vs fs fun r => K (leafEq u v && r)
    | _, _ => False
/-- The numbers of an array that is a value. -/
def toIntsK (a : AV) (K : IntKind → List Int → Prop) : Prop :=
  match a with
  | .aggI k xs => K k xs
  | .agg n f => tabK n f fun l => match l with
    | .raw (.int k _) :: _ => explicitInts k l (K k)
    | _ => False
  | _ => False
/-- '==' of structs and of arrays, as a bool. -/
def eqAggK (P : Program) (T : TypeId) (x y : AV) (K : Bool → Prop) : Prop :=
  match P.underlying T with
  | some (.struct fs) => (P.stoodInHeld T = false ∧ P.eqGuardType P.depth T = false ∧ (fs.toList.all fun f => f.name != "_") = true) ∧ match x, y with
    | .agg n f, .agg m g => tabK n f fun us => tabK m g fun vs => eqFieldsK P us vs fs.toList K
    | _, _ => False
  | some (.array n e) => sure (P.eqGuardType P.depth T = false) <| match P.underlying e with
    | some (.int _) => sizeK P e fun s => sure (s = 1) <| toIntsK x fun k xs => toIntsK y fun k' ys => sameKind k' k (xs.length = n ∧ ys.length = n ∧ K (decide (xs = ys)))
    | _ => False
  | _ => False
/-- A value that may be held against another one without further ado. -/
def noAgg : Value → Bool
  | .agg _ => false
  | .nilIface => false
  | _ => true
/-- '==' and '!=' with nothing else than a type's name in sight. -/
def otherOp (P : Program) (op : BinOp) (T : TypeId) (x y : AV) (K : AV → Prop) : Prop :=
  match P.underlying T, op, x, y with
  | some (.struct _), .eql, a, b => eqAggK P T a b fun r => K (bool r)
  | some (.struct _), .neq, a, b => eqAggK P T a b fun r => K (bool (!r))
  | some (.array _ _), .eql, a, b => eqAggK P T a b fun r => K (bool r)
  | some (.array _ _), .neq, a, b => eqAggK P T a b fun r => K (bool (!r))
  | some (.pointer _), .eql, .ptr _ _, .raw (.pointer none) => K .ff
  | some (.pointer _), .neq, .ptr _ _, .raw (.pointer none) => K .tt
  | some (.pointer _), .eql, .raw (.pointer none), .raw (.pointer none) => K .tt
  | some (.pointer _), .neq, .raw (.pointer none), .raw (.pointer none) => K .ff
  | _, op, .raw u, .raw v => sure (noAgg u = true) <| ∃ r : Value, (∀ w, (binOp op T u v).run P w = .ok r w) ∧ K (.raw r)
  | _, _, _, _ => False
/-- '==' and '!=' with nil. -/
def nilOp (P : Program) (op : BinOp) (T : TypeId) (x : AV) (K : AV → Prop) : Prop :=
  match P.underlying T, op, x with
  | some (.interface _), .eql, .ifc => K .ff
  | some (.interface _), .neq, .ifc => K .tt
  | some (.interface _), .eql, .raw .nilIface => K .tt
  | some (.interface _), .neq, .raw .nilIface => K .ff
  | _, _, _ => False
def binK (P : Program) (op : BinOp) (T : TypeId) (a b : AV) (K : AV → Prop) : Prop :=
  match a, b with
  | .raw (.int k x), .raw (.int k' y) => intOp op k k' x y K
  | .raw (.string x), .raw (.string y) => strOp op x y K
  | .raw (.bool x), .raw (.bool y) => match P.underlying T with
    | some .bool => boolOp op x y K
    | _ => False
  | .raw (.bool x), .tt => match P.underlying T with
    | some .bool => boolOp op x true K
    | _ => False
  | .raw (.bool x), .ff => match P.underlying T with
    | some .bool => boolOp op x false K
    | _ => False
  | .tt, .raw (.bool y) => match P.underlying T with
    | some .bool => boolOp op true y K
    | _ => False
  | .ff, .raw (.bool y) => match P.underlying T with
    | some .bool => boolOp op false y K
    | _ => False
  | .tt, .tt => match P.underlying T with
    | some .bool => boolOp op true true K
    | _ => False
  | .tt, .ff => match P.underlying T with
    | some .bool => boolOp op true false K
    | _ => False
  | .ff, .tt => match P.underlying T with
    | some .bool => boolOp op false true K
    | _ => False
  | .ff, .ff => match P.underlying T with
    | some .bool => boolOp op false false K
    | _ => False
  | a, b => otherOp P op T a b K
def unK (op : UnOp) (a : AV) (K : AV → Prop) : Prop :=
  match op, a with
  | .not, .tt => K .ff
  | .not, .ff => K .tt
  | .not, .raw (.bool b) => K (bool (!b))
  | .neg, .raw (.int k n) => K (int k (k.wrap (0 - n)))
  | .xor, .raw (.int k n) => K (int k (Go.bits .xor k (if k.signed then -1 else k.max) n))
  | _, _ => False
def bytesOf (xs : List Int) : ByteArray := ⟨(xs.map fun n => UInt8.ofNat n.toNat).toArray⟩
def intsOf (s : ByteArray) : List Int := s.data.toList.map fun b => (b.toNat : Int)
def convK (P : Program) (h : List AO) (src dst : TypeId) (a : AV) (K : AV → Prop) : Prop :=
  match P.underlying src with
  | none => False
  | some _ => match P.underlying dst, a with
  | some (.int k), .raw (.int _ n) => K (int k (k.wrap n))
  | some .string, .raw (.string s) => K (str s)
  | some .string, .roI .u8 xs => match P.underlying src with
    | some (.slice e) => match P.underlying e with
      | some (.int .u8) => K (str (bytesOf xs))
      | _ => False
    | _ => False
  | some .string, .raw (.slice none _ _) => match P.underlying src with
    | some (.slice e) => match P.underlying e with
      | some (.int .u8) => K (str ByteArray.empty)
      | _ => False
    | _ => False
  | some .string, .own id off len 1 => match P.underlying src with
    | some (.slice e) => match P.underlying e with
      | some (.int .u8) => getO h id fun o => match o with
        | .ints .u8 xs => off + len ≤ xs.length ∧ K (str (bytesOf ((xs.drop off).take len)))
        | _ => False
      | _ => False
    | _ => False
  | some (.float _), .raw v => ∃ r : Value, (∀ w, (convert src dst v).run P w = .ok r w) ∧ K (.raw r)
  | _, _ => False
def boundK (v : Option AV) (dflt : Nat) (most : Nat) (K : Nat → Prop) : Prop :=
  match v with
  | none => K dflt
  | some (.raw (.int _ i)) => (0 ≤ i ∧ i ≤ (most : Int)) ∧ K i.toNat
  | some _ => False
def addOff (off i sz : Nat) : Nat := off + i * sz
def sliceK (P : Program) (T : TypeId) (h : List AO) (x : AV) (lo hi mx : Option AV) (K : AV → Prop) : Prop :=
  match mx, P.underlying T, x with
  | none, some .string, .raw (.string s) => boundK hi s.size s.size fun b => boundK lo 0 b fun a => K (str (s.extract a b))
  | none, some (.slice e), .roI k xs => sizeK P e fun s => sure (s = 1) <| boundK hi xs.length xs.length fun b => boundK lo 0 b fun a => K (.roI k ((xs.take b).drop a))
  | none, some (.slice e), .own id off len sz => sizeK P e fun s => sure (s = sz) <| boundK hi len len fun b => boundK lo 0 b fun a => K (.own id (addOff off a sz) (b - a) sz)
  | none, some (.slice e), .ro n sz f => sizeK P e fun s => sure (s = sz) <| boundK hi n n fun b => boundK lo 0 b fun a => K (.ro (b - a) sz fun i => f (a * sz + i))
  | none, some (.slice e), .raw (.slice none 0 0) => sizeK P e fun _ => boundK hi 0 0 fun b => boundK lo 0 b fun _ => K (.raw (.slice none 0 0))
  | none, some (.array n e), .ptr id off => sizeK P e fun s => boundK hi n n fun b => boundK lo 0 b fun a =>
      getO h id fun o => match o with
        | .ints _ xs => off + n * s ≤ xs.length ∧ K (.own id (addOff off a s) (b - a) s)
        | .lst l => off + n * s ≤ l.length ∧ K (.own id (addOff off a s) (b - a) s)
        | _ => False
  | _, _, _ => False
def loadK (P : Program) (T : TypeId) (h : List AO) (a : AV) (K : AV → Prop) : Prop :=
  match a with
  | .rp n f => match aggB P T with
    | some true => sizeK P T fun s => sure (s ≤ n) (K (.agg s f))
    | some false => sure (0 < n) (K (f 0))
    | none => False
  | .ptr id off => getO h id fun o => match o with
    | .lst l => match aggB P T with
      | some true => sizeK P T fun s => sure (off + s ≤ l.length) (K (.agg s fun i => l.getD (off + i) .top))
      | some false => sure (off < l.length) (getK l off K)
      | none => False
    | .ints k xs => match aggB P T with
      | some true => sizeK P T fun s => off + s ≤ xs.length ∧ K (.aggI k ((xs.drop off).take s))
      | some false => off < xs.length ∧ K (int k (xs.getD off 0))
      | none => False
    | .row n f => match aggB P T with
      | some true => sizeK P T fun s => off + s ≤ n ∧ K (.agg s fun i => f (off + i))
      | some false => off < n ∧ K (f off)
      | none => False
    | _ => False
  | _ => False
def idxAddrK (P : Program) (T : TypeId) (x i : AV) (K : AV → Prop) : Prop :=
  match i with
  | .raw (.int _ j) => match P.underlying T, x with
    | some (.slice e), .roI k xs => sizeK P e fun s => sure (s = 1) <| (0 ≤ j ∧ j < (xs.length : Int)) ∧ K (.rp 1 fun _ => int k (xs.getD j.toNat 0))
    | some (.slice e), .ro n sz f => sizeK P e fun s => sure (s = sz ∧ 0 < sz) <| (0 ≤ j ∧ j < (n : Int)) ∧ K (.rp sz fun c => f (j.toNat * sz + c))
    | some (.slice e), .own id off len sz => sizeK P e fun s => sure (s = sz) <| (0 ≤ j ∧ j < (len : Int)) ∧ K (.ptr id (addOff off j.toNat sz))
    | some (.array n e), .ptr id off => sizeK P e fun s => (0 ≤ j ∧ j < (n : Int)) ∧ K (.ptr id (addOff off j.toNat s))
    | _, _ => False
  | _ => False
def idxK (P : Program) (T : TypeId) (x i : AV) (K : AV → Prop) : Prop :=
  match i with
  | .raw (.int _ j) => match P.underlying T, x with
    | some .string, .raw (.string s) => (0 ≤ j ∧ j < (s.size : Int)) ∧ K (int .u8 ((intsOf s).getD j.toNat 0))
    | some (.array n e), .aggI k xs => match aggB P e with
      | some true => False
      | some false => sizeK P e fun s => sure (s = 1) <| (0 ≤ j ∧ j < (n : Int)) ∧ n ≤ xs.length ∧ K (int k (xs.getD j.toNat 0))
      | none => False
    | _, _ => False
  | _ => False
def partK (P : Program) (T : TypeId) (a : AV) (off : Nat) (K : AV → Prop) : Prop :=
  match a with
  | .agg n f => match aggB P T with
    | some true => sizeK P T fun s => sure (off + s ≤ n) (K (.agg s fun i => f (off + i)))
    | some false => sure (off < n) (K (f off))
    | none => False
  | _ => False
def fieldK (P : Program) (T : TypeId) (a : AV) (j : Nat) (K : AV → Prop) : Prop :=
  match P.underlying T with
  | some (.struct fs) => match fs.toList[j]? with
    | some f => partK P f.type a f.offset K
    | none => False
  | _ => False
def fieldAddrK (P : Program) (T : TypeId) (a : AV) (j : Nat) (K : AV → Prop) : Prop :=
  match P.underlying T with
  | some (.struct fs) => match fs.toList[j]? with
    | some f => sizeK P f.type fun s => sure (0 < s) <| match a with
      | .ptr id off => K (.ptr id (off + f.offset))
      | .rp n g => sure (f.offset ≤ n) <| K (.rp (n - f.offset) fun i => g (f.offset + i))
      | _ => False
    | none => False
  | _ => False
def extractK (a : AV) (j : Nat) (K : AV → Prop) : Prop :=
  match a with
  | .tup n f => sure (j < n) (K (f j))
  | _ => False
def lenOfK (P : Program) (T : TypeId) (a : AV) (K : AV → Prop) : Prop :=
  match P.underlying T, a with
  | some .string, .raw (.string s) => K (int .i64 s.size)
  | some (.array n _), _ => K (int .i64 n)
  | some (.slice _), .roI _ xs => K (int .i64 xs.length)
  | some (.slice _), .ro n _ _ => K (int .i64 n)
  | some (.slice _), .own _ _ len _ => K (int .i64 len)
  | some (.slice _), .raw (.slice none 0 0) => K (int .i64 0)
  | _, _ => False
def optK (t : List AV) (x : Option Operand) (K : Option AV → Prop) : Prop :=
  match x with
  | none => K none
  | some x => evK t x fun a => K (some a)

/-- An operation that only computes and reads. -/
def apure (P : Program) (t : List AV) (h : List AO) (op : Op) (K : AV → Prop) : Prop :=
  match op with
  | .move x | .assign x => evK t x K
  | .pick c a b => evK t c fun c => match c with
    | .tt => evK t a K
    | .ff => evK t b K
    | .raw (.bool true) => evK t a K
    | .raw (.bool false) => evK t b K
    | _ => False
  | .nilCheck x => evK t x fun a => match a with
    | .ptr _ _ => K a
    | .rp _ _ => K a
    | .clo (.func _) _ _ => K a
    | _ => False
  | .load T x => evK t x fun a => loadK P T h a K
  | .binOp op T x (.const .nilIface) _ => evK t x fun a => nilOp P op T a K
  | .binOp op T x y _ => evK t x fun a => evK t y fun b => binK P op T a b K
  | .unOp op _ x => evK t x fun a => unK op a K
  | .convert src dst x => evK t x fun a => convK P h src dst a K
  | .slice T x lo hi mx => evK t x fun a => optK t lo fun lo => optK t hi fun hi => optK t mx fun mx => sliceK P T h a lo hi mx K
  | .fieldAddr T x j => evK t x fun a => fieldAddrK P T a j K
  | .field T x j => evK t x fun a => fieldK P T a j K
  | .indexAddr T x i => evK t x fun a => evK t i fun b => idxAddrK P T a b K
  | .index T x i => evK t x fun a => evK t i fun b => idxK P T a b K
  | .extract x j => evK t x fun a => extractK a j K
  | .call { callee := .builtin .len, args, argTypes } => match args.toList, argTypes.toList with
    | [x], [T] => evK t x fun a => lenOfK P T a K
    | _, _ => False
  | .call { callee := .builtin .complex, args, .. } => evsK t args.toList fun l => match l with
    | [.raw (.float k x), .raw (.float k' y)] => sure (k = k') <| K (.raw (.complex k x y))
    | _ => False
  | .call { callee := .builtin .real, args, .. } => evsK t args.toList fun l => match l with
    | [.raw (.complex k x _)] => K (.raw (.float k x))
    | _ => False
  | .call { callee := .builtin .imag, args, .. } => evsK t args.toList fun l => match l with
    | [.raw (.complex k _ y)] => K (.raw (.float k y))
    | _ => False
  | .call { callee := .builtin .max, args, .. } => evsK t args.toList fun l => match l with
    | [.raw (.int k x), .raw (.int k' y)] => sameKind k' k (K (int k (max x y)))
    | _ => False
  | .call { callee := .builtin .min, args, .. } => evsK t args.toList fun l => match l with
    | [.raw (.int k x), .raw (.int k' y)] => sameKind k' k (K (int k (min x y)))
    | _ => False
  | _ => False

end Go.Proofs.YtmohncaoimeneaaDoor.AL
