/-
  What code makes of what is known of a state: regions, tests, loops by a relation. No program in sight.
-/
import Derived.Test.YtmohncaoimeneaaDoorAlWp
import Derived.StillTail
set_option linter.unusedSectionVars false
namespace Go.Proofs.YtmohncaoimeneaaDoor.AL
open Go
variable [Globs]

def atypesOf (c : Go.Call) : List TypeId := c.argTypes.toList

/-- An operation that may act: what it leaves, and the blocks behind it. -/
def aeff (P : Program) (t : List AV) (h : List AO) (o : Oper) (K : AV → List AO → Prop) : Prop :=
  match o.op with
  | .alloc E => zeroK P E fun z => match P.underlying E with
    | some (.array n e) => match intB P e with
      | some k => sizeK P E fun s => sure (s = n) <| z = .agg ((List.replicate n (0 : Int)).map (Value.int k)).toArray ∧ addO h (.ints k (List.replicate n 0)) fun id h' => K (.ptr id 0) h'
      | none => addO h (.lst (z.cells.toList.map .raw)) fun id h' => K (.ptr id 0) h'
    | some _ => addO h (.lst (z.cells.toList.map .raw)) fun id h' => K (.ptr id 0) h'
    | none => False
  | .box E x => evK t x fun a => newVarK P E h a fun id h' => K (.ptr id 0) h'
  | .build T parts => partsK t parts.toList fun l => buildK P T l fun a => K a h
  | .buildSlice T len parts => partsK t parts.toList fun l => buildSliceK P T h len l K
  | .store T a x => evK t a fun a => evK t x fun v => storeK P T h a v fun h' => K .top h'
  | .makeSlice T l c => evK t l fun a => evK t c fun b => makeK P T h a b K
  | .convert src dst x => evK t x fun a => match P.underlying dst, a with
    | some (.slice e), .raw (.string s) => match intB P e with
      | some .u8 => match P.underlying src with
        | some _ => addO h (.ints .u8 (intsOf s)) fun id h' => K (.own id 0 s.size 1) h'
        | none => False
      | _ => False
    | _, _ => convK P h src dst a fun v => K v h
  | .makeFunc fn first captured => match first.toList with
    | [] => evsK t captured.toList fun l => K (.clo fn l.length fun i => l.getD i .top) h
    | _ => False
  | .call c => match c.callee with
    | .builtin .append => evsK t c.args.toList fun l => match l, c.argTypes.toList with
      | [s, x], [T, T2] => appendK P T T2 h s x K
      | _, _ => False
    | .builtin .copy => evsK t c.args.toList fun l => match l, c.argTypes.toList with
      | [s, x], [T, _] => copyK P T h s x K
      | _, _ => False
    | .builtin .len => evsK t c.args.toList fun l => match l, c.argTypes.toList with
      | [x], [T] => lenOfK P T x fun a => K a h
      | _, _ => False
    | .builtin .max => evsK t c.args.toList fun l => match l with
      | [.raw (.int k x), .raw (.int k' y)] => sameKind k' k (K (int k (max x y)) h)
      | _ => False
    | .builtin .min => evsK t c.args.toList fun l => match l with
      | [.raw (.int k x), .raw (.int k' y)] => sameKind k' k (K (int k (min x y)) h)
      | _ => False
    | .value x => evK t x fun f => evsK t c.args.toList fun l => match f with
      | .raw (.func (.func f) ⟨[]⟩ ⟨[]⟩) => callK P f l h K
      | .clo (.func f) n g => tabK n g fun caps => callK P f (l ++ caps) h K
      | _ => False
    | .builtin .complex => apure P t h o.op fun a => K a h
    | .builtin .real => apure P t h o.op fun a => K a h
    | .builtin .imag => apure P t h o.op fun a => K a h
    | _ => False
  | op => apure P t h op fun a => K a h

/-- An operation of a region, its guard held against what is known. -/
def aguard (all : List Oper) (t : List AV) (o : Oper) (run : List AV → Prop) (skip : List AV → Prop) : Prop :=
  match o.guard with
  | none => run t
  | some (j, want) => match all[j]? with
    | some oj => match oj.dst with
      | some d => getK t d fun g => match g, want with
        | .tt, true => run t
        | .ff, false => run t
        | .tt, false => putK t o.dst (.raw undef) skip
        | .ff, true => putK t o.dst (.raw undef) skip
        | .raw (.bool b), true => (b = true → setK t d .tt run) ∧ (b = false → setK t d .ff fun t => putK t o.dst (.raw undef) skip)
        | .raw (.bool b), false => (b = true → setK t d .tt fun t => putK t o.dst (.raw undef) skip) ∧ (b = false → setK t d .ff run)
        | .raw (.tuple _), _ => putK t o.dst (.raw undef) skip
        | _, _ => False
      | none => False
    | none => False

def aops (P : Program) (all : List Oper) (K : List AV → List AO → Prop) : List Oper → List AV → List AO → Prop
  | [], t, h => K t h
  | o :: r, t, h => aguard all t o (fun t => aeff P t h o fun v h' => putK t o.dst v fun t' => aops P all K r t' h') (fun t => aops P all K r t h)

/-- The same for a region whose order is open: each operation only computes, reads, or calls what hands back one value. -/
def aquiet (P : Program) (t : List AV) (h : List AO) (o : Oper) (K : AV → Prop) : Prop :=
  match o.op with
  | .call { callee := .value (.func f), args, .. } => evsK t args.toList fun l => ∃ v : Value, lowsK h [] l fun as =>
      ACalls P f as [] (fun r h' => (r = .raw v ∨ (r = .tt ∧ v = .bool true) ∨ (r = .ff ∧ v = .bool false)) ∧ h' = []) ∧ K (.raw v)
  | op => apure P t h op K
def aqops (P : Program) (all : List Oper) (K : List AV → Prop) : List Oper → List AV → List AO → Prop
  | [], t, _ => K t
  | o :: r, t, h => aguard all t o (fun t => aquiet P t h o fun v => putK t o.dst v fun t' => aqops P all K r t' h) (fun t => aqops P all K r t h)

/-- A slice of numbers that is written out, seen as a row that is only read. -/
def buildFreshK (P : Program) (T : TypeId) (len : Nat) (parts : List (Nat × AV)) (K : AV → Prop) : Prop :=
  match P.underlying T with
  | some (.slice e) => sizeK P e fun sz => sure (0 < sz) <| sure (len * sz ≤ 16777216) <| zeroK P e fun z =>
      sure (z.cells.size = sz) <| fillL (fun i => some (i * sz, sz)) parts ((List.range (len * sz)).map fun i => .raw (z.cells[i % sz]!)) fun l =>
        match intB P e with
        | some k => sure (sz = 1) <| explicitInts k l fun xs => K (.roI k xs)
        | none => False
  | _ => False
/-- An operation of a region whose order is open, that leaves what is known of the heap: one value of it is asked. -/
def aq1 (P : Program) (t : List AV) (h : List AO) (o : Oper) (K : AV → Prop) : Prop :=
  match o.op with
  | .buildSlice T len parts => partsK t parts.toList fun l => buildFreshK P T len l K
  | .build T parts => partsK t parts.toList fun l => buildK P T l K
  | .call { callee := .value (.func f), args, .. } => evsK t args.toList fun l => callK P f l h fun x h' => h' = h ∧ K x
  | .call { callee := .value (.tmp i), args, .. } => getK t i fun f => evsK t args.toList fun l => match f with
    | .raw (.func (.func f) ⟨[]⟩ ⟨[]⟩) => callK P f l h fun x h' => h' = h ∧ K x
    | .clo (.func f) n g => tabK n g fun caps => callK P f (l ++ caps) h fun x h' => h' = h ∧ K x
    | _ => False
  | op => apure P t h op K
/-- May an operation run, as its guard says? -/
def gdK (all : List Oper) (t : List AV) (o : Oper) (run skip : Prop) : Prop :=
  match o.guard with
  | none => run
  | some (j, want) => match all[j]? with
    | some oj => match oj.dst with
      | some d => getK t d fun g => match g, want with
        | .tt, true => run
        | .ff, false => run
        | .tt, false => skip
        | .ff, true => skip
        | .raw (.bool true), true => run
        | .raw (.bool false), false => run
        | .raw (.bool true), false => skip
        | .raw (.bool false), true => skip
        | .raw (.tuple _), _ => skip
        | _, _ => False
      | none => False
    | none => False
def aq1s (P : Program) (all : List Oper) (h : List AO) (Q : List AV → Prop) : List Oper → List AV → Prop
  | [], t => Q t
  | o :: r, t => ∃ x, gdK all t o (aq1 P t h o (fun y => y = x)) (x = .raw undef) ∧ putK t o.dst x fun t' => aq1s P all h Q r t'
/-- May the region be taken so: its first n operations in the text's order, the others one behind the other? -/
def drawB (P : Program) (ops : Array Oper) (n : Nat) : Bool :=
  P.follows .mixedOrders && Region.lexTailB .any ops n

/-- One known value, seen as another one: of the places l, in this order, the blocks are kept. -/
inductive LeV (h : List AO) (l : List Nat) : AV → AV → Prop
  | top (a : AV) : LeV h l a .top
  | raw (v : Value) : LeV h l (.raw v) (.raw v)
  | tt : LeV h l .tt .tt
  | ff : LeV h l .ff .ff
  | ttr : LeV h l .tt (.raw (.bool true))
  | rtt : LeV h l (.raw (.bool true)) .tt
  | rff : LeV h l (.raw (.bool false)) .ff
  | ffr : LeV h l .ff (.raw (.bool false))
  | own {id id' : Nat} (off len sz : Nat) (e : l[id']? = some id) : LeV h l (.own id off len sz) (.own id' off len sz)
  | nil {id' : Nat} (off sz : Nat) (e : id' < l.length) : LeV h l (.raw (.slice none 0 0)) (.own id' off 0 sz)
  | ptr {id id' : Nat} (off : Nat) (e : l[id']? = some id) : LeV h l (.ptr id off) (.ptr id' off)
  | mp {id id' : Nat} (e : l[id']? = some id) : LeV h l (.mp id) (.mp id')
  | same (a : AV) (hf : a.free) : LeV h l a a
  | rp (n : Nat) (f g : Nat → AV) (e : ∀ i, i < n → LeV h l (f i) (g i)) (ef : ∀ i, i < n → (g i).free) : LeV h l (.rp n f) (.rp n g)
  | ro (n sz : Nat) (f g : Nat → AV) (e : ∀ i, i < n * sz → LeV h l (f i) (g i)) (ef : ∀ i, i < n * sz → (g i).free) : LeV h l (.ro n sz f) (.ro n sz g)
  | roI (k : IntKind) (xs : List Int) : LeV h l (.roI k xs) (.roI k xs)
  | roOfI (k : IntKind) (xs : List Int) : LeV h l (.roI k xs) (.ro xs.length 1 fun i => .raw (.int k (xs.getD i 0)))
  | aggI (k : IntKind) (xs : List Int) : LeV h l (.aggI k xs) (.aggI k xs)
  | agg (n : Nat) (f g : Nat → AV) (e : ∀ i, i < n → LeV h l (f i) (g i)) : LeV h l (.agg n f) (.agg n g)
  | aggOfI (k : IntKind) (xs : List Int) : LeV h l (.aggI k xs) (.agg xs.length fun i => .raw (.int k (xs.getD i 0)))
  | iOfAgg (k : IntKind) (xs : List Int) (f : Nat → AV) (e : ∀ i, i < xs.length → f i = .raw (.int k (xs.getD i 0))) : LeV h l (.agg xs.length f) (.aggI k xs)
  | tup (n : Nat) (f g : Nat → AV) (e : ∀ i, i < n → LeV h l (f i) (g i)) : LeV h l (.tup n f) (.tup n g)
  | clo (fn : Fn) (n : Nat) (f g : Nat → AV) (e : ∀ i, i < n → LeV h l (f i) (g i)) : LeV h l (.clo fn n f) (.clo fn n g)
  | nilI (k : IntKind) : LeV h l (.raw (.slice none 0 0)) (.roI k [])
  | nilR (sz : Nat) (f : Nat → AV) : LeV h l (.raw (.slice none 0 0)) (.ro 0 sz f)
  | giveI {id off len : Nat} {k : IntKind} {xs : List Int} (ys : List Int) (e : h[id]? = some (.ints k xs)) (hl : id ∉ l) (hb : off + len ≤ xs.length)
      (hy : ys = (xs.drop off).take len) : LeV h l (.own id off len 1) (.roI k ys)
  | giveR {id off len sz n : Nat} {f : Nat → AV} (g : Nat → AV) (e : h[id]? = some (.row n f)) (hl : id ∉ l) (hb : off + len * sz ≤ n)
      (hy : ∀ i, i < len * sz → LeV h l (f (off + i)) (g i)) (hyf : ∀ i, i < len * sz → (g i).free) : LeV h l (.own id off len sz) (.ro len sz g)
  | giveL {id off len sz : Nat} {m : List AV} (g : Nat → AV) (e : h[id]? = some (.lst m)) (hl : id ∉ l) (hb : off + len * sz ≤ m.length)
      (hy : ∀ i, i < len * sz → LeV h l (m.getD (off + i) .top) (g i)) (hyf : ∀ i, i < len * sz → (g i).free) : LeV h l (.own id off len sz) (.ro len sz g)
  | givePL {id off n : Nat} {m : List AV} (g : Nat → AV) (e : h[id]? = some (.lst m)) (hl : id ∉ l) (hb : off + n ≤ m.length)
      (hy : ∀ i, i < n → LeV h l (m.getD (off + i) .top) (g i)) (hyf : ∀ i, i < n → (g i).free) : LeV h l (.ptr id off) (.rp n g)

inductive LeO (h : List AO) (l : List Nat) : AO → AO → Prop
  | dead (o : AO) : LeO h l o .dead
  | ints (k : IntKind) (xs : List Int) : LeO h l (.ints k xs) (.ints k xs)
  | row (n m : Nat) (f g : Nat → AV) (hm : m ≤ n) (e : ∀ i, i < m → LeV h l (f i) (g i)) : LeO h l (.row n f) (.row m g)
  | lst (x y : List AV) (hn : y.length = x.length) (e : ∀ i, i < x.length → LeV h l (x.getD i .top) (y.getD i .top)) : LeO h l (.lst x) (.lst y)
  | rowL (x : List AV) (g : Nat → AV) (e : ∀ i, i < x.length → LeV h l (x.getD i .top) (g i)) : LeO h l (.lst x) (.row x.length g)
  | rowI (k : IntKind) (xs : List Int) : LeO h l (.ints k xs) (.row xs.length fun i => .raw (.int k (xs.getD i 0)))
  | map (n : Nat) (key val key' val' : Nat → AV) (e : ∀ i, i < n → LeV h l (key i) (key' i) ∧ LeV h l (val i) (val' i)) : LeO h l (.map n key val) (.map n key' val')

/-- Of the blocks h those of the places l are kept, as h1; the first np stay where they are. A block that is new in h1 (empty, nowhere) has the place of a dead one. -/
structure LeH (np : Nat) (h : List AO) (l : List Nat) (h1 : List AO) : Prop where
  len : h1.length = l.length
  enough : np ≤ l.length
  pre : ∀ (i : Nat), i < np → l[i]? = some i
  dist : l.Nodup
  objs : ∀ (i j : Nat) (o' : AO), l[i]? = some j → h1[i]? = some o' → (∃ o, h[j]? = some o ∧ LeO h l o o') ∨ (np ≤ i ∧ h.length ≤ j ∧ (o' = .dead ∨ (∃ k, o' = .ints k []) ∨ ∃ g, o' = .row 0 g))

/-- Slots, all of them unknown but for a few. -/
def tops : Nat → List AV
  | 0 => []
  | n + 1 => .top :: tops n
def mkK (t : List AV) : List (Nat × AV) → (List AV → Prop) → Prop
  | [], K => K t
  | (i, a) :: l, K => setK t i a fun t' => mkK t' l K
def topsK : List AV → (List AV → Prop) → Prop
  | [], K => K []
  | _ :: l, K => topsK l fun r => K (.top :: r)
def LeT (h : List AO) (l : List Nat) (t : List AV) : List (Nat × AV) → Prop
  | [] => True
  | (i, a) :: r => (getK t i fun b => LeV h l b a) ∧ LeT h l t r

def lenEq : List AV → List AV → Prop
  | [], [] => True
  | _ :: l, _ :: m => lenEq l m
  | _, _ => False

/-- What a piece of code makes of what is known; 'sc': what is said of scopes. -/
def awpS (P : Program) (np : Nat) (sc : Code → (Exit → List AV → List AO → Prop) → List AV → List AO → Prop) : Code → (Exit → List AV → List AO → Prop) → List AV → List AO → Prop
  | .skip, Q, t, h => Q .normal t h
  | .label _, Q, t, h => Q .normal t h
  | .ret, Q, t, h => Q .ret t h
  | .exit id, Q, t, h => Q (.exit id) t h
  | .goto l, Q, t, h => Q (.goto l) t h
  | .scope c, Q, t, h => sc c Q t h
  | .seq a b, Q, t, h => awpS P np sc a (fun e t h => match e with
      | .normal => awpS P np sc b Q t h
      | e => Q e t h) t h
  | .block id c, Q, t, h => awpS P np sc c (fun e t h => match e with
      | .exit id' => match decide (id' = id) with
        | true => Q .normal t h
        | false => Q (.exit id') t h
      | e => Q e t h) t h
  | .cond c x y, Q, t, h => evK t c fun v => match v with
      | .tt => awpS P np sc x Q t h
      | .ff => awpS P np sc y Q t h
      | .raw (.bool b) => (b = true → awpS P np sc x Q t h) ∧ (b = false → awpS P np sc y Q t h)
      | _ => False
  | .region _ ops false, Q, t, h => aops P ops.toList (Q .normal) ops.toList t h
  | .region _ ops true, Q, t, h => ((P.follows .mixedOrders = true ∧ Region.lexB .any ops = true) ∧ aqops P ops.toList (fun t => Q .normal t h) ops.toList t h) ∨
      ∃ n : Nat, drawB P ops n = true ∧ aq1s P ops.toList h (fun t => aops P ops.toList (Q .normal) (ops.toList.drop n) t h) (ops.toList.take n) t
  | .loop c, Q, t, h => ∃ (X : Type) (sl : X → List (Nat × AV)) (hp : X → List AO) (inv : X → Prop) (μ : X → Nat),
      (∃ x l, inv x ∧ LeH np h l (hp x) ∧ LeT h l t (sl x)) ∧
      ∀ x, inv x → topsK t fun t0 => mkK t0 (sl x) fun t1 => awpS P np sc c (fun e t' h' => match e with
        | .normal => lenEq t t' ∧ ∃ y l, inv y ∧ μ y < μ x ∧ LeH np h' l (hp y) ∧ LeT h' l t' (sl y)
        | e => Q e t' h') t1 (hp x)
  | _, _, _, _ => False

/-- No word on scopes. -/
def noScope : Code → (Exit → List AV → List AO → Prop) → List AV → List AO → Prop := fun _ _ _ _ => False
/-- The same from a label on. -/
def awpAt (P : Program) (np : Nat) (l : Nat) : Code → (Exit → List AV → List AO → Prop) → List AV → List AO → Prop
  | .seq a b, Q, t, h => match (findLabel a l).isSome with
    | true => awpAt P np l a (fun e t h => match e with
      | .normal => awpS P np noScope b Q t h
      | e => Q e t h) t h
    | false => awpAt P np l b Q t h
  | .label l', Q, t, h => match l' == l with
    | true => Q .normal t h
    | false => False
  | _, _, _, _ => False
/-- A scope: what holds at each jump, and a number that sinks from jump to jump. -/
def scopeK (P : Program) (np : Nat) (c : Code) (Q : Exit → List AV → List AO → Prop) (t : List AV) (h : List AO) : Prop :=
  ∃ (X : Type) (lab : X → Nat) (sl : X → List (Nat × AV)) (hp : X → List AO) (inv : X → Prop) (μ : X → Nat),
    awpS P np noScope c (fun e t' h' => match e with
      | .goto l' => lenEq t t' ∧ ∃ y l, lab y = l' ∧ inv y ∧ LeH np h' l (hp y) ∧ LeT h' l t' (sl y)
      | e => Q e t' h') t h ∧
    ∀ x, inv x → topsK t fun t0 => mkK t0 (sl x) fun t1 => awpAt P np (lab x) c (fun e t' h' => match e with
      | .goto l' => lenEq t t' ∧ ∃ y l, lab y = l' ∧ inv y ∧ μ y < μ x ∧ LeH np h' l (hp y) ∧ LeT h' l t' (sl y)
      | e => Q e t' h') t1 (hp x)
abbrev awp (P : Program) (np : Nat) := awpS P np (scopeK P np)

/-- What a function hands back. -/
def resK (P : Program) (h : List AO) (t : List AV) : List ResultVar → (List AV → Prop) → Prop
  | [], K => K []
  | .tmp i :: r, K => getK t i fun a => resK P h t r fun l => K (a :: l)
  | .cell i T :: r, K => getK t i fun a => loadK P T h a fun v => resK P h t r fun l => K (v :: l)
def retK (P : Program) (np : Nat) (rs : List ResultVar) (R : AV → List AO → Prop) (e : Exit) (t : List AV) (h : List AO) : Prop :=
  match e with
  | .ret | .normal => resK P h t rs fun l => match l with
    | [a] => ∃ l h1 b, LeH np h l h1 ∧ LeV h l a b ∧ R b h1
    | m => ∃ l h1 b, LeH np h l h1 ∧ LeV h l (.tup m.length fun i => m.getD i .top) b ∧ R b h1
  | _ => False
/-- A function's frame, as the call begins. -/
def frameK (n : Nat) : List AV → (List AV → Prop) → Prop
  | [], K => go n K
  | a :: l, K => match n with
    | 0 => frameK 0 l fun r => K (a :: r)
    | n + 1 => frameK n l fun r => K (a :: r)
where go : Nat → (List AV → Prop) → Prop
  | 0, K => K []
  | n + 1, K => go n fun r => K (.top :: r)

end Go.Proofs.YtmohncaoimeneaaDoor.AL
