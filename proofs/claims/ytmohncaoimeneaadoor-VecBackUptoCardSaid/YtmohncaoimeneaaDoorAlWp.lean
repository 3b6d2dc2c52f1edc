/-
  What code makes of what is known of a state: operations that act, calls by their contracts, tests, loops by a relation. No program in sight.
-/
import Derived.Test.YtmohncaoimeneaaDoorAlOps
set_option linter.unusedSectionVars false
namespace Go.Proofs.YtmohncaoimeneaaDoor.AL
open Go
variable [Globs]

/-- Other places for the call's own blocks. -/
def AV.ren (g : Nat → Nat) : AV → AV
  | .own id off len sz => .own (g id) off len sz
  | .ptr id off => .ptr (g id) off
  | .agg n f => .agg n fun i => (f i).ren g
  | .tup n f => .tup n fun i => (f i).ren g
  | .clo fn n f => .clo fn n fun i => (f i).ren g
  | .mp id => .mp (g id)
  | a => a
def AO.ren (g : Nat → Nat) : AO → AO
  | .row n f => .row n fun i => (f i).ren g
  | .lst l => .lst (l.map (AV.ren g))
  | .map n key val => .map n (fun i => (key i).ren g) fun i => (val i).ren g
  | o => o

/-- The function has a body of Go's. -/
def Entered (P : Program) (f : FuncId) : Prop := ∃ fn, P.funcs[f]? = some fn ∧ (fn.name == "runtime.NumGoroutine") = false ∧ fn.body.isNone = false

/-- THE CONTRACT of a function: from arguments that are known so, and blocks that are handed over, to a result, and to what these blocks and new ones then are. -/
def ACalls (P : Program) (f : FuncId) (args : List AV) (h : List AO) (R : AV → List AO → Prop) : Prop :=
  Entered P f ∧ ∀ (S0 : Nat → Prop) (L : Loc) (w : World) (vs : Array Value),
    HRel ⟨w, S0, h.length, L⟩ h L w → (∀ b, S0 b → b < w.heap.size ∧ ∀ i, i < h.length → L.b i ≠ some b) →
    vs.size = args.length → (∀ (i : Nat) (a : AV), args[i]? = some a → ∃ v, vs[i]? = some v ∧ den w S0 L a v) →
    Calls P f vs w fun e w' => ∃ v r h' L', e = .returned v ∧ R r h' ∧ HRel ⟨w, S0, h.length, L⟩ h' L' w' ∧
      den w' (SS ⟨w, S0, h.length, L⟩ w' h' L') L' r v

/-- Numerals, as they are printed. -/
def lits : List Nat := [0, 1, 2, 3, 4, 5, 6, 7, 8, 9, 10, 11, 12, 13, 14, 15, 16, 17, 18, 19, 20, 21, 22, 23, 24, 25, 26, 27, 28, 29, 30, 31, 32, 33, 34, 35, 36, 37, 38, 39, 40, 41, 42, 43, 44, 45, 46, 47, 48, 49, 50, 51, 52, 53, 54, 55, 56, 57, 58, 59, 60, 61, 62, 63, 64, 65, 66, 67, 68, 69, 70, 71, 72, 73, 74, 75, 76, 77, 78, 79, 80, 81, 82, 83, 84, 85, 86, 87, 88, 89, 90, 91, 92, 93, 94, 95, 96, 97, 98, 99]
def addO (h : List AO) (o : AO) (K : Nat → List AO → Prop) : Prop := go o h lits K
where go (o : AO) : List AO → List Nat → (Nat → List AO → Prop) → Prop
  | [], n :: _, K => K n [o]
  | p :: h, _ :: l, K => go o h l fun n r => K n (p :: r)
  | _, [], _ => False

def cell1 : AV → Bool
  | .raw (.agg _) => false
  | .raw (.tuple _) => false
  | .top => false
  | .agg _ _ => false
  | .aggI _ _ => false
  | .tup _ _ => false
  | _ => true

/-- The numbers that a row has. -/
def intsK (h : List AO) (k : IntKind) (x : AV) (K : List Int → Prop) : Prop :=
  match x with
  | .roI k' ys => sameKind k' k (K ys)
  | .own id off len 1 => getO h id fun o => match o with
    | .ints k' ys => sameKind k' k (off + len ≤ ys.length ∧ K ((ys.drop off).take len))
    | _ => False
  | .raw (.slice none 0 0) => K []
  | .raw (.string s) => sameKind .u8 k (K (intsOf s))
  | _ => False
/-- The cells that a row has, as a function. -/
def cellsK (h : List AO) (sz : Nat) (x : AV) (K : Nat → (Nat → AV) → Prop) : Prop :=
  match x with
  | .ro n sz' f => sure (sz' = sz) <| K n f
  | .roI k ys => sure (sz = 1) <| K ys.length fun i => int k (ys.getD i 0)
  | .own id off len sz' => sure (sz' = sz) <| getO h id fun o => match o with
    | .lst l => off + len * sz ≤ l.length ∧ K len fun i => l.getD (off + i) .top
    | .row n f => off + len * sz ≤ n ∧ K len fun i => f (off + i)
    | .ints k ys => off + len * sz ≤ ys.length ∧ K len fun i => int k (ys.getD (off + i) 0)
    | _ => False
  | .raw (.slice none 0 0) => K 0 fun _ => .top
  | _ => False

def zeroK (P : Program) (T : TypeId) (K : Value → Prop) : Prop :=
  match P.info? T with
  | some i => match i.zero with
    | some z => K z
    | none => False
  | none => False
def intB (P : Program) (T : TypeId) : Option IntKind :=
  match P.underlying T with
  | some (.int k) => some k
  | _ => none

def newVarK (P : Program) (E : TypeId) (h : List AO) (a : AV) (K : Nat → List AO → Prop) : Prop :=
  match a with
  | .agg n f => sizeK P E fun s => sure (s = n) <| tabK n f fun l => addO h (.lst l) K
  | .aggI k xs => sizeK P E fun s => s = xs.length ∧ addO h (.ints k xs) K
  | a => match cell1 a with
    | true => sizeK P E fun s => sure (s = 1) <| addO h (.lst [a]) K
    | false => False

def storeK (P : Program) (T : TypeId) (h : List AO) (a v : AV) (K : List AO → Prop) : Prop :=
  match a with
  | .ptr id off => getO h id fun o => match o with
    | .ints k xs => match v with
      | .raw (.int k' n) => sizeK P T fun s => sure (s = 1) <| sameKind k' k (off < xs.length ∧ setO h id (.ints k (xs.set off n)) K)
      | .aggI k' ys => sizeK P T fun s => s = ys.length ∧ sameKind k' k (off + s ≤ xs.length ∧ setO h id (.ints k (xs.take off ++ ys ++ xs.drop (off + ys.length))) K)
      | _ => False
    | .lst l => match v with
      | .agg n f => sizeK P T fun s => sure (s = n ∧ off + n ≤ l.length) <| tabK n f fun m => sure (m.all cell1 = true) <| setO h id (.lst (l.take off ++ m ++ l.drop (off + n))) K
      | v => match cell1 v with
        | true => sizeK P T fun s => sure (s = 1 ∧ off < l.length) <| setK l off v fun l' => setO h id (.lst l') K
        | false => False
    | .row n f => match cell1 v with
        | true => sizeK P T fun s => sure (s = 1) <| off < n ∧ ∃ g : Nat → AV, (∀ i, i < n → g i = if i = off then v else f i) ∧ setO h id (.row n g) K
        | false => False
    | _ => False
  | _ => False

def notInt (d : TypeDesc) : Bool := match d with | .slice _ => true | .string => true | _ => false
def appendK (P : Program) (T T2 : TypeId) (h : List AO) (s x : AV) (K : AV → List AO → Prop) : Prop :=
  match P.underlying T, P.underlying T2 with
  | some (.slice e), some d2 => sure (notInt d2 = true) <| match P.info? e with
    | some i => sure (0 < i.bytes ∧ 0 < i.size) <| match i.zero with
      | some z => sure (z.cells.size = i.size) <| match intB P e with
        | some k => sure (i.size = 1) <| match s with
          | .raw (.slice none 0 0) => intsK h k x fun ys => ys.length * i.bytes ≤ 140737488355328 ∧ addO h (.ints k ys) fun n h' => K (.own n 0 ys.length 1) h'
          | .own id 0 len 1 => getO h id fun o => match o with
            | .ints k' xs => sameKind k' k (len = xs.length ∧ intsK h k x fun ys => (xs.length + ys.length) * i.bytes ≤ 140737488355328 ∧
                setO h id .dead fun h1 => addO h1 (.ints k (xs ++ ys)) fun n h' => K (.own n 0 (xs.length + ys.length) 1) h')
            | _ => False
          | _ => False
        | none => sizeK P e fun sz => match s with
          | .raw (.slice none 0 0) => cellsK h sz x fun m f => m * i.bytes ≤ 140737488355328 ∧ (∀ i, i < m * sz → cell1 (f i) = true) ∧ ∃ g : Nat → AV, (∀ i, i < m * sz → g i = f i) ∧
              addO h (.row (m * sz) g) fun n h' => K (.own n 0 m sz) h'
          | .own id 0 len sz' => sure (sz' = sz) <| getO h id fun o => match o with
            | .row n f => n = len * sz ∧ (∀ i, i < n → cell1 (f i) = true) ∧ cellsK h sz x fun m f' => (len + m) * i.bytes ≤ 140737488355328 ∧ (∀ i, i < m * sz → cell1 (f' i) = true) ∧
                ∃ g : Nat → AV, (∀ i, i < n → g i = f i) ∧ (∀ i, i < m * sz → g (n + i) = f' i) ∧
                setO h id .dead fun h1 => addO h1 (.row ((len + m) * sz) g) fun n h' => K (.own n 0 (len + m) sz) h'
            | .lst l => l.length = len * sz ∧ (∀ i, i < l.length → cell1 (l.getD i .top) = true) ∧ cellsK h sz x fun m f' => (len + m) * i.bytes ≤ 140737488355328 ∧ (∀ i, i < m * sz → cell1 (f' i) = true) ∧
                ∃ g : Nat → AV, (∀ i, i < l.length → g i = l.getD i .top) ∧ (∀ i, i < m * sz → g (l.length + i) = f' i) ∧
                setO h id .dead fun h1 => addO h1 (.row ((len + m) * sz) g) fun n h' => K (.own n 0 (len + m) sz) h'
            | _ => False
          | _ => False
      | none => False
    | none => False
  | _, _ => False

def copyK (P : Program) (T : TypeId) (h : List AO) (d x : AV) (K : AV → List AO → Prop) : Prop :=
  match P.underlying T with
  | some (.slice e) => match intB P e with
    | some k => sizeK P e fun sz => sure (sz = 1) <| match d with
      | .own id off len 1 => getO h id fun o => match o with
        | .ints k' xs => sameKind k' k (off + len ≤ xs.length ∧ intsK h k x fun ys =>
            setO h id (.ints k (xs.take off ++ ys.take len ++ xs.drop (off + min ys.length len))) fun h' => K (int .i64 (min ys.length len : Nat)) h')
        | _ => False
      | _ => False
    | none => False
  | _ => False

def makeK (P : Program) (T : TypeId) (h : List AO) (l c : AV) (K : AV → List AO → Prop) : Prop :=
  match l, c with
  | .raw (.int .i64 n), .raw (.int .i64 m) => match P.underlying T with
    | some (.slice e) => match P.info? e with
      | some i => (0 ≤ n ∧ n ≤ m ∧ m < 9223372036854775808 ∧ m * (i.bytes : Int) ≤ 140737488355328) ∧ match intB P e with
        | some k => sizeK P e fun sz => sure (sz = 1) <| zeroK P e fun z => sure (z.cells.size = 1) <| z.cells[0]! = .int k 0 ∧ addO h (.ints k (List.replicate n.toNat 0)) fun id h' => K (.own id 0 n.toNat 1) h'
        | none => sizeK P e fun sz => sure (0 < sz) <| zeroK P e fun z => sure (z.cells.size = sz) <| addO h (.row (n.toNat * sz) fun i => .raw (z.cells[i % sz]!)) fun id h' => K (.own id 0 n.toNat sz) h'
      | none => False
    | _ => False
  | _, _ => False

/-- The entries of a slice (a struct, an array) that is written out. -/
def fillL (place : Nat → Option (Nat × Nat)) : List (Nat × AV) → List AV → (List AV → Prop) → Prop
  | [], l, K => K l
  | (i, v) :: r, l, K => match place i with
    | none => False
    | some (off, sz) => match v with
      | .agg n f => sure (n = sz) <| tabK n f fun m => sure (off + n ≤ l.length) <| fillL place r (l.take off ++ m ++ l.drop (off + n)) K
      | .aggI k xs => sz = xs.length ∧ sure (off + sz ≤ l.length) (fillL place r (l.take off ++ (List.range sz).map (fun i => int k (xs.getD i 0)) ++ l.drop (off + sz)) K)
      | v => match cell1 v with
        | true => sure (sz = 1) <| sure (off < l.length) <| setK l off v fun l' => fillL place r l' K
        | false => False
def partsK (t : List AV) : List (Nat × Operand) → (List (Nat × AV) → Prop) → Prop
  | [], K => K []
  | (i, x) :: r, K => evK t x fun a => partsK t r fun l => K ((i, a) :: l)
def buildSliceK (P : Program) (T : TypeId) (h : List AO) (len : Nat) (parts : List (Nat × AV)) (K : AV → List AO → Prop) : Prop :=
  match P.underlying T with
  | some (.slice e) => sizeK P e fun sz => sure (0 < sz) <| sure (len * sz ≤ 16777216) <| zeroK P e fun z =>
      sure (z.cells.size = sz) <| fillL (fun i => some (i * sz, sz)) parts ((List.range (len * sz)).map fun i => .raw (z.cells[i % sz]!)) fun l =>
        match intB P e with
        | some k => sure (sz = 1) <| explicitInts k l fun xs => addO h (.ints k xs) fun id h' => K (.own id 0 len 1) h'
        | none => addO h (.lst l) fun id h' => K (.own id 0 len sz) h'
  | _ => False
/-- A struct or an array that is written out. -/
def fieldPlace? (P : Program) (fs : List Field) (i : Nat) : Option (Nat × Nat) :=
  match fs[i]? with
  | some f => match P.info? f.type with
    | some i => some (f.offset, i.size)
    | none => none
  | none => none
def allSized (P : Program) : List Field → Bool
  | [] => true
  | f :: r => match P.info? f.type with
    | some _ => allSized P r
    | none => false
def buildK (P : Program) (T : TypeId) (parts : List (Nat × AV)) (K : AV → Prop) : Prop :=
  zeroK P T fun z => match P.underlying T with
    | some (.array _ e) => sizeK P e fun sz => fillL (fun i => some (i * sz, sz)) parts (z.cells.toList.map .raw) fun l =>
        match intB P e with
        | some k => explicitInts k l fun xs => K (.aggI k xs)
        | none => K (.agg l.length fun i => l.getD i .top)
    | some (.struct fs) => sure (allSized P fs.toList = true) <| fillL (fieldPlace? P fs.toList) parts (z.cells.toList.map .raw) fun l => K (.agg l.length fun i => l.getD i .top)
    | _ => False

/-- A value that leads to no block of the call's own. -/
def AV.free : AV → Prop
  | .own _ _ _ _ | .ptr _ _ | .mp _ => False
  | .agg n f | .tup n f | .clo _ n f => ∀ i, i < n → (f i).free
  | _ => True
/-- A value that leads to nothing that is only read. -/
def AV.flat : AV → Prop
  | .rp _ _ | .ro _ _ _ | .roI _ _ => False
  | .agg n f | .tup n f | .clo _ n f => ∀ i, i < n → (f i).flat
  | _ => True
def AO.flat : AO → Prop
  | .row n f => ∀ i, i < n → (f i).flat
  | .lst l => ∀ i, i < l.length → (l.getD i .top).flat
  | .map n key val => ∀ i, i < n → (key i).flat ∧ (val i).flat
  | _ => True
def givesK (gv : AV → (AV → Prop) → Prop) : List AV → (List AV → Prop) → Prop
  | [], K => K []
  | a :: l, K => gv a fun x => givesK gv l fun r => K (x :: r)
/-- What stands in a function value, as the callee gets it. -/
def lowC (pass : List Nat) : Nat → AV → (AV → Prop) → Prop
  | 0, _, _ => False
  | n + 1, a, K => match a with
    | .own id off len sz => match pass.idxOf? id with
      | some p => K (.own p off len sz)
      | none => False
    | .ptr id off => match pass.idxOf? id with
      | some p => K (.ptr p off)
      | none => False
    | .mp id => match pass.idxOf? id with
      | some p => K (.mp p)
      | none => False
    | .clo fn m f => tabK m f fun l => givesK (lowC pass n) l fun r => K (.clo fn m fun i => r.getD i .top)
    | .agg m f => tabK m f fun l => givesK (lowC pass n) l fun r => K (.agg m fun i => r.getD i .top)
    | .tup m f => tabK m f fun l => givesK (lowC pass n) l fun r => K (.tup m fun i => r.getD i .top)
    | a => K a
/-- An argument, as the callee gets it: a row of the call's own that is not handed over is read. -/
def lowK (h : List AO) (pass : List Nat) (a : AV) (K : AV → Prop) : Prop :=
  match a with
  | .own id off len sz => match pass.idxOf? id with
    | some p => K (.own p off len sz)
    | none => getO h id fun o => match o with
      | .ints k xs => sure (sz = 1) <| off + len ≤ xs.length ∧ K (.roI k ((xs.drop off).take len))
      | .row n f => off + len * sz ≤ n ∧ (∀ i, i < len * sz → (f (off + i)).free) ∧ K (.ro len sz fun i => f (off + i))
      | .lst l => off + len * sz ≤ l.length ∧ (∀ i, i < len * sz → (l.getD (off + i) .top).free) ∧ K (.ro len sz fun i => l.getD (off + i) .top)
      | _ => False
  | .ptr id off => match pass.idxOf? id with
    | some p => K (.ptr p off)
    | none => False
  | .mp id => match pass.idxOf? id with
    | some p => K (.mp p)
    | none => False
  | .agg n f => (∀ i, i < n → (f i).free) ∧ K a
  | .tup n f => (∀ i, i < n → (f i).free) ∧ K a
  | .clo fn n f => lowC pass 4 (.clo fn n f) K
  | a => K a
def lowsK (h : List AO) (pass : List Nat) : List AV → (List AV → Prop) → Prop
  | [], K => K []
  | a :: l, K => lowK h pass a fun x => lowsK h pass l fun r => K (x :: r)
/-- Does an argument lead to nothing of the call's own that is not handed over? -/
def noLow1 (pass : List Nat) : AV → Bool
  | .own id _ _ _ => match pass.idxOf? id with
    | some _ => true
    | none => false
  | _ => true
def noLow (pass : List Nat) : List AV → Bool
  | [] => true
  | a :: l => match noLow1 pass a with
    | true => noLow pass l
    | false => false
/-- A block that is handed over, as the callee gets it. -/
def handK (h : List AO) (pass : List Nat) (o : AO) (K : AO → Prop) : Prop :=
  match o with
  | .dead => False
  | .ints k xs => K (.ints k xs)
  | .row n f => (∀ i, i < n → (f i).free) ∧ K (.row n f)
  | .lst l => match noLow pass l with
    | true => lowsK h pass l fun m => K (.lst m)
    | false => False
  | .map n key val => (∀ i, i < n → (key i).free ∧ (val i).free) ∧ K (.map n key val)
def objsK (h : List AO) (pass : List Nat) : List Nat → (List AO → Prop) → Prop
  | [], K => K []
  | i :: l, K => getO h i fun o => handK h pass o fun p => objsK h pass l fun r => K (p :: r)
def nodupB : List Nat → Bool
  | [] => true
  | i :: l => match l.idxOf? i with
    | none => nodupB l
    | some _ => false
/-- Places, renamed by a list. -/
abbrev rn (l : List Nat) (i : Nat) : Nat := l.getD i 0
def getN : List Nat → Nat → (Nat → Prop) → Prop
  | [], _, _ => False
  | j :: _, 0, K => K j
  | _ :: l, n + 1, K => getN l n K
def renVK (l : List Nat) (a : AV) (K : AV → Prop) : Prop :=
  match a with
  | .own id off len sz => getN l id fun j => K (.own j off len sz)
  | .ptr id off => getN l id fun j => K (.ptr j off)
  | .agg n f => K (.agg n fun i => (f i).ren (rn l))
  | .tup n f => K (.tup n fun i => (f i).ren (rn l))
  | .clo fn n f => K (.clo fn n fun i => (f i).ren (rn l))
  | .mp id => getN l id fun j => K (.mp j)
  | a => K a
def renOK (l : List Nat) (o : AO) (K : AO → Prop) : Prop :=
  match o with
  | .row n f => K (.row n fun i => (f i).ren (rn l))
  | .lst m => K (.lst (m.map (AV.ren (rn l))))
  | .map n key val => K (.map n (fun i => (key i).ren (rn l)) fun i => (val i).ren (rn l))
  | .ints k xs => K (.ints k xs)
  | .dead => K .dead
def renOsK (l : List Nat) : List AO → (List AO → Prop) → Prop
  | [], K => K []
  | o :: r, K => renOK l o fun x => renOsK l r fun y => K (x :: y)
def appK : List AO → List AO → (List AO → Prop) → Prop
  | [], r, K => K r
  | o :: l, r, K => appK l r fun x => K (o :: x)
/-- Blocks handed over come back, the rest are new. -/
def backK : List Nat → List AO → List AO → (List AO → Prop) → Prop
  | [], new, h, K => appK h new K
  | _ :: _, [], _, _ => False
  | i :: l, o :: r, h, K => setO h i o fun h' => backK l r h' K
/-- The numbers of new places: behind those of the list, as many as of the other one. -/
def newsK : List AO → List AO → List Nat → (List Nat → Prop) → Prop
  | [], [], _, K => K []
  | [], _ :: r, n :: l, K => newsK [] r l fun m => K (n :: m)
  | _ :: h, r, _ :: l, K => newsK h r l K
  | _, _, [], _ => False
def dropK : List Nat → List AO → (List AO → Prop) → Prop
  | [], r, K => K r
  | _ :: _, [], _ => False
  | _ :: l, _ :: r, K => dropK l r K

def callB (P : Program) (f : FuncId) (pass : List Nat) (R : AV → List AO → Prop) (args : List AV) (h : List AO) (K : AV → List AO → Prop) : Prop :=
  sure (nodupB pass = true) <| objsK h pass pass fun hp => lowsK h pass args fun as => ACalls P f as hp R ∧
    ∀ r h', R r h' → (noLow pass args = true ∨ r.flat ∧ ∀ o ∈ h', o.flat) ∧
      dropK pass h' fun new => newsK h new lits fun news => renOsK (pass ++ news) h' fun h1 => renVK (pass ++ news) r fun r1 => backK pass h1 h fun h2 => K r1 h2

/-! Own blocks that are let go: what leads to them is only read from now on. -/
def freeB : Nat → AV → Bool
  | 0, _ => false
  | n + 1, a => match a with
    | .own _ _ _ _ => false
    | .ptr _ _ => false
    | .mp _ => false
    | .clo _ m f => (List.range m).all fun i => freeB n (f i)
    | .agg m f => (List.range m).all fun i => freeB n (f i)
    | .tup m f => (List.range m).all fun i => freeB n (f i)
    | _ => true
def giveV (h : List AO) (g : List Nat) : Nat → AV → (AV → Prop) → Prop
  | 0, a, K => K a
  | n + 1, a, K => match a with
    | .own id off len sz => match g.idxOf? id with
      | none => K (.own id off len sz)
      | some _ => getO h id fun o => match o with
        | .ints k xs => sure (sz = 1) <| off + len ≤ xs.length ∧ K (.roI k ((xs.drop off).take len))
        | .row m f => off + len * sz ≤ m ∧ (∀ i, i < len * sz → (f (off + i)).free) ∧ K (.ro len sz fun i => f (off + i))
        | .lst l => givesK (giveV h g n) l fun m => sure (m.all (freeB 5) = true) <| off + len * sz ≤ m.length ∧ K (.ro len sz fun i => m.getD (off + i) .top)
        | _ => False
    | .ptr id off => match g.idxOf? id with
      | none => K (.ptr id off)
      | some _ => getO h id fun o => match o with
        | .ints k xs => K (.rp (xs.length - off) fun i => int k (xs.getD (off + i) 0))
        | .row m f => (∀ i, i < m - off → (f (off + i)).free) ∧ K (.rp (m - off) fun i => f (off + i))
        | .lst l => givesK (giveV h g n) l fun m => sure (m.all (freeB 5) = true) <| K (.rp (m.length - off) fun i => m.getD (off + i) .top)
        | _ => False
    | .clo fn m f => tabK m f fun l => givesK (giveV h g n) l fun r => K (.clo fn m fun i => r.getD i .top)
    | .agg m f => tabK m f fun l => givesK (giveV h g n) l fun r => K (.agg m fun i => r.getD i .top)
    | a => K a
def killK : List Nat → List AO → (List AO → Prop) → Prop
  | [], h, K => K h
  | i :: l, h, K => setO h i .dead fun h' => killK l h' K
/-- Of the numbers that are named those from 1000 on are let go, the others handed over. -/
def splitG : List Nat → (List Nat → List Nat → Prop) → Prop
  | [], K => K [] []
  | n :: l, K => match Nat.ble 1000 n with
    | true => splitG l fun p g => K p ((n - 1000) :: g)
    | false => splitG l fun p g => K (n :: p) g

def callK (P : Program) (f : FuncId) (args : List AV) (h : List AO) (K : AV → List AO → Prop) : Prop :=
  ∃ (pass : List Nat) (R : AV → List AO → Prop), splitG pass fun ps gs => match gs with
    | [] => callB P f ps R args h K
    | g :: l => givesK (giveV h (g :: l) 5) args fun args' => killK (g :: l) h fun h1 => callB P f ps R args' h1 K

end Go.Proofs.YtmohncaoimeneaaDoor.AL
