/-
  The same walk, by plain recursors: what a proof term's check unfolds is then what the proof has unfolded.
-/
import Derived.Test.YtmohncaoimeneaaDoorAlUse
set_option linter.unusedVariables false
set_option linter.unusedSectionVars false
namespace Go.Proofs.YtmohncaoimeneaaDoor.AL
open Go
variable [Globs]

def aopsR (P : Program) (all : List Oper) (K : List AV → List AO → Prop) (l : List Oper) : List AV → List AO → Prop :=
  List.rec (motive := fun _ => List AV → List AO → Prop) (fun t h => K t h)
    (fun o _ ih t h => aguard all t o (fun t => aeff P t h o fun v h' => putK t o.dst v fun t' => ih t' h') (fun t => ih t h)) l
theorem aopsR_eq (P : Program) (all : List Oper) (K : List AV → List AO → Prop) : ∀ (l : List Oper) (t : List AV) (h : List AO), aopsR P all K l t h = aops P all K l t h
  | [], _, _ => rfl
  | o :: r, t, h => by
    show aguard all t o (fun t => aeff P t h o fun v h' => putK t o.dst v fun t' => aopsR P all K r t' h') (fun t => aopsR P all K r t h) = aops P all K (o :: r) t h
    rw [aops]
    have e : aopsR P all K r = aops P all K r := funext fun t => funext fun h => aopsR_eq P all K r t h
    rw [e]
def aqopsR (P : Program) (all : List Oper) (K : List AV → Prop) (l : List Oper) : List AV → List AO → Prop :=
  List.rec (motive := fun _ => List AV → List AO → Prop) (fun t _ => K t)
    (fun o _ ih t h => aguard all t o (fun t => aquiet P t h o fun v => putK t o.dst v fun t' => ih t' h) (fun t => ih t h)) l
theorem aqopsR_eq (P : Program) (all : List Oper) (K : List AV → Prop) : ∀ (l : List Oper) (t : List AV) (h : List AO), aqopsR P all K l t h = aqops P all K l t h
  | [], _, _ => rfl
  | o :: r, t, h => by
    show aguard all t o (fun t => aquiet P t h o fun v => putK t o.dst v fun t' => aqopsR P all K r t' h) (fun t => aqopsR P all K r t h) = aqops P all K (o :: r) t h
    rw [aqops]
    have e : aqopsR P all K r = aqops P all K r := funext fun t => funext fun h => aqopsR_eq P all K r t h
    rw [e]

def aq1sR (P : Program) (all : List Oper) (h : List AO) (Q : List AV → Prop) (l : List Oper) : List AV → Prop :=
  List.rec (motive := fun _ => List AV → Prop) (fun t => Q t) (fun o _ ih t => ∃ x, gdK all t o (aq1 P t h o (fun y => y = x)) (x = .raw undef) ∧ putK t o.dst x fun t' => ih t') l
theorem aq1sR_eq (P : Program) (all : List Oper) (h : List AO) (Q : List AV → Prop) : ∀ (l : List Oper) (t : List AV), aq1sR P all h Q l t = aq1s P all h Q l t
  | [], _ => rfl
  | o :: r, t => by
    show (∃ x, gdK all t o (aq1 P t h o (fun y => y = x)) (x = .raw undef) ∧ putK t o.dst x fun t' => aq1sR P all h Q r t') = aq1s P all h Q (o :: r) t
    rw [aq1s]
    have e : aq1sR P all h Q r = aq1s P all h Q r := funext fun t => aq1sR_eq P all h Q r t
    rw [e]

def awpR (P : Program) (np : Nat) (sc : Code → (Exit → List AV → List AO → Prop) → List AV → List AO → Prop) (c : Code) : (Exit → List AV → List AO → Prop) → List AV → List AO → Prop :=
  Code.rec (motive := fun _ => (Exit → List AV → List AO → Prop) → List AV → List AO → Prop)
    (skip := fun Q t h => Q .normal t h)
    (region := fun _ ops draw Q t h => match draw with
      | false => aopsR P ops.toList (Q .normal) ops.toList t h
      | true => ((P.follows .mixedOrders = true ∧ Region.lexB .any ops = true) ∧ aqopsR P ops.toList (fun t => Q .normal t h) ops.toList t h) ∨
          ∃ n : Nat, drawB P ops n = true ∧ aq1sR P ops.toList h (fun t => aopsR P ops.toList (Q .normal) (ops.toList.drop n) t h) (ops.toList.take n) t)
    (seq := fun _ _ ia ib Q t h => ia (fun e t h => match e with
      | .normal => ib Q t h
      | e => Q e t h) t h)
    (cond := fun c _ _ ix iy Q t h => evK t c fun v => match v with
      | .tt => ix Q t h
      | .ff => iy Q t h
      | .raw (.bool b) => (b = true → ix Q t h) ∧ (b = false → iy Q t h)
      | _ => False)
    (block := fun id _ ic Q t h => ic (fun e t h => match e with
      | .exit id' => match decide (id' = id) with
        | true => Q .normal t h
        | false => Q (.exit id') t h
      | e => Q e t h) t h)
    (loop := fun _ ic Q t h => ∃ (X : Type) (sl : X → List (Nat × AV)) (hp : X → List AO) (inv : X → Prop) (μ : X → Nat),
      (∃ x l, inv x ∧ LeH np h l (hp x) ∧ LeT h l t (sl x)) ∧
      ∀ x, inv x → topsK t fun t0 => mkK t0 (sl x) fun t1 => ic (fun e t' h' => match e with
        | .normal => lenEq t t' ∧ ∃ y l, inv y ∧ μ y < μ x ∧ LeH np h' l (hp y) ∧ LeT h' l t' (sl y)
        | e => Q e t' h') t1 (hp x))
    (rangeFunc := fun _ _ _ _ _ _ _ _ _ => False)
    (exit := fun id Q t h => Q (.exit id) t h)
    (scope := fun c _ Q t h => sc c Q t h)
    (label := fun _ Q t h => Q .normal t h)
    (goto := fun l Q t h => Q (.goto l) t h)
    (ret := fun Q t h => Q .ret t h)
    (refuse := fun _ _ _ _ => False) c

theorem awpR_eq (P : Program) (np : Nat) (sc : Code → (Exit → List AV → List AO → Prop) → List AV → List AO → Prop) (c : Code) : awpR P np sc c = awpS P np sc c := by
  induction c with
  | skip => rfl
  | label => rfl
  | ret => rfl
  | exit => rfl
  | scope => rfl
  | goto => rfl
  | refuse => rfl
  | rangeFunc => rfl
  | region id ops draw =>
    funext Q t h
    cases draw
    · exact aopsR_eq ..
    · show ((_ ∧ aqopsR _ _ _ _ _ _) ∨ ∃ n : Nat, drawB P ops n = true ∧ aq1sR P ops.toList h (fun t => aopsR P ops.toList (Q .normal) (ops.toList.drop n) t h) (ops.toList.take n) t) = awpS P np sc (.region id ops true) Q t h
      simp only [aqopsR_eq, aopsR_eq, aq1sR_eq]
      rw [awpS]
  | seq a b ia ib =>
    funext Q t h
    show awpR P np sc a (fun e t h => match e with
      | .normal => awpR P np sc b Q t h
      | e => Q e t h) t h = _
    rw [ia, ib, awpS]
    rfl
  | cond c x y ix iy =>
    funext Q t h
    show (evK t c fun v => match v with
      | .tt => awpR P np sc x Q t h
      | .ff => awpR P np sc y Q t h
      | .raw (.bool b) => (b = true → awpR P np sc x Q t h) ∧ (b = false → awpR P np sc y Q t h)
      | _ => False) = _
    rw [ix, iy, awpS]
    rfl
  | block id c ic =>
    funext Q t h
    show awpR P np sc c (fun e t h => match e with
      | .exit id' => match decide (id' = id) with
        | true => Q .normal t h
        | false => Q (.exit id') t h
      | e => Q e t h) t h = _
    rw [ic, awpS]
    rfl
  | loop c ic =>
    funext Q t h
    show (∃ (X : Type) (sl : X → List (Nat × AV)) (hp : X → List AO) (inv : X → Prop) (μ : X → Nat),
      (∃ x l, inv x ∧ LeH np h l (hp x) ∧ LeT h l t (sl x)) ∧
      ∀ x, inv x → topsK t fun t0 => mkK t0 (sl x) fun t1 => awpR P np sc c (fun e t' h' => match e with
        | .normal => lenEq t t' ∧ ∃ y l, inv y ∧ μ y < μ x ∧ LeH np h' l (hp y) ∧ LeT h' l t' (sl y)
        | e => Q e t' h') t1 (hp x)) = _
    rw [ic, awpS]
    rfl

def awpAtR (P : Program) (np : Nat) (l : Nat) (c : Code) : (Exit → List AV → List AO → Prop) → List AV → List AO → Prop :=
  Code.rec (motive := fun _ => (Exit → List AV → List AO → Prop) → List AV → List AO → Prop)
    (skip := fun _ _ _ => False)
    (region := fun _ _ _ _ _ _ => False)
    (seq := fun a b ia ib Q t h => match (findLabel a l).isSome with
      | true => ia (fun e t h => match e with
        | .normal => awpR P np noScope b Q t h
        | e => Q e t h) t h
      | false => ib Q t h)
    (cond := fun _ _ _ _ _ _ _ _ => False)
    (block := fun _ _ _ _ _ _ => False)
    (loop := fun _ _ _ _ _ => False)
    (rangeFunc := fun _ _ _ _ _ _ _ _ _ => False)
    (exit := fun _ _ _ _ => False)
    (scope := fun _ _ _ _ _ => False)
    (label := fun l' Q t h => match l' == l with
      | true => Q .normal t h
      | false => False)
    (goto := fun _ _ _ _ => False)
    (ret := fun _ _ _ => False)
    (refuse := fun _ _ _ _ => False) c

theorem awpAtR_eq (P : Program) (np : Nat) (l : Nat) (c : Code) : awpAtR P np l c = awpAt P np l c := by
  induction c with
  | seq a b ia ib =>
    funext Q t h
    show (match (findLabel a l).isSome with
      | true => awpAtR P np l a (fun e t h => match e with
        | .normal => awpR P np noScope b Q t h
        | e => Q e t h) t h
      | false => awpAtR P np l b Q t h) = _
    rw [ia, ib, awpR_eq, awpAt]
    rfl
  | _ => rfl

def scopeR (P : Program) (np : Nat) (c : Code) (Q : Exit → List AV → List AO → Prop) (t : List AV) (h : List AO) : Prop :=
  ∃ (X : Type) (lab : X → Nat) (sl : X → List (Nat × AV)) (hp : X → List AO) (inv : X → Prop) (μ : X → Nat),
    awpR P np noScope c (fun e t' h' => match e with
      | .goto l' => lenEq t t' ∧ ∃ y l, lab y = l' ∧ inv y ∧ LeH np h' l (hp y) ∧ LeT h' l t' (sl y)
      | e => Q e t' h') t h ∧
    ∀ x, inv x → topsK t fun t0 => mkK t0 (sl x) fun t1 => awpAtR P np (lab x) c (fun e t' h' => match e with
      | .goto l' => lenEq t t' ∧ ∃ y l, lab y = l' ∧ inv y ∧ μ y < μ x ∧ LeH np h' l (hp y) ∧ LeT h' l t' (sl y)
      | e => Q e t' h') t1 (hp x)
theorem scopeR_eq (P : Program) (np : Nat) : scopeR P np = scopeK P np := by
  funext c Q t h
  unfold scopeR scopeK
  simp only [awpR_eq, awpAtR_eq]
  rfl

/-- THE CONTRACT of a function, out of its body. -/
theorem rcalls {P : Program} {f : FuncId} {fn : Func} {c : Code} {args : List AV} {h : List AO} {R : AV → List AO → Prop} (hf : P.funcs[f]? = some fn) (hb : fn.body = some c) (hnm : (fn.name == "runtime.NumGoroutine") = false)
    (hk : frameK fn.ntmps args fun t => awpR P h.length (scopeR P h.length) c (retK P h.length fn.results.toList R) t h) : ACalls P f args h R := by
  rw [awpR_eq, scopeR_eq] at hk
  exact acalls hf hb hnm hk

end Go.Proofs.YtmohncaoimeneaaDoor.AL
