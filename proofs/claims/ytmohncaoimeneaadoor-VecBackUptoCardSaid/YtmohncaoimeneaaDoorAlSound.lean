/-
  The state's own logic is sound. No program in sight.
-/
import Derived.Test.YtmohncaoimeneaaDoorAlLe
import Derived.Tactics
set_option linter.unusedVariables false
set_option linter.unusedSimpArgs false
set_option linter.unusedSectionVars false
namespace Go.Proofs.YtmohncaoimeneaaDoor.AL
open Go
variable [Globs]

section
variable {P : Program} {C : Ctx} {t : List AV} {h : List AO} {L : Loc} {a : Act} {w : World}

/-- What an operation of a region gives. -/
def EffN (P : Program) (C : Ctx) (h : List AO) (L : Loc) (w : World) (s : Sem Next) (K : AV → List AO → Prop) : Prop :=
  (∃ v x h' L' w', (s.run P w = .ok (.value v) w' ∨ s.run P w = .ok .skip w' ∧ v = undef) ∧ Step C h L w h' L' w' ∧ den w' (SS C w' h' L') L' x v ∧ K x h') ∨
  (∃ f vs, s.run P w = .ok (.enter f vs) w ∧ Calls P f vs w fun e w' => ∃ v x h' L', e = .returned v ∧ Step C h L w h' L' w' ∧ den w' (SS C w' h' L') L' x v ∧ K x h')

theorem EffV.next {s : Sem Value} {K : AV → List AO → Prop} (he : EffV P C h L w s K) : EffN P C h L w (do pure (.value (← s))) K := by
  obtain ⟨v, x, h', L', w', h1, h2, h3, h4⟩ := he
  exact .inl ⟨v, x, h', L', w', .inl (by simp [h1]), h2, h3, h4⟩
theorem EffU.next {s : Sem Unit} {K : AV → List AO → Prop} (he : EffU P C h L w s (fun h' => K .top h')) : EffN P C h L w (do s; pure .skip) K := by
  obtain ⟨h', L', w', h1, h2, h3⟩ := he
  exact .inl ⟨_, .top, h', L', w', .inr ⟨by simp [h1], rfl⟩, h2, trivial, h3⟩
theorem GivesN.eff {s : Sem Next} {K : AV → List AO → Prop} (hr : HRel C h L w) (hg : GivesN P w (den w (SS C w h L) L) s (fun x => K x h)) : EffN P C h L w s K := by
  obtain ⟨v, x, h1, h2, h3⟩ := hg
  exact .inl ⟨v, x, h, L, w, .inl (h1 w (Ext.refl w)), .refl hr, h2, h3⟩

theorem run_callFunc {f : FuncId} (he : Entered P f) (args : Array Value) (w : World) : (callFunc f args).run P w = .ok (.enter f args) w := by
  obtain ⟨fn, h1, h2, h3⟩ := he
  have h2' : ¬ (fn.name = "runtime.NumGoroutine") := by simpa using h2
  unfold callFunc
  have h3' : ¬ fn.body = none := by intro e; rw [e] at h3; cases h3
  simp [h1, h2', h3']

theorem list_vals {xs : List Operand} {vs : List AV} {S : Nat → Prop} (hl : vs.length = xs.length) (hv : ∀ (i : Nat) (v : AV), vs[i]? = some v → ∃ x, xs[i]? = some x ∧ den w S L v (a.eval x)) :
    ∀ (i : Nat) (v : AV), vs[i]? = some v → ∃ u, (xs.map a.eval).toArray[i]? = some u ∧ den w S L v u := fun i v hi => by
  obtain ⟨x, h1, h2⟩ := hv i v hi
  exact ⟨a.eval x, by simp [h1], h2⟩

theorem aeff_spec (hr : Rel C t h L a w) {o : Oper} {K : AV → List AO → Prop} (hk : aeff P t h o K) : EffN P C h L w (execOp a.eval o) K := by
  have pureCase : ∀ {op : Op}, o.op = op → apure P t h op (fun x => K x h) → EffN P C h L w (execOp a.eval o) K := fun ho hp => (apure_spec hr ho hp).eff hr.heap
  unfold aeff at hk
  split at hk
  case h_1 E ho =>
    have e : execOp a.eval o = (do pure (.value (← Instr.alloc E true (.tuple #[])))) := by unfold execOp; rw [ho]
    rw [e]
    exact (alloc_spec hr.heap hk).next
  case h_2 E x ho =>
    have e : execOp a.eval o = (do pure (.value (← Instr.box E (a.eval x)))) := by unfold execOp; rw [ho]
    rw [e]
    obtain ⟨v, h1, h2⟩ := evK_spec hr hk
    exact (newVarK_spec hr.heap h1 h2).next
  case h_3 T parts ho =>
    have e : execOp a.eval o = (do pure (.value (← Instr.build T (parts.map fun (i, x) => (i, a.eval x))))) := by unfold execOp; rw [ho]
    rw [e]
    obtain ⟨vs, h1, h2⟩ := partsK_spec hr hk
    refine (Gives.eff (K := K) hr.heap (buildK_spec (ps := parts.map fun (i, x) => (i, a.eval x)) ?_ h2)).next
    simpa using h1
  case h_4 T len parts ho =>
    have e : execOp a.eval o = (do pure (.value (← Instr.buildSlice T len (parts.map fun (i, x) => (i, a.eval x))))) := by unfold execOp; rw [ho]
    rw [e]
    obtain ⟨vs, h1, h2⟩ := partsK_spec hr hk
    have h1' : denP w (SS C w h L) L vs (parts.map fun (i, x) => (i, a.eval x)).toList := by simpa using h1
    have h3 : EffV P C h L w (Instr.buildSlice T len (parts.map fun (i, x) => (i, a.eval x))) K := buildSliceK_spec hr.heap h1' h2
    exact h3.next
  case h_5 T x y ho =>
    have e : execOp a.eval o = (do Instr.storeAt T (a.eval x) (a.eval y); pure .skip) := by unfold execOp; rw [ho]
    rw [e]
    obtain ⟨v, h1, h2⟩ := evK_spec hr hk
    obtain ⟨u, h3, h4⟩ := evK_spec hr h2
    exact (storeK_spec hr.heap h1 h3 h4).next
  case h_6 T l c ho =>
    have e : execOp a.eval o = (do pure (.value (← Instr.makeSlice T (a.eval l) (a.eval c)))) := by unfold execOp; rw [ho]
    rw [e]
    obtain ⟨v, h1, h2⟩ := evK_spec hr hk
    obtain ⟨u, h3, h4⟩ := evK_spec hr h2
    exact (makeK_spec hr.heap h1 h3 h4).next
  case h_7 src dst x ho =>
    have e : execOp a.eval o = (do pure (.value (← convert src dst (a.eval x)))) := by unfold execOp; rw [ho]
    rw [e]
    obtain ⟨v, h1, h2⟩ := evK_spec hr hk
    split at h2
    · rename_i e s hd
      split at h2
      · rename_i he
        split at h2
        · rename_i d hs
          have h1' : a.eval x = .string s := h1
          rw [h1']
          exact (stringToBytes_spec hr.heap hs hd (intB_spec he) h2).next
        · exact h2.elim
      · exact h2.elim
    · exact (Gives.eff (K := K) hr.heap (convK_spec hr.heap h1 h2)).next
  case h_8 fn first captured ho =>
    have e : execOp a.eval o = (do pure (.value (← Instr.makeFunc fn (first.map a.eval) (captured.map a.eval)))) := by unfold execOp; rw [ho]
    rw [e]
    split at hk
    · rename_i hf
      obtain ⟨vs, h1, h2, h3⟩ := evsK_spec hr hk
      have hfirst : first = #[] := by cases first; simp at hf; subst hf; rfl
      subst hfirst
      refine (Gives.eff (K := K) hr.heap (Gives.of h3 ⟨(captured.map a.eval), rfl, by simpa using h1.symm, fun i hi => ?_⟩ fun w' _ => by simp [Instr.makeFunc])).next
      obtain ⟨x, h4, h5⟩ := h2 i vs[i] (by simp [hi])
      have h4' : captured[i]? = some x := by simpa using h4
      exact ⟨a.eval x, by simp [h4'], by simpa [List.getD_eq_getElem?_getD, hi] using h5⟩
    · exact hk.elim
  case h_9 c ho =>
    have hex : execOp a.eval o = (do let d ← resolve a.eval c o.type; invoke d.target d.args) := by unfold execOp; rw [ho]
    obtain ⟨callee, args, types⟩ := c
    dsimp only at hk
    -- a builtin of two operands, of one
    have two : ∀ {b : Builtin} {s : Array TypeId → TypeId → Array Value → Sem Value} {vs : List AV} {x y : AV} {T T2 : TypeId}, callee = .builtin b → (∀ A t k vs, builtin b A t k vs = (do pure (.value (← s A t vs)))) → vs = [x, y] → vs.length = args.toList.length →
        (∀ (i : Nat) (v : AV), vs[i]? = some v → ∃ x, args.toList[i]? = some x ∧ den w (SS C w h L) L v (a.eval x)) → types.toList = [T, T2] →
        (∀ u v, den w (SS C w h L) L x u → den w (SS C w h L) L y v → EffV P C h L w (s #[T, T2] o.type #[u, v]) K) → EffN P C h L w (execOp a.eval o) K := by
      intro b s vs x y T T2 hc hb hvs hl hd ht hgo
      subst hc
      obtain ⟨p, q, rfl⟩ := arr_two hl hvs
      subst hvs
      have ht' : types = #[T, T2] := by cases types; simp at ht; subst ht; rfl
      subst ht'
      obtain ⟨x', g1, g2⟩ := hd 0 x rfl
      obtain ⟨y', g3, g4⟩ := hd 1 y rfl
      simp at g1 g3
      subst g1 g3
      have := (hgo _ _ g2 g4).next
      rw [hex]
      simpa [resolve, invoke, hb] using this
    have pures : ∀ {b : Builtin} {s : Array TypeId → TypeId → Array Value → Sem Value} {vs : List AV}, callee = .builtin b → (∀ A t k vs, builtin b A t k vs = (do pure (.value (← s A t vs)))) →
        (∀ (i : Nat) (v : AV), vs[i]? = some v → ∃ x, args.toList[i]? = some x ∧ den w (SS C w h L) L v (a.eval x)) → Gives P w (den w (SS C w h L) L) (s types o.type (args.map a.eval)) (fun x => K x h) → EffN P C h L w (execOp a.eval o) K := by
      intro b s vs hc hb hd hgo
      subst hc
      have := (Gives.eff (K := K) hr.heap hgo).next
      rw [hex]
      simpa [resolve, invoke, hb] using this
    split at hk
    · -- append
      obtain ⟨vs, h1, h2, h3⟩ := evsK_spec hr hk
      split at h3
      · rename_i s x T T2 e1
        exact two (s := Builtin.append_) rfl (fun _ _ _ _ => rfl) rfl h1 h2 e1 fun u v hu hv => appendK_spec hr.heap hu hv h3
      · exact h3.elim
    · -- copy
      obtain ⟨vs, h1, h2, h3⟩ := evsK_spec hr hk
      split at h3
      · rename_i s x T T2 e1
        exact two (s := Builtin.copy_) rfl (fun _ _ _ _ => rfl) rfl h1 h2 e1 fun u v hu hv => copyK_spec hr.heap hu hv h3
      · exact h3.elim
    · -- len
      obtain ⟨vs, h1, h2, h3⟩ := evsK_spec hr hk
      split at h3
      · rename_i x T e1
        obtain ⟨p, rfl⟩ := arr_one h1 rfl
        have ht' : types = #[T] := by cases types; simp at e1; subst e1; rfl
        subst ht'
        refine pures (s := Builtin.len_) rfl (fun _ _ _ _ => rfl) h2 ?_
        obtain ⟨x', g1, g2⟩ := h2 0 x rfl
        simp at g1
        subst g1
        simpa using lenOfK_spec (ty := o.type) g2 h3
      · exact h3.elim
    · -- max
      obtain ⟨vs, h1, h2, h3⟩ := evsK_spec hr hk
      split at h3
      · rename_i k x k' y
        obtain ⟨rfl, h4⟩ := sameKind_iff.1 h3
        obtain ⟨p, q, rfl⟩ := arr_two h1 rfl
        refine pures (s := Builtin.max_) rfl (fun _ _ _ _ => rfl) h2 ?_
        obtain ⟨x', g1, g2⟩ := h2 0 _ rfl
        obtain ⟨y', g3, g4⟩ := h2 1 _ rfl
        simp at g1 g3
        subst g1 g3
        have g2' : a.eval p = .int k' x := g2
        have g4' : a.eval q = .int k' y := g4
        refine Gives.run h4 fun w' => ?_
        have : (if x < y then y else x) = max x y := by rw [Int.max_def]; split <;> split <;> omega
        simp [Builtin.max_, Builtin.max2, g2', g4', this]
      · exact h3.elim
    · -- min
      obtain ⟨vs, h1, h2, h3⟩ := evsK_spec hr hk
      split at h3
      · rename_i k x k' y
        obtain ⟨rfl, h4⟩ := sameKind_iff.1 h3
        obtain ⟨p, q, rfl⟩ := arr_two h1 rfl
        refine pures (s := Builtin.min_) rfl (fun _ _ _ _ => rfl) h2 ?_
        obtain ⟨x', g1, g2⟩ := h2 0 _ rfl
        obtain ⟨y', g3, g4⟩ := h2 1 _ rfl
        simp at g1 g3
        subst g1 g3
        have g2' : a.eval p = .int k' x := g2
        have g4' : a.eval q = .int k' y := g4
        refine Gives.run h4 fun w' => ?_
        have : (if y < x then y else x) = min x y := by rw [Int.min_def]; split <;> split <;> omega
        simp [Builtin.min_, Builtin.min2, g2', g4', this]
      · exact h3.elim
    · -- a call
      rename_i x
      obtain ⟨f, h1, h2⟩ := evK_spec hr hk
      obtain ⟨vs, h3, h4, h5⟩ := evsK_spec hr h2
      have hvs := list_vals (a := a) h3 h4
      have hargs : (args.toList.map a.eval).toArray = args.map a.eval := by
        apply Array.ext'; simp
      split at h5
      · rename_i f
        have hx : a.eval x = .func (.func f) #[] #[] := h1
        obtain ⟨hent, hcall⟩ := callK_spec hr.heap (vs := args.map a.eval) (by simpa using h3.symm) (by rw [← hargs]; exact hvs) h5
        refine .inr ⟨f, args.map a.eval, ?_, hcall⟩
        rw [hex]
        simp [resolve, Deferred.ofValue, hx, invoke, run_callFunc hent]
      · rename_i f n g
        obtain ⟨cs, hx, hcn, hcs⟩ := h1
        have h6 : callK P f (vs ++ (List.range n).map g) h K := h5
        obtain ⟨hent, hcall⟩ := callK_spec hr.heap (vs := args.map a.eval ++ cs) (by simp [hcn, h3]) (fun i y hi => by
          rcases Nat.lt_or_ge i vs.length with hlt | hge
          · rw [List.getElem?_append_left hlt] at hi
            obtain ⟨u, g1, g2⟩ := hvs i y hi
            rw [hargs] at g1
            have hsz : (args.map a.eval).size = vs.length := by simpa using h3.symm
            exact ⟨u, by rw [Array.getElem?_append_left (by omega)]; exact g1, g2⟩
          · rw [List.getElem?_append_right hge] at hi
            have hlt : i - vs.length < n := by
              have := (List.getElem?_eq_some_iff.1 hi).1
              simpa using this
            rw [List.getElem?_map, List.getElem?_range hlt] at hi
            simp at hi
            subst hi
            obtain ⟨u, g1, g2⟩ := hcs _ hlt
            have hsz : (args.map a.eval).size = vs.length := by simpa using h3.symm
            exact ⟨u, by rw [Array.getElem?_append_right (by omega), hsz]; exact g1, g2⟩) h6
        refine .inr ⟨f, args.map a.eval ++ cs, ?_, hcall⟩
        rw [hex]
        simp [resolve, Deferred.ofValue, hx, invoke, run_callFunc hent]
      · exact h5.elim
    · exact pureCase rfl hk
    · exact pureCase rfl hk
    · exact pureCase rfl hk
    · exact hk.elim
  case h_10 => exact pureCase rfl hk

theorem aguard_spec (hr : Rel C t h L a w) {ops : Array Oper} {o : Oper} {run skip : List AV → Prop} (hk : aguard ops.toList t o run skip) :
    (Region.wanted o (yielded ops a.tmps) = true ∧ ∃ t', Rel C t' h L a w ∧ run t') ∨ (Region.wanted o (yielded ops a.tmps) = false ∧ ∃ t', Rel C t' h L (a.put o.dst undef) w ∧ skip t') := by
  unfold aguard at hk
  split at hk
  · rename_i hg
    exact .inl ⟨by simp [Region.wanted, hg], t, hr, hk⟩
  · rename_i j want hg
    split at hk
    · rename_i oj hj
      have hj' : ops[j]? = some oj := by simpa using hj
      split at hk
      · rename_i d hd
        have hk := getK_iff.1 hk
        have hden := hr.get d
        -- what the slot holds, if it is known
        have yes : ∀ {b : Bool} {x : AV}, t.getD d .top = x → (x = .tt ∧ b = true ∨ x = .ff ∧ b = false ∨ x = .raw (.bool b)) → a.tmps[d]? = some (.bool b) ∧ d < t.length := by
          intro b x hx hb
          have hlt : d < t.length := by
            rcases Nat.lt_or_ge d t.length with h' | h'
            · exact h'
            · rw [List.getD_eq_getElem?_getD, List.getElem?_eq_none (by simpa using h')] at hx
              simp at hx
              subst hx
              rcases hb with ⟨h1, _⟩ | ⟨h1, _⟩ | h1 <;> cases h1
          obtain ⟨u, h1, h2⟩ := hr.tmps d x (by rw [← hx, List.getD_eq_getElem?_getD, List.getElem?_eq_getElem hlt]; rfl)
          refine ⟨?_, hlt⟩
          rw [h1]
          rcases hb with ⟨rfl, rfl⟩ | ⟨rfl, rfl⟩ | rfl
          · exact congrArg some h2
          · exact congrArg some h2
          · exact congrArg some h2
        have hy : ∀ {b : Bool}, a.tmps[d]? = some (.bool b) → yielded ops a.tmps j = some b := fun hb => by
          simp [yielded, hj', hd, hb]
        have want? : ∀ {b : Bool}, a.tmps[d]? = some (.bool b) → Region.wanted o (yielded ops a.tmps) = (b == want) := fun {b} hb => by
          simp only [Region.wanted, hg, hy hb]
          cases b <;> cases want <;> rfl
        -- the slot, known better
        have better : ∀ {b : Bool} {x : AV}, a.tmps[d]? = some (.bool b) → d < t.length → (x = .tt ∧ b = true ∨ x = .ff ∧ b = false) → Rel C (t.set d x) h L a w := by
          intro b x hb hlt hx
          refine ⟨hr.heap, by simp [hr.size], fun i y hi => ?_, hr.defers⟩
          by_cases e : d = i
          · subst e
            rw [List.getElem?_set_self (by simpa using hlt)] at hi
            cases hi
            rcases hx with ⟨rfl, rfl⟩ | ⟨rfl, rfl⟩
            · exact ⟨_, hb, rfl⟩
            · exact ⟨_, hb, rfl⟩
          · rw [List.getElem?_set_ne e] at hi
            exact hr.tmps i y hi
        have skipAt : ∀ {t1 : List AV}, Rel C t1 h L a w → putK t1 o.dst (.raw undef) skip → ∃ t', Rel C t' h L (a.put o.dst undef) w ∧ skip t' := fun hr1 hs => hr1.put (x := .raw undef) rfl hs
        generalize hx : t.getD d .top = x at hk
        split at hk
        · have := yes hx (b := true) (.inl ⟨rfl, rfl⟩)
          exact .inl ⟨by rw [want? this.1]; rfl, t, hr, hk⟩
        · have := yes hx (b := false) (.inr (.inl ⟨rfl, rfl⟩))
          exact .inl ⟨by rw [want? this.1]; rfl, t, hr, hk⟩
        · have := yes hx (b := true) (.inl ⟨rfl, rfl⟩)
          exact .inr ⟨by rw [want? this.1]; rfl, skipAt hr hk⟩
        · have := yes hx (b := false) (.inr (.inl ⟨rfl, rfl⟩))
          exact .inr ⟨by rw [want? this.1]; rfl, skipAt hr hk⟩
        · rename_i b hg0
          have := yes hx (b := b) (.inr (.inr rfl))
          cases b with
          | true => exact .inl ⟨by rw [want? this.1]; rfl, _, better this.1 this.2 (.inl ⟨rfl, rfl⟩), setK_iff.1 (hk.1 rfl)⟩
          | false => exact .inr ⟨by rw [want? this.1]; rfl, skipAt (better this.1 this.2 (.inr ⟨rfl, rfl⟩)) (setK_iff.1 (hk.2 rfl))⟩
        · rename_i b hg0
          have := yes hx (b := b) (.inr (.inr rfl))
          cases b with
          | false => exact .inl ⟨by rw [want? this.1]; rfl, _, better this.1 this.2 (.inr ⟨rfl, rfl⟩), setK_iff.1 (hk.2 rfl)⟩
          | true => exact .inr ⟨by rw [want? this.1]; rfl, skipAt (better this.1 this.2 (.inl ⟨rfl, rfl⟩)) (setK_iff.1 (hk.1 rfl))⟩
        · refine .inr ⟨?_, skipAt hr hk⟩
          have hnone : yielded ops a.tmps j = none := by
            rw [hx] at hden
            obtain ⟨vs, hden'⟩ : ∃ vs, a.tmps.getD d undef = .tuple vs := ⟨_, hden⟩
            simp only [yielded, hj', hd, Option.bind_some]
            cases e : a.tmps[d]? with
            | none => rfl
            | some u =>
              have : u = .tuple vs := by simpa [e] using hden'
              subst this
              rfl
          simp only [Region.wanted, hg, hnone]
          rfl
        · exact hk.elim
      · exact hk.elim
    · exact hk.elim

theorem aops_spec {ops : Array Oper} {K : List AV → List AO → Prop} {Q : Exit → Act → World → Prop}
    (hQ : ∀ t h L a w, Rel C t h L a w → K t h → Q .normal a w) : ∀ {l : List Oper} {t : List AV} {h : List AO} {L : Loc} {a : Act} {w : World}, Rel C t h L a w → aops P ops.toList K l t h → wpList P ops Q l a w
  | [], t, h, L, a, w, hr, hk => hQ _ _ _ _ _ hr hk
  | o :: l, t, h, L, a, w, hr, hk => by
    unfold aops at hk
    unfold wpList
    rcases aguard_spec hr hk with ⟨hw, t', hr', hk'⟩ | ⟨hw, t', hr', hk'⟩
    · rw [if_pos hw]
      refine .inl ?_
      have next : ∀ {v : Value} {x : AV} {h1 : List AO} {L1 : Loc} {w1 : World}, Step C h L w h1 L1 w1 → den w1 (SS C w1 h1 L1) L1 x v → (putK t' o.dst x fun t2 => aops P ops.toList K l t2 h1) → wpList P ops Q l (a.put o.dst v) w1 := by
        intro v x h1 L1 w1 hs hd hk1
        obtain ⟨t2, hr2, hk2⟩ := (hs.relT hr').put hd hk1
        exact aops_spec hQ hr2 hk2
      rcases aeff_spec hr' hk' with ⟨v, x, h1, L1, w1, hrun, hs, hd, hk1⟩ | ⟨f, vs, hrun, hcall⟩
      · unfold Oper.wp
        rcases hrun with hrun | ⟨hrun, rfl⟩
        · rw [hrun]; exact next hs hd hk1
        · rw [hrun]; exact next hs hd hk1
      · unfold Oper.wp
        rw [hrun]
        refine hcall.mono fun e w1 he => ?_
        obtain ⟨v, x, h1, L1, rfl, hs, hd, hk1⟩ := he
        exact next hs hd hk1
    · rw [if_neg (by rw [hw]; decide)]
      exact aops_spec hQ hr' hk'

end
end Go.Proofs.YtmohncaoimeneaaDoor.AL
