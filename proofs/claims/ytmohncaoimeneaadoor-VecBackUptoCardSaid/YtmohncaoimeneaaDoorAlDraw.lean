/-
  The state's own logic is sound: regions whose order is open, and that make new rows or call. No program in sight.
-/
import Derived.Test.YtmohncaoimeneaaDoorAlLater
set_option linter.unusedVariables false
set_option linter.unusedSimpArgs false
set_option linter.unusedSectionVars false
namespace Go.Proofs.YtmohncaoimeneaaDoor.AL
open Go
variable [Globs]

section
variable {P : Program} {C : Ctx} {t t' : List AV} {h : List AO} {L : Loc} {a : Act} {w : World}

/-! What an operation makes of the slots hangs on those alone that it names. -/
theorem evsK_congr : ∀ {xs : List Operand}, (∀ y ∈ xs, evK t y = evK t' y) → evsK t xs = evsK t' xs
  | [], _ => rfl
  | x :: xs, hx => by
    funext K
    simp only [evsK]
    rw [hx x (by simp), evsK_congr fun y hy => hx y (by simp [hy])]
theorem partsK_congr : ∀ {xs : List (Nat × Operand)}, (∀ y ∈ xs.map (·.2), evK t y = evK t' y) → partsK t xs = partsK t' xs
  | [], _ => rfl
  | (i, x) :: xs, hx => by
    funext K
    simp only [partsK]
    rw [hx x (by simp), partsK_congr fun y hy => hx y (by simp only [List.map_cons, List.mem_cons]; exact .inr hy)]
theorem optK_congr {x : Option Operand} (hx : ∀ y, x = some y → evK t y = evK t' y) : optK t x = optK t' x := by
  cases x with
  | none => rfl
  | some x => funext K; simp only [optK]; rw [hx x rfl]

theorem apure_congr {op : Op} (hx : ∀ y ∈ op.operands.toList, evK t y = evK t' y) : apure P t h op = apure P t' h op := by
  funext K
  cases op with
  | move x => simp only [apure]; rw [hx x (by simp [Op.operands])]
  | assign x => simp only [apure]; rw [hx x (by simp [Op.operands])]
  | pick c x y => simp only [apure]; rw [hx c (by simp [Op.operands]), hx x (by simp [Op.operands]), hx y (by simp [Op.operands])]
  | nilCheck x => simp only [apure]; rw [hx x (by simp [Op.operands])]
  | load T x => simp only [apure]; rw [hx x (by simp [Op.operands])]
  | binOp op T x y T2 =>
    have h1 := hx x (by simp [Op.operands])
    have h2 := hx y (by simp [Op.operands])
    unfold apure
    split <;> simp_all
  | unOp op T x => simp only [apure]; rw [hx x (by simp [Op.operands])]
  | convert s d x => simp only [apure]; rw [hx x (by simp [Op.operands])]
  | slice T x lo hi mx =>
    simp only [apure]
    rw [hx x (by simp [Op.operands]), optK_congr (x := lo) fun y e => hx y (by subst e; simp [Op.operands]), optK_congr (x := hi) fun y e => hx y (by subst e; simp [Op.operands]), optK_congr (x := mx) fun y e => hx y (by subst e; simp [Op.operands])]
  | fieldAddr T x j => simp only [apure]; rw [hx x (by simp [Op.operands])]
  | field T x j => simp only [apure]; rw [hx x (by simp [Op.operands])]
  | indexAddr T x i => simp only [apure]; rw [hx x (by simp [Op.operands]), hx i (by simp [Op.operands])]
  | index T x i => simp only [apure]; rw [hx x (by simp [Op.operands]), hx i (by simp [Op.operands])]
  | extract x j => simp only [apure]; rw [hx x (by simp [Op.operands])]
  | call c =>
    obtain ⟨callee, args, types⟩ := c
    have harg : ∀ y ∈ args.toList, evK t y = evK t' y := fun y hy => hx y (by simp only [Op.operands, Call.operands]; simp only [Array.toList_append, List.mem_append]; exact .inr hy)
    cases callee with
    | builtin b =>
      cases b <;> first
        | (simp only [apure]; rw [evsK_congr harg])
        | (simp only [apure]
           split
           · rename_i x T e1 e2
             rw [harg x (by rw [e1]; simp)]
           · rfl)
        | rfl
    | value f => rfl
    | invoke r m => rfl
  | _ => rfl

theorem aq1_congr {o : Oper} (hx : ∀ y ∈ o.op.operands.toList, evK t y = evK t' y) : aq1 P t h o = aq1 P t' h o := by
  funext K
  unfold aq1
  have hp := apure_congr (P := P) (h := h) hx
  split
  · rename_i T len parts e
    rw [partsK_congr fun y hy => hx y (by rw [e]; simpa [Op.operands] using hy)]
  · rename_i T parts e
    rw [partsK_congr fun y hy => hx y (by rw [e]; simpa [Op.operands] using hy)]
  · rename_i f args ty e
    rw [evsK_congr fun y hy => hx y (by rw [e]; simp only [Op.operands, Call.operands]; simp only [Array.toList_append, List.mem_append]; exact .inr hy)]
  · rename_i i args ty e
    have h1 : getK t i = getK t' i := funext fun K => congrFun (hx (.tmp i) (by rw [e]; simp [Op.operands, Call.operands])) K
    rw [h1, evsK_congr fun y hy => hx y (by rw [e]; simp only [Op.operands, Call.operands]; simp only [Array.toList_append, List.mem_append]; exact .inr hy)]
  · rw [hp]

def putT (t : List AV) (d : Option Tmp) (x : AV) : List AV :=
  match d with
  | some d => t.set d x
  | none => t
theorem putK_iff {d : Option Tmp} {x : AV} {K : List AV → Prop} : putK t d x K ↔ K (putT t d x) := by
  cases d with
  | none => exact Iff.rfl
  | some d => exact setK_iff
theorem evK_putT {d : Option Tmp} {x : AV} {y : Operand} (hy : ∀ i, d = some i → y ≠ .tmp i) : evK (putT t d x) y = evK t y := by
  cases d with
  | none => rfl
  | some d =>
    cases y with
    | tmp i =>
      have hne : d ≠ i := fun e => hy d rfl (e ▸ rfl)
      funext K
      simp only [evK, putT]
      rw [propext getK_iff, propext getK_iff, List.getD_eq_getElem?_getD, List.getElem?_set_ne hne, List.getD_eq_getElem?_getD]
    | _ => rfl
theorem putT_comm {d e : Option Tmp} {x y : AV} (hde : ∀ i, d = some i → e ≠ some i) : putT (putT t d x) e y = putT (putT t e y) d x := by
  cases d with
  | none => rfl
  | some d =>
    cases e with
    | none => rfl
    | some e =>
      have : d ≠ e := fun h => hde d rfl (h ▸ rfl)
      simp only [putT]
      exact List.set_comm _ _ this

theorem aq1_putT {ops : Array Oper} {oi oj : Oper} {x : AV} (hx : ∀ d, oi.dst = some d → d ∉ oj.looksAt ops) : aq1 P (putT t oi.dst x) h oj = aq1 P t h oj :=
  aq1_congr fun y hy => evK_putT fun i hi e => hx i hi (by
    unfold Oper.looksAt
    refine List.mem_append.2 (.inl (List.mem_filterMap.2 ⟨y, hy, by rw [e]⟩)))

/-! What one operation does. -/
theorem buildFreshK_spec (hr : HRel C h L w) {T : TypeId} {len : Nat} {parts : List (Nat × AV)} {ps : Array (Nat × Value)} {K : AV → Prop} (hp : denP w (SS C w h L) L parts ps.toList)
    (hk : buildFreshK P T len parts K) : EffV P C h L w (Instr.buildSlice T len ps) (fun x h' => h' = h ∧ K x) := by
  unfold buildFreshK at hk
  split at hk
  · rename_i e hu
    obtain ⟨sz, hss, _, hk1⟩ := sizeK_spec hk
    obtain ⟨hpos, hk2⟩ := sure_iff.1 hk1
    obtain ⟨hlim, hk3⟩ := sure_iff.1 hk2
    obtain ⟨z, hz, hk4⟩ := zeroK_spec hk3
    obtain ⟨hzs, hk5⟩ := sure_iff.1 hk4
    have hl0 : denL w (SS C w h L) L ((List.range (len * sz)).map fun i => .raw (z.cells[i % sz]!)) ((Array.range (len * sz)).map (z.cells[· % z.cells.size]!)) := by
      refine ⟨by simp, fun i hi => ?_⟩
      simp at hi
      exact ⟨z.cells[i % sz]!, by simp [hi, hzs], by rw [tab_get hi]; rfl⟩
    obtain ⟨l, c, h1, h2, h3, hk6⟩ := fillL_spec hp hl0 hk5
    have hlen : l.length = len * sz := by rw [h3]; simp
    have hrun : (Instr.buildSlice T len ps).run P w = .ok (.slice (some ⟨w.heap.size, 0, none⟩) len len) { w with heap := w.heap.push (.cells c e) } := by
      unfold Instr.buildSlice
      have e1 : ¬ (len * sz > 2 ^ 24) := by omega
      simp only [Sem.run_bind, run_underlying hu, Result.andThen_ok, hss, e1, if_false, Sem.run_pure]
      by_cases e0 : len * sz = 0
      · have h00 : ∀ f : Nat → Value, Array.map f (Array.range (len * sz)) = #[] := fun f => Array.eq_empty_of_size_eq_zero (by simpa using e0)
        rw [h00] at h1
        simp only [e0, if_true, Sem.run_pure, Result.andThen_ok]
        have h01 : ∀ f : Nat → Value, Array.map f (Array.range 0) = #[] := fun f => Array.eq_empty_of_size_eq_zero (by simp)
        simp only [h01, h1, run_newRow, Sem.run_bind, Result.andThen_ok, Sem.run_pure]
      · simp only [e0, if_false, Sem.run_bind, hz, Result.andThen_ok, Sem.run_pure, h1, run_newRow]
    split at hk6
    · rename_i k hik
      obtain ⟨hs1, hk6⟩ := sure_iff.1 hk6
      obtain ⟨xs, hk7, hxl, hxs⟩ := explicitInts_spec (S := SS C w h L) hk6
      have hlater : Later w { w with heap := w.heap.push (.cells c e) } := ⟨⟨by simp, fun b hb => by simp [Array.getElem?_push_lt hb, Array.getElem?_eq_getElem hb]⟩, ⟨rfl, rfl, rfl⟩⟩
      refine ⟨_, .roI k xs, h, L, _, hrun, ⟨hrel_later hlater hr, .refl _, fun b hb => hlater.1.2 b hb.1, fun b hb => ⟨Nat.lt_of_lt_of_le hb.1 hlater.1.1, hb.2⟩⟩, ?_, rfl, hk7⟩
      have hxlen : xs.length = len := by rw [hxl, hlen, hs1, Nat.mul_one]
      refine ⟨some ⟨w.heap.size, 0, none⟩, len, by rw [hxlen], by omega, fun i hi => ⟨w.heap.size, 0, rfl, ⟨by simp, .inr (.inl hr.fr.size), fun j hj e => ?_⟩, ?_⟩⟩
      · have := (hr.mine j _ hj e).1; omega
      · obtain ⟨u, g1, g2⟩ := h2.2 i (by omega)
        rw [hxs i (by omega)] at g2
        have g2 : u = .int k (xs.getD i 0) := g2
        subst g2
        simp [World.cell?, g1]
    · exact hk6.elim
  · exact hk.elim

theorem aq1_spec (hr : Rel C t h L a w) {o : Oper} {K : AV → Prop} (hk : aq1 P t h o K) : EffN P C h L w (execOp a.eval o) (fun x h' => h' = h ∧ K x) := by
  have pureCase : ∀ {op : Op}, o.op = op → apure P t h op K → EffN P C h L w (execOp a.eval o) (fun x h' => h' = h ∧ K x) := fun ho hp => by
    obtain ⟨v, x, h1, h2, h3⟩ := apure_spec hr ho hp
    exact GivesN.eff hr.heap ⟨v, x, h1, h2, rfl, h3⟩
  unfold aq1 at hk
  split at hk
  · rename_i T len parts ho
    have e : execOp a.eval o = (do pure (.value (← Instr.buildSlice T len (parts.map fun (i, x) => (i, a.eval x))))) := by unfold execOp; rw [ho]
    rw [e]
    obtain ⟨vs, h1, h2⟩ := partsK_spec hr hk
    have h1' : denP w (SS C w h L) L vs (parts.map fun (i, x) => (i, a.eval x)).toList := by simpa using h1
    exact (buildFreshK_spec hr.heap h1' h2).next
  · rename_i T parts ho
    have e : execOp a.eval o = (do pure (.value (← Instr.build T (parts.map fun (i, x) => (i, a.eval x))))) := by unfold execOp; rw [ho]
    rw [e]
    obtain ⟨vs, h1, h2⟩ := partsK_spec hr hk
    obtain ⟨v, x, g1, g2, g3⟩ := buildK_spec (P := P) (w := w) (ps := parts.map fun (i, x) => (i, a.eval x)) (by simpa using h1) h2
    exact (Gives.eff (K := fun x h' => h' = h ∧ K x) hr.heap ⟨v, x, g1, g2, rfl, g3⟩).next
  · rename_i f args types ho
    obtain ⟨vs, h1, h2, h3⟩ := evsK_spec hr hk
    have hex : execOp a.eval o = (do let d ← resolve a.eval { callee := .value (.func f), args, argTypes := types } o.type; invoke d.target d.args) := by unfold execOp; rw [ho]
    have hargs : (args.toList.map a.eval).toArray = args.map a.eval := by apply Array.ext'; simp
    obtain ⟨hent, hcall⟩ := callK_spec hr.heap (vs := args.map a.eval) (by simpa using h1.symm) (by rw [← hargs]; exact list_vals (a := a) h1 h2) h3
    refine .inr ⟨f, args.map a.eval, ?_, hcall⟩
    rw [hex]
    simp [resolve, Deferred.ofValue, Act.eval, invoke, run_callFunc hent]
  · rename_i i args types ho
    have hex : execOp a.eval o = (do let d ← resolve a.eval { callee := .value (.tmp i), args, argTypes := types } o.type; invoke d.target d.args) := by unfold execOp; rw [ho]
    obtain ⟨f, h1, h2⟩ := evK_spec (x := .tmp i) hr hk
    obtain ⟨vs, h3, h4, h5⟩ := evsK_spec hr h2
    have hvs := list_vals (a := a) h3 h4
    have hargs : (args.toList.map a.eval).toArray = args.map a.eval := by apply Array.ext'; simp
    split at h5
    · rename_i f
      have hx : a.eval (.tmp i) = .func (.func f) #[] #[] := h1
      obtain ⟨hent, hcall⟩ := callK_spec hr.heap (vs := args.map a.eval) (by simpa using h3.symm) (by rw [← hargs]; exact hvs) h5
      refine .inr ⟨f, args.map a.eval, ?_, hcall⟩
      rw [hex]
      simp [resolve, Deferred.ofValue, hx, invoke, run_callFunc hent]
    · rename_i f n g
      obtain ⟨cs, hx, hcn, hcs⟩ := h1
      obtain ⟨hent, hcall⟩ := callK_spec hr.heap (vs := args.map a.eval ++ cs) (by simp [hcn, h3]) (fun i y hi => by
        rcases Nat.lt_or_ge i vs.length with hlt | hge
        · rw [List.getElem?_append_left hlt] at hi
          obtain ⟨u, g1, g2⟩ := hvs i y hi
          rw [hargs] at g1
          have hsz : (args.map a.eval).size = vs.length := by simpa using h3.symm
          exact ⟨u, by rw [Array.getElem?_append_left (by omega)]; exact g1, g2⟩
        · rw [List.getElem?_append_right hge] at hi
          have hlt : i - vs.length < n := by
            have := (List.getElem?_eq_some_iff.1 hi).1
            simpa using this
          rw [List.getElem?_map, List.getElem?_range hlt] at hi
          simp at hi
          subst hi
          obtain ⟨u, g1, g2⟩ := hcs _ hlt
          have hsz : (args.map a.eval).size = vs.length := by simpa using h3.symm
          exact ⟨u, by rw [Array.getElem?_append_right (by omega), hsz]; exact g1, g2⟩) h5
      refine .inr ⟨f, args.map a.eval ++ cs, ?_, hcall⟩
      rw [hex]
      simp [resolve, Deferred.ofValue, hx, invoke, run_callFunc hent]
    · exact h5.elim
  · exact pureCase rfl hk

/-! Whatever order is picked. -/
/-- What an operation yields, be it run or not. -/
def res (P : Program) (ops : Array Oper) (h : List AO) (t : List AV) (o : Oper) (x : AV) : Prop := gdK ops.toList t o (aq1 P t h o (fun y => y = x)) (x = .raw undef)
theorem gdK_congr {ops : Array Oper} {o : Oper} {A A' B : Prop} (hg : ∀ d : Tmp, d ∈ o.looksAt ops → getK t d = getK t' d) (hA : A = A') : gdK ops.toList t o A B = gdK ops.toList t' o A' B := by
  subst hA
  unfold gdK
  split
  · rfl
  · rename_i j want e
    split
    · rename_i oj hj
      have hj' : ops[j]? = some oj := by simpa using hj
      split
      · rename_i d hd
        rw [hg d (by unfold Oper.looksAt; rw [e]; simp [hj', hd])]
      · rfl
    · rfl
theorem res_putT {ops : Array Oper} {oi oj : Oper} {x : AV} (hx : ∀ d, oi.dst = some d → d ∉ oj.looksAt ops) : res P ops h (putT t oi.dst x) oj = res P ops h t oj := by
  funext y
  unfold res
  refine gdK_congr (fun d hd => ?_) (by rw [aq1_putT hx])
  have : evK (putT t oi.dst x) (.tmp d) = evK t (.tmp d) := evK_putT fun i hi e => by
    cases e
    exact hx d hi hd
  funext K
  exact congrFun this K

def aOp (P : Program) (ops : Array Oper) (h : List AO) (i : Nat) (K : List AV → Prop) (t : List AV) : Prop :=
  match ops[i]? with
  | none => K t
  | some o => ∃ x, res P ops h t o x ∧ K (putT t o.dst x)
theorem aOp_mono {ops : Array Oper} {i : Nat} {K K' : List AV → Prop} (hm : ∀ t, K t → K' t) (hk : aOp P ops h i K t) : aOp P ops h i K' t := by
  unfold aOp at *
  split
  · rename_i e; rw [e] at hk; exact hm _ hk
  · rename_i o e; rw [e] at hk; obtain ⟨x, h1, h2⟩ := hk; exact ⟨x, h1, hm _ h2⟩

theorem gdK_spec (hr : Rel C t h L a w) {ops : Array Oper} {o : Oper} {run skip : Prop} (hk : gdK ops.toList t o run skip) :
    (Region.wanted o (yielded ops a.tmps) = true ∧ run) ∨ (Region.wanted o (yielded ops a.tmps) = false ∧ skip) := by
  unfold gdK at hk
  split at hk
  · rename_i hg
    exact .inl ⟨by simp [Region.wanted, hg], hk⟩
  · rename_i j want hg
    split at hk
    · rename_i oj hj
      have hj' : ops[j]? = some oj := by simpa using hj
      split at hk
      · rename_i d hd
        replace hk := getK_iff.1 hk
        have yes : ∀ {x : AV}, x ≠ .top → t.getD d .top = x → ∃ u, a.tmps[d]? = some u ∧ den w (SS C w h L) L x u := by
          intro x hx e
          have hlt : d < t.length := by
            rcases Nat.lt_or_ge d t.length with h' | h'
            · exact h'
            · rw [List.getD_eq_getElem?_getD, List.getElem?_eq_none (by simpa using h')] at e
              exact absurd e.symm hx
          exact hr.tmps d x (by rw [← e, List.getD_eq_getElem?_getD, List.getElem?_eq_getElem hlt]; rfl)
        have want? : ∀ {b : Bool}, a.tmps[d]? = some (.bool b) → Region.wanted o (yielded ops a.tmps) = (b == want) := fun {b} hb => by
          have hy : yielded ops a.tmps j = some b := by simp [yielded, hj', hd, hb]
          simp only [Region.wanted, hg, hy]
          cases b <;> cases want <;> rfl
        generalize hx : t.getD d .top = x at hk
        split at hk
        · obtain ⟨u, h1, h2⟩ := yes (by simp) hx
          rw [show u = .bool true from h2] at h1
          exact .inl ⟨by rw [want? h1]; rfl, hk⟩
        · obtain ⟨u, h1, h2⟩ := yes (by simp) hx
          rw [show u = .bool false from h2] at h1
          exact .inl ⟨by rw [want? h1]; rfl, hk⟩
        · obtain ⟨u, h1, h2⟩ := yes (by simp) hx
          rw [show u = .bool true from h2] at h1
          exact .inr ⟨by rw [want? h1]; rfl, hk⟩
        · obtain ⟨u, h1, h2⟩ := yes (by simp) hx
          rw [show u = .bool false from h2] at h1
          exact .inr ⟨by rw [want? h1]; rfl, hk⟩
        · obtain ⟨u, h1, h2⟩ := yes (by simp) hx
          rw [show u = .bool true from h2] at h1
          exact .inl ⟨by rw [want? h1]; rfl, hk⟩
        · obtain ⟨u, h1, h2⟩ := yes (by simp) hx
          rw [show u = .bool false from h2] at h1
          exact .inl ⟨by rw [want? h1]; rfl, hk⟩
        · obtain ⟨u, h1, h2⟩ := yes (by simp) hx
          rw [show u = .bool true from h2] at h1
          exact .inr ⟨by rw [want? h1]; rfl, hk⟩
        · obtain ⟨u, h1, h2⟩ := yes (by simp) hx
          rw [show u = .bool false from h2] at h1
          exact .inr ⟨by rw [want? h1]; rfl, hk⟩
        · obtain ⟨u, h1, h2⟩ := yes (by simp) hx
          have h2' : u = _ := h2
          rw [h2'] at h1
          have hnone : yielded ops a.tmps j = none := by simp [yielded, hj', hd, h1]
          refine .inr ⟨?_, hk⟩
          simp only [Region.wanted, hg, hnone]
          rfl
        · exact hk.elim
      · exact hk.elim
    · exact hk.elim

theorem wpOp_of_aOp {ops : Array Oper} {n i : Nat} (hi : i < n) {K : List AV → Prop} {K' : Act → World → Prop} {Q' : Exit → Act → World → Prop} (hr : Rel C t h L a w)
    (hK : ∀ t L a w, Rel C t h L a w → K t → K' a w) (hk : aOp P ops h i K t) : wpOp P ops Q' i K' a w := by
  unfold aOp at hk
  unfold wpOp
  split
  · rename_i e; rw [e] at hk; exact hK _ _ _ _ hr hk
  · rename_i o e
    rw [e] at hk
    obtain ⟨x, h1, h2⟩ := hk
    rcases gdK_spec hr h1 with ⟨hw, h1⟩ | ⟨hw, h1⟩
    rotate_left
    · rw [if_neg (by rw [hw]; decide)]
      subst h1
      obtain ⟨t2, hr2, hk2⟩ := hr.put (d := o.dst) (x := .raw undef) (v := undef) rfl (K := fun t2 => t2 = putT t o.dst (.raw undef)) (putK_iff.2 rfl)
      subst hk2
      exact hK _ _ _ _ hr2 h2
    rw [if_pos hw]
    refine .inl ?_
    have next : ∀ {v : Value} {y : AV} {h1 : List AO} {L1 : Loc} {w1 : World}, Step C h L w h1 L1 w1 → den w1 (SS C w1 h1 L1) L1 y v → h1 = h ∧ y = x → K' (a.put o.dst v) w1 := by
      rintro v y h1 L1 w1 hs hd ⟨rfl, rfl⟩
      obtain ⟨t2, hr2, hk2⟩ := (hs.relT hr).put (d := o.dst) hd (K := fun t2 => t2 = putT t o.dst y) (putK_iff.2 rfl)
      subst hk2
      exact hK _ _ _ _ hr2 h2
    rcases aq1_spec hr h1 with ⟨v, y, h1, L1, w1, hrun, hs, hd, hk1⟩ | ⟨f, vs, hrun, hcall⟩
    · unfold Oper.wp
      rcases hrun with hrun | ⟨hrun, rfl⟩
      · rw [hrun]; exact next hs hd hk1
      · rw [hrun]; exact next hs hd hk1
    · unfold Oper.wp
      rw [hrun]
      refine hcall.mono fun e w1 he => ?_
      obtain ⟨v, y, h1, L1, rfl, hs, hd, hk1⟩ := he
      exact next hs hd hk1

/-- The first n operations in whatever order, then what L says. -/
def anyT (P : Program) (ops : Array Oper) (h : List AO) (n : Nat) (M : Array Bool → List AV → Prop) : Nat → Array Bool → List AV → Prop
  | 0, listed, t => M listed t
  | f + 1, listed, t => Region.ready .any ops listed ≠ [] ∧ ∀ i ∈ Region.ready .any ops listed, i < n ∧ aOp P ops h i (anyT P ops h n M f (listed.setIfInBounds i true)) t

theorem wpAny_of_anyT {ops : Array Oper} {n g : Nat} {M : Array Bool → List AV → Prop} {Q' : Exit → Act → World → Prop}
    (hM : ∀ listed t L a w, M listed t → Rel C t h L a w → wpAny P .any ops Q' g listed a w) :
    ∀ (f : Nat) (listed : Array Bool) (t : List AV) (L : Loc) (a : Act) (w : World), anyT P ops h n M f listed t → Rel C t h L a w → wpAny P .any ops Q' (f + g) listed a w
  | 0, listed, t, L, a, w, hk, hr => by rw [Nat.zero_add]; exact hM _ _ _ _ _ hk hr
  | f + 1, listed, t, L, a, w, hk, hr => by
    rw [show f + 1 + g = (f + g) + 1 by omega]
    exact ⟨fun h0 => absurd h0 hk.1, fun i hi => wpOp_of_aOp (hk.2 i hi).1 hr (fun t L a w hr' hk' => wpAny_of_anyT hM f _ t L a w hk' hr') (hk.2 i hi).2⟩

/-- Two operations that are apart may change places. -/
theorem aOp_swap {ops : Array Oper} {j : Nat} {oi oj : Oper} {x : AV} (hj : ops[j]? = some oj) (hap : oi.apart ops oj = true) {K : List AV → Prop}
    (hy : res P ops h t oi x) (hk : aOp P ops h j K (putT t oi.dst x)) : aOp P ops h j (fun t' => res P ops h t' oi x ∧ K (putT t' oi.dst x)) t := by
  obtain ⟨h1, h2, h3⟩ := Oper.apart_spec hap
  unfold aOp at *
  rw [hj] at *
  obtain ⟨y, g1, g2⟩ := hk
  rw [res_putT h1] at g1
  refine ⟨y, g1, ?_, ?_⟩
  · rw [res_putT h3]; exact hy
  · rw [putT_comm (fun i hi e => h2 i e hi)]; exact g2

theorem anyT_first {ops : Array Oper} {n i : Nat} {oi : Oper} {x : AV} {M : Array Bool → List AV → Prop} (hi : ops[i]? = some oi)
    (hs : Region.sinkB .any ops n = true) (hc : Region.chainB .any ops n = true) (hn : n < ops.size) (hin : i < n)
    (hdone : ∀ listed t, M listed t → ∀ j ∈ Region.ready .any ops listed, n ≤ j) :
    ∀ (f : Nat) (listed : Array Bool) (t : List AV), HeadInv .any ops n listed →
      (∀ j oj, ops[j]? = some oj → j ≠ i → listed.getD j true = false → (∀ e ∈ oj.after, Region.binds .any e = true → e.on ≠ i) → oi.apart ops oj = true) →
      i ∈ Region.ready .any ops listed → res P ops h t oi x →
      anyT P ops h n M f (listed.setIfInBounds i true) (putT t oi.dst x) → anyT P ops h n M (f + 1) listed t := by
  intro f
  induction f with
  | zero =>
    intro listed t inv _ hr hy H
    have hun := (mem_ready.1 hr).1
    refine ⟨fun e => (by rw [e] at hr; cases hr), fun j hj => ?_⟩
    have hjn : j < n := Nat.lt_of_not_le fun h' => tail_waits hs hc hn inv _ i rfl hin hun j h' hj
    refine ⟨hjn, ?_⟩
    by_cases hji : j = i
    · subst hji; unfold aOp; rw [hi]; exact ⟨x, hy, H⟩
    · exact absurd (hdone _ _ H j (ready_mono hj hji)) (by omega)
  | succ f ih =>
    intro listed t inv hfree hr hy H
    have hun := (mem_ready.1 hr).1
    refine ⟨fun e => (by rw [e] at hr; cases hr), fun j hj => ?_⟩
    have hjn : j < n := Nat.lt_of_not_le fun h' => tail_waits hs hc hn inv _ i rfl hin hun j h' hj
    refine ⟨hjn, ?_⟩
    by_cases hji : j = i
    · subst hji; unfold aOp; rw [hi]; exact ⟨x, hy, H⟩
    · have h1 := (H.2 j (ready_mono hj hji)).2
      obtain ⟨hjun, oj, hoj, hall⟩ := mem_ready.1 hj
      have hnot : ∀ e ∈ oj.after, Region.binds .any e = true → e.on ≠ i := fun e he hb heq => by
        have h2 := hall e he hb
        rw [heq, getD_both hun] at h2
        cases h2
      refine aOp_mono (fun t' h3 => ih (listed.setIfInBounds j true) t' (inv.set hj hjn) (fun k ok hk hki hun' hno => ?_) (ready_mono hr (Ne.symm hji)) h3.1 ?_) (aOp_swap hoj (hfree j oj hoj hji hjun hnot) hy h1)
      · refine hfree k ok hk hki ?_ hno
        by_cases hjk : j = k
        · subst hjk; exact hjun
        · rw [getD_set_ne true hjk] at hun'; exact hun'
      · rw [Array.setIfInBounds_comm _ _ hji]
        exact h3.2

theorem anyT_lex {ops : Array Oper} {n g : Nat} {Q : List AV → Prop} (hs : Region.sinkB .any ops n = true) (hc : Region.chainB .any ops n = true) (hn : n < ops.size) :
    ∀ (l : List Oper) (k : Nat) (listed : Array Bool) (t : List AV), (∀ j, j < l.length → l[j]? = ops[k + j]?) → k + l.length = n → HeadInv .any ops n listed →
    Region.lexHead .any ops g l.length k listed = true → aq1s P ops.toList h Q l t →
    anyT P ops h n (fun listed' t' => Region.seqB .any ops g n listed' = true ∧ Q t') l.length listed t
  | [], k, listed, t, _, hk, _, hB, hq => by
    obtain rfl : k = n := by simpa using hk
    exact ⟨by simpa [Region.lexHead] using hB, hq⟩
  | o :: l, k, listed, t, hl, hk, inv, hB, hq => by
    have h0 : ops[k]? = some o := by simpa using (hl 0 (by simp)).symm
    simp only [List.length_cons, Region.lexHead, Bool.and_eq_true] at hB
    obtain ⟨⟨hr, hf⟩, hB'⟩ := hB
    have hkn : k < n := by simp only [List.length_cons] at hk; omega
    have hr' : k ∈ Region.ready .any ops listed := by simpa using hr
    obtain ⟨x, hx, hq2⟩ := hq
    exact anyT_first h0 hs hc hn hkn (fun listed' t' hM => seqB_ready hM.1) l.length listed t inv (Region.free_spec h0 hf) hr' hx
      (anyT_lex hs hc hn l (k + 1) _ _ (fun j hj => by have := hl (j + 1) (by simp; omega); simpa [Nat.add_assoc, Nat.add_comm 1 j] using this) (by simp only [List.length_cons] at hk; omega) (inv.set hr' hkn) hB' (putK_iff.1 hq2))

/-- A REGION WHOSE ORDER IS OPEN: its first operations leave what is known of the heap, the others come one behind the other. -/
theorem wp_region_draw_tail {id n : Nat} {ops : Array Oper} {Q : Exit → Act → World → Prop} {K : List AV → List AO → Prop} (hQ : ∀ t h L a w, Rel C t h L a w → K t h → Q .normal a w)
    (hm : P.follows .mixedOrders = true) (hB : Region.lexTailB .any ops n = true) (hr : Rel C t h L a { w with drawn := w.drawn + 1 })
    (hk : aq1s P ops.toList h (fun t => aops P ops.toList K (ops.toList.drop n) t h) (ops.toList.take n) t) : (Code.region id ops true).wp P Q a w := by
  simp only [Region.lexTailB, Bool.and_eq_true, decide_eq_true_eq] at hB
  obtain ⟨⟨⟨⟨hsel, hn⟩, hs⟩, hc⟩, hlex⟩ := hB
  have htl : (ops.toList.take n).length = n := by simp; omega
  have hdl : (ops.toList.drop n).length = ops.size - n := by simp
  have inv0 : HeadInv .any ops n (Array.replicate ops.size false) :=
    ⟨by simp, fun j oj _ hl => (by rw [getD_replicate_false] at hl; cases hl), fun t _ ht => getD_in (by simpa using ht) (getD_replicate_false _ _)⟩
  have H := anyT_lex (P := P) (h := h) (g := ops.size - n) hs hc hn (ops.toList.take n) 0 _ t (fun j hj => by
    have hj' : j < n := by rw [htl] at hj; exact hj
    simp [hj']) (by simpa using htl) inv0 (by rw [htl]; exact hlex) hk
  refine wp_region_any hm ?_
  have := wpAny_of_anyT (P := P) (C := C) (h := h) (Q' := Q) (g := ops.size - n) (fun listed t' L' a' w' hM hr' => by
    have := wpAny_of_seq (P := P) (md := .any) (Q' := Q) (ops.toList.drop n) n listed a' w' (fun j => by simp [List.getElem?_drop]) (by rw [hdl]; exact hM.1) (aops_spec hQ hr' hM.2)
    rwa [hdl] at this) _ _ _ _ _ _ H hr
  rw [htl, show n + (ops.size - n) = ops.size by omega] at this
  exact this

end
end Go.Proofs.YtmohncaoimeneaaDoor.AL
