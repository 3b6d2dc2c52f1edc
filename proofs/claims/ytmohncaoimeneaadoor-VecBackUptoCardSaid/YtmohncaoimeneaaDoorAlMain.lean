/-
  The state's own logic is sound: whole functions. No program in sight.
-/
import Derived.Test.YtmohncaoimeneaaDoorAlDraw
import Derived.Scope
set_option linter.unusedVariables false
set_option linter.unusedSimpArgs false
set_option linter.unusedSectionVars false
namespace Go.Proofs.YtmohncaoimeneaaDoor.AL
open Go
variable [Globs]

section
variable {P : Program} {C : Ctx} {t : List AV} {h : List AO} {L : Loc} {a : Act} {w : World}

theorem aquiet_spec (hr : Rel C t h L a w) {o : Oper} {K : AV → Prop} (hk : aquiet P t h o K) :
    ∃ v x, (∀ w', Later w w' → o.quietAt P a (Later w) w' v) ∧ den w (SS C w h L) L x v ∧ K x := by
  have pureCase : ∀ {op : Op}, o.op = op → apure P t h op K → ∃ v x, (∀ w', Later w w' → o.quietAt P a (Later w) w' v) ∧ den w (SS C w h L) L x v ∧ K x := fun ho hp => by
    obtain ⟨v, x, h1, h2, h3⟩ := apure_spec hr ho hp
    exact ⟨v, x, fun w' hw => by unfold Oper.quietAt; rw [h1 w' hw.1]; exact ⟨rfl, rfl⟩, h2, h3⟩
  unfold aquiet at hk
  split at hk
  · rename_i f args types ho
    obtain ⟨vs, h1, h2, v, h3⟩ := evsK_spec hr hk
    have hex : execOp a.eval o = (do let d ← resolve a.eval { callee := .value (.func f), args, argTypes := types } o.type; invoke d.target d.args) := by unfold execOp; rw [ho]
    have hargs : (args.toList.map a.eval).toArray = args.map a.eval := by apply Array.ext'; simp
    -- the arguments are read wherever they lie
    have hlow := fun (w' : World) (hw : Later w w') => lowsK_spec (pass := []) (S1 := fun b => b < w'.heap.size) (hrel_later hw hr.heap) (fun b hb => hb.1) (xs := vs) (vs := args.toList.map a.eval)
      (fun _ id b hl _ e => ((hrel_later hw hr.heap).mine id b hl e).1) (by simpa using h1.symm) (fun i hi => by
        obtain ⟨x, h4, h5⟩ := h2 i vs[i] (by simp [hi])
        exact ⟨a.eval x, by simpa using ⟨x, by simpa using h4, rfl⟩, by simpa [List.getD_eq_getElem?_getD, hi] using den_later hw h5⟩) h3
    obtain ⟨_, ⟨⟨hent, _⟩, hkv⟩, _, _⟩ := hlow w ⟨.refl w, .refl w⟩
    refine ⟨v, .raw v, fun w' hw => ?_, rfl, hkv⟩
    unfold Oper.quietAt
    have hrun : (execOp a.eval o).run P w' = .ok (.enter f (args.map a.eval)) w' := by
      rw [hex]
      simp [resolve, Deferred.ofValue, Act.eval, invoke, run_callFunc hent]
    rw [hrun]
    refine ⟨rfl, ?_⟩
    obtain ⟨as, ⟨⟨_, hcall⟩, _⟩, hal, has⟩ := hlow w' hw
    have hctx : HRel ⟨w', fun b => b < w'.heap.size, 0, .zero⟩ [] .zero w' :=
      ⟨⟨rfl, rfl, rfl, Nat.le_refl _, fun _ _ _ => rfl, fun b hb => ⟨hb, fun ⟨i, hi, _⟩ => absurd hi (Nat.not_lt_zero _)⟩, hr.heap.globs.mono (fun b hb => hw.1.2 b hb.1) (fun b hb => Nat.lt_of_lt_of_le hb.1 hw.1.1)⟩, rfl, Nat.le_refl _, fun i hi => absurd hi (Nat.not_lt_zero _), fun i j b hi => by obtain ⟨o, ho, _⟩ := hi; simp at ho, fun i b hi => by obtain ⟨o, ho, _⟩ := hi; simp at ho, fun i o ho => by simp at ho⟩
    refine (hcall (fun b => b < w'.heap.size) .zero w' (args.map a.eval) hctx (fun b hb => ⟨hb, fun i hi => absurd hi (Nat.not_lt_zero _)⟩) (by rw [hal, h1]; simp) (fun i x hx => ?_)).mono fun e w'' he => ?_
    · have hi : i < vs.length := by rw [← hal]; exact (List.getElem?_eq_some_iff.1 hx).1
      obtain ⟨u, h4, h5⟩ := has i hi
      refine ⟨u, by rw [← hargs]; simpa using h4, ?_⟩
      have : as.getD i .top = x := by simp [List.getD_eq_getElem?_getD, hx]
      rw [this] at h5
      exact den_mono (fun _ _ => rfl) (fun _ h => h) (L := L.sel []) ⟨Nat.le_refl _, fun i hi => absurd hi (Nat.not_lt_zero _), fun i hi => absurd hi (Nat.not_lt_zero _)⟩ x u h5
    · obtain ⟨u, r, h', M, rfl, ⟨hR, _⟩, hM, hd⟩ := he
      have hu : u = v := by
        rcases hR with rfl | ⟨rfl, rfl⟩ | ⟨rfl, rfl⟩ <;> exact hd
      subst hu
      refine ⟨rfl, hw.trans ⟨⟨hM.fr.size, fun b hb => hM.fr.block b hb fun ⟨i, hi, _⟩ => absurd hi (Nat.not_lt_zero _)⟩, ⟨hM.fr.os, hM.fr.tape, hM.fr.output⟩⟩⟩
  · exact pureCase rfl hk

theorem aqops_spec {ops : Array Oper} {K : List AV → Prop} {Q : Act → Prop} (hQ : ∀ t a, Rel C t h L a w → K t → Q a) : ∀ {l : List Oper} {t : List AV} {a : Act}, Rel C t h L a w → aqops P ops.toList K l t h → wpQuiet P ops (Later w) Q l a
  | [], t, a, hr, hk => hQ _ _ hr hk
  | o :: l, t, a, hr, hk => by
    unfold aqops at hk
    unfold wpQuiet
    rcases aguard_spec hr hk with ⟨hw, t', hr', hk'⟩ | ⟨hw, t', hr', hk'⟩
    · rw [if_pos hw]
      obtain ⟨v, x, h1, h2, h3⟩ := aquiet_spec hr' hk'
      obtain ⟨t2, hr2, hk2⟩ := hr'.put h2 h3
      exact ⟨v, h1, aqops_spec hQ hr2 hk2⟩
    · rw [if_neg (by rw [hw]; decide)]
      exact aqops_spec hQ hr' hk'

/-- A loop, by a relation that counts down. -/
theorem wp_loop_count {c : Code} {Q : Exit → Act → World → Prop} (I : Nat → Act → World → Prop) (round : ∀ n a w, I n a w → c.wp P (Exit.then (fun a' w' => ∃ m, m < n ∧ I m a' w') Q) a w) (n : Nat) (h0 : I n a w) : (Code.loop c).wp P Q a w := by
  intro b k cs
  have key : ∀ n a w, I n a w → ∃ e a' w', Q e a' w' ∧ Arrives P (lone (b.at a (.code c :: .inLoop c :: k)) cs w) b k cs e a' w' := by
    intro n
    induction n using Nat.strongRecOn with
    | _ n ih =>
      intro a w hI
      obtain ⟨e, a₁, w₁, hq, harr⟩ := round n a w hI b (.inLoop c :: k) cs
      cases e with
      | normal =>
        obtain ⟨m, hm, hI₁⟩ := hq
        obtain ⟨e₂, a₂, w₂, hq₂, harr₂⟩ := ih m hm a₁ w₁ hI₁
        exact ⟨e₂, a₂, w₂, hq₂, .of_steps (Steps.trans harr (.one step_inLoop)) harr₂⟩
      | exit id => exact ⟨_, a₁, w₁, hq, .pass (x := .inLoop c) rfl (fun _ _ => .inl (by simp)) harr⟩
      | goto l => exact ⟨_, a₁, w₁, hq, .pass (x := .inLoop c) rfl (fun _ _ => .inl (by simp)) harr⟩
      | ret => exact ⟨_, a₁, w₁, hq, .pass (x := .inLoop c) rfl (fun _ _ => .inl (by simp)) harr⟩
      | panic ch => exact ⟨_, a₁, w₁, hq, .pass (x := .inLoop c) rfl (fun _ _ => .inl (by simp)) harr⟩
      | outgrown => exact ⟨_, a₁, w₁, hq, .pass (x := .inLoop c) rfl (fun _ _ => .inl (by simp)) harr⟩
  obtain ⟨e, a', w', hq, harr⟩ := key n a w h0
  exact ⟨e, a', w', hq, .of_steps (.one step_loop) harr⟩

theorem topsK_iff : ∀ {t : List AV} {K : List AV → Prop}, topsK t K ↔ K (t.map fun _ => .top)
  | [], K => by simp [topsK]
  | _ :: l, K => by simp [topsK, topsK_iff (t := l)]
def mkT (t : List AV) : List (Nat × AV) → List AV
  | [] => t
  | (i, a) :: l => mkT (t.set i a) l
theorem mkK_iff : ∀ {l : List (Nat × AV)} {t : List AV} {K : List AV → Prop}, mkK t l K ↔ K (mkT t l)
  | [], _, _ => Iff.rfl
  | (i, a) :: l, t, K => by simp [mkK, setK_iff, mkK_iff (l := l), mkT]

theorem lenEq_length : ∀ {l m : List AV}, lenEq l m → m.length = l.length
  | [], [], _ => rfl
  | _ :: l, _ :: m, h => by simpa using lenEq_length (l := l) (m := m) h
  | [], _ :: _, h => h.elim
  | _ :: _, [], h => h.elim

/-- The slots at a loop's head. -/
theorem rel_mk (hr : Rel C t h L a w) {l : List Nat} {h1 : List AO} {sl : List (Nat × AV)} (hle : LeH C.np h l h1) (ht : LeT h l t sl) :
    Rel C (mkT (t.map fun _ => .top) sl) h1 (L.view l) a w := by
  have hs := leh_seen hr.heap hle
  have go : ∀ (sl : List (Nat × AV)) (t' : List AV), LeT h l t sl → Rel C t' h1 (L.view l) a w → Rel C (mkT t' sl) h1 (L.view l) a w := by
    intro sl
    induction sl with
    | nil => intro t' _ h; exact h
    | cons p sl ih =>
      intro t' hp hr'
      obtain ⟨i, x⟩ := p
      obtain ⟨hp1, hp2⟩ := hp
      have hle1 := getK_iff.1 hp1
      refine ih _ hp2 ⟨hr'.heap, by simp [hr'.size], fun j y hj => ?_, hr'.defers⟩
      by_cases e : i = j
      · subst e
        have hlt : i < t'.length := by
          have := (List.getElem?_eq_some_iff.1 hj).1
          simpa using this
        rw [List.getElem?_set_self (by simpa using hlt)] at hj
        cases hj
        have h2 : i < a.tmps.size := by rw [hr'.size]; exact hlt
        have := hle1.den hr.heap hs (hr.get i)
        exact ⟨a.tmps[i], by simp [h2], by simpa [h2] using this⟩
      · rw [List.getElem?_set_ne e] at hj
        exact hr'.tmps j y hj
  refine go sl _ ht ⟨leh_rel hr.heap hle, by simp [hr.size], fun i v hi => ?_, hr.defers⟩
  have hlt : i < a.tmps.size := by
    have := (List.getElem?_eq_some_iff.1 hi).1
    rw [hr.size]; simpa using this
  refine ⟨a.tmps[i], by simp [hlt], ?_⟩
  rw [List.getElem?_map] at hi
  obtain ⟨_, _, rfl⟩ := Option.map_eq_some_iff.1 hi
  trivial

theorem awpS_sound {sc : Code → (Exit → List AV → List AO → Prop) → List AV → List AO → Prop} (hsc : ∀ (c : Code) {Q : Exit → List AV → List AO → Prop} {t : List AV} {h : List AO} {L : Loc} {a : Act} {w : World}, Rel C t h L a w → sc c Q t h →
    (Code.scope c).wp P (fun e a' w' => ∃ t' h' L', Rel C t' h' L' a' w' ∧ Q e t' h') a w) (c : Code) : ∀ {Q : Exit → List AV → List AO → Prop} {t : List AV} {h : List AO} {L : Loc} {a : Act} {w : World}, Rel C t h L a w → awpS P C.np sc c Q t h →
    c.wp P (fun e a' w' => ∃ t' h' L', Rel C t' h' L' a' w' ∧ Q e t' h') a w := by
  induction c with
  | skip => intro Q t h L a w hr hk; exact wp_skip ⟨t, h, L, hr, hk⟩
  | label l => intro Q t h L a w hr hk; exact wp_label ⟨t, h, L, hr, hk⟩
  | ret => intro Q t h L a w hr hk; exact wp_ret ⟨t, h, L, hr, hk⟩
  | exit id => intro Q t h L a w hr hk; exact wp_exit ⟨t, h, L, hr, hk⟩
  | seq x y ihx ihy =>
    intro Q t h L a w hr hk
    refine wp_seq (wp_mono (ihx hr hk) fun e a' w' he => ?_)
    obtain ⟨t', h', L', hr', hq⟩ := he
    cases e with
    | normal => exact ihy hr' hq
    | exit id => exact ⟨t', h', L', hr', hq⟩
    | goto l => exact ⟨t', h', L', hr', hq⟩
    | ret => exact ⟨t', h', L', hr', hq⟩
    | panic ch => exact ⟨t', h', L', hr', hq⟩
    | outgrown => exact ⟨t', h', L', hr', hq⟩
  | block id c ih =>
    intro Q t h L a w hr hk
    refine wp_block (wp_mono (ih hr hk) fun e a' w' he => ?_)
    obtain ⟨t', h', L', hr', hq⟩ := he
    cases e with
    | exit id' =>
      unfold Exit.inBlock
      by_cases e : id' = id
      · subst e
        simp only [decide_true] at hq
        simp only [if_true]
        exact ⟨t', h', L', hr', hq⟩
      · simp only [e, decide_false] at hq
        simp only [e, if_false]
        exact ⟨t', h', L', hr', hq⟩
    | normal => exact ⟨t', h', L', hr', hq⟩
    | goto l => exact ⟨t', h', L', hr', hq⟩
    | ret => exact ⟨t', h', L', hr', hq⟩
    | panic ch => exact ⟨t', h', L', hr', hq⟩
    | outgrown => exact ⟨t', h', L', hr', hq⟩
  | cond c x y ihx ihy =>
    intro Q t h L a w hr hk
    obtain ⟨v, h1, h2⟩ := evK_spec hr hk
    split at h2
    · exact wp_cond_true h1 (ihx hr h2)
    · exact wp_cond_false h1 (ihy hr h2)
    · exact wp_cond_split h1 (fun hb => ihx hr (h2.1 hb)) (fun hb => ihy hr (h2.2 hb))
    · exact h2.elim
  | region id ops draw =>
    intro Q t h L a w hr hk
    cases draw with
    | false => exact wp_region_list (aops_spec (fun t h L a w hr hq => ⟨t, h, L, hr, hq⟩) hr hk)
    | true =>
      rcases hk with hk | ⟨n, hB, hk⟩
      rotate_left
      · simp only [drawB, Bool.and_eq_true] at hB
        have hdrew : Later w { w with drawn := w.drawn + 1 } := ⟨⟨Nat.le_refl _, fun _ _ => rfl⟩, ⟨rfl, rfl, rfl⟩⟩
        exact wp_region_draw_tail (fun t h L a w hr hq => ⟨t, h, L, hr, hq⟩) hB.1 hB.2 (rel_later hdrew hr) hk
      obtain ⟨⟨hm, hB⟩, hk⟩ := hk
      have hdrew : Later w { w with drawn := w.drawn + 1 } := ⟨⟨Nat.le_refl _, fun _ _ => rfl⟩, ⟨rfl, rfl, rfl⟩⟩
      refine wp_region_quiet (C := Later w) hm hB hdrew (aqops_spec (fun t' a' hr' hq w' hw' => ?_) hr hk)
      exact ⟨t', h, L, rel_later hw' hr', hq⟩
  | loop c ih =>
    intro Q t h L a w hr hk
    obtain ⟨X, sl, hp, inv, μ, ⟨x, l, hi, hle, ht⟩, hround⟩ := hk
    refine wp_loop_count (fun n a w => ∃ x L, inv x ∧ μ x = n ∧ Rel C (mkT (t.map fun _ => .top) (sl x)) (hp x) L a w) (fun n a w hI => ?_) (μ x) ⟨x, _, hi, rfl, rel_mk hr hle ht⟩
    obtain ⟨x, L, hi, rfl, hr⟩ := hI
    have hk := mkK_iff.1 (topsK_iff.1 (hround x hi))
    refine wp_mono (ih hr hk) fun e a' w' he => ?_
    obtain ⟨t', h', L', hr', hq⟩ := he
    cases e with
    | normal =>
      obtain ⟨hlen, y, l, hy, hlt, hle, ht⟩ := hq
      have hl : (t'.map fun _ => AV.top) = t.map fun _ => AV.top := by
        have := lenEq_length hlen
        rw [List.map_const', List.map_const', this]
      have := rel_mk hr' hle ht
      rw [hl] at this
      exact ⟨μ y, hlt, y, _, hy, rfl, this⟩
    | exit id => exact ⟨t', h', L', hr', hq⟩
    | goto l => exact ⟨t', h', L', hr', hq⟩
    | ret => exact ⟨t', h', L', hr', hq⟩
    | panic ch => exact ⟨t', h', L', hr', hq⟩
    | outgrown => exact ⟨t', h', L', hr', hq⟩
  | rangeFunc => intro Q t h L a w hr hk; exact hk.elim
  | scope c => intro Q t h L a w hr hk; exact hsc c hr hk
  | goto l => intro Q t h L a w hr hk; exact wp_goto ⟨t, h, L, hr, hk⟩
  | refuse => intro Q t h L a w hr hk; exact hk.elim

theorem awpAt_sound {l : Nat} (c : Code) : ∀ {Q : Exit → List AV → List AO → Prop} {t : List AV} {h : List AO} {L : Loc} {a : Act} {w : World}, Rel C t h L a w → awpAt P C.np l c Q t h →
    ∃ rest, findLabel c l = some rest ∧ rest.wp P (fun e a' w' => ∃ t' h' L', Rel C t' h' L' a' w' ∧ Q e t' h') a w := by
  induction c with
  | label l' =>
    intro Q t h L a w hr hk
    unfold awpAt at hk
    split at hk
    · rename_i e
      exact ⟨.skip, by simp [findLabel, e], wp_skip ⟨t, h, L, hr, hk⟩⟩
    · exact hk.elim
  | seq x y ihx ihy =>
    intro Q t h L a w hr hk
    unfold awpAt at hk
    split at hk
    · obtain ⟨rest, h1, h2⟩ := ihx hr hk
      refine ⟨.seq rest y, by simp [findLabel, h1], wp_seq (wp_mono h2 fun e a' w' he => ?_)⟩
      obtain ⟨t', h', L', hr', hq⟩ := he
      cases e with
      | normal => exact awpS_sound (fun _ _ _ _ _ _ _ _ h => h.elim) y hr' hq
      | exit id => exact ⟨t', h', L', hr', hq⟩
      | goto l => exact ⟨t', h', L', hr', hq⟩
      | ret => exact ⟨t', h', L', hr', hq⟩
      | panic ch => exact ⟨t', h', L', hr', hq⟩
      | outgrown => exact ⟨t', h', L', hr', hq⟩
    · rename_i e
      obtain ⟨rest, h1, h2⟩ := ihy hr hk
      have e' : findLabel x l = none := by simpa using e
      exact ⟨rest, by simp [findLabel, e', h1], h2⟩
  | skip => intro Q t h L a w hr hk; exact hk.elim
  | ret => intro Q t h L a w hr hk; exact hk.elim
  | exit => intro Q t h L a w hr hk; exact hk.elim
  | block => intro Q t h L a w hr hk; exact hk.elim
  | cond => intro Q t h L a w hr hk; exact hk.elim
  | region => intro Q t h L a w hr hk; exact hk.elim
  | loop => intro Q t h L a w hr hk; exact hk.elim
  | rangeFunc => intro Q t h L a w hr hk; exact hk.elim
  | scope => intro Q t h L a w hr hk; exact hk.elim
  | goto => intro Q t h L a w hr hk; exact hk.elim
  | refuse => intro Q t h L a w hr hk; exact hk.elim

/-- A scope with jumps to whatever labels of its own. -/
theorem wp_scope_many {c : Code} {Q : Exit → Act → World → Prop} (J : Nat → Nat → Act → World → Prop)
    (first : c.wp P (fun e a w => match e with
      | .goto l => ∃ m, J l m a w
      | e => Q e a w) a w)
    (pass : ∀ l m a w, J l m a w → ∃ rest, findLabel c l = some rest ∧ rest.wp P (fun e a' w' => match e with
      | .goto l' => ∃ m', m' < m ∧ J l' m' a' w'
      | e => Q e a' w') a w) : (Code.scope c).wp P Q a w := by
  intro b k cs
  have key : ∀ n l a w, J l n a w → ∃ rest, findLabel c l = some rest ∧ ∃ e a' w', Q e a' w' ∧ Arrives P (lone (b.at a (.code rest :: .inScope c :: k)) cs w) b k cs e a' w' := by
    intro n
    induction n using Nat.strongRecOn with
    | _ n ih =>
      intro l a w hJ
      obtain ⟨rest, hf, hp⟩ := pass l n a w hJ
      refine ⟨rest, hf, ?_⟩
      obtain ⟨e, a₁, w₁, hq, harr⟩ := hp b (.inScope c :: k) cs
      cases e with
      | normal => exact ⟨.normal, a₁, w₁, hq, Steps.trans harr (.one step_inScope)⟩
      | exit id => exact ⟨.exit id, a₁, w₁, hq, fun k' hk => harr k' (by simp [exitTo, hk])⟩
      | goto l' =>
        obtain ⟨m, hlt, hJ'⟩ := hq
        obtain ⟨rest', hf', e₂, a₂, w₂, hq₂, harr₂⟩ := ih m hlt l' a₁ w₁ hJ'
        exact ⟨e₂, a₂, w₂, hq₂, .of_steps (harr _ (by simp [gotoIn, hf'])) harr₂⟩
      | ret => exact ⟨_, a₁, w₁, hq, harr⟩
      | panic ch => exact ⟨_, a₁, w₁, hq, harr⟩
      | outgrown => exact ⟨_, a₁, w₁, hq, harr⟩
  obtain ⟨e, a₁, w₁, hq, harr⟩ := first b (.inScope c :: k) cs
  cases e with
  | normal => exact ⟨.normal, a₁, w₁, hq, .head step_scope (Steps.trans harr (.one step_inScope))⟩
  | exit id => exact ⟨.exit id, a₁, w₁, hq, fun k' hk => .head step_scope (harr k' (by simp [exitTo, hk]))⟩
  | goto l' =>
    obtain ⟨m, hJ'⟩ := hq
    obtain ⟨rest', hf', e₂, a₂, w₂, hq₂, harr₂⟩ := key _ l' a₁ w₁ hJ'
    exact ⟨e₂, a₂, w₂, hq₂, .of_steps (.head step_scope (harr _ (by simp [gotoIn, hf']))) harr₂⟩
  | ret => exact ⟨_, a₁, w₁, hq, .of_steps (.one step_scope) harr⟩
  | panic ch => exact ⟨_, a₁, w₁, hq, .of_steps (.one step_scope) harr⟩
  | outgrown => exact ⟨_, a₁, w₁, hq, .of_steps (.one step_scope) harr⟩

theorem map_top_eq {t t' : List AV} (hlen : lenEq t t') : (t'.map fun _ => AV.top) = t.map fun _ => AV.top := by
  have := lenEq_length hlen
  rw [List.map_const', List.map_const', this]

theorem scopeK_sound (c : Code) {Q : Exit → List AV → List AO → Prop} {t : List AV} {h : List AO} {L : Loc} {a : Act} {w : World} (hr : Rel C t h L a w) (hk : scopeK P C.np c Q t h) :
    (Code.scope c).wp P (fun e a' w' => ∃ t' h' L', Rel C t' h' L' a' w' ∧ Q e t' h') a w := by
  obtain ⟨X, lab, sl, hp, inv, μ, hfirst, hpass⟩ := hk
  refine wp_scope_many (fun l m a w => ∃ x L, lab x = l ∧ inv x ∧ μ x = m ∧ Rel C (mkT (t.map fun _ => .top) (sl x)) (hp x) L a w) (wp_mono (awpS_sound (fun _ _ _ _ _ _ _ _ h => h.elim) c hr hfirst) fun e a' w' he => ?_) (fun l m a w hJ => ?_)
  · obtain ⟨t', h', L', hr', hq⟩ := he
    cases e with
    | goto l' =>
      obtain ⟨hlen, y, p, hl, hi, hle, ht⟩ := hq
      have := rel_mk hr' hle ht
      rw [map_top_eq hlen] at this
      exact ⟨μ y, y, _, hl, hi, rfl, this⟩
    | normal => exact ⟨t', h', L', hr', hq⟩
    | exit id => exact ⟨t', h', L', hr', hq⟩
    | ret => exact ⟨t', h', L', hr', hq⟩
    | panic ch => exact ⟨t', h', L', hr', hq⟩
    | outgrown => exact ⟨t', h', L', hr', hq⟩
  · obtain ⟨x, L, rfl, hi, rfl, hr⟩ := hJ
    obtain ⟨rest, hf, hw⟩ := awpAt_sound c hr (mkK_iff.1 (topsK_iff.1 (hpass x hi)))
    refine ⟨rest, hf, wp_mono hw fun e a' w' he => ?_⟩
    obtain ⟨t', h', L', hr', hq⟩ := he
    cases e with
    | goto l' =>
      obtain ⟨hlen, y, p, hl, hi, hlt, hle, ht⟩ := hq
      have := rel_mk hr' hle ht
      rw [map_top_eq hlen] at this
      exact ⟨μ y, hlt, y, _, hl, hi, rfl, this⟩
    | normal => exact ⟨t', h', L', hr', hq⟩
    | exit id => exact ⟨t', h', L', hr', hq⟩
    | ret => exact ⟨t', h', L', hr', hq⟩
    | panic ch => exact ⟨t', h', L', hr', hq⟩
    | outgrown => exact ⟨t', h', L', hr', hq⟩

theorem awp_sound (c : Code) {Q : Exit → List AV → List AO → Prop} {t : List AV} {h : List AO} {L : Loc} {a : Act} {w : World} (hr : Rel C t h L a w) (hk : awp P C.np c Q t h) :
    c.wp P (fun e a' w' => ∃ t' h' L', Rel C t' h' L' a' w' ∧ Q e t' h') a w :=
  awpS_sound (fun c _ _ _ _ _ _ hr hk => scopeK_sound c hr hk) c hr hk

def resOf (tmps : Array Value) : ResultVar → Sem Value
  | .tmp t => pure (tmps.getD t undef)
  | .cell x t => do loadVar t (← asAddr (tmps.getD x undef))
theorem results_eq (fn : Func) (tmps : Array Value) : results fn tmps = (fn.results.mapM (resOf tmps) >>= fun vs => pure (if h : vs.size = 1 then vs[0] else .tuple vs)) := by
  unfold results
  congr 2

theorem loadK_ptr {S : Nat → Prop} {T : TypeId} {x : AV} {vx : Value} {K : AV → Prop} (hx : den w S L x vx) (hk : loadK P T h x K) : ∃ A, vx = .pointer (some A) := by
  unfold loadK at hk
  split at hk
  · obtain ⟨A, rfl, _⟩ := hx; exact ⟨A, rfl⟩
  · obtain ⟨_, b, _, rfl⟩ := hx; exact ⟨_, rfl⟩
  · exact hk.elim

theorem resK_spec (hr : Rel C t h L a w) : ∀ {rs : List ResultVar} {K : List AV → Prop}, resK P h t rs K →
    ∃ l, K l ∧ l.length = rs.length ∧ ∃ us : List Value, us.length = rs.length ∧ ((rs.mapM (resOf a.tmps)).run P w = .ok us w) ∧ ∀ i, i < rs.length → ∃ u, us[i]? = some u ∧ den w (SS C w h L) L (l.getD i .top) u
  | [], K, hk => ⟨[], hk, rfl, [], rfl, rfl, by simp⟩
  | .tmp i :: rs, K, hk => by
    have hk1 := getK_iff.1 hk
    obtain ⟨l, h1, h2, us, h3, h4, h5⟩ := resK_spec hr hk1
    refine ⟨t.getD i .top :: l, h1, by simp [h2], a.tmps.getD i undef :: us, by simp [h3], ?_, fun j hj => ?_⟩
    · rw [List.mapM_cons]
      simp only [resOf, Sem.run_bind, Sem.run_pure, Result.andThen_ok, h4]
    · cases j with
      | zero => exact ⟨_, rfl, hr.get i⟩
      | succ j => simpa using h5 j (by simpa using hj)
  | .cell i T :: rs, K, hk => by
    have hk1 := getK_iff.1 hk
    obtain ⟨A, hA⟩ := loadK_ptr (hr.get i) hk1
    obtain ⟨v, x, g1, g2, g3⟩ := loadK_spec hr.heap (hr.get i) hk1
    obtain ⟨l, h1, h2, us, h3, h4, h5⟩ := resK_spec hr g3
    have g4 := g1 w (Ext.refl w)
    rw [hA] at g4
    have g5 : (loadVar T A).run P w = .ok v w := g4
    refine ⟨x :: l, h1, by simp [h2], v :: us, by simp [h3], ?_, fun j hj => ?_⟩
    · rw [List.mapM_cons]
      simp only [resOf, hA, asAddr, Sem.run_bind, Sem.run_pure, Result.andThen_ok, g5, h4]
    · cases j with
      | zero => exact ⟨_, rfl, g2⟩
      | succ j => simpa using h5 j (by simpa using hj)

def resV : List Value → Value
  | [u] => u
  | us => .tuple us.toArray
theorem run_results (fn : Func) (tmps : Array Value) (w : World) {us : List Value} (h : (fn.results.toList.mapM (resOf tmps)).run P w = .ok us w) :
    (results fn tmps).run P w = .ok (resV us) w := by
  rw [results_eq, Array.mapM_eq_mapM_toList]
  simp only [Sem.run_bind, Sem.run_map, h, Result.andThen_ok, Sem.run_pure]
  match us with
  | [] => rfl
  | [u] => rfl
  | u :: v :: r =>
    simp
    rfl

theorem retK_spec (hr : Rel C t h L a w) {fn : Func} {R : AV → List AO → Prop} {e : Exit} (hk : retK P C.np fn.results.toList R e t h) :
    (e = .ret ∨ e = .normal) ∧ ∃ v r h' L', (results fn a.tmps).run P w = .ok v w ∧ R r h' ∧ HRel C h' L' w ∧ den w (SS C w h' L') L' r v := by
  have go : (resK P h t fn.results.toList fun l => match l with
      | [a] => ∃ l h1 b, LeH C.np h l h1 ∧ LeV h l a b ∧ R b h1
      | m => ∃ l h1 b, LeH C.np h l h1 ∧ LeV h l (.tup m.length fun i => m.getD i .top) b ∧ R b h1) →
      ∃ v r h' L', (results fn a.tmps).run P w = .ok v w ∧ R r h' ∧ HRel C h' L' w ∧ den w (SS C w h' L') L' r v := by
    intro hk
    obtain ⟨l, hl, hn, us, hu, hrun, hd⟩ := resK_spec hr hk
    have hres := run_results fn a.tmps w hrun
    have fin : ∀ {x : AV} {v : Value}, den w (SS C w h L) L x v → (∃ l h1 b, LeH C.np h l h1 ∧ LeV h l x b ∧ R b h1) → (results fn a.tmps).run P w = .ok v w →
        ∃ v r h' L', (results fn a.tmps).run P w = .ok v w ∧ R r h' ∧ HRel C h' L' w ∧ den w (SS C w h' L') L' r v := fun hx ⟨l, h1, b, g1, g2, g3⟩ hv =>
      ⟨_, b, h1, _, hv, g3, leh_rel hr.heap g1, g2.den hr.heap (leh_seen hr.heap g1) hx⟩
    split at hl
    · rename_i x
      have hu1 : us.length = 1 := by rw [hu, ← hn]; rfl
      obtain ⟨u, rfl⟩ : ∃ u, us = [u] := by
        rcases us with _ | ⟨u, _ | ⟨v, r⟩⟩
        · cases hu1
        · exact ⟨u, rfl⟩
        · simp at hu1
      obtain ⟨u', h1, h2⟩ := hd 0 (by rw [← hn]; simp)
      cases h1
      exact fin h2 hl hres
    · rename_i hne
      have hus : resV us = .tuple us.toArray := by
        rcases us with _ | ⟨u, _ | ⟨v, r⟩⟩
        · rfl
        · have h1 : l.length = 1 := by rw [hn, ← hu]; rfl
          rcases l with _ | ⟨x, _ | ⟨y, r⟩⟩
          · cases h1
          · exact absurd rfl (hne x)
          · simp at h1
        · rfl
      rw [hus] at hres
      refine fin (x := .tup l.length fun i => l.getD i .top) ⟨us.toArray, rfl, by simp [hu, hn], fun i hi => ?_⟩ hl hres
      obtain ⟨u, h1, h2⟩ := hd i (by omega)
      exact ⟨u, by simpa using h1, h2⟩
  unfold retK at hk
  split at hk
  · exact ⟨.inl rfl, go hk⟩
  · exact ⟨.inr rfl, go hk⟩
  · exact hk.elim

theorem frameK_go : ∀ {n : Nat} {K : List AV → Prop}, frameK.go n K → K (List.replicate n .top)
  | 0, _, hk => hk
  | n + 1, K, hk => by
    have := frameK_go (n := n) hk
    simpa [List.replicate_succ] using this
theorem frameK_spec : ∀ {args : List AV} {n : Nat} {K : List AV → Prop}, frameK n args K → K (args ++ List.replicate (n - args.length) .top)
  | [], n, K, hk => by simpa using frameK_go hk
  | x :: l, 0, K, hk => by simpa using frameK_spec (args := l) (n := 0) hk
  | x :: l, n + 1, K, hk => by
    have := frameK_spec (args := l) (n := n) hk
    simpa using this

/-- THE CONTRACT of a function, out of its body. -/
theorem acalls {f : FuncId} {fn : Func} {c : Code} {args : List AV} {h : List AO} {R : AV → List AO → Prop} (hf : P.funcs[f]? = some fn) (hb : fn.body = some c) (hnm : (fn.name == "runtime.NumGoroutine") = false)
    (hk : frameK fn.ntmps args fun t => awp P h.length c (retK P h.length fn.results.toList R) t h) : ACalls P f args h R := by
  refine ⟨⟨fn, hf, hnm, by rw [hb]; rfl⟩, fun S0 L w vs hh hS hn hv => ?_⟩
  have hk1 := frameK_spec hk
  refine calls_of_wp hf hb ?_
  have hS0 : ∀ b, S0 b → SS ⟨w, S0, h.length, L⟩ w h L b := fun b hb => ⟨(hS b hb).1, .inl hb, fun i hi => (hS b hb).2 i (live_lt hi)⟩
  have hrel : Rel ⟨w, S0, h.length, L⟩ (args ++ List.replicate (fn.ntmps - args.length) .top) h L { tmps := vs ++ Array.replicate (fn.ntmps - vs.size) undef, defers := [] } w := by
    refine ⟨hh, by simp [hn], fun i x hi => ?_, rfl⟩
    rcases Nat.lt_or_ge i args.length with hlt | hge
    · rw [List.getElem?_append_left hlt] at hi
      obtain ⟨u, h1, h2⟩ := hv i x hi
      exact ⟨u, by rw [Array.getElem?_append_left (by omega)]; exact h1, den_mono (fun _ _ => rfl) hS0 (.refl _) x u h2⟩
    · rw [List.getElem?_append_right hge] at hi
      have h1 := (List.getElem?_eq_some_iff.1 hi).1
      simp at h1
      rw [List.getElem?_replicate, if_pos h1] at hi
      cases hi
      exact ⟨undef, by rw [Array.getElem?_append_right (by omega), hn]; simp [h1], trivial⟩
  refine wp_mono (awp_sound c (C := ⟨w, S0, h.length, L⟩) hrel hk1) fun e a' w' he => ?_
  obtain ⟨t', h', L', hr', hq⟩ := he
  obtain ⟨he, v, r, h2, M, h3, h4, h5, h6⟩ := retK_spec (P := P) hr' hq
  rcases he with rfl | rfl
  · exact ⟨hr'.defers, v, h3, v, r, h2, M, rfl, h4, h5, h6⟩
  · exact ⟨hr'.defers, v, h3, v, r, h2, M, rfl, h4, h5, h6⟩

end
end Go.Proofs.YtmohncaoimeneaaDoor.AL
