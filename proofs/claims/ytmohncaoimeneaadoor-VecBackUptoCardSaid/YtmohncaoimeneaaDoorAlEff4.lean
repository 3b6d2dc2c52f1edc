/-
  The state's own logic is sound: copies, what is written out, calls. No program in sight.
-/
import Derived.Test.YtmohncaoimeneaaDoorAlEff3
set_option linter.unusedVariables false
set_option linter.unusedSimpArgs false
set_option linter.unusedSectionVars false
namespace Go.Proofs.YtmohncaoimeneaaDoor.AL
open Go
variable [Globs]

section
variable {P : Program} {C : Ctx} {t : List AV} {h : List AO} {L : Loc} {a : Act} {w : World}

theorem copyK_spec (hr : HRel C h L w) {T T2 ty : TypeId} {s x : AV} {vs vx : Value} {K : AV → List AO → Prop} (hs : den w (SS C w h L) L s vs) (hx : den w (SS C w h L) L x vx)
    (hk : copyK P T h s x K) : EffV P C h L w (Builtin.copy_ #[T, T2] ty #[vs, vx]) K := by
  unfold copyK at hk
  split at hk
  · rename_i e ht
    split at hk
    · rename_i k hik
      obtain ⟨sz, hss, _, hk1⟩ := sizeK_spec hk
      obtain ⟨rfl, hk2⟩ := sure_iff.1 hk1
      clear hk hk1
      split at hk2
      · rename_i id off len
        replace hk2 := getO_iff.1 hk2
        obtain ⟨o, ho, hk2⟩ := hk2
        split at hk2
        · rename_i k' xs
          obtain ⟨rfl, hle, hk3⟩ := sameKind_iff.1 hk2
          obtain ⟨ys, hk4, hsrc⟩ := intsK_spec (P := P) hr hx hk3
          obtain ⟨_, hk5⟩ := setO_iff.1 hk4
          obtain ⟨us, u1, u2, u3, u4⟩ := hsrc.cells
          have hrun : ∀ {base : Option Addr} {cap : Nat} {w' : World}, vs = .slice base len cap → (∀ a, base = some a → (storeCells a (us.take (min ys.length len * 1))).run P w = .ok () w') → (base = none → w' = w) →
              (Builtin.copy_ #[T, T2] ty #[vs, vx]).run P w = .ok (.int .i64 (min ys.length len : Nat)) w' := by
            intro base cap w' e1 hst hno
            subst e1
            have := u2 w (min ys.length len) rfl (Nat.min_le_left _ _)
            cases base with
            | none =>
              obtain rfl := hno rfl
              simp [Builtin.copy_, run_underlying ht, hsrc.len, hss, this, goInt]
            | some a =>
              have h1 := hst a rfl
              rw [Nat.mul_one] at h1 this
              simp [Builtin.copy_, run_underlying ht, hsrc.len, hss, this, goInt, h1]
          have hlen : (xs.take off ++ ys.take len ++ xs.drop (off + min ys.length len)).length = xs.length := by simp; omega
          obtain ⟨_, ⟨e0, A, rfl⟩ | ⟨b, cap, hb, rfl, hcap, hszb⟩⟩ := hs
          · subst e0
            have hxs : xs.take off ++ ys.take 0 ++ xs.drop (off + min ys.length 0) = xs := by simp
            rw [hxs] at hk5
            have hset : h.set id (.ints k' xs) = h := by
              apply List.ext_getElem?
              intro j
              by_cases e : id = j
              · subst e; rw [List.getElem?_set_self (by assumption), ho]
              · rw [List.getElem?_set_ne e]
            rw [hset] at hk5
            exact ⟨_, .raw _, _, _, _, hrun rfl (fun a _ => by simp [storeCells]) (fun _ => rfl), .refl hr, rfl, hk5⟩
          · have hlive : Live h id := ⟨_, ho, trivial⟩
            have hn : xs.length ≤ L.sz id := by
              rcases hr.objs id _ ho with ⟨_, h2⟩ | ⟨_, _, _, _, _, _, _, h2, h3, _⟩
              · rw [hb] at h2; cases h2
              · exact h3
            have htl : (us.take (min ys.length len * 1)).length = min ys.length len := by simp; omega
            obtain ⟨w', g1, g2, g3, g4, g5⟩ := store_block (P := P) (vs := us.take (min ys.length len * 1)) hr hlive hb (hr.objs id _ ho) (fun v hv => u3 v (List.mem_of_mem_take hv)) (off := off) (by rw [htl]; omega)
            have hobj : objIs w' (SS C w h L) L (L.b id) (L.sz id) (.ints k' (xs.take off ++ ys.take len ++ xs.drop (off + min ys.length len))) := by
              show cellsAre _ _ _ _ _
              rw [hlen, hb]
              refine g5 _ _ hn fun i hi => ?_
              rw [htl]
              simp only [List.getD_eq_getElem?_getD]
              by_cases e : off ≤ i ∧ i < off + min ys.length len
              · obtain ⟨u, h3, h4⟩ := u4 (i - off) (by omega)
                refine .inl ⟨e.1, e.2, u, by rw [List.getElem?_take_of_lt (by omega)]; exact h3, ?_⟩
                rw [h4, List.append_assoc, List.getElem?_append_right (by simp; omega), List.getElem?_append_left (by simp; omega)]
                have hm : min off xs.length = off := by omega
                rw [List.length_take, hm, List.getElem?_take_of_lt (by omega), List.getD_eq_getElem?_getD]
              · refine .inr ⟨e, hi, fun u hu => ?_⟩
                rw [hu]
                congr 2
                rcases Nat.lt_or_ge i off with h1 | h1
                · rw [List.append_assoc, List.getElem?_append_left (by simp; omega), List.getElem?_take_of_lt h1]
                · have hm : min off xs.length = off := by omega
                  rw [List.getElem?_append_right (by simp; omega), List.getElem?_drop, List.length_append, List.length_take, List.length_take, hm]
                  congr 1
                  omega
            exact ⟨_, .raw _, _, _, _, hrun rfl (fun a ha => by cases ha; exact g1) (fun h => by cases h), step_upd hr g2 g3 hlive hb g4 hobj, rfl, hk5⟩
        · exact hk2.elim
      · exact hk2.elim
    · exact hk.elim
  · exact hk.elim

/-- Cells, each as it is known. -/
def denL (w : World) (S : Nat → Prop) (L : Loc) (l : List AV) (c : Array Value) : Prop := c.size = l.length ∧ ∀ i, i < l.length → ∃ u, c[i]? = some u ∧ den w S L (l.getD i .top) u

theorem fold_set (off : Nat) : ∀ (vs : List Value) (k : Nat) (c : Array Value), (((vs.zipIdx k).foldl (fun cs (x : Value × Nat) => cs.setIfInBounds (off + x.2) x.1) c).size = c.size) ∧
    ∀ j, off + k + vs.length ≤ c.size → ((vs.zipIdx k).foldl (fun cs (x : Value × Nat) => cs.setIfInBounds (off + x.2) x.1) c)[j]? = if off + k ≤ j ∧ j < off + k + vs.length then vs[j - (off + k)]? else c[j]?
  | [], k, c => ⟨rfl, fun j _ => by rw [if_neg (by simp)]; rfl⟩
  | v :: vs, k, c => by
    obtain ⟨h1, h2⟩ := fold_set off vs (k + 1) (c.setIfInBounds (off + k) v)
    simp only [List.zipIdx_cons, List.foldl_cons]
    refine ⟨by rw [h1]; simp, fun j hj => ?_⟩
    simp only [List.length_cons] at hj ⊢
    rw [h2 j (by simp; omega)]
    by_cases e : off + k ≤ j ∧ j < off + k + (vs.length + 1)
    · rw [if_pos e]
      by_cases e1 : j = off + k
      · subst e1
        have hlt : off + k < c.size := by omega
        rw [if_neg (by omega)]
        simp [hlt]
      · rw [if_pos (by omega), show j - (off + k) = (j - (off + (k + 1))) + 1 by omega, List.getElem?_cons_succ]
    · rw [if_neg e, if_neg (by omega), Array.getElem?_setIfInBounds_ne (by omega)]

/-- The parts that are written out, and what is known of them. -/
def denP (w : World) (S : Nat → Prop) (L : Loc) (l : List (Nat × AV)) (p : List (Nat × Value)) : Prop :=
  l.length = p.length ∧ ∀ (i : Nat) (x : Nat × AV), l[i]? = some x → ∃ y, p[i]? = some y ∧ y.1 = x.1 ∧ den w S L x.2 y.2

theorem fillL_spec {S : Nat → Prop} {place : Nat → Option (Nat × Nat)} : ∀ {parts : List (Nat × AV)} {ps : List (Nat × Value)} {l : List AV} {c : Array Value} {K : List AV → Prop}, denP w S L parts ps → denL w S L l c → fillL place parts l K →
    ∃ l' c', Instr.fill place c ps = some c' ∧ denL w S L l' c' ∧ l'.length = l.length ∧ K l'
  | [], [], l, c, K, _, hl, hk => ⟨l, c, rfl, hl, rfl, hk⟩
  | [], _ :: _, _, _, _, hp, _, _ => by simp [denP] at hp
  | _ :: _, [], _, _, _, hp, _, _ => by simp [denP] at hp
  | (i, x) :: parts, (j, v) :: ps, l, c, K, hp, hl, hk => by
    obtain ⟨hp1, hp2⟩ := hp
    obtain ⟨y, hy1, hy2, hx⟩ := hp2 0 (i, x) rfl
    simp at hy1
    subst hy1
    simp at hy2
    subst hy2
    have hrest : denP w S L parts ps := ⟨by simpa using hp1, fun k z hz => by
      obtain ⟨y, h1, h2⟩ := hp2 (k + 1) z (by simpa using hz)
      exact ⟨y, by simpa using h1, h2⟩⟩
    -- one part laid
    have lay : ∀ {vs : List Value} {m : List AV} {l' : List AV} {off sz : Nat}, place j = some (off, sz) → v.cells.toList = vs → vs.length = sz → m.length = sz → (∀ k, k < sz → ∃ u, vs[k]? = some u ∧ den w S L (m.getD k .top) u) → off + sz ≤ l.length →
        l' = l.take off ++ m ++ l.drop (off + sz) → fillL place parts l' K →
        ∃ l' c', Instr.fill place c ((j, v) :: ps) = some c' ∧ denL w S L l' c' ∧ l'.length = l.length ∧ K l' := by
      intro vs m l' off sz hpl hv hvl hml hcells hle hl' hk
      have hsz : v.cells.size = sz := by rw [← Array.length_toList, hv, hvl]
      obtain ⟨g1, g2⟩ := fold_set off vs 0 c
      have hlen : l'.length = l.length := by rw [hl']; simp; omega
      have hcs : c.size = l.length := hl.1
      let c1 := ((vs.zipIdx 0).foldl (fun cs (x : Value × Nat) => cs.setIfInBounds (off + x.2) x.1) c)
      have hl1 : denL w S L l' c1 := by
        refine ⟨by rw [g1, hcs, hlen], fun k hk' => ?_⟩
        have := g2 k (by omega)
        simp only [Nat.add_zero] at this
        by_cases e : off ≤ k ∧ k < off + vs.length
        · rw [if_pos e] at this
          obtain ⟨u, h1, h2⟩ := hcells (k - off) (by omega)
          refine ⟨u, by rw [this]; exact h1, ?_⟩
          have hm : min off l.length = off := by omega
          have : l'.getD k .top = m.getD (k - off) .top := by
            rw [hl', List.getD_eq_getElem?_getD, List.getD_eq_getElem?_getD, List.append_assoc, List.getElem?_append_right (by simp; omega), List.getElem?_append_left (by simp; omega), List.length_take, hm]
          rw [this]; exact h2
        · rw [if_neg e] at this
          obtain ⟨u, h1, h2⟩ := hl.2 k (by omega)
          refine ⟨u, by rw [this]; exact h1, ?_⟩
          have hm : min off l.length = off := by omega
          have : l'.getD k .top = l.getD k .top := by
            rw [hl', List.getD_eq_getElem?_getD, List.getD_eq_getElem?_getD]
            rcases Nat.lt_or_ge k off with h3 | h3
            · rw [List.append_assoc, List.getElem?_append_left (by simp; omega), List.getElem?_take_of_lt h3]
            · rw [List.getElem?_append_right (by simp; omega), List.getElem?_drop, List.length_append, List.length_take, hm, hml]
              congr 2
              omega
          rw [this]; exact h2
      obtain ⟨l2, c2, h1, h2, h3, h4⟩ := fillL_spec hrest hl1 hk
      refine ⟨l2, c2, ?_, h2, by rw [h3, hlen], h4⟩
      unfold Instr.fill
      have e1 : ¬ ((v.cells.size ≠ sz || decide (off + v.cells.size > c.size)) = true) := by
        simp [hsz]; omega
      simp only [hpl, e1, if_false]
      have e2 : (v.cells.zipIdx.foldl (fun cs (x : Value × Nat) => cs.setIfInBounds (off + x.2) x.1) c) = c1 := by
        rw [← Array.foldl_toList, Array.toList_zipIdx, hv]
      simp only [e2]
      exact h1
    unfold fillL at hk
    split at hk
    · exact hk.elim
    · rename_i off sz hpl
      split at hk
      · rename_i n f
        obtain ⟨rfl, hk1⟩ := sure_iff.1 hk
        obtain ⟨hle, hk2⟩ := sure_iff.1 hk1
        obtain ⟨vs, e, hn, hc⟩ := hx
        simp at e
        subst e
        refine lay (vs := vs.toList) (m := (List.range n).map f) hpl rfl (by simpa using hn) (by simp) (fun k hk' => ?_) hle rfl hk2
        obtain ⟨u, h1, h2⟩ := hc k hk'
        exact ⟨u, by simpa using h1, by rw [tab_get hk']; exact h2⟩
      · rename_i k xs
        obtain ⟨e0, hk1⟩ := hk
        obtain ⟨hle, hk2⟩ := sure_iff.1 hk1
        have e : v = .agg (xs.map (Value.int k)).toArray := hx
        subst e
        refine lay (vs := xs.map (Value.int k)) hpl rfl (by simpa using e0.symm) (by simp) (fun j hj => ⟨.int k (xs.getD j 0), ?_, ?_⟩) hle rfl hk2
        · have : j < xs.length := by omega
          simp [this]
        · rw [tab_get hj]; rfl
      · split at hk
        · rename_i hc1
          obtain ⟨rfl, hk1⟩ := sure_iff.1 hk
          obtain ⟨hlt, hk2⟩ := sure_iff.1 hk1
          have hk3 := setK_iff.1 hk2
          obtain ⟨g1, g2⟩ := cell1_cells hc1 hx
          refine lay (vs := [v]) (m := [x]) hpl (by rw [g1]) rfl rfl (fun k hk' => ?_) (by omega) ?_ hk3
          · obtain rfl : k = 0 := by omega
            exact ⟨v, rfl, hx⟩
          exact List.set_eq_take_append_cons_drop.trans (by rw [if_pos hlt]; simp)
        · exact hk.elim

theorem explicitInts_spec {S : Nat → Prop} {k : IntKind} : ∀ {l : List AV} {K : List Int → Prop}, explicitInts k l K → ∃ xs, K xs ∧ xs.length = l.length ∧ ∀ i, i < l.length → l.getD i .top = int k (xs.getD i 0)
  | [], K, hk => ⟨[], hk, rfl, fun i hi => by simp at hi⟩
  | .raw (.int k' n) :: l, K, hk => by
    obtain ⟨rfl, hk1⟩ := sameKind_iff.1 hk
    obtain ⟨xs, h1, h2, h3⟩ := explicitInts_spec (S := S) hk1
    refine ⟨n :: xs, h1, by simp [h2], fun i hi => ?_⟩
    cases i with
    | zero => rfl
    | succ i => simpa using h3 i (by simpa using hi)

theorem partsK_spec (hr : Rel C t h L a w) : ∀ {xs : List (Nat × Operand)} {K : List (Nat × AV) → Prop}, partsK t xs K →
    ∃ vs, denP w (SS C w h L) L vs (xs.map fun x => (x.1, a.eval x.2)) ∧ K vs
  | [], K, hk => ⟨[], ⟨rfl, by simp⟩, hk⟩
  | (i, x) :: xs, K, hk => by
    obtain ⟨v, h1, h2⟩ := evK_spec hr hk
    obtain ⟨vs, ⟨h3, h4⟩, h5⟩ := partsK_spec hr h2
    refine ⟨(i, v) :: vs, ⟨by simpa using h3, fun j y hj => ?_⟩, h5⟩
    cases j with
    | zero => simp at hj; subst hj; exact ⟨_, rfl, rfl, h1⟩
    | succ j => simpa using h4 j y (by simpa using hj)

theorem denL_new (hr : HRel C h L w) {w' : World} {ob : Obj} (hw : w'.heap = w.heap.push ob) {L' : Loc} (hL : L.le L') {l : List AV} {c : Array Value} (hx : denL w (SS C w h L) L l c) : denL w' (SS C w h L) L' l c :=
  ⟨hx.1, fun i hi => let ⟨u, h1, h2⟩ := hx.2 i hi; ⟨u, h1, den_new hr hw hL h2⟩⟩

theorem buildSliceK_spec (hr : HRel C h L w) {T : TypeId} {len : Nat} {parts : List (Nat × AV)} {ps : Array (Nat × Value)} {K : AV → List AO → Prop} (hp : denP w (SS C w h L) L parts ps.toList)
    (hk : buildSliceK P T h len parts K) : EffV P C h L w (Instr.buildSlice T len ps) K := by
  unfold buildSliceK at hk
  split at hk
  · rename_i e hu
    obtain ⟨sz, hss, _, hk1⟩ := sizeK_spec hk
    obtain ⟨hpos, hk2⟩ := sure_iff.1 hk1
    obtain ⟨hlim, hk3⟩ := sure_iff.1 hk2
    obtain ⟨z, hz, hk4⟩ := zeroK_spec hk3
    obtain ⟨hzs, hk5⟩ := sure_iff.1 hk4
    have hl0 : denL w (SS C w h L) L ((List.range (len * sz)).map fun i => .raw (z.cells[i % sz]!)) ((Array.range (len * sz)).map (z.cells[· % z.cells.size]!)) := by
      refine ⟨by simp, fun i hi => ?_⟩
      simp at hi
      exact ⟨z.cells[i % sz]!, by simp [hi, hzs], by rw [tab_get hi]; rfl⟩
    obtain ⟨l, c, h1, h2, h3, hk6⟩ := fillL_spec hp hl0 hk5
    have hlen : l.length = len * sz := by rw [h3]; simp
    have hrun : (Instr.buildSlice T len ps).run P w = .ok (.slice (some ⟨w.heap.size, 0, none⟩) len len) { w with heap := w.heap.push (.cells c e) } := by
      unfold Instr.buildSlice
      have e1 : ¬ (len * sz > 2 ^ 24) := by omega
      simp only [Sem.run_bind, run_underlying hu, Result.andThen_ok, hss, e1, if_false, Sem.run_pure]
      by_cases e0 : len * sz = 0
      · have h00 : ∀ f : Nat → Value, Array.map f (Array.range (len * sz)) = #[] := fun f => Array.eq_empty_of_size_eq_zero (by simpa using e0)
        rw [h00] at h1
        simp only [e0, if_true, Sem.run_pure, Result.andThen_ok]
        have h01 : ∀ f : Nat → Value, Array.map f (Array.range 0) = #[] := fun f => Array.eq_empty_of_size_eq_zero (by simp)
        simp only [h01, h1, run_newRow, Sem.run_bind, Result.andThen_ok, Sem.run_pure]
      · simp only [e0, if_false, Sem.run_bind, hz, Result.andThen_ok, Sem.run_pure, h1, run_newRow]
    split at hk6
    · rename_i k hik
      obtain ⟨hs1, hk6⟩ := sure_iff.1 hk6
      obtain ⟨xs, hk7, hxl, hxs⟩ := explicitInts_spec (S := SS C w h L) hk6
      refine new_row hr hrun (no_frozen _) rfl ⟨rfl, rfl, rfl⟩ (Nat.le_refl _) (Nat.le_of_eq (by rw [h2.1, hlen, hs1])) (fun w' L' hw hL => ?_) hk7
      refine cells_new hw (no_frozen _) (Nat.le_of_eq (by rw [h2.1, hxl])) fun i hi => ?_
      obtain ⟨u, g1, g2⟩ := h2.2 i (by omega)
      rw [hxs i (by omega)] at g2
      exact ⟨u, g1, g2⟩
    · refine new_row hr hrun (no_frozen _) rfl ⟨rfl, rfl, rfl⟩ (Nat.le_refl _) (Nat.le_of_eq (by rw [h2.1, hlen])) (fun w' L' hw hL => ?_) hk6
      exact cells_new hw (no_frozen _) (Nat.le_of_eq (by rw [h2.1])) (denL_new hr hw hL h2).2
  · exact hk.elim

theorem run_mapM_list {α β : Type} (f : α → Sem β) (g : α → β) : ∀ (l : List α) (w : World), (∀ x ∈ l, ∀ w, (f x).run P w = .ok (g x) w) → (l.mapM f).run P w = .ok (l.map g) w
  | [], w, _ => rfl
  | x :: l, w, h => by
    rw [List.mapM_cons]
    simp only [Sem.run_bind, h x List.mem_cons_self, Result.andThen_ok, run_mapM_list f g l w (fun y hy => h y (List.mem_cons_of_mem _ hy)), Sem.run_pure, List.map_cons]
theorem run_mapM_array {α β : Type} (f : α → Sem β) (g : α → β) (l : Array α) (w : World) (h : ∀ x ∈ l.toList, ∀ w, (f x).run P w = .ok (g x) w) : (l.mapM f).run P w = .ok (l.map g) w := by
  rw [Array.mapM_eq_mapM_toList, Sem.run_map, run_mapM_list f g l.toList w h]
  simp only [Result.andThen_ok]
  congr 1
  apply Array.ext'
  simp

theorem buildK_spec {S : Nat → Prop} {T : TypeId} {parts : List (Nat × AV)} {ps : Array (Nat × Value)} {K : AV → Prop} (hp : denP w S L parts ps.toList) (hk : buildK P T parts K) :
    Gives P w (den w S L) (Instr.build T ps) K := by
  unfold buildK at hk
  obtain ⟨z, hz, hk1⟩ := zeroK_spec hk
  have hl0 : denL w S L (z.cells.toList.map .raw) z.cells := ⟨by simp, raws_cells z⟩
  split at hk1
  · rename_i n e hu
    obtain ⟨sz, hss, _, hk2⟩ := sizeK_spec hk1
    obtain ⟨l, c, h1, h2, h3, hk3⟩ := fillL_spec hp hl0 hk2
    have hrun : ∀ w', (Instr.build T ps).run P w' = .ok (.agg c) w' := fun w' => by
      unfold Instr.build
      simp only [Sem.run_bind, hz, run_underlying hu, Result.andThen_ok, hss, h1, Sem.run_pure]
    split at hk3
    · rename_i k hik
      obtain ⟨xs, hk4, hxl, hxs⟩ := explicitInts_spec (S := S) hk3
      refine .of hk4 ?_ fun w' _ => hrun w'
      show Value.agg c = _
      congr 1
      apply Array.ext_getElem?
      intro i
      rcases Nat.lt_or_ge i l.length with hi | hi
      · obtain ⟨u, g1, g2⟩ := h2.2 i hi
        rw [hxs i hi] at g2
        rw [g1, g2]
        have : i < xs.length := by omega
        simp [List.getD_eq_getElem?_getD, this]
      · rw [Array.getElem?_eq_none (by rw [h2.1]; omega), Array.getElem?_eq_none (by simp; omega)]
    · exact .of hk3 ⟨c, rfl, h2.1, h2.2⟩ fun w' _ => hrun w'
  · rename_i fs hu
    obtain ⟨hall, hk2⟩ := sure_iff.1 hk1
    obtain ⟨l, c, h1, h2, h3, hk3⟩ := fillL_spec hp hl0 hk2
    have hsz : ∀ (fs : List Field), allSized P fs = true → ∀ f ∈ fs, ∃ i, P.info? f.type = some i := by
      intro fs
      induction fs with
      | nil => intro _ f hf; cases hf
      | cons f r ih =>
        intro ha g hg
        unfold allSized at ha
        split at ha
        · rename_i i hi
          cases hg with
          | head => exact ⟨i, hi⟩
          | tail _ hg => exact ih ha g hg
        · cases ha
    have hm : ∀ w', (fs.mapM (fun (f : Field) => (do pure (f.offset, ← sizeOf f.type) : Sem (Nat × Nat)))).run P w' = .ok (fs.map fun f => (f.offset, ((P.info? f.type).map (·.size)).getD 0)) w' := fun w' =>
      run_mapM_array _ _ fs w' fun f hf w => by
        obtain ⟨i, hi⟩ := hsz fs.toList hall f hf
        simp [sizeOf, typeInfo, hi]
    have hplace : (fun i => (fs.map fun f => (f.offset, ((P.info? f.type).map (·.size)).getD 0))[i]?) = fieldPlace? P fs.toList := by
      funext i
      unfold fieldPlace?
      rw [Array.getElem?_map, Array.getElem?_toList]
      cases e : fs[i]? with
      | none => rfl
      | some f =>
        obtain ⟨j, hj⟩ := hsz fs.toList hall f (by
          have := Array.getElem?_eq_some_iff.1 e
          obtain ⟨h1, h2⟩ := this
          rw [← h2]; exact Array.getElem_mem_toList h1)
        simp [hj]
    refine .of hk3 ⟨c, rfl, h2.1, h2.2⟩ fun w' _ => ?_
    unfold Instr.build
    simp only [Sem.run_bind, hz, run_underlying hu, Result.andThen_ok, hm, hplace, h1, Sem.run_pure]
  · exact hk1.elim

end
end Go.Proofs.YtmohncaoimeneaaDoor.AL
