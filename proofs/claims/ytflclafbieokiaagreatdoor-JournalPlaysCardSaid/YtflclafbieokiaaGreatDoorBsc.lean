import Derived.Maps.RangeRun
import Derived.Tactics
import Derived.Scope
import Derived.Laws.BitsLemmas
import Derived.ProofKit
import Derived.SizedLaws
import Derived.OpenShut
import Derived.Lib.SmallJoins
import Derived.Test.YtflclafbieokiaaGreatDoorBsb

/-
  The state's own logic is sound: whole functions; small lemmas for its use; what a law's row asks.
-/
set_option linter.unusedVariables false
set_option linter.unusedSimpArgs false
set_option linter.unusedSectionVars false

namespace Go.Proofs.YtflclafbieokiaaGreatDoor.AL
open Go
variable [Globs]

section
variable {P : Program} {C : Ctx} {t : List AV} {h : List AO} {L : Loc} {a : Act} {w : World}

def Loc.view (L : Loc) (l : List Nat) : Loc :=
  ⟨l.length, fun i => match l[i]? with | some j => if j < L.n then L.b j else none | none => none, fun i => match l[i]? with | some j => L.sz j | none => 0⟩
theorem view_b {l : List Nat} {i j : Nat} (e : l[i]? = some j) (hj : j < L.n) : (L.view l).b i = L.b j := by simp [Loc.view, e, hj]
theorem view_sz {l : List Nat} {i j : Nat} (e : l[i]? = some j) : (L.view l).sz i = L.sz j := by simp [Loc.view, e]

theorem LeO.live {l : List Nat} {o o' : AO} (hle : LeO h l o o') (hl : o'.live) : o.live := by
  cases hle <;> first | exact hl.elim | trivial

structure Seen (C : Ctx) (h : List AO) (L : Loc) (w : World) (l : List Nat) (h1 : List AO) : Prop where
  ss : ∀ b, SS C w h L b → SS C w h1 (L.view l) b
  own : ∀ id b, Live h id → id ∉ l → L.b id = some b → SS C w h1 (L.view l) b

theorem leh_live (hr : HRel C h L w) {l : List Nat} {h1 : List AO} (hle : LeH C.np h l h1) {i b : Nat} (hi : Live h1 i) (e : (L.view l).b i = some b) :
    ∃ j, l[i]? = some j ∧ Live h j ∧ L.b j = some b := by
  obtain ⟨o', ho', hlo⟩ := hi
  have hlt : i < l.length := by rw [← hle.len]; exact (List.getElem?_eq_some_iff.1 ho').1
  obtain ⟨j, hj⟩ : ∃ j, l[i]? = some j := ⟨l[i], by simp [hlt]⟩
  rcases hle.objs i j o' hj ho' with ⟨o, ho, hoo⟩ | ⟨_, hge, _⟩
  · have hjn : j < L.n := by rw [hr.n]; exact (List.getElem?_eq_some_iff.1 ho).1
    exact ⟨j, hj, ⟨o, ho, hoo.live hlo⟩, by rw [← view_b hj hjn]; exact e⟩
  · have : ¬ j < L.n := by rw [hr.n]; omega
    simp [Loc.view, hj, this] at e

theorem leh_seen (hr : HRel C h L w) {l : List Nat} {h1 : List AO} (hle : LeH C.np h l h1) : Seen C h L w l h1 := by
  refine ⟨fun b hb => ⟨hb.1, hb.2.1, fun i hi e => ?_⟩, fun id b hl hn e => ⟨(hr.mine id b hl e).1, .inr (hr.mine id b hl e).2, fun i hi e1 => ?_⟩⟩
  · obtain ⟨j, _, l1, e1⟩ := leh_live hr hle hi e
    exact hb.2.2 j l1 e1
  · obtain ⟨j, h2, l1, e2⟩ := leh_live hr hle hi e1
    have := hr.inj id j b hl l1 e e2
    subst this
    exact hn (List.mem_of_getElem? h2)

theorem LeV.den (hr : HRel C h L w) {l : List Nat} {h1 : List AO} (hs : Seen C h L w l h1) {x y : AV} (hle : LeV h l x y) : ∀ {v : Value}, den w (SS C w h L) L x v → den w (SS C w h1 (L.view l)) (L.view l) y v := by
  have place : ∀ {id id' : Nat}, l[id']? = some id → id < L.n → id' < (L.view l).n ∧ (L.view l).b id' = L.b id ∧ (L.view l).sz id' = L.sz id := fun e hid =>
    ⟨(List.getElem?_eq_some_iff.1 e).1, view_b e hid, view_sz e⟩
  induction hle with
  | top a => intro v _; trivial
  | raw u => intro v hv; exact hv
  | tt => intro v hv; exact hv
  | ff => intro v hv; exact hv
  | ttr => intro v hv; exact hv
  | rtt => intro v hv; exact hv
  | rff => intro v hv; exact hv
  | ffr => intro v hv; exact hv
  | seen x e ih => intro v hv; exact e _ _ _ _ (ih hv)
  | same a hf => intro v hv; exact den_free _ _ _ hf (den_mono (fun _ _ => rfl) hs.ss (.refl _) _ _ hv)
  | own off len sz e =>
    intro v hv
    obtain ⟨hid, hv⟩ := hv
    obtain ⟨p1, p2, p3⟩ := place e hid
    refine ⟨p1, ?_⟩
    rcases hv with hv | ⟨b, cap, g1, g2, g3, g4⟩
    · exact .inl hv
    · exact .inr ⟨b, cap, by rw [p2]; exact g1, g2, g3, by rw [p3]; exact g4⟩
  | nil off sz e => intro v hv; exact ⟨e, .inl ⟨rfl, none, hv⟩⟩
  | ptr off e =>
    intro v hv
    obtain ⟨hid, b, g1, g2⟩ := hv
    obtain ⟨p1, p2, p3⟩ := place e hid
    exact ⟨p1, b, by rw [p2]; exact g1, g2⟩
  | mp e =>
    intro v hv
    obtain ⟨hid, b, g1, g2⟩ := hv
    obtain ⟨p1, p2, p3⟩ := place e hid
    exact ⟨p1, b, by rw [p2]; exact g1, g2⟩
  | bx e =>
    intro v hv
    obtain ⟨hid, A, b, g1, g2, g3⟩ := hv
    obtain ⟨p1, p2, p3⟩ := place e hid
    exact ⟨p1, A, b, g1, by rw [p2]; exact g2, rcell_mono (fun _ _ => rfl) hs.ss g3⟩
  | bm f e =>
    intro v hv
    obtain ⟨hid, b, g1, g2⟩ := hv
    obtain ⟨p1, p2, p3⟩ := place e hid
    exact ⟨p1, b, by rw [p2]; exact g1, g2⟩
  | giveB e hl e2 =>
    rename_i box id id' r
    intro v hv
    obtain ⟨_, b, hbk, rfl⟩ := hv
    obtain ⟨u, g1, g2⟩ := own_cell (hr.objs box _ e) hbk (i := 0) (Nat.zero_lt_succ _)
    obtain ⟨hid, c, g3, g4⟩ := g2
    obtain ⟨p1, p2, p3⟩ := place e2 hid
    exact ⟨p1, _, c, rfl, by rw [p2]; exact g3, b, 0, rfl, hs.own box b ⟨_, e, trivial⟩ hl hbk, by rw [← g4]; exact g1⟩
  | rp n f g e ef ih =>
    intro v hv
    obtain ⟨A, rfl, hc⟩ := hv
    exact ⟨A, rfl, fun i hi => let ⟨u, g1, g2⟩ := hc i hi; ⟨u, rcell_mono (fun _ _ => rfl) hs.ss g1, den_free _ _ _ (ef i hi) (ih i hi (den_zero L g2))⟩⟩
  | ro n sz f g e ef ih =>
    intro v hv
    obtain ⟨A, cap, rfl, hcap, hc⟩ := hv
    exact ⟨A, cap, rfl, hcap, fun i hi => let ⟨u, g1, g2⟩ := hc i hi; ⟨u, rcell_mono (fun _ _ => rfl) hs.ss g1, den_free _ _ _ (ef i hi) (ih i hi (den_zero L g2))⟩⟩
  | roI k xs =>
    intro v hv
    obtain ⟨A, cap, rfl, hcap, hc⟩ := hv
    exact ⟨A, cap, rfl, hcap, fun i hi => rcell_mono (fun _ _ => rfl) hs.ss (hc i hi)⟩
  | roOfI k xs =>
    intro v hv
    obtain ⟨A, cap, rfl, hcap, hc⟩ := hv
    exact ⟨A, cap, rfl, hcap, fun i hi => ⟨_, rcell_mono (fun _ _ => rfl) hs.ss (hc i (by omega)), rfl⟩⟩
  | aggI k xs => intro v hv; exact hv
  | agg n f g e ih =>
    intro v hv
    obtain ⟨vs, rfl, hn, hc⟩ := hv
    exact ⟨vs, rfl, hn, fun i hi => let ⟨u, g1, g2⟩ := hc i hi; ⟨u, g1, ih i hi g2⟩⟩
  | aggOfI k xs =>
    intro v hv
    obtain rfl := hv
    exact ⟨_, rfl, by simp, fun i hi => ⟨.int k (xs.getD i 0), by simp [hi], rfl⟩⟩
  | iOfAgg k xs f e =>
    intro v hv
    obtain ⟨vs, rfl, hn, hc⟩ := hv
    show Value.agg vs = _
    congr 1
    apply Array.ext_getElem?
    intro i
    rcases Nat.lt_or_ge i xs.length with hi | hi
    · obtain ⟨u, g1, g2⟩ := hc i hi
      rw [e i hi] at g2
      rw [g1, g2]
      simp [List.getD_eq_getElem?_getD, hi]
    · rw [Array.getElem?_eq_none (by omega), Array.getElem?_eq_none (by simp; omega)]
  | tup n f g e ih =>
    intro v hv
    obtain ⟨vs, rfl, hn, hc⟩ := hv
    exact ⟨vs, rfl, hn, fun i hi => let ⟨u, g1, g2⟩ := hc i hi; ⟨u, g1, ih i hi g2⟩⟩
  | clo fn n f g e ih =>
    intro v hv
    obtain ⟨vs, rfl, hn, hc⟩ := hv
    exact ⟨vs, rfl, hn, fun i hi => let ⟨u, g1, g2⟩ := hc i hi; ⟨u, g1, ih i hi g2⟩⟩
  | nilI k => intro v hv; exact ⟨none, 0, hv, Nat.le_refl _, fun i hi => by simp at hi⟩
  | nilR sz f => intro v hv; exact ⟨none, 0, hv, Nat.le_refl _, fun i hi => by simp at hi⟩
  | giveI ys e hl hb hy =>
    rename_i id off len k xs
    intro v hv
    subst hy
    have hlen : ((xs.drop off).take len).length = len := by simp; omega
    obtain ⟨_, ⟨rfl, A, rfl⟩ | ⟨b, cap, hbk, rfl, hcap, hsz⟩⟩ := hv
    · exact ⟨A, 0, by simp, by simp, fun i hi => by simp at hi⟩
    · refine ⟨_, cap, by rw [hlen], by rw [hlen]; exact hcap, fun i hi => ⟨b, off, rfl, hs.own id b ⟨_, e, trivial⟩ hl hbk, ?_⟩⟩
      rw [hlen] at hi
      exact own_ints (len := len) (cap := cap) hr e hbk hb i hi
  | giveR g e hl hb hy hyf ih =>
    rename_i id off len sz n f
    intro v hv
    obtain ⟨_, ⟨rfl, A, rfl⟩ | ⟨b, cap, hbk, rfl, hcap, hsz⟩⟩ := hv
    · exact ⟨A, 0, rfl, Nat.le_refl _, fun i hi => by simp at hi⟩
    · refine ⟨_, cap, rfl, hcap, fun i hi => ?_⟩
      obtain ⟨u, g1, g2⟩ := own_cell (hr.objs id _ e) hbk (i := off + i) (by omega)
      exact ⟨u, ⟨b, off, rfl, hs.own id b ⟨_, e, trivial⟩ hl hbk, g1⟩, den_free _ _ _ (hyf i hi) (ih i hi g2)⟩
  | giveL g e hl hb hy hyf ih =>
    rename_i id off len sz m
    intro v hv
    obtain ⟨_, ⟨rfl, A, rfl⟩ | ⟨b, cap, hbk, rfl, hcap, hsz⟩⟩ := hv
    · exact ⟨A, 0, rfl, Nat.le_refl _, fun i hi => by simp at hi⟩
    · refine ⟨_, cap, rfl, hcap, fun i hi => ?_⟩
      obtain ⟨u, g1, g2⟩ := own_cell (hr.objs id _ e) hbk (i := off + i) (by omega)
      exact ⟨u, ⟨b, off, rfl, hs.own id b ⟨_, e, trivial⟩ hl hbk, g1⟩, den_free _ _ _ (hyf i hi) (ih i hi g2)⟩
  | givePL g e hl hb hy hyf ih =>
    rename_i id off n m
    intro v hv
    obtain ⟨_, b, hbk, rfl⟩ := hv
    refine ⟨_, rfl, fun i hi => ?_⟩
    obtain ⟨u, g1, g2⟩ := own_cell (hr.objs id _ e) hbk (i := off + i) (by omega)
    exact ⟨u, ⟨b, off, rfl, hs.own id b ⟨_, e, trivial⟩ hl hbk, g1⟩, den_free _ _ _ (hyf i hi) (ih i hi g2)⟩

theorem LeO.obj (hr : HRel C h L w) {l : List Nat} {h1 : List AO} (hs : Seen C h L w l h1) {o o' : AO} (hle : LeO h l o o') {B : Option Nat} {sz : Nat} (ho : objIs w (SS C w h L) L B sz o) :
    objIs w (SS C w h1 (L.view l)) (L.view l) B sz o' := by
  cases hle with
  | dead => trivial
  | ints k xs => exact ho
  | intsT k xs ys n e =>
    subst e
    refine cellsAre_mono (fun _ _ => rfl) (fun i u hi hu => ?_) (cellsAre_less (m := (xs.take n).length) (by rw [List.length_take]; omega) ho)
    rw [hu]
    congr 1
    rw [List.length_take] at hi
    rw [List.getD_eq_getElem?_getD, List.getD_eq_getElem?_getD, List.getElem?_take_of_lt (by omega)]
  | row n m f g hm e =>
    rcases ho with ⟨h2, h3⟩ | ⟨b, c, el, lo, hi, e1, h2, h3, h4, h5, h6⟩
    · exact .inl ⟨by omega, h3⟩
    · exact .inr ⟨b, c, el, lo, hi, e1, h2, h3, by omega, h5, fun i hi => let ⟨u, g1, g2⟩ := h6 i (by omega); ⟨u, g1, (e i hi).den hr hs g2⟩⟩
  | lst x y hn e =>
    show cellsAre _ _ _ _ _
    rw [hn]
    exact cellsAre_mono (fun _ _ => rfl) (fun i u hi hu => (e i hi).den hr hs hu) ho
  | rowL x g e => exact cellsAre_mono (fun _ _ => rfl) (fun i u hi hu => (e i hi).den hr hs hu) ho
  | rowI k xs => exact ho
  | siter s p => exact ho
  | mapB x y bs c hn' e =>
    obtain ⟨b, es, e1, hb, hst, hn, hc⟩ := ho
    exact ⟨b, es, e1, hb, hst, hn.trans hn'.symm, fun i hi => let ⟨x, g1, g2, g4, g3⟩ := hc i (by omega); ⟨x, g1, g2.trans (by rw [(e i (by omega)).1]), g4, (e i (by omega)).2.den hr hs g3⟩⟩
  | mapOfB x y bs c hn' e =>
    obtain ⟨b, es, e1, hb, hst, hn, hc⟩ := ho
    exact ⟨b, es, c, e1, hb, hst, hn.trans hn'.symm, fun i hi => let ⟨x, g1, g2, _, g3⟩ := hc i (by omega); ⟨x, g1, g2.trans (by rw [(e i (by omega)).1]), (e i (by omega)).2.den hr hs g3⟩⟩
  | miter since seen e hid =>
    obtain ⟨b, mb, e1, hid', hm, hb⟩ := ho
    exact ⟨b, mb, e1, (List.getElem?_eq_some_iff.1 e).1, by rw [view_b e hid']; exact hm, hb⟩
  | map x y hn' e =>
    obtain ⟨b, es, clock, e1, hb, hst, hn, hc⟩ := ho
    exact ⟨b, es, clock, e1, hb, hst, hn.trans hn'.symm, fun i hi => let ⟨x, g1, g2, g3⟩ := hc i (by omega); ⟨x, g1, g2.trans (by rw [(e i (by omega)).1]), (e i (by omega)).2.den hr hs g3⟩⟩

theorem leh_rel (hr : HRel C h L w) {l : List Nat} {h1 : List AO} (hle : LeH C.np h l h1) : HRel C h1 (L.view l) w := by
  have hs := leh_seen hr hle
  refine ⟨hr.fr, hle.len.symm, by rw [hle.len]; exact hle.enough, fun i hi => ?_, fun i j b hi hj ei ej => ?_, fun i b hi e => ?_, fun i o' ho' => ?_⟩
  · have e := hle.pre i hi
    have hin : i < L.n := by rw [hr.n]; exact Nat.lt_of_lt_of_le hi hr.np
    have := hr.pre i hi
    exact ⟨by rw [view_b e hin]; exact this.1, by rw [view_sz e]; exact this.2⟩
  · obtain ⟨p, g1, l1, e1⟩ := leh_live hr hle hi ei
    obtain ⟨q, g2, l2, e2⟩ := leh_live hr hle hj ej
    have := hr.inj p q b l1 l2 e1 e2
    subst this
    exact nodup_inj hle.dist g1 g2
  · obtain ⟨p, g1, l1, e1⟩ := leh_live hr hle hi e
    exact hr.mine p b l1 e1
  · have hlt : i < l.length := by rw [← hle.len]; exact (List.getElem?_eq_some_iff.1 ho').1
    obtain ⟨j, hj⟩ : ∃ j, l[i]? = some j := ⟨l[i], by simp [hlt]⟩
    rcases hle.objs i j o' hj ho' with ⟨o, ho, hoo⟩ | ⟨_, hge, hnew⟩
    · have hjn : j < L.n := by rw [hr.n]; exact (List.getElem?_eq_some_iff.1 ho).1
      rw [view_b hj hjn, view_sz hj]
      exact hoo.obj hr hs (hr.objs j o ho)
    · have hjn : ¬ j < L.n := by rw [hr.n]; omega
      have hb : (L.view l).b i = none := by simp [Loc.view, hj, hjn]
      rw [hb]
      rcases hnew with rfl | ⟨k, rfl⟩ | ⟨g, rfl⟩
      · trivial
      · exact .inl ⟨rfl, rfl⟩
      · exact .inl ⟨rfl, rfl⟩

end
end Go.Proofs.YtflclafbieokiaaGreatDoor.AL

namespace Go.Proofs.YtflclafbieokiaaGreatDoor.AL
open Go
variable [Globs]

section
variable {P : Program} {C : Ctx} {t : List AV} {h : List AO} {L : Loc} {a : Act} {w : World}

def EffN (P : Program) (C : Ctx) (h : List AO) (L : Loc) (w : World) (s : Sem Next) (K : AV → List AO → Prop) : Prop :=
  (∃ v x h' L' w', (s.run P w = .ok (.value v) w' ∨ s.run P w = .ok .skip w' ∧ v = undef) ∧ Step C h L w h' L' w' ∧ den w' (SS C w' h' L') L' x v ∧ K x h') ∨
  (∃ f vs, s.run P w = .ok (.enter f vs) w ∧ Calls P f vs w fun e w' => ∃ v x h' L', e = .returned v ∧ Step C h L w h' L' w' ∧ den w' (SS C w' h' L') L' x v ∧ K x h')

theorem EffV.next {s : Sem Value} {K : AV → List AO → Prop} (he : EffV P C h L w s K) : EffN P C h L w (do pure (.value (← s))) K := by
  obtain ⟨v, x, h', L', w', h1, h2, h3, h4⟩ := he
  exact .inl ⟨v, x, h', L', w', .inl (by simp [h1]), h2, h3, h4⟩
theorem EffU.next {s : Sem Unit} {K : AV → List AO → Prop} (he : EffU P C h L w s (fun h' => K .top h')) : EffN P C h L w (do s; pure .skip) K := by
  obtain ⟨h', L', w', h1, h2, h3⟩ := he
  exact .inl ⟨_, .top, h', L', w', .inr ⟨by simp [h1], rfl⟩, h2, trivial, h3⟩
theorem GivesN.eff {s : Sem Next} {K : AV → List AO → Prop} (hr : HRel C h L w) (hg : GivesN P w (den w (SS C w h L) L) s (fun x => K x h)) : EffN P C h L w s K := by
  obtain ⟨v, x, h1, h2, h3⟩ := hg
  exact .inl ⟨v, x, h, L, w, .inl (h1 w (Ext.refl w)), .refl hr, h2, h3⟩

theorem run_callFunc {f : FuncId} (he : Entered P f) (args : Array Value) (w : World) : (callFunc f args).run P w = .ok (.enter f args) w := by
  obtain ⟨fn, h1, h2, h3⟩ := he
  have h2' : ¬ (fn.name = "runtime.NumGoroutine") := by simpa using h2
  unfold callFunc
  have h3' : ¬ fn.body = none := by intro e; rw [e] at h3; cases h3
  simp [h1, h2', h3']

theorem list_vals {xs : List Operand} {vs : List AV} {S : Nat → Prop} (hl : vs.length = xs.length) (hv : ∀ (i : Nat) (v : AV), vs[i]? = some v → ∃ x, xs[i]? = some x ∧ den w S L v (a.eval x)) :
    ∀ (i : Nat) (v : AV), vs[i]? = some v → ∃ u, (xs.map a.eval).toArray[i]? = some u ∧ den w S L v u := fun i v hi => by
  obtain ⟨x, h1, h2⟩ := hv i v hi
  exact ⟨a.eval x, by simp [h1], h2⟩

theorem front_size (p : Value) (us : Array Value) : (#[p] ++ us).size = us.size + 1 := by rw [Array.size_append, Nat.add_comm]; rfl
theorem front_zero (p : Value) (us : Array Value) : (#[p] ++ us)[0]? = some p := by
  rw [Array.getElem?_append_left (Nat.zero_lt_one)]; rfl
theorem front_succ (p : Value) (us : Array Value) (i : Nat) : (#[p] ++ us)[i + 1]? = us[i]? := by
  rw [Array.getElem?_append_right (Nat.le_add_left 1 i)]; rfl
theorem call_bm (hr : HRel C h L w) {f : FuncId} {id b : Nat} {vs : List AV} {us : Array Value} {K : AV → List AO → Prop} (hid : id < L.n) (hb : L.b id = some b) (hn : us.size = vs.length)
    (hv : ∀ (i : Nat) (y : AV), vs[i]? = some y → ∃ u, us[i]? = some u ∧ den w (SS C w h L) L y u) (hk : callK P f (.ptr id 0 :: vs) h K) :
    Entered P f ∧ Calls P f (#[.pointer (some ⟨b, 0, none⟩)] ++ us) w fun e w' => ∃ v x h' L', e = .returned v ∧ Step C h L w h' L' w' ∧ den w' (SS C w' h' L') L' x v ∧ K x h' := by
  have hn' : (#[Value.pointer (some ⟨b, 0, none⟩)] ++ us).size = (AV.ptr id 0 :: vs).length := by rw [front_size, hn, List.length_cons]
  refine callK_spec hr hn' (fun i y hi => ?_) hk
  cases i with
  | zero =>
    obtain rfl : AV.ptr id 0 = y := Option.some.inj hi
    exact ⟨.pointer (some ⟨b, 0, none⟩), front_zero _ _, hid, b, hb, rfl⟩
  | succ i =>
    rw [List.getElem?_cons_succ] at hi
    obtain ⟨u, g1, g2⟩ := hv i y hi
    exact ⟨u, (front_succ _ _ _).trans g1, g2⟩
theorem makeFuncK_spec (hr : Rel C t h L a w) {fn : Fn} {first captured : Array Operand} {K : AV → Prop} (hk : makeFuncK t fn first.toList captured.toList K) :
    Gives P w (den w (SS C w h L) L) (Instr.makeFunc fn (first.map a.eval) (captured.map a.eval)) K := by
  unfold makeFuncK at hk
  split at hk
  · rename_i hf
    obtain ⟨vs, h1, h2, h3⟩ := evsK_spec hr hk
    have hfirst : first = #[] := by cases first; simp at hf; subst hf; rfl
    subst hfirst
    refine Gives.of h3 ⟨(captured.map a.eval), rfl, by simpa using h1.symm, fun i hi => ?_⟩ fun w' _ => by simp [Instr.makeFunc]
    obtain ⟨x, h4, h5⟩ := h2 i vs[i] (by simp [hi])
    have h4' : captured[i]? = some x := by simpa using h4
    exact ⟨a.eval x, by simp [h4'], by simpa [List.getD_eq_getElem?_getD, hi] using h5⟩
  · rename_i x hf
    split at hk
    · rename_i hc
      split at hk
      · rename_i f
        obtain ⟨v, h1, h2⟩ := evK_spec hr hk
        split at h2
        · rename_i id
          obtain ⟨hid, b, hb, hx⟩ := h1
          have hfirst : first = #[x] := by cases first; simp at hf; subst hf; rfl
          have hcap : captured = #[] := by cases captured; simp at hc; subst hc; rfl
          subst hfirst hcap
          refine Gives.of h2 (v := .func (.func f) #[.pointer (some ⟨b, 0, none⟩)] #[]) ⟨hid, b, hb, rfl⟩ fun w' _ => by simp [Instr.makeFunc, hx]
        · exact h2.elim
      · exact hk.elim
    · exact hk.elim
  · exact hk.elim

theorem aeff_spec (hr : Rel C t h L a w) {o : Oper} {K : AV → List AO → Prop} (hk : aeff P t h o K) : EffN P C h L w (execOp a.eval o) K := by
  have pureCase : ∀ {op : Op}, o.op = op → apure P t h op (fun x => K x h) → EffN P C h L w (execOp a.eval o) K := fun ho hp => (apure_spec hr ho hp).eff hr.heap
  unfold aeff at hk
  split at hk
  case h_1 E ho =>
    have e : execOp a.eval o = (do pure (.value (← Instr.alloc E true (.tuple #[])))) := by unfold execOp; rw [ho]
    rw [e]
    exact (alloc_spec hr.heap hk).next
  case h_2 E x ho =>
    have e : execOp a.eval o = (do pure (.value (← Instr.box E (a.eval x)))) := by unfold execOp; rw [ho]
    rw [e]
    obtain ⟨v, h1, h2⟩ := evK_spec hr hk
    exact (newVarK_spec hr.heap h1 h2).next
  case h_3 T parts ho =>
    have e : execOp a.eval o = (do pure (.value (← Instr.build T (parts.map fun (i, x) => (i, a.eval x))))) := by unfold execOp; rw [ho]
    rw [e]
    obtain ⟨vs, h1, h2⟩ := partsK_spec hr hk
    refine (Gives.eff (K := K) hr.heap (buildK_spec (ps := parts.map fun (i, x) => (i, a.eval x)) ?_ h2)).next
    simpa using h1
  case h_4 T len parts ho =>
    have e : execOp a.eval o = (do pure (.value (← Instr.buildSlice T len (parts.map fun (i, x) => (i, a.eval x))))) := by unfold execOp; rw [ho]
    rw [e]
    obtain ⟨vs, h1, h2⟩ := partsK_spec hr hk
    have h1' : denP w (SS C w h L) L vs (parts.map fun (i, x) => (i, a.eval x)).toList := by simpa using h1
    have h3 : EffV P C h L w (Instr.buildSlice T len (parts.map fun (i, x) => (i, a.eval x))) K := buildSliceK_spec hr.heap h1' h2
    exact h3.next
  case h_5 T x y ho =>
    have e : execOp a.eval o = (do Instr.storeAt T (a.eval x) (a.eval y); pure .skip) := by unfold execOp; rw [ho]
    rw [e]
    obtain ⟨v, h1, h2⟩ := evK_spec hr hk
    obtain ⟨u, h3, h4⟩ := evK_spec hr h2
    exact (storeK_spec hr.heap h1 h3 h4).next
  case h_6 T l c ho =>
    have e : execOp a.eval o = (do pure (.value (← Instr.makeSlice T (a.eval l) (a.eval c)))) := by unfold execOp; rw [ho]
    rw [e]
    obtain ⟨v, h1, h2⟩ := evK_spec hr hk
    obtain ⟨u, h3, h4⟩ := evK_spec hr h2
    exact (makeK_spec hr.heap h1 h3 h4).next
  case h_7 src dst x ho =>
    have e : execOp a.eval o = (do pure (.value (← convert src dst (a.eval x)))) := by unfold execOp; rw [ho]
    rw [e]
    obtain ⟨v, h1, h2⟩ := evK_spec hr hk
    split at h2
    · rename_i e s hd
      split at h2
      · rename_i he
        split at h2
        · rename_i d hs
          have h1' : a.eval x = .string s := h1
          rw [h1']
          exact (stringToBytes_spec hr.heap hs hd (intB_spec he) h2).next
        · exact h2.elim
      · exact h2.elim
    · rename_i e id off len hd
      split at h2
      · rename_i he
        split at h2
        · rename_i e' hs
          obtain ⟨⟨heq, hlen⟩, h2⟩ := sure_iff.1 h2
          obtain ⟨o, ho, h2⟩ := getO_iff.1 h2
          split at h2
          · exact (markBytes_spec hr.heap hs hd (intB_spec he) heq hlen ho h2.1 h1 h2.2).next
          · exact h2.elim
        · exact h2.elim
      · exact h2.elim
    · exact (Gives.eff (K := K) hr.heap (convK_spec hr.heap h1 h2)).next
  case h_8 fn first captured ho =>
    have e : execOp a.eval o = (do pure (.value (← Instr.makeFunc fn (first.map a.eval) (captured.map a.eval)))) := by unfold execOp; rw [ho]
    rw [e]
    exact (Gives.eff (K := K) hr.heap (makeFuncK_spec hr hk)).next
  case h_9 c ho =>
    have hex : execOp a.eval o = (do let d ← resolve a.eval c o.type; invoke d.target d.args) := by unfold execOp; rw [ho]
    obtain ⟨callee, args, types⟩ := c
    dsimp only at hk
    -- a builtin of two operands, of one
    have two : ∀ {b : Builtin} {s : Array TypeId → TypeId → Array Value → Sem Value} {vs : List AV} {x y : AV} {T T2 : TypeId}, callee = .builtin b → (∀ A t k vs, builtin b A t k vs = (do pure (.value (← s A t vs)))) → vs = [x, y] → vs.length = args.toList.length →
        (∀ (i : Nat) (v : AV), vs[i]? = some v → ∃ x, args.toList[i]? = some x ∧ den w (SS C w h L) L v (a.eval x)) → types.toList = [T, T2] →
        (∀ u v, den w (SS C w h L) L x u → den w (SS C w h L) L y v → EffV P C h L w (s #[T, T2] o.type #[u, v]) K) → EffN P C h L w (execOp a.eval o) K := by
      intro b s vs x y T T2 hc hb hvs hl hd ht hgo
      subst hc
      obtain ⟨p, q, rfl⟩ := arr_two hl hvs
      subst hvs
      have ht' : types = #[T, T2] := by cases types; simp at ht; subst ht; rfl
      subst ht'
      obtain ⟨x', g1, g2⟩ := hd 0 x rfl
      obtain ⟨y', g3, g4⟩ := hd 1 y rfl
      simp at g1 g3
      subst g1 g3
      have := (hgo _ _ g2 g4).next
      rw [hex]
      simpa [resolve, invoke, hb] using this
    have pures : ∀ {b : Builtin} {s : Array TypeId → TypeId → Array Value → Sem Value} {vs : List AV}, callee = .builtin b → (∀ A t k vs, builtin b A t k vs = (do pure (.value (← s A t vs)))) →
        (∀ (i : Nat) (v : AV), vs[i]? = some v → ∃ x, args.toList[i]? = some x ∧ den w (SS C w h L) L v (a.eval x)) → Gives P w (den w (SS C w h L) L) (s types o.type (args.map a.eval)) (fun x => K x h) → EffN P C h L w (execOp a.eval o) K := by
      intro b s vs hc hb hd hgo
      subst hc
      have := (Gives.eff (K := K) hr.heap hgo).next
      rw [hex]
      simpa [resolve, invoke, hb] using this
    split at hk
    · -- append
      obtain ⟨vs, h1, h2, h3⟩ := evsK_spec hr hk
      split at h3
      · rename_i s x T T2 e1
        exact two (s := Builtin.append_) rfl (fun _ _ _ _ => rfl) rfl h1 h2 e1 fun u v hu hv => appendK_spec hr.heap hu hv h3
      · exact h3.elim
    · -- copy
      obtain ⟨vs, h1, h2, h3⟩ := evsK_spec hr hk
      split at h3
      · rename_i s x T T2 e1
        exact two (s := Builtin.copy_) rfl (fun _ _ _ _ => rfl) rfl h1 h2 e1 fun u v hu hv => copyK_spec hr.heap hu hv h3
      · exact h3.elim
    · -- len
      obtain ⟨vs, h1, h2, h3⟩ := evsK_spec hr hk
      split at h3
      · rename_i x T e1
        obtain ⟨p, rfl⟩ := arr_one h1 rfl
        have ht' : types = #[T] := by cases types; simp at e1; subst e1; rfl
        subst ht'
        refine pures (s := Builtin.len_) rfl (fun _ _ _ _ => rfl) h2 ?_
        obtain ⟨x', g1, g2⟩ := h2 0 x rfl
        simp at g1
        subst g1
        simpa using lenHK_spec hr.heap (ty := o.type) g2 h3
      · exact h3.elim
    · -- cap
      obtain ⟨vs, h1, h2, h3⟩ := evsK_spec hr hk
      split at h3
      · rename_i T e1
        split at h3
        · rename_i e2 hT
          obtain ⟨p, rfl⟩ := arr_one h1 rfl
          have ht' : types = #[T] := by cases types; simp at e1; subst e1; rfl
          subst ht'
          refine pures (s := Builtin.cap_) rfl (fun _ _ _ _ => rfl) h2 ?_
          obtain ⟨x', g1, g2⟩ := h2 0 _ rfl
          simp at g1
          subst g1
          have g2 : a.eval p = .slice none 0 0 := g2
          refine Gives.of h3 (v := goInt 0) rfl fun w' _ => ?_
          simp [Builtin.cap_, g2, run_underlying hT, Result.andThen]
        · exact h3.elim
      · exact h3.elim
    · -- delete
      obtain ⟨vs, h1, h2, h3⟩ := evsK_spec hr hk
      split at h3
      · rename_i s x T T2 e1
        exact two (s := Builtin.delete_) rfl (fun _ _ _ _ => rfl) rfl h1 h2 e1 fun u v hu hv => (by
          obtain ⟨v', x', h', L', w', g1, g2, g3, rfl, g4⟩ := mapDelK_spec (T2 := T2) (ty := o.type) hr.heap hu hv h3
          exact ⟨v', _, h', L', w', g1, g2, g3, g4⟩)
      · exact h3.elim
    · -- max
      obtain ⟨vs, h1, h2, h3⟩ := evsK_spec hr hk
      split at h3
      · rename_i k x k' y
        obtain ⟨rfl, h4⟩ := sameKind_iff.1 h3
        obtain ⟨p, q, rfl⟩ := arr_two h1 rfl
        refine pures (s := Builtin.max_) rfl (fun _ _ _ _ => rfl) h2 ?_
        obtain ⟨x', g1, g2⟩ := h2 0 _ rfl
        obtain ⟨y', g3, g4⟩ := h2 1 _ rfl
        simp at g1 g3
        subst g1 g3
        have g2' : a.eval p = .int k' x := g2
        have g4' : a.eval q = .int k' y := g4
        refine Gives.run h4 fun w' => ?_
        have : (if x < y then y else x) = max x y := by rw [Int.max_def]; split <;> split <;> omega
        simp [Builtin.max_, Builtin.max2, g2', g4', this]
      · exact h3.elim
    · -- min
      obtain ⟨vs, h1, h2, h3⟩ := evsK_spec hr hk
      split at h3
      · rename_i k x k' y
        obtain ⟨rfl, h4⟩ := sameKind_iff.1 h3
        obtain ⟨p, q, rfl⟩ := arr_two h1 rfl
        refine pures (s := Builtin.min_) rfl (fun _ _ _ _ => rfl) h2 ?_
        obtain ⟨x', g1, g2⟩ := h2 0 _ rfl
        obtain ⟨y', g3, g4⟩ := h2 1 _ rfl
        simp at g1 g3
        subst g1 g3
        have g2' : a.eval p = .int k' x := g2
        have g4' : a.eval q = .int k' y := g4
        refine Gives.run h4 fun w' => ?_
        have : (if y < x then y else x) = min x y := by rw [Int.min_def]; split <;> split <;> omega
        simp [Builtin.min_, Builtin.min2, g2', g4', this]
      · exact h3.elim
    · -- a call
      rename_i x
      obtain ⟨f, h1, h2⟩ := evK_spec hr hk
      obtain ⟨vs, h3, h4, h5⟩ := evsK_spec hr h2
      have hvs := list_vals (a := a) h3 h4
      have hargs : (args.toList.map a.eval).toArray = args.map a.eval := by
        apply Array.ext'; simp
      split at h5
      · rename_i f
        have hx : a.eval x = .func (.func f) #[] #[] := h1
        obtain ⟨hent, hcall⟩ := callK_spec hr.heap (vs := args.map a.eval) (by simpa using h3.symm) (by rw [← hargs]; exact hvs) h5
        refine .inr ⟨f, args.map a.eval, ?_, hcall⟩
        rw [hex]
        simp [resolve, Deferred.ofValue, hx, invoke, run_callFunc hent]
      · rename_i f n g
        obtain ⟨cs, hx, hcn, hcs⟩ := h1
        have h6 : callK P f (vs ++ (List.range n).map g) h K := h5
        obtain ⟨hent, hcall⟩ := callK_spec hr.heap (vs := args.map a.eval ++ cs) (by simp [hcn, h3]) (fun i y hi => by
          rcases Nat.lt_or_ge i vs.length with hlt | hge
          · rw [List.getElem?_append_left hlt] at hi
            obtain ⟨u, g1, g2⟩ := hvs i y hi
            rw [hargs] at g1
            have hsz : (args.map a.eval).size = vs.length := by simpa using h3.symm
            exact ⟨u, by rw [Array.getElem?_append_left (by omega)]; exact g1, g2⟩
          · rw [List.getElem?_append_right hge] at hi
            have hlt : i - vs.length < n := by
              have := (List.getElem?_eq_some_iff.1 hi).1
              simpa using this
            rw [List.getElem?_map, List.getElem?_range hlt] at hi
            simp at hi
            subst hi
            obtain ⟨u, g1, g2⟩ := hcs _ hlt
            have hsz : (args.map a.eval).size = vs.length := by simpa using h3.symm
            exact ⟨u, by rw [Array.getElem?_append_right (by omega), hsz]; exact g1, g2⟩) h6
        refine .inr ⟨f, args.map a.eval ++ cs, ?_, hcall⟩
        rw [hex]
        simp [resolve, Deferred.ofValue, hx, invoke, run_callFunc hent]
      · rename_i f id
        obtain ⟨hid, b, hb, hx⟩ := h1
        have h6 : callK P f (.ptr id 0 :: vs) h K := h5
        have hsz : (args.map a.eval).size = vs.length := by simpa using h3.symm
        have hvs' : ∀ (i : Nat) (y : AV), vs[i]? = some y → ∃ u, (args.map a.eval)[i]? = some u ∧ den w (SS C w h L) L y u := by rw [← hargs]; exact hvs
        obtain ⟨hent, hcall⟩ := call_bm hr.heap hid hb hsz hvs' h6
        refine .inr ⟨f, _, ?_, hcall⟩
        rw [hex]
        simp only [resolve, Deferred.ofValue, hx, invoke]
        simp [run_callFunc hent]
      · exact h5.elim
    · exact pureCase rfl hk
    · exact pureCase rfl hk
    · exact pureCase rfl hk
    · exact hk.elim
  case h_10 T x n c ho =>
    have e : execOp a.eval o = (do pure (.value (← Instr.sliceAt T (a.eval x) none (some (a.eval n)) (some (a.eval c))))) := by unfold execOp; rw [ho]; rfl
    rw [e]
    obtain ⟨x', h1, h2⟩ := evK_spec hr hk
    obtain ⟨n', h3, h4⟩ := evK_spec hr h2
    obtain ⟨c', h5, h6⟩ := evK_spec hr h4
    exact (slice3K_spec hr.heap h1 h3 h5 h6).next
  case h_11 T ho =>
    have e : execOp a.eval o = (do pure (.value (← Instr.makeMap T none))) := by unfold execOp; rw [ho]; rfl
    rw [e]
    split at hk
    · exact (makeMap_spec hr.heap hk).next
    · exact hk.elim
  case h_12 T m x v ho =>
    have e : execOp a.eval o = (do Instr.mapUpdate T (a.eval m) (a.eval x) (a.eval v); pure .skip) := by unfold execOp; rw [ho]
    rw [e]
    obtain ⟨m', h1, h2⟩ := evK_spec hr hk
    obtain ⟨x', h3, h4⟩ := evK_spec hr h2
    obtain ⟨v', h5, h6⟩ := evK_spec hr h4
    exact (mapSetK_spec hr.heap h1 h3 h5 h6).next
  case h_13 T x ho =>
    have e : execOp a.eval o = (do pure (.value (← Instr.range T (a.eval x)))) := by unfold execOp; rw [ho]
    rw [e]
    obtain ⟨v, h1, h2⟩ := evK_spec hr hk
    split at h2
    · rename_i s hu
      have h1' : a.eval x = .string s := h1
      rw [h1']
      have hs := step_new (o := .siter s 0) (sz := 0) (ob := .stringIter s 0) (w' := { w with heap := w.heap.push (.stringIter s 0) }) hr.heap ⟨rfl, rfl, rfl⟩ rfl (fun L' hL => ⟨w.heap.size, rfl, by simp⟩)
      refine EffV.next ⟨_, .ptr h.length 0, _, _, _, ?_, hs, ⟨push_n hr.heap _ _, _, push_b hr.heap _ _, rfl⟩, addO_spec h2⟩
      unfold Instr.range
      simp [run_underlying hu, newObj, Sem.run]
    · rename_i kt et m hu
      obtain ⟨hid, b, hb, hv⟩ := h1
      obtain ⟨ob, hob, h3⟩ := getO_iff.1 h2
      split at h3
      · rename_i l
        obtain ⟨b', es, clock, e1, hes, hst, hn, hc⟩ := hr.heap.objs m _ hob
        rw [hb] at e1
        obtain rfl := Option.some.inj e1
        rw [hv]
        have hbs : ∀ i, i < l.length → ∃ e, es[i]? = some e ∧ (es.toList.map (·.born)).getD i 0 = e.born := fun i hi => by
          obtain ⟨x, g1, _⟩ := hc i hi
          refine ⟨x, g1, ?_⟩
          have : es.toList[i]? = some x := by simpa using g1
          rw [List.getD_eq_getElem?_getD, List.getElem?_map, this]; rfl
        have h4 := h3 (es.toList.map (·.born)) clock (by rw [List.length_map]; simpa using hn) hst.2.1
        obtain ⟨hlt, h5⟩ := setO_iff.1 h4
        have hobj : objIs w (SS C w h L) L (L.b m) (L.sz m) (.mapB l (es.toList.map (·.born)) clock) := by
          rw [hb]
          refine ⟨b, es, rfl, hes, hst, hn, fun i hi => ?_⟩
          obtain ⟨x, g1, g2, g3⟩ := hc i hi
          obtain ⟨y, g4, g5⟩ := hbs i hi
          rw [g1] at g4
          cases g4
          exact ⟨x, g1, g2, g5.symm, g3⟩
        have s1 := step_upd (id := m) (b := b) (o := .mapB l (es.toList.map (·.born)) clock) (w' := w) hr.heap ⟨rfl, rfl, rfl⟩ rfl ⟨_, hob, trivial⟩ hb (fun _ _ => rfl) hobj
        have hl1 : (h.set m (.mapB l (es.toList.map (·.born)) clock)).length = h.length := by simp
        have hs := step_new (o := .miter m clock []) (sz := 0) (ob := .mapIter (some b) clock #[] clock) (w' := { w with heap := w.heap.push (.mapIter (some b) clock #[] clock) }) s1.rel ⟨rfl, rfl, rfl⟩ rfl (fun L' hL => ⟨w.heap.size, b, rfl, Nat.lt_of_lt_of_le hid hL.n, by rw [hL.b _ hid]; exact hb, by simp⟩)
        refine EffV.next ⟨_, .ptr (h.set m (.mapB l (es.toList.map (·.born)) clock)).length 0, _, _, _, ?_, s1.trans hs, ⟨push_n s1.rel _ _, _, push_b s1.rel _ _, rfl⟩, addO_spec h5⟩
        unfold Instr.range
        simp [run_underlying hu, newObj, getObj, Sem.run, hes]
      · exact h3.elim
    · exact h2.elim
  case h_14 x isS ho =>
    have e : execOp a.eval o = (do pure (.value (← Instr.next (a.eval x) isS o.type))) := by unfold execOp; rw [ho]
    rw [e]
    obtain ⟨v, h1, h2⟩ := evK_spec hr hk
    split at h2
    · rename_i id
      obtain ⟨hid, b, hb, hv⟩ := h1
      obtain ⟨ob, hob, h3⟩ := getO_iff.1 h2
      split at h3
      · rename_i s p
        obtain ⟨b', hb', hit⟩ := hr.heap.objs id _ hob
        rw [hb] at hb'
        obtain rfl : b = b' := Option.some.inj hb'
        rw [hv]
        by_cases hp : p < s.size
        · obtain ⟨c, q, hdc⟩ : ∃ c q, Utf8.decode s p = (c, q) := ⟨_, _, rfl⟩
          obtain ⟨hlt, hk4⟩ := setO_iff.1 (h3.1 hp c q hdc)
          have hbl : b < w.heap.size := (Array.getElem?_eq_some_iff.1 hit).1
          have hset : (w.heap.setIfInBounds b (.stringIter s (p + q)))[b]? = some (.stringIter s (p + q)) := by simp [hbl]
          have hst := step_upd (id := id) (b := b) (o := .siter s (p + q)) (w' := { w with heap := w.heap.setIfInBounds b (.stringIter s (p + q)) }) hr.heap ⟨rfl, rfl, rfl⟩ (by simp) ⟨_, hob, trivial⟩ hb (fun k hk => by simp [Array.getElem?_setIfInBounds, Ne.symm hk]) ⟨b, hb, hset⟩
          refine EffV.next ⟨.tuple #[.bool true, goInt p, .int .i32 c], _, _, L, _, ?_, hst, ?_, hk4⟩
          · simp only [Instr.next, getObj, setObj, Sem.run_bind, Sem.run, hit, Result.andThen, hp, if_true, hdc]
            simp [goInt]
          · refine ⟨_, rfl, rfl, fun i hi => ?_⟩
            match i, hi with
            | 0, _ => exact ⟨_, rfl, rfl⟩
            | 1, _ => exact ⟨_, rfl, rfl⟩
            | 2, _ => exact ⟨_, rfl, rfl⟩
        · refine EffV.next (Gives.eff (K := K) hr.heap (Gives.of (h3.2 hp) (v := .tuple #[.bool false]) ⟨_, rfl, rfl, fun i hi => ?_⟩ fun w' hx => ?_))
          · obtain rfl : i = 0 := by omega
            exact ⟨_, rfl, rfl⟩
          · have hit' : w'.heap[b]? = some (.stringIter s p) := (hx.2 b (Array.getElem?_eq_some_iff.1 hit).1).trans hit
            simp [Instr.next, getObj, Sem.run, hit', hp]
      · exact h3.elim
    · rename_i id
      obtain ⟨hid, b, hb, hv⟩ := h1
      obtain ⟨ob, hob, h3⟩ := getO_iff.1 h2
      split at h3
      · rename_i m since seen
        obtain ⟨ob2, hob2, h4⟩ := getO_iff.1 h3
        split at h4
        · rename_i l bs clock
          obtain ⟨rfl, h5, h6⟩ := h4
          obtain ⟨b', mb, e1, hmid, hmb, hit⟩ := hr.heap.objs id _ hob
          rw [hb] at e1
          obtain rfl := Option.some.inj e1
          obtain ⟨mb', es, e2, hes, hst, hn, hc⟩ := hr.heap.objs m _ hob2
          rw [hmb] at e2
          obtain rfl := Option.some.inj e2
          rw [hv]
          have hne : id ≠ m := fun e => by subst e; rw [hob] at hob2; cases hob2
          rcases run_next_at (P := P) w o.type b mb since since seen.toArray es since hit hes hst.1 (Nat.le_refl _) with ⟨g1, g2⟩ | ⟨x, g1, w1, g2, g3⟩
          · refine EffV.next ⟨.tuple #[.bool false], .tup 1 fun _ => .ff, h, L, w, g2, .refl hr.heap, ⟨_, rfl, rfl, fun i hi => ?_⟩, h6 fun i hi => ?_⟩
            · obtain rfl : i = 0 := by omega
              exact ⟨_, rfl, rfl⟩
            · obtain ⟨x, k1, _, k2, _⟩ := hc i hi
              refine Classical.byContradiction fun hns => ?_
              have : x ∈ (leftOf es seen.toArray).toList := by
                unfold leftOf
                have : x ∈ es := Array.mem_of_getElem? k1
                simp [this]
                rw [k2]; exact hns
              have h0 : (leftOf es seen.toArray).toList = [] := List.eq_nil_of_length_eq_zero (by simpa using g1)
              rw [h0] at this
              cases this
          · obtain ⟨i, hi, hxi, hxs⟩ : ∃ i, i < l.length ∧ es[i]? = some x ∧ x.born ∉ seen := by
              unfold leftOf at g1
              simp at g1
              obtain ⟨i, hi, e⟩ := Array.mem_iff_getElem.1 g1.1
              exact ⟨i, by omega, by rw [← e]; exact Array.getElem?_eq_getElem hi, g1.2⟩
            obtain ⟨y, k1, k2, k3, k4⟩ := hc i hi
            rw [hxi] at k1
            obtain rfl := Option.some.inj k1
            obtain ⟨hlt, h7⟩ := setO_iff.1 (h5 i hi (by rw [← k3]; exact hxs))
            have hbl : b < w.heap.size := (Array.getElem?_eq_some_iff.1 hit).1
            have hw1 : w1.heap = w.heap ∧ Alike w w1 := by rcases g2 with rfl | rfl <;> exact ⟨rfl, ⟨rfl, rfl, rfl⟩⟩
            have hset : (ChangeMaps.setBlock w1 b (.mapIter (some mb) since (seen.toArray.push x.born) since)).heap = w.heap.setIfInBounds b (.mapIter (some mb) since (seen.toArray.push x.born) since) := by
              unfold ChangeMaps.setBlock; simp [hw1.1]
            have hoth : ∀ k, k ≠ b → (ChangeMaps.setBlock w1 b (.mapIter (some mb) since (seen.toArray.push x.born) since)).heap[k]? = w.heap[k]? := fun k hk => by
              rw [hset]; simp [Array.getElem?_setIfInBounds, Ne.symm hk]
            have hal : Alike w (ChangeMaps.setBlock w1 b (.mapIter (some mb) since (seen.toArray.push x.born) since)) := by rcases g2 with rfl | rfl <;> exact ⟨rfl, rfl, rfl⟩
            have hst2 := step_upd (id := id) (b := b) (o := .miter m since (seen ++ [bs.getD i 0])) (w' := ChangeMaps.setBlock w1 b (.mapIter (some mb) since (seen.toArray.push x.born) since)) hr.heap hal (by rw [hset]; simp) ⟨_, hob, trivial⟩ hb hoth
              ⟨b, mb, hb, hmid, hmb, by rw [hset, ← k3]; simp [hbl]⟩
            refine EffV.next ⟨_, .tup 3 fun j => [.tt, str (l.getD i mz).1, (l.getD i mz).2].getD j .top, _, L, _, g3, hst2, ⟨_, rfl, rfl, fun j hj => ?_⟩, h7⟩
            match j, hj with
            | 0, _ => exact ⟨_, rfl, rfl⟩
            | 1, _ => exact ⟨_, rfl, k2⟩
            | 2, _ => exact ⟨_, rfl, den_mono (fun k hk => hoth k fun e => hk.2.2 id ⟨_, hob, trivial⟩ (e ▸ hb)) hst2.ss (.refl _) _ _ k4⟩
        · exact h4.elim
      · exact h3.elim
    · exact h2.elim
  case h_15 x ho =>
    have e : execOp a.eval o = (do pure (.value (← Instr.entry (a.eval x)))) := by unfold execOp; rw [ho]
    rw [e]
    obtain ⟨v, h1, h2⟩ := evK_spec hr hk
    split at h2
    · rename_i id
      obtain ⟨hid, b, hb, hv⟩ := h1
      obtain ⟨ob, hob, h3⟩ := getO_iff.1 h2
      split at h3
      · rename_i m since seen
        obtain ⟨ob2, hob2, h4⟩ := getO_iff.1 h3
        split at h4
        · rename_i l bs clock
          obtain ⟨rfl, i, ⟨hi, hlast⟩, h5⟩ := h4
          obtain ⟨b', mb, e1, hmid, hmb, hit⟩ := hr.heap.objs id _ hob
          rw [hb] at e1
          obtain rfl := Option.some.inj e1
          obtain ⟨mb', es, e2, hes, hst, hn, hc⟩ := hr.heap.objs m _ hob2
          rw [hmb] at e2
          obtain rfl := Option.some.inj e2
          obtain ⟨y, k1, k2, k3, k4⟩ := hc i hi
          rw [hv]
          obtain ⟨init, hinit⟩ : ∃ init, seen = init ++ [y.born] := by
            rw [k3]
            rw [List.getLast?_eq_some_iff] at hlast
            exact hlast
          refine EffV.next (Gives.eff (K := K) hr.heap (Gives.of h5 (v := .tuple #[y.key, y.val]) ⟨_, rfl, rfl, fun j hj => ?_⟩ fun w' hx => ?_))
          · match j, hj with
            | 0, _ => exact ⟨_, rfl, k2⟩
            | 1, _ => exact ⟨_, rfl, k4⟩
          · have hit' : w'.heap[b]? = some (.mapIter (some mb) since (init.toArray.push y.born) since) := by
              rw [(hx.2 b (Array.getElem?_eq_some_iff.1 hit).1), hit, hinit]; simp
            have hes' : w'.heap[mb]? = some (.map es since) := (hx.2 mb (Array.getElem?_eq_some_iff.1 hes).1).trans hes
            exact run_entry_at w' b mb since init.toArray es since y hit' hes' (by simpa using Array.mem_of_getElem? k1) hst.2.1
        · exact h4.elim
      · exact h3.elim
    · exact h2.elim
  case h_16 => exact pureCase rfl hk

theorem aguard_spec (hr : Rel C t h L a w) {ops : Array Oper} {o : Oper} {run skip : List AV → Prop} (hk : aguard ops.toList t o run skip) :
    (Region.wanted o (yielded ops a.tmps) = true ∧ ∃ t', Rel C t' h L a w ∧ run t') ∨ (Region.wanted o (yielded ops a.tmps) = false ∧ ∃ t', Rel C t' h L (a.put o.dst undef) w ∧ skip t') := by
  unfold aguard at hk
  split at hk
  · rename_i hg
    exact .inl ⟨by simp [Region.wanted, hg], t, hr, hk⟩
  · rename_i j want hg
    split at hk
    · rename_i oj hj
      have hj' : ops[j]? = some oj := by simpa using hj
      split at hk
      · rename_i d hd
        have hk := getK_iff.1 hk
        have hden := hr.get d
        -- what the slot holds, if it is known
        have yes : ∀ {b : Bool} {x : AV}, t.getD d .top = x → (x = .tt ∧ b = true ∨ x = .ff ∧ b = false ∨ x = .raw (.bool b)) → a.tmps[d]? = some (.bool b) ∧ d < t.length := by
          intro b x hx hb
          have hlt : d < t.length := by
            rcases Nat.lt_or_ge d t.length with h' | h'
            · exact h'
            · rw [List.getD_eq_getElem?_getD, List.getElem?_eq_none (by simpa using h')] at hx
              simp at hx
              subst hx
              rcases hb with ⟨h1, _⟩ | ⟨h1, _⟩ | h1 <;> cases h1
          obtain ⟨u, h1, h2⟩ := hr.tmps d x (by rw [← hx, List.getD_eq_getElem?_getD, List.getElem?_eq_getElem hlt]; rfl)
          refine ⟨?_, hlt⟩
          rw [h1]
          rcases hb with ⟨rfl, rfl⟩ | ⟨rfl, rfl⟩ | rfl
          · exact congrArg some h2
          · exact congrArg some h2
          · exact congrArg some h2
        have hy : ∀ {b : Bool}, a.tmps[d]? = some (.bool b) → yielded ops a.tmps j = some b := fun hb => by
          simp [yielded, hj', hd, hb]
        have want? : ∀ {b : Bool}, a.tmps[d]? = some (.bool b) → Region.wanted o (yielded ops a.tmps) = (b == want) := fun {b} hb => by
          simp only [Region.wanted, hg, hy hb]
          cases b <;> cases want <;> rfl
        -- the slot, known better
        have better : ∀ {b : Bool} {x : AV}, a.tmps[d]? = some (.bool b) → d < t.length → (x = .tt ∧ b = true ∨ x = .ff ∧ b = false) → Rel C (t.set d x) h L a w := by
          intro b x hb hlt hx
          refine ⟨hr.heap, by simp [hr.size], fun i y hi => ?_, hr.defers⟩
          by_cases e : d = i
          · subst e
            rw [List.getElem?_set_self (by simpa using hlt)] at hi
            cases hi
            rcases hx with ⟨rfl, rfl⟩ | ⟨rfl, rfl⟩
            · exact ⟨_, hb, rfl⟩
            · exact ⟨_, hb, rfl⟩
          · rw [List.getElem?_set_ne e] at hi
            exact hr.tmps i y hi
        have skipAt : ∀ {t1 : List AV}, Rel C t1 h L a w → putK t1 o.dst (.raw undef) skip → ∃ t', Rel C t' h L (a.put o.dst undef) w ∧ skip t' := fun hr1 hs => hr1.put (x := .raw undef) rfl hs
        generalize hx : t.getD d .top = x at hk
        split at hk
        · have := yes hx (b := true) (.inl ⟨rfl, rfl⟩)
          exact .inl ⟨by rw [want? this.1]; rfl, t, hr, hk⟩
        · have := yes hx (b := false) (.inr (.inl ⟨rfl, rfl⟩))
          exact .inl ⟨by rw [want? this.1]; rfl, t, hr, hk⟩
        · have := yes hx (b := true) (.inl ⟨rfl, rfl⟩)
          exact .inr ⟨by rw [want? this.1]; rfl, skipAt hr hk⟩
        · have := yes hx (b := false) (.inr (.inl ⟨rfl, rfl⟩))
          exact .inr ⟨by rw [want? this.1]; rfl, skipAt hr hk⟩
        · rename_i b hg0
          have := yes hx (b := b) (.inr (.inr rfl))
          cases b with
          | true => exact .inl ⟨by rw [want? this.1]; rfl, _, better this.1 this.2 (.inl ⟨rfl, rfl⟩), setK_iff.1 (hk.1 rfl)⟩
          | false => exact .inr ⟨by rw [want? this.1]; rfl, skipAt (better this.1 this.2 (.inr ⟨rfl, rfl⟩)) (setK_iff.1 (hk.2 rfl))⟩
        · rename_i b hg0
          have := yes hx (b := b) (.inr (.inr rfl))
          cases b with
          | false => exact .inl ⟨by rw [want? this.1]; rfl, _, better this.1 this.2 (.inr ⟨rfl, rfl⟩), setK_iff.1 (hk.2 rfl)⟩
          | true => exact .inr ⟨by rw [want? this.1]; rfl, skipAt (better this.1 this.2 (.inl ⟨rfl, rfl⟩)) (setK_iff.1 (hk.1 rfl))⟩
        · refine .inr ⟨?_, skipAt hr hk⟩
          have hnone : yielded ops a.tmps j = none := by
            rw [hx] at hden
            obtain ⟨vs, hden'⟩ : ∃ vs, a.tmps.getD d undef = .tuple vs := ⟨_, hden⟩
            simp only [yielded, hj', hd, Option.bind_some]
            cases e : a.tmps[d]? with
            | none => rfl
            | some u =>
              have : u = .tuple vs := by simpa [e] using hden'
              subst this
              rfl
          simp only [Region.wanted, hg, hnone]
          rfl
        · exact hk.elim
      · exact hk.elim
    · exact hk.elim

theorem aops_spec {ops : Array Oper} {K : List AV → List AO → Prop} {Q : Exit → Act → World → Prop}
    (hQ : ∀ t h L a w, Rel C t h L a w → K t h → Q .normal a w) : ∀ {l : List Oper} {t : List AV} {h : List AO} {L : Loc} {a : Act} {w : World}, Rel C t h L a w → aops P ops.toList K l t h → wpList P ops Q l a w
  | [], t, h, L, a, w, hr, hk => hQ _ _ _ _ _ hr hk
  | o :: l, t, h, L, a, w, hr, hk => by
    unfold aops at hk
    unfold wpList
    rcases aguard_spec hr hk with ⟨hw, t', hr', hk'⟩ | ⟨hw, t', hr', hk'⟩
    · rw [if_pos hw]
      refine .inl ?_
      have next : ∀ {v : Value} {x : AV} {h1 : List AO} {L1 : Loc} {w1 : World}, Step C h L w h1 L1 w1 → den w1 (SS C w1 h1 L1) L1 x v → (putK t' o.dst x fun t2 => aops P ops.toList K l t2 h1) → wpList P ops Q l (a.put o.dst v) w1 := by
        intro v x h1 L1 w1 hs hd hk1
        obtain ⟨t2, hr2, hk2⟩ := (hs.relT hr').put hd hk1
        exact aops_spec hQ hr2 hk2
      rcases aeff_spec hr' hk' with ⟨v, x, h1, L1, w1, hrun, hs, hd, hk1⟩ | ⟨f, vs, hrun, hcall⟩
      · unfold Oper.wp
        rcases hrun with hrun | ⟨hrun, rfl⟩
        · rw [hrun]; exact next hs hd hk1
        · rw [hrun]; exact next hs hd hk1
      · unfold Oper.wp
        rw [hrun]
        refine hcall.mono fun e w1 he => ?_
        obtain ⟨v, x, h1, L1, rfl, hs, hd, hk1⟩ := he
        exact next hs hd hk1
    · rw [if_neg (by rw [hw]; decide)]
      exact aops_spec hQ hr' hk'

end
end Go.Proofs.YtflclafbieokiaaGreatDoor.AL

namespace Go.Proofs.YtflclafbieokiaaGreatDoor.AL
open Go
variable [Globs]

section
variable {P : Program} {C : Ctx} {t : List AV} {h : List AO} {L : Loc} {a : Act} {w : World}

def Later (w w' : World) : Prop := Ext w w' ∧ Alike w w'

theorem hrel_later {w' : World} (hl : Later w w') (hr : HRel C h L w) : HRel C h L w' := by
  obtain ⟨⟨hsz, hbl⟩, hal⟩ := hl
  refine ⟨⟨hal.os.trans hr.fr.os, hal.tape.trans hr.fr.tape, hal.output.trans hr.fr.output, Nat.le_trans hr.fr.size hsz, fun k hk ho => ?_, hr.fr.glob⟩, hr.n, hr.np, hr.pre, hr.inj, fun i b hi e => ?_, fun i o ho => ?_⟩
  · rw [hbl k (Nat.lt_of_lt_of_le hk hr.fr.size)]; exact hr.fr.block k hk ho
  · have := hr.mine i b hi e
    exact ⟨Nat.lt_of_lt_of_le this.1 hsz, this.2⟩
  · exact objIs_mono (fun b hb => hbl b hb.1) (fun b hb => ⟨Nat.lt_of_lt_of_le hb.1 hsz, hb.2⟩) (.refl _) (fun b hlo e => hbl b (hr.mine i b ⟨o, ho, hlo⟩ e).1) (hr.objs i o ho)
theorem den_later {w' : World} (hl : Later w w') {x : AV} {v : Value} (hx : den w (SS C w h L) L x v) : den w' (SS C w' h L) L x v :=
  den_mono (fun b hb => hl.1.2 b hb.1) (fun b hb => ⟨Nat.lt_of_lt_of_le hb.1 hl.1.1, hb.2⟩) (.refl _) x v hx
theorem rel_later {w' : World} (hl : Later w w') (hr : Rel C t h L a w) : Rel C t h L a w' :=
  ⟨hrel_later hl hr.heap, hr.size, fun i v hi => let ⟨u, h1, h2⟩ := hr.tmps i v hi; ⟨u, h1, den_later hl h2⟩, hr.defers⟩
theorem Later.trans {w1 w2 : World} (h1 : Later w w1) (h2 : Later w1 w2) : Later w w2 :=
  ⟨⟨Nat.le_trans h1.1.1 h2.1.1, fun b hb => (h2.1.2 b (Nat.lt_of_lt_of_le hb h1.1.1)).trans (h1.1.2 b hb)⟩, ⟨h2.2.os.trans h1.2.os, h2.2.tape.trans h1.2.tape, h2.2.output.trans h1.2.output⟩⟩

end
end Go.Proofs.YtflclafbieokiaaGreatDoor.AL

namespace Go.Proofs.YtflclafbieokiaaGreatDoor.AL
open Go
variable [Globs]

section
variable {P : Program} {h : List AO} {p : AO}

theorem getO_more {i : Nat} {K K' : AO → Prop} (hm : ∀ o, K o → K' o) (hk : getO h i K) : getO (h ++ [p]) i K' := by
  obtain ⟨o, h1, h2⟩ := getO_iff.1 hk
  exact getO_iff.2 ⟨o, by rw [List.getElem?_append_left (List.getElem?_eq_some_iff.1 h1).1]; exact h1, hm _ h2⟩
theorem loadK_more {T : TypeId} {a : AV} {K : AV → Prop} (hk : loadK P T h a K) : loadK P T (h ++ [p]) a K := by
  unfold loadK at *
  split at hk
  · exact hk
  · exact getO_more (fun _ x => x) hk
  · exact hk
  · exact hk.elim
theorem convK_more {src dst : TypeId} {a : AV} {K : AV → Prop} (hk : convK P h src dst a K) : convK P (h ++ [p]) src dst a K := by
  unfold convK at *
  split at hk
  · exact hk
  · split at hk <;> first
      | exact hk
      | (split at hk
         · split at hk
           · exact getO_more (fun _ x => x) hk
           · exact hk
         · exact hk)
theorem boundK_more {v : Option AV} {d m : Nat} {K K' : Nat → Prop} (hm : ∀ n, K n → K' n) (hk : boundK v d m K) : boundK v d m K' := by
  unfold boundK at *
  split at hk
  · exact hm _ hk
  · exact ⟨hk.1, hm _ hk.2⟩
  · exact hk
theorem sizeK_more {T : TypeId} {K K' : Nat → Prop} (hm : ∀ n, K n → K' n) (hk : sizeK P T K) : sizeK P T K' := by
  unfold sizeK at *
  split at hk
  · split at hk <;> exact hm _ hk
  · exact hk
theorem sliceK_more {T : TypeId} {a : AV} {lo hi mx : Option AV} {K : AV → Prop} (hk : sliceK P T h a lo hi mx K) : sliceK P T (h ++ [p]) a lo hi mx K := by
  unfold sliceK at *
  split at hk <;> first
    | exact hk
    | exact sizeK_more (fun _ hk => boundK_more (fun _ hk => boundK_more (fun _ hk => getO_more (fun _ x => x) hk) hk) hk) hk
theorem givesK_more {gv gv' : AV → (AV → Prop) → Prop} (hg : ∀ a (K K' : AV → Prop), (∀ x, K x → K' x) → gv a K → gv' a K') :
    ∀ (l : List AV) (K K' : List AV → Prop), (∀ r, K r → K' r) → givesK gv l K → givesK gv' l K'
  | [], _, _, hm, hk => hm _ hk
  | a :: l, K, K', hm, hk => hg a _ _ (fun x hx => givesK_more hg l _ _ (fun r hr => hm _ hr) hx) hk
theorem lowC_more {pass : List Nat} : ∀ (n : Nat) (a : AV) (K K' : AV → Prop), (∀ x, K x → K' x) → lowC pass n a K → lowC pass n a K'
  | 0, _, _, _, _, hk => hk
  | n + 1, a, K, K', hm, hk => by
    have ih := givesK_more (lowC_more (pass := pass) n)
    unfold lowC at *
    split at hk
    · split at hk
      · exact hm _ hk
      · exact hk
    · split at hk
      · exact hm _ hk
      · exact hk
    · split at hk
      · exact hm _ hk
      · exact hk
    · split at hk
      · exact hm _ hk
      · exact hk
    · split at hk
      · exact hm _ hk
      · exact hk
    · exact ih _ _ _ (fun r hr => hm _ hr) hk
    · exact ih _ _ _ (fun r hr => hm _ hr) hk
    · exact ih _ _ _ (fun r hr => hm _ hr) hk
    · exact hm _ hk
theorem lowK_more {pass : List Nat} {a : AV} {K K' : AV → Prop} (hm : ∀ x, K x → K' x) (hk : lowK h pass a K) : lowK (h ++ [p]) pass a K' := by
  unfold lowK at *
  split at hk
  · split at hk
    · exact hm _ hk
    · refine getO_more (fun o ho => ?_) hk
      split at ho
      · exact sure_iff.2 ⟨(sure_iff.1 ho).1, (sure_iff.1 ho).2.1, hm _ (sure_iff.1 ho).2.2⟩
      · exact ⟨ho.1, ho.2.1, hm _ ho.2.2⟩
      · exact ⟨ho.1, ho.2.1, hm _ ho.2.2⟩
      · exact ho
  · split at hk
    · exact hm _ hk
    · exact hk
  · split at hk
    · exact hm _ hk
    · exact hk
  · split at hk
    · exact hm _ hk
    · exact hk
  · split at hk
    · exact hm _ hk
    · exact hk
  · exact ⟨hk.1, hm _ hk.2⟩
  · exact ⟨hk.1, hm _ hk.2⟩
  · exact lowC_more _ _ _ _ hm hk
  · exact hm _ hk
theorem lowsK_more {pass : List Nat} : ∀ {l : List AV} {K K' : List AV → Prop}, (∀ r, K r → K' r) → lowsK h pass l K → lowsK (h ++ [p]) pass l K'
  | [], _, _, hm, hk => hm _ hk
  | _ :: _, _, _, hm, hk => lowK_more (fun _ hx => lowsK_more (fun _ hr => hm _ hr) hx) hk
theorem handK_more {pass : List Nat} {o : AO} {K K' : AO → Prop} (hm : ∀ x, K x → K' x) (hk : handK h pass o K) : handK (h ++ [p]) pass o K' := by
  unfold handK at *
  split at hk
  · exact hk
  · exact hm _ hk
  · exact ⟨hk.1, hm _ hk.2⟩
  · split at hk
    · exact lowsK_more (fun _ hr => hm _ hr) hk
    · exact hk
  · exact ⟨hk.1, hm _ hk.2⟩
  · exact hk
  · exact hk
  · exact hk
theorem objsK_more {pass : List Nat} : ∀ {l : List Nat} {K K' : List AO → Prop}, (∀ r, K r → K' r) → objsK h pass l K → objsK (h ++ [p]) pass l K'
  | [], _, _, hm, hk => hm _ hk
  | _ :: _, _, _, hm, hk => getO_more (fun _ ho => handK_more (fun _ hx => objsK_more (fun _ hr => hm _ hr) hx) ho) hk
theorem giveV_more {g : List Nat} : ∀ (n : Nat) (a : AV) (K K' : AV → Prop), (∀ x, K x → K' x) → giveV h g n a K → giveV (h ++ [p]) g n a K'
  | 0, _, _, _, hm, hk => hm _ hk
  | n + 1, a, K, K', hm, hk => by
    have ih := givesK_more (giveV_more (g := g) n)
    unfold giveV at *
    split at hk
    · split at hk
      · exact hm _ hk
      · refine getO_more (fun o ho => ?_) hk
        split at ho
        · exact sure_iff.2 ⟨(sure_iff.1 ho).1, (sure_iff.1 ho).2.1, hm _ (sure_iff.1 ho).2.2⟩
        · split at ho
          · exact ⟨ho.1, ho.2.1, hm _ ho.2.2⟩
          · exact ih _ _ _ (fun r hr => sure_iff.2 ⟨(sure_iff.1 hr).1, (sure_iff.1 hr).2.1, hm _ (sure_iff.1 hr).2.2⟩) ho
        · exact ih _ _ _ (fun r hr => sure_iff.2 ⟨(sure_iff.1 hr).1, (sure_iff.1 hr).2.1, hm _ (sure_iff.1 hr).2.2⟩) ho
        · exact ho
    · split at hk
      · exact hm _ hk
      · refine getO_more (fun o ho => ?_) hk
        split at ho
        · exact hm _ ho
        · exact ⟨ho.1, hm _ ho.2⟩
        · exact ih _ _ _ (fun r hr => sure_iff.2 ⟨(sure_iff.1 hr).1, hm _ (sure_iff.1 hr).2⟩) ho
        · exact ho
    · exact ih _ _ _ (fun r hr => hm _ hr) hk
    · exact ih _ _ _ (fun r hr => hm _ hr) hk
    · exact hm _ hk
theorem setO_more {i : Nat} {o : AO} {h : List AO} {K K' : List AO → Prop} (hm : ∀ k, k.length = h.length → K k → K' (k ++ [p])) (hk : setO h i o K) : setO (h ++ [p]) i o K' := by
  obtain ⟨h1, h2⟩ := setO_iff.1 hk
  refine setO_iff.2 ⟨by simp; omega, ?_⟩
  rw [List.set_append_left _ _ h1]
  exact hm _ (by simp) h2
theorem killK_more : ∀ {l : List Nat} {h : List AO} {K K' : List AO → Prop}, (∀ k, k.length = h.length → K k → K' (k ++ [p])) → killK l h K → killK l (h ++ [p]) K'
  | [], _, _, _, hm, hk => hm _ rfl hk
  | _ :: _, _, _, _, hm, hk => setO_more (fun k hl hx => killK_more (fun k' hl' hy => hm _ (hl'.trans hl) hy) hx) hk
theorem backK_more : ∀ {l : List Nat} {r h : List AO} {K K' : List AO → Prop}, r.length = l.length → (∀ k, K k → K' (k ++ [p])) → backK l r h K → backK l r (h ++ [p]) K'
  | [], [], h, K, K', _, hm, hk => by
    have hk := appK_spec hk
    rw [List.append_nil] at hk
    have app : ∀ (l : List AO) (K : List AO → Prop), K l → appK l [] K := fun l => by
      induction l with
      | nil => intro K x; exact x
      | cons o l ih => intro K x; exact ih (fun y => K (o :: y)) x
    exact app _ _ (hm _ hk)
  | _ :: _, [], _, _, _, hl, _, _ => by simp at hl
  | [], _ :: _, _, _, _, hl, _, _ => by simp at hl
  | _ :: l, _ :: r, _, _, _, hl, hm, hk => setO_more (fun _ _ hx => backK_more (by simpa using hl) hm hx) hk
theorem newsK_more : ∀ {h : List AO} {l : List Nat} {K : List Nat → Prop}, h.length < l.length → newsK h [] l K → newsK (h ++ [p]) [] l K
  | [], [], _, hl, _ => by simp at hl
  | [], n :: l, K, _, hk => by
    have hk : K [] := by simpa [newsK] using hk
    show newsK [p] [] (n :: l) K
    simpa [newsK] using hk
  | _ :: _, [], _, hl, _ => by simp at hl
  | o :: h, n :: l, K, hl, hk => by
    have hk : newsK h [] l K := by simpa only [newsK] using hk
    have := newsK_more (by simpa using hl) hk
    show newsK (o :: (h ++ [p])) [] (n :: l) K
    simpa only [newsK] using this
theorem renVK_more {l : List Nat} {x : AV} {K K' : AV → Prop} (hm : ∀ a, K a → K' a) (hk : renVK l x K) : renVK l x K' := by
  unfold renVK at *
  split at hk <;> first
    | (obtain ⟨j, h1, h2⟩ := getN_iff.1 hk; exact getN_iff.2 ⟨j, h1, hm _ h2⟩)
    | exact hm _ hk
theorem renOsK_more {l : List Nat} : ∀ {os : List AO} {K K' : List AO → Prop}, (∀ r, r.length = os.length → K r → K' r) → renOsK l os K → renOsK l os K'
  | [], _, _, hm, hk => hm _ rfl hk
  | o :: os, K, K', hm, hk => by
    unfold renOsK at *
    have go : ∀ x, (renOsK l os fun y => K (x :: y)) → renOsK l os fun y => K' (x :: y) := fun x hx => renOsK_more (fun r hr hy => hm _ (by simp [hr]) hy) hx
    unfold renOK at *
    cases o <;> exact go _ hk

theorem callB_more {f : FuncId} {pass : List Nat} {R : AV → List AO → Prop} {args : List AV} {g : List AO} {x : AV} (hl : h.length < 100) (hg : g.length = h.length)
    (hk : callB P f pass R args h fun y k => y = x ∧ k = g) : callB P f pass R args (h ++ [p]) fun y k => y = x ∧ k = g ++ [p] := by
  unfold callB at *
  obtain ⟨hnd, hk⟩ := sure_iff.1 hk
  refine sure_iff.2 ⟨hnd, objsK_more (fun hp hk => lowsK_more (fun as ⟨hc, hr⟩ => ⟨hc, fun r h' hR => ?_⟩) hk) hk⟩
  obtain ⟨h1, h2⟩ := hr r h' hR
  refine ⟨h1, ?_⟩
  obtain ⟨d1, d2⟩ := dropK_spec h2
  obtain ⟨news, n1, n2, n3⟩ := newsK_spec (m := 0) (fun i n hi => by rw [lits_get hi]; omega) d2
  have b1 := renVK_spec (renOsK_spec n1)
  obtain ⟨k, ⟨_, b2⟩, b3, _⟩ := backK_spec (nodupB_spec hnd) b1
  have e : (h'.drop pass.length) = [] := by
    apply List.eq_nil_of_length_eq_zero
    rw [b2, hg] at b3
    simp at b3 ⊢
    omega
  have hlen : h'.length = pass.length := by
    have := congrArg List.length e
    simp at this
    omega
  have drop : ∀ {l : List Nat} {r : List AO} {K : List AO → Prop}, l.length ≤ r.length → K (r.drop l.length) → dropK l r K := fun {l} => by
    induction l with
    | nil => intro r K _ hk; exact hk
    | cons a l ih => intro r K hl hk; cases r with
      | nil => simp at hl
      | cons b r => exact ih (by simpa using hl) hk
  refine drop d1 ?_
  rw [e] at d2 ⊢
  have d3 := newsK_more (p := p) (l := lits) hl d2
  have nm : ∀ {h : List AO} {l : List Nat} {K K' : List Nat → Prop}, (∀ r, K r → K' r) → newsK h [] l K → newsK h [] l K' := fun {h} => by
    induction h with
    | nil => intro l K K' hm hx; cases l <;> (simp only [newsK] at hx ⊢; exact hm _ hx)
    | cons o h ih => intro l K K' hm hk; cases l with
      | nil => simp [newsK] at hk
      | cons n l => simp only [newsK] at hk ⊢; exact ih hm hk
  refine nm (fun news hn => renOsK_more (fun h1 hl1 hn => renVK_more (fun r1 hn => ?_) hn) hn) d3
  exact backK_more (by omega) (fun k ⟨k1, k2⟩ => ⟨k1, by rw [k2]⟩) hn
theorem splitG_more : ∀ {l : List Nat} {K K' : List Nat → List Nat → Prop}, (∀ a b, K a b → K' a b) → splitG l K → splitG l K'
  | [], _, _, hm, hk => hm _ _ hk
  | n :: l, K, K', hm, hk => by
    unfold splitG at *
    split at hk
    · exact splitG_more (fun a b hx => hm _ _ hx) hk
    · exact splitG_more (fun a b hx => hm _ _ hx) hk
theorem callK_more {f : FuncId} {args : List AV} {x : AV} (hl : h.length < 100) (hk : callK P f args h fun y k => k = h ∧ y = x) : callK P f args (h ++ [p]) fun y k => k = h ++ [p] ∧ y = x := by
  obtain ⟨pass, R, hk⟩ := hk
  refine ⟨pass, R, splitG_more (fun ps gs hk => ?_) hk⟩
  have sw : ∀ {ps : List Nat} {args : List AV} {h1 g : List AO}, callB P f ps R args h1 (fun y k => k = g ∧ y = x) → callB P f ps R args h1 fun y k => y = x ∧ k = g := fun {ps args h1 g} hk => by
    have : (fun (y : AV) (k : List AO) => y = x ∧ k = g) = fun y k => k = g ∧ y = x := funext fun y => funext fun k => propext ⟨fun a => ⟨a.2, a.1⟩, fun a => ⟨a.2, a.1⟩⟩
    rw [this]; exact hk
  have sw2 : ∀ {ps : List Nat} {args : List AV} {h1 g : List AO}, callB P f ps R args h1 (fun y k => y = x ∧ k = g) → callB P f ps R args h1 fun y k => k = g ∧ y = x := fun {ps args h1 g} hk => by
    have : (fun (y : AV) (k : List AO) => k = g ∧ y = x) = fun y k => y = x ∧ k = g := funext fun y => funext fun k => propext ⟨fun a => ⟨a.2, a.1⟩, fun a => ⟨a.2, a.1⟩⟩
    rw [this]; exact hk
  split at hk
  · exact sw2 (callB_more hl rfl (sw hk))
  · exact givesK_more (giveV_more _) _ _ _ (fun args' hk => killK_more (fun h1 hl1 hk => sw2 (callB_more (by omega) hl1.symm (sw hk))) hk) hk
end
end Go.Proofs.YtflclafbieokiaaGreatDoor.AL

namespace Go.Proofs.YtflclafbieokiaaGreatDoor.AL
open Go
variable [Globs]

section
variable {P : Program} {C : Ctx} {t t' : List AV} {h : List AO} {L : Loc} {a : Act} {w : World}

/-! What an operation makes of the slots hangs on those alone that it names. -/
theorem evsK_congr : ∀ {xs : List Operand}, (∀ y ∈ xs, evK t y = evK t' y) → evsK t xs = evsK t' xs
  | [], _ => rfl
  | x :: xs, hx => by
    funext K
    simp only [evsK]
    rw [hx x (by simp), evsK_congr fun y hy => hx y (by simp [hy])]
theorem partsK_congr : ∀ {xs : List (Nat × Operand)}, (∀ y ∈ xs.map (·.2), evK t y = evK t' y) → partsK t xs = partsK t' xs
  | [], _ => rfl
  | (i, x) :: xs, hx => by
    funext K
    simp only [partsK]
    rw [hx x (by simp), partsK_congr fun y hy => hx y (by simp only [List.map_cons, List.mem_cons]; exact .inr hy)]
theorem optK_congr {x : Option Operand} (hx : ∀ y, x = some y → evK t y = evK t' y) : optK t x = optK t' x := by
  cases x with
  | none => rfl
  | some x => funext K; simp only [optK]; rw [hx x rfl]

theorem apure_congr {op : Op} (hx : ∀ y ∈ op.operands.toList, evK t y = evK t' y) : apure P t h op = apure P t' h op := by
  funext K
  cases op with
  | move x => simp only [apure]; rw [hx x (by simp [Op.operands])]
  | assign x => simp only [apure]; rw [hx x (by simp [Op.operands])]
  | pick c x y => simp only [apure]; rw [hx c (by simp [Op.operands]), hx x (by simp [Op.operands]), hx y (by simp [Op.operands])]
  | nilCheck x => simp only [apure]; rw [hx x (by simp [Op.operands])]
  | load T x => simp only [apure]; rw [hx x (by simp [Op.operands])]
  | binOp op T x y T2 =>
    have h1 := hx x (by simp [Op.operands])
    have h2 := hx y (by simp [Op.operands])
    unfold apure
    split <;> simp_all
  | unOp op T x => simp only [apure]; rw [hx x (by simp [Op.operands])]
  | convert s d x => simp only [apure]; rw [hx x (by simp [Op.operands])]
  | slice T x lo hi mx =>
    simp only [apure]
    rw [hx x (by simp [Op.operands]), optK_congr (x := lo) fun y e => hx y (by subst e; simp [Op.operands]), optK_congr (x := hi) fun y e => hx y (by subst e; simp [Op.operands]), optK_congr (x := mx) fun y e => hx y (by subst e; simp [Op.operands])]
  | fieldAddr T x j => simp only [apure]; rw [hx x (by simp [Op.operands])]
  | field T x j => simp only [apure]; rw [hx x (by simp [Op.operands])]
  | indexAddr T x i => simp only [apure]; rw [hx x (by simp [Op.operands]), hx i (by simp [Op.operands])]
  | sliceToArrayPointer T x => simp only [apure]; rw [hx x (by simp [Op.operands])]
  | index T x i => simp only [apure]; rw [hx x (by simp [Op.operands]), hx i (by simp [Op.operands])]
  | extract x j => simp only [apure]; rw [hx x (by simp [Op.operands])]
  | lookup T m x ok => simp only [apure]; rw [hx m (by simp [Op.operands]), hx x (by simp [Op.operands])]
  | call c =>
    obtain ⟨callee, args, types⟩ := c
    have harg : ∀ y ∈ args.toList, evK t y = evK t' y := fun y hy => hx y (by simp only [Op.operands, Call.operands]; simp only [Array.toList_append, List.mem_append]; exact .inr hy)
    cases callee with
    | builtin b =>
      cases b <;> first
        | (simp only [apure]; rw [evsK_congr harg])
        | (simp only [apure]
           split
           · rename_i x T e1 e2
             rw [harg x (by rw [e1]; simp)]
           · rfl)
        | rfl
    | value f => rfl
    | invoke r m => rfl
  | _ => rfl

theorem aq1_congr {o : Oper} (hx : ∀ y ∈ o.op.operands.toList, evK t y = evK t' y) : aq1 P t h o = aq1 P t' h o := by
  funext K
  unfold aq1
  have hp := apure_congr (P := P) (h := h) hx
  split
  · rename_i T len parts e
    rw [partsK_congr fun y hy => hx y (by rw [e]; simpa [Op.operands] using hy)]
  · rename_i T parts e
    rw [partsK_congr fun y hy => hx y (by rw [e]; simpa [Op.operands] using hy)]
  · rename_i f args ty e
    rw [evsK_congr fun y hy => hx y (by rw [e]; simp only [Op.operands, Call.operands]; simp only [Array.toList_append, List.mem_append]; exact .inr hy)]
  · rename_i i args ty e
    have h1 : getK t i = getK t' i := funext fun K => congrFun (hx (.tmp i) (by rw [e]; simp [Op.operands, Call.operands])) K
    rw [h1, evsK_congr fun y hy => hx y (by rw [e]; simp only [Op.operands, Call.operands]; simp only [Array.toList_append, List.mem_append]; exact .inr hy)]
  · rename_i fn first captured e
    have h1 : evsK t captured.toList = evsK t' captured.toList := evsK_congr fun y hy => hx y (by rw [e]; simp only [Op.operands]; simp only [Array.toList_append, List.mem_append]; exact .inr hy)
    have h2 : ∀ x, first.toList = [x] → evK t x = evK t' x := fun x hf => hx x (by rw [e]; simp only [Op.operands]; simp only [Array.toList_append, List.mem_append]; exact .inl (by rw [hf]; exact List.mem_singleton.2 rfl))
    unfold makeFuncK
    rw [h1]
    split
    · rfl
    · rename_i x hf
      rw [h2 x hf]
    · rfl
  · rw [hp]

def putT (t : List AV) (d : Option Tmp) (x : AV) : List AV :=
  match d with
  | some d => t.set d x
  | none => t
theorem putK_iff {d : Option Tmp} {x : AV} {K : List AV → Prop} : putK t d x K ↔ K (putT t d x) := by
  cases d with
  | none => exact Iff.rfl
  | some d => exact setK_iff
theorem evK_putT {d : Option Tmp} {x : AV} {y : Operand} (hy : ∀ i, d = some i → y ≠ .tmp i) : evK (putT t d x) y = evK t y := by
  cases d with
  | none => rfl
  | some d =>
    cases y with
    | tmp i =>
      have hne : d ≠ i := fun e => hy d rfl (e ▸ rfl)
      funext K
      simp only [evK, putT]
      rw [propext getK_iff, propext getK_iff, List.getD_eq_getElem?_getD, List.getElem?_set_ne hne, List.getD_eq_getElem?_getD]
    | _ => rfl
theorem putT_comm {d e : Option Tmp} {x y : AV} (hde : ∀ i, d = some i → e ≠ some i) : putT (putT t d x) e y = putT (putT t e y) d x := by
  cases d with
  | none => rfl
  | some d =>
    cases e with
    | none => rfl
    | some e =>
      have : d ≠ e := fun h => hde d rfl (h ▸ rfl)
      simp only [putT]
      exact List.set_comm _ _ this

theorem aq1_putT {ops : Array Oper} {oi oj : Oper} {x : AV} (hx : ∀ d, oi.dst = some d → d ∉ oj.looksAt ops) : aq1 P (putT t oi.dst x) h oj = aq1 P t h oj :=
  aq1_congr fun y hy => evK_putT fun i hi e => hx i hi (by
    unfold Oper.looksAt
    refine List.mem_append.2 (.inl (List.mem_filterMap.2 ⟨y, hy, by rw [e]⟩)))

/-! What one operation does. -/
theorem buildFreshK_spec (hr : HRel C h L w) {T : TypeId} {len : Nat} {parts : List (Nat × AV)} {ps : Array (Nat × Value)} {K : AV → Prop} (hp : denP w (SS C w h L) L parts ps.toList)
    (hk : buildFreshK P T len parts K) : EffV P C h L w (Instr.buildSlice T len ps) (fun x h' => h' = h ∧ K x) := by
  unfold buildFreshK at hk
  split at hk
  · rename_i e hu
    obtain ⟨sz, hss, _, hk1⟩ := sizeK_spec hk
    obtain ⟨hpos, hk2⟩ := sure_iff.1 hk1
    obtain ⟨hlim, hk3⟩ := sure_iff.1 hk2
    obtain ⟨z, hz, hk4⟩ := zeroK_spec hk3
    obtain ⟨hzs, hk5⟩ := sure_iff.1 hk4
    have hl0 : denL w (SS C w h L) L ((List.range (len * sz)).map fun i => .raw (z.cells[i % sz]!)) ((Array.range (len * sz)).map (z.cells[· % z.cells.size]!)) := by
      refine ⟨by simp, fun i hi => ?_⟩
      simp at hi
      exact ⟨z.cells[i % sz]!, by simp [hi, hzs], by rw [tab_get hi]; rfl⟩
    obtain ⟨l, c, h1, h2, h3, hk6⟩ := fillL_spec hp hl0 hk5
    have hlen : l.length = len * sz := by rw [h3]; simp
    have hrun : (Instr.buildSlice T len ps).run P w = .ok (.slice (some ⟨w.heap.size, 0, none⟩) len len) { w with heap := w.heap.push (.cells c e) } := by
      unfold Instr.buildSlice
      have e1 : ¬ (len * sz > 2 ^ 24) := by omega
      simp only [Sem.run_bind, run_underlying hu, Result.andThen_ok, hss, e1, if_false, Sem.run_pure]
      by_cases e0 : len * sz = 0
      · have h00 : ∀ f : Nat → Value, Array.map f (Array.range (len * sz)) = #[] := fun f => Array.eq_empty_of_size_eq_zero (by simpa using e0)
        rw [h00] at h1
        simp only [e0, if_true, Sem.run_pure, Result.andThen_ok]
        have h01 : ∀ f : Nat → Value, Array.map f (Array.range 0) = #[] := fun f => Array.eq_empty_of_size_eq_zero (by simp)
        simp only [h01, h1, run_newRow, Sem.run_bind, Result.andThen_ok, Sem.run_pure]
      · simp only [e0, if_false, Sem.run_bind, hz, Result.andThen_ok, Sem.run_pure, h1, run_newRow]
    split at hk6
    · rename_i k hik
      obtain ⟨hs1, hk6⟩ := sure_iff.1 hk6
      obtain ⟨xs, hk7, hxl, hxs⟩ := explicitInts_spec (S := SS C w h L) hk6
      have hlater : Later w { w with heap := w.heap.push (.cells c e) } := ⟨⟨by simp, fun b hb => by simp [Array.getElem?_push_lt hb, Array.getElem?_eq_getElem hb]⟩, ⟨rfl, rfl, rfl⟩⟩
      refine ⟨_, .roI k xs, h, L, _, hrun, ⟨hrel_later hlater hr, .refl _, fun b hb => hlater.1.2 b hb.1, fun b hb => ⟨Nat.lt_of_lt_of_le hb.1 hlater.1.1, hb.2⟩⟩, ?_, rfl, hk7⟩
      have hxlen : xs.length = len := by rw [hxl, hlen, hs1, Nat.mul_one]
      refine ⟨some ⟨w.heap.size, 0, none⟩, len, by rw [hxlen], by omega, fun i hi => ⟨w.heap.size, 0, rfl, ⟨by simp, .inr (.inl hr.fr.size), fun j hj e => ?_⟩, ?_⟩⟩
      · have := (hr.mine j _ hj e).1; omega
      · obtain ⟨u, g1, g2⟩ := h2.2 i (by omega)
        rw [hxs i (by omega)] at g2
        have g2 : u = .int k (xs.getD i 0) := g2
        subst g2
        simp [World.cell?, g1]
    · obtain ⟨hfree, hk7⟩ := hk6
      have hlater : Later w { w with heap := w.heap.push (.cells c e) } := ⟨⟨by simp, fun b hb => by simp [Array.getElem?_push_lt hb, Array.getElem?_eq_getElem hb]⟩, ⟨rfl, rfl, rfl⟩⟩
      have hstep : Step C h L w h L { w with heap := w.heap.push (.cells c e) } := ⟨hrel_later hlater hr, .refl _, fun b hb => hlater.1.2 b hb.1, fun b hb => ⟨Nat.lt_of_lt_of_le hb.1 hlater.1.1, hb.2⟩⟩
      refine ⟨_, .ro len sz fun i => l.getD i .top, h, L, _, hrun, hstep, ?_, rfl, hk7⟩
      refine ⟨some ⟨w.heap.size, 0, none⟩, len, rfl, Nat.le_refl _, fun i hi => ?_⟩
      obtain ⟨u, g1, g2⟩ := h2.2 i (by omega)
      refine ⟨u, ⟨w.heap.size, 0, rfl, ⟨by simp, .inr (.inl hr.fr.size), fun j hj e => ?_⟩, ?_⟩, den_free _ _ _ (allFree_at hfree i (by omega)) (den_mono (fun b hb => hlater.1.2 b hb.1) (fun b hb => ⟨Nat.lt_of_lt_of_le hb.1 hlater.1.1, hb.2⟩) (.refl _) _ _ g2)⟩
      · have := (hr.mine j _ hj e).1; omega
      · simp [World.cell?, g1]
  · exact hk.elim

theorem aq1_spec (hr : Rel C t h L a w) {o : Oper} {K : AV → Prop} (hk : aq1 P t h o K) : EffN P C h L w (execOp a.eval o) (fun x h' => h' = h ∧ K x) := by
  have pureCase : ∀ {op : Op}, o.op = op → apure P t h op K → EffN P C h L w (execOp a.eval o) (fun x h' => h' = h ∧ K x) := fun ho hp => by
    obtain ⟨v, x, h1, h2, h3⟩ := apure_spec hr ho hp
    exact GivesN.eff hr.heap ⟨v, x, h1, h2, rfl, h3⟩
  unfold aq1 at hk
  split at hk
  · rename_i T len parts ho
    have e : execOp a.eval o = (do pure (.value (← Instr.buildSlice T len (parts.map fun (i, x) => (i, a.eval x))))) := by unfold execOp; rw [ho]
    rw [e]
    obtain ⟨vs, h1, h2⟩ := partsK_spec hr hk
    have h1' : denP w (SS C w h L) L vs (parts.map fun (i, x) => (i, a.eval x)).toList := by simpa using h1
    exact (buildFreshK_spec hr.heap h1' h2).next
  · rename_i T parts ho
    have e : execOp a.eval o = (do pure (.value (← Instr.build T (parts.map fun (i, x) => (i, a.eval x))))) := by unfold execOp; rw [ho]
    rw [e]
    obtain ⟨vs, h1, h2⟩ := partsK_spec hr hk
    obtain ⟨v, x, g1, g2, g3⟩ := buildK_spec (P := P) (w := w) (ps := parts.map fun (i, x) => (i, a.eval x)) (by simpa using h1) h2
    exact (Gives.eff (K := fun x h' => h' = h ∧ K x) hr.heap ⟨v, x, g1, g2, rfl, g3⟩).next
  · rename_i f args types ho
    obtain ⟨vs, h1, h2, h3⟩ := evsK_spec hr hk
    have hex : execOp a.eval o = (do let d ← resolve a.eval { callee := .value (.func f), args, argTypes := types } o.type; invoke d.target d.args) := by unfold execOp; rw [ho]
    have hargs : (args.toList.map a.eval).toArray = args.map a.eval := by apply Array.ext'; simp
    obtain ⟨hent, hcall⟩ := callK_spec hr.heap (vs := args.map a.eval) (by simpa using h1.symm) (by rw [← hargs]; exact list_vals (a := a) h1 h2) h3
    refine .inr ⟨f, args.map a.eval, ?_, hcall⟩
    rw [hex]
    simp [resolve, Deferred.ofValue, Act.eval, invoke, run_callFunc hent]
  · rename_i i args types ho
    have hex : execOp a.eval o = (do let d ← resolve a.eval { callee := .value (.tmp i), args, argTypes := types } o.type; invoke d.target d.args) := by unfold execOp; rw [ho]
    obtain ⟨f, h1, h2⟩ := evK_spec (x := .tmp i) hr hk
    obtain ⟨vs, h3, h4, h5⟩ := evsK_spec hr h2
    have hvs := list_vals (a := a) h3 h4
    have hargs : (args.toList.map a.eval).toArray = args.map a.eval := by apply Array.ext'; simp
    split at h5
    · rename_i f
      have hx : a.eval (.tmp i) = .func (.func f) #[] #[] := h1
      obtain ⟨hent, hcall⟩ := callK_spec hr.heap (vs := args.map a.eval) (by simpa using h3.symm) (by rw [← hargs]; exact hvs) h5
      refine .inr ⟨f, args.map a.eval, ?_, hcall⟩
      rw [hex]
      simp [resolve, Deferred.ofValue, hx, invoke, run_callFunc hent]
    · rename_i f n g
      obtain ⟨cs, hx, hcn, hcs⟩ := h1
      obtain ⟨hent, hcall⟩ := callK_spec hr.heap (vs := args.map a.eval ++ cs) (by simp [hcn, h3]) (fun i y hi => by
        rcases Nat.lt_or_ge i vs.length with hlt | hge
        · rw [List.getElem?_append_left hlt] at hi
          obtain ⟨u, g1, g2⟩ := hvs i y hi
          rw [hargs] at g1
          have hsz : (args.map a.eval).size = vs.length := by simpa using h3.symm
          exact ⟨u, by rw [Array.getElem?_append_left (by omega)]; exact g1, g2⟩
        · rw [List.getElem?_append_right hge] at hi
          have hlt : i - vs.length < n := by
            have := (List.getElem?_eq_some_iff.1 hi).1
            simpa using this
          rw [List.getElem?_map, List.getElem?_range hlt] at hi
          simp at hi
          subst hi
          obtain ⟨u, g1, g2⟩ := hcs _ hlt
          have hsz : (args.map a.eval).size = vs.length := by simpa using h3.symm
          exact ⟨u, by rw [Array.getElem?_append_right (by omega), hsz]; exact g1, g2⟩) h5
      refine .inr ⟨f, args.map a.eval ++ cs, ?_, hcall⟩
      rw [hex]
      simp [resolve, Deferred.ofValue, hx, invoke, run_callFunc hent]
    · rename_i f id
      obtain ⟨hid, b, hb, hx⟩ := h1
      have h6 : callK P f (.ptr id 0 :: vs) h (fun x h' => h' = h ∧ K x) := h5
      have hsz : (args.map a.eval).size = vs.length := by simpa using h3.symm
      have hvs' : ∀ (i : Nat) (y : AV), vs[i]? = some y → ∃ u, (args.map a.eval)[i]? = some u ∧ den w (SS C w h L) L y u := by rw [← hargs]; exact hvs
      obtain ⟨hent, hcall⟩ := call_bm hr.heap hid hb hsz hvs' h6
      refine .inr ⟨f, _, ?_, hcall⟩
      rw [hex]
      simp only [resolve, Deferred.ofValue, hx, invoke]
      simp [run_callFunc hent]
    · exact h5.elim
  · rename_i fn first captured ho
    have e : execOp a.eval o = (do pure (.value (← Instr.makeFunc fn (first.map a.eval) (captured.map a.eval)))) := by unfold execOp; rw [ho]
    rw [e]
    obtain ⟨v, x, g1, g2, g3⟩ := makeFuncK_spec (P := P) hr hk
    exact (Gives.eff (K := fun x h' => h' = h ∧ K x) hr.heap ⟨v, x, g1, g2, rfl, g3⟩).next
  · exact pureCase rfl hk

/-! Whatever order is picked. -/
def res (P : Program) (ops : Array Oper) (h : List AO) (t : List AV) (o : Oper) (x : AV) : Prop := gdK ops.toList t o (aq1 P t h o (fun y => y = x)) (x = .raw undef)
theorem gdK_congr {ops : Array Oper} {o : Oper} {A A' B : Prop} (hg : ∀ d : Tmp, d ∈ o.looksAt ops → getK t d = getK t' d) (hA : A = A') : gdK ops.toList t o A B = gdK ops.toList t' o A' B := by
  subst hA
  unfold gdK
  split
  · rfl
  · rename_i j want e
    split
    · rename_i oj hj
      have hj' : ops[j]? = some oj := by simpa using hj
      split
      · rename_i d hd
        rw [hg d (by unfold Oper.looksAt; rw [e]; simp [hj', hd])]
      · rfl
    · rfl
theorem res_putT {ops : Array Oper} {oi oj : Oper} {x : AV} (hx : ∀ d, oi.dst = some d → d ∉ oj.looksAt ops) : res P ops h (putT t oi.dst x) oj = res P ops h t oj := by
  funext y
  unfold res
  refine gdK_congr (fun d hd => ?_) (by rw [aq1_putT hx])
  have : evK (putT t oi.dst x) (.tmp d) = evK t (.tmp d) := evK_putT fun i hi e => by
    cases e
    exact hx d hi hd
  funext K
  exact congrFun this K

def resE (P : Program) (ops : Array Oper) (h : List AO) (t : List AV) (o : Oper) (x : AV) (h' : List AO) : Prop :=
  match effO o with
  | false => res P ops h t o x ∧ h' = h
  | true => aeff P t h o (fun y k => y = x ∧ k = h')
theorem aeff_congr {o : Oper} (he : effO o = true) (hx : ∀ y ∈ o.op.operands.toList, evK t y = evK t' y) : aeff P t h o = aeff P t' h o := by
  funext K
  unfold effO at he
  split at he
  · split at he
    · rename_i T x y e
      unfold aeff
      simp only [e]
      rw [hx x (by rw [e]; simp [Op.operands])]
      have : (fun a => evK t y fun v => storeK P T h a v fun h' => K .top h') = fun a => evK t' y fun v => storeK P T h a v fun h' => K .top h' := by
        funext a
        rw [hx y (by rw [e]; simp [Op.operands])]
      rw [this]
    · rename_i T e
      unfold aeff
      simp only [e]
    · rename_i e
      unfold aeff
      simp only [e]
      rw [evsK_congr fun y hy => hx y (by rw [e]; simp only [Op.operands, Call.operands]; simp only [Array.toList_append, List.mem_append]; exact .inr hy)]
    · cases he
  · cases he
theorem resE_putT {ops : Array Oper} {oi oj : Oper} {x : AV} (hx : ∀ d, oi.dst = some d → d ∉ oj.looksAt ops) : resE P ops h (putT t oi.dst x) oj = resE P ops h t oj := by
  funext y h'
  unfold resE
  split
  · rw [res_putT hx]
  · rename_i he
    rw [aeff_congr he fun y hy => evK_putT fun i hi e => hx i hi (by
      unfold Oper.looksAt
      exact List.mem_append.2 (.inl (List.mem_filterMap.2 ⟨y, hy, by rw [e]⟩)))]
theorem aq1_tmp {o : Oper} (ho : tmpO o = true) {h h' : List AO} : aq1 P t h o = aq1 P t h' o := by
  unfold tmpO at ho
  funext K
  unfold aq1 apure
  split at ho <;> first | (rename_i e; simp only [e]; done) | (rename_i e; simp only [e]; rename_i y ty; cases y <;> first | rfl | (rename_i v; cases v <;> rfl)) | cases ho
theorem slice_any {T : TypeId} {e : TypeId} (hT : P.underlying T = some (.slice e)) (h h' : List AO) (x : AV) (lo hi : Option AV) (K : AV → Prop) : sliceK P T h x lo hi none K = sliceK P T h' x lo hi none K := by
  unfold sliceK
  rw [hT]
  cases x <;> first | rfl | (rename_i v; cases v <;> first | rfl | (rename_i q1 q2 q3; cases q1 <;> first | rfl | (cases q2 <;> first | rfl | (cases q3 <;> rfl))))
theorem aq1_cut {o : Oper} (ho : cutO P o = true) {h h' : List AO} : aq1 P t h o = aq1 P t h' o := by
  unfold cutO at ho
  split at ho
  · rename_i T x lo hi e
    split at ho
    · rename_i e2 hT
      funext K
      unfold aq1
      simp only [e]
      unfold apure
      have hn : ∀ K : Option AV → Prop, optK t none K = K none := fun _ => rfl
      simp only [hn, slice_any hT h h']
    · cases ho
  · cases ho
theorem eff_cut {o : Oper} (ho : cutO P o = true) : effO o = false := by
  unfold cutO at ho
  unfold effO
  split at ho <;> first | (rename_i e; rw [e]; split <;> rfl) | cases ho
theorem aq1_tmpP {o : Oper} (ho : tmpP P o = true) {h h' : List AO} : aq1 P t h o = aq1 P t h' o := by
  unfold tmpP at ho
  rcases Bool.or_eq_true_iff.1 ho with ho | ho
  · exact aq1_tmp ho
  · exact aq1_cut ho
theorem eff_tmp {o : Oper} (ho : tmpO o = true) : effO o = false := by
  unfold tmpO at ho
  unfold effO
  split at ho <;> first | (rename_i e; rw [e]; split <;> rfl) | cases ho
theorem eff_tmpP {o : Oper} (ho : tmpP P o = true) : effO o = false := by
  unfold tmpP at ho
  rcases Bool.or_eq_true_iff.1 ho with ho | ho
  · exact eff_tmp ho
  · exact eff_cut ho
theorem resE_tmp {ops : Array Oper} {o : Oper} (ho : tmpP P o = true) {h1 h2 : List AO} {x : AV} {k : List AO} (hk : resE P ops h1 t o x k) : k = h1 ∧ resE P ops h2 t o x h2 := by
  unfold resE at *
  rw [eff_tmpP ho] at *
  obtain ⟨g1, g2⟩ := hk
  refine ⟨g2, ?_, rfl⟩
  unfold res at *
  rw [aq1_tmpP ho (h' := h1)]
  exact g1

def aOp (P : Program) (ops : Array Oper) (h : List AO) (i : Nat) (K : List AV → List AO → Prop) (t : List AV) : Prop :=
  match ops[i]? with
  | none => K t h
  | some o => ∃ x h', resE P ops h t o x h' ∧ K (putT t o.dst x) h'
theorem aOp_mono {ops : Array Oper} {i : Nat} {K K' : List AV → List AO → Prop} (hm : ∀ t h, K t h → K' t h) (hk : aOp P ops h i K t) : aOp P ops h i K' t := by
  unfold aOp at *
  split
  · rename_i e; rw [e] at hk; exact hm _ _ hk
  · rename_i o e; rw [e] at hk; obtain ⟨x, h', h1, h2⟩ := hk; exact ⟨x, h', h1, hm _ _ h2⟩

theorem gdK_spec (hr : Rel C t h L a w) {ops : Array Oper} {o : Oper} {run skip : Prop} (hk : gdK ops.toList t o run skip) :
    (Region.wanted o (yielded ops a.tmps) = true ∧ run) ∨ (Region.wanted o (yielded ops a.tmps) = false ∧ skip) := by
  unfold gdK at hk
  split at hk
  · rename_i hg
    exact .inl ⟨by simp [Region.wanted, hg], hk⟩
  · rename_i j want hg
    split at hk
    · rename_i oj hj
      have hj' : ops[j]? = some oj := by simpa using hj
      split at hk
      · rename_i d hd
        replace hk := getK_iff.1 hk
        have yes : ∀ {x : AV}, x ≠ .top → t.getD d .top = x → ∃ u, a.tmps[d]? = some u ∧ den w (SS C w h L) L x u := by
          intro x hx e
          have hlt : d < t.length := by
            rcases Nat.lt_or_ge d t.length with h' | h'
            · exact h'
            · rw [List.getD_eq_getElem?_getD, List.getElem?_eq_none (by simpa using h')] at e
              exact absurd e.symm hx
          exact hr.tmps d x (by rw [← e, List.getD_eq_getElem?_getD, List.getElem?_eq_getElem hlt]; rfl)
        have want? : ∀ {b : Bool}, a.tmps[d]? = some (.bool b) → Region.wanted o (yielded ops a.tmps) = (b == want) := fun {b} hb => by
          have hy : yielded ops a.tmps j = some b := by simp [yielded, hj', hd, hb]
          simp only [Region.wanted, hg, hy]
          cases b <;> cases want <;> rfl
        generalize hx : t.getD d .top = x at hk
        split at hk
        · obtain ⟨u, h1, h2⟩ := yes (by simp) hx
          rw [show u = .bool true from h2] at h1
          exact .inl ⟨by rw [want? h1]; rfl, hk⟩
        · obtain ⟨u, h1, h2⟩ := yes (by simp) hx
          rw [show u = .bool false from h2] at h1
          exact .inl ⟨by rw [want? h1]; rfl, hk⟩
        · obtain ⟨u, h1, h2⟩ := yes (by simp) hx
          rw [show u = .bool true from h2] at h1
          exact .inr ⟨by rw [want? h1]; rfl, hk⟩
        · obtain ⟨u, h1, h2⟩ := yes (by simp) hx
          rw [show u = .bool false from h2] at h1
          exact .inr ⟨by rw [want? h1]; rfl, hk⟩
        · obtain ⟨u, h1, h2⟩ := yes (by simp) hx
          rw [show u = .bool true from h2] at h1
          exact .inl ⟨by rw [want? h1]; rfl, hk⟩
        · obtain ⟨u, h1, h2⟩ := yes (by simp) hx
          rw [show u = .bool false from h2] at h1
          exact .inl ⟨by rw [want? h1]; rfl, hk⟩
        · obtain ⟨u, h1, h2⟩ := yes (by simp) hx
          rw [show u = .bool true from h2] at h1
          exact .inr ⟨by rw [want? h1]; rfl, hk⟩
        · obtain ⟨u, h1, h2⟩ := yes (by simp) hx
          rw [show u = .bool false from h2] at h1
          exact .inr ⟨by rw [want? h1]; rfl, hk⟩
        · obtain ⟨u, h1, h2⟩ := yes (by simp) hx
          have h2' : u = _ := h2
          rw [h2'] at h1
          have hnone : yielded ops a.tmps j = none := by simp [yielded, hj', hd, h1]
          refine .inr ⟨?_, hk⟩
          simp only [Region.wanted, hg, hnone]
          rfl
        · exact hk.elim
      · exact hk.elim
    · exact hk.elim

theorem wpOp_of_aOp {ops : Array Oper} {n i : Nat} (hi : i < n) {K : List AV → List AO → Prop} {K' : Act → World → Prop} {Q' : Exit → Act → World → Prop} (hr : Rel C t h L a w)
    (hK : ∀ t h L a w, Rel C t h L a w → K t h → K' a w) (hk : aOp P ops h i K t) : wpOp P ops Q' i K' a w := by
  unfold aOp at hk
  unfold wpOp
  split
  · rename_i e; rw [e] at hk; exact hK _ _ _ _ _ hr hk
  · rename_i o e
    rw [e] at hk
    obtain ⟨x, h', h1, h2⟩ := hk
    have next : ∀ {v : Value} {y : AV} {h1 : List AO} {L1 : Loc} {w1 : World}, Step C h L w h1 L1 w1 → den w1 (SS C w1 h1 L1) L1 y v → y = x ∧ h1 = h' → K' (a.put o.dst v) w1 := by
      rintro v y h1 L1 w1 hs hd ⟨rfl, rfl⟩
      obtain ⟨t2, hr2, hk2⟩ := (hs.relT hr).put (d := o.dst) hd (K := fun t2 => t2 = putT t o.dst y) (putK_iff.2 rfl)
      subst hk2
      exact hK _ _ _ _ _ hr2 h2
    have go : EffN P C h L w (execOp a.eval o) (fun y k => y = x ∧ k = h') → o.wp P a w K' Q' := fun he => by
      rcases he with ⟨v, y, h1, L1, w1, hrun, hs, hd, hk1⟩ | ⟨f, vs, hrun, hcall⟩
      · unfold Oper.wp
        rcases hrun with hrun | ⟨hrun, rfl⟩
        · rw [hrun]; exact next hs hd hk1
        · rw [hrun]; exact next hs hd hk1
      · unfold Oper.wp
        rw [hrun]
        refine hcall.mono fun e w1 he => ?_
        obtain ⟨v, y, h1, L1, rfl, hs, hd, hk1⟩ := he
        exact next hs hd hk1
    unfold resE at h1
    split at h1
    · obtain ⟨h1, rfl⟩ := h1
      rcases gdK_spec hr h1 with ⟨hw, h1⟩ | ⟨hw, h1⟩
      rotate_left
      · rw [if_neg (by rw [hw]; decide)]
        subst h1
        obtain ⟨t2, hr2, hk2⟩ := hr.put (d := o.dst) (x := .raw undef) (v := undef) rfl (K := fun t2 => t2 = putT t o.dst (.raw undef)) (putK_iff.2 rfl)
        subst hk2
        exact hK _ _ _ _ _ hr2 h2
      rw [if_pos hw]
      exact .inl (go (by
        rcases aq1_spec hr h1 with ⟨v, y, k, L1, w1, hrun, hs, hd, hk1⟩ | ⟨f, vs, hrun, hcall⟩
        · exact .inl ⟨v, y, k, L1, w1, hrun, hs, hd, hk1.2, hk1.1⟩
        · exact .inr ⟨f, vs, hrun, hcall.mono fun e w1 ⟨v, y, k, L1, q1, q2, q3, q4⟩ => ⟨v, y, k, L1, q1, q2, q3, q4.2, q4.1⟩⟩))
    · rename_i he
      have hw : Region.wanted o (yielded ops a.tmps) = true := by
        unfold effO at he
        split at he
        · rename_i hg; simp [Region.wanted, hg]
        · cases he
      rw [if_pos hw]
      exact .inl (go (aeff_spec hr h1))

def anyT (P : Program) (ops : Array Oper) (n : Nat) (M : Array Bool → List AV → List AO → Prop) : Nat → Array Bool → List AV → List AO → Prop
  | 0, listed, t, h => M listed t h
  | f + 1, listed, t, h => Region.ready .any ops listed ≠ [] ∧ ∀ i ∈ Region.ready .any ops listed, i < n ∧ aOp P ops h i (anyT P ops n M f (listed.setIfInBounds i true)) t

theorem wpAny_of_anyT {ops : Array Oper} {n g : Nat} {M : Array Bool → List AV → List AO → Prop} {Q' : Exit → Act → World → Prop}
    (hM : ∀ listed t h L a w, M listed t h → Rel C t h L a w → wpAny P .any ops Q' g listed a w) :
    ∀ (f : Nat) (listed : Array Bool) (t : List AV) (h : List AO) (L : Loc) (a : Act) (w : World), anyT P ops n M f listed t h → Rel C t h L a w → wpAny P .any ops Q' (f + g) listed a w
  | 0, listed, t, h, L, a, w, hk, hr => by rw [Nat.zero_add]; exact hM _ _ _ _ _ _ hk hr
  | f + 1, listed, t, h, L, a, w, hk, hr => by
    rw [show f + 1 + g = (f + g) + 1 by omega]
    exact ⟨fun h0 => absurd h0 hk.1, fun i hi => wpOp_of_aOp (hk.2 i hi).1 hr (fun t h L a w hr' hk' => wpAny_of_anyT hM f _ t h L a w hk' hr') (hk.2 i hi).2⟩

theorem getD_set_more {listed : Array Bool} {i j : Nat} (h : listed.getD j true = true) : (listed.setIfInBounds i true).getD j true = true := by
  by_cases hij : i = j
  · subst hij
    simp only [Array.getD_eq_getD_getElem?, Array.getElem?_setIfInBounds]
    by_cases hb : i < listed.size <;> simp [hb]
  · rw [getD_set_ne true hij]; exact h
theorem getD_set_self (listed : Array Bool) (i : Nat) : (listed.setIfInBounds i true).getD i true = true := by
  simp only [Array.getD_eq_getD_getElem?, Array.getElem?_setIfInBounds]
  by_cases hb : i < listed.size <;> simp [hb]
theorem cst_at (v : Value) : ∃ a, ∀ K, cstK v K = K a := by
  cases v <;> first | exact ⟨_, fun _ => rfl⟩ | (rename_i b; cases b <;> exact ⟨_, fun _ => rfl⟩)
theorem evK_more {t : List AV} {x : Operand} {K K' : AV → Prop} (hm : ∀ a, K a → K' a) (hk : evK t x K) : evK t x K' := by
  cases x with
  | tmp i => exact getK_iff.2 (hm _ (getK_iff.1 hk))
  | const v =>
    obtain ⟨a, ha⟩ := cst_at v
    show cstK v K'
    have hk : cstK v K := hk
    rw [ha] at *
    exact hm _ hk
  | global g => exact hm _ hk
  | func f => exact hm _ hk
theorem optK_more {t : List AV} {x : Option Operand} {K K' : Option AV → Prop} (hm : ∀ a, K a → K' a) (hk : optK t x K) : optK t x K' := by
  cases x with
  | none => exact hm _ hk
  | some x => exact evK_more (fun a ha => hm _ ha) hk
theorem evsK_more {t : List AV} : ∀ {l : List Operand} {K K' : List AV → Prop}, (∀ a, K a → K' a) → evsK t l K → evsK t l K'
  | [], _, _, hm, hk => hm _ hk
  | _ :: _, _, _, hm, hk => evK_more (fun _ hx => evsK_more (fun _ hr => hm _ hr) hx) hk
theorem addO_len {h : List AO} {o : AO} {K : Nat → List AO → Prop} (hk : addO h o K) : h.length < 100 := by
  have go : ∀ (h : List AO) (l : List Nat) (K : Nat → List AO → Prop), addO.go o h l K → h.length < l.length := fun h => by
    induction h with
    | nil => intro l K hk; cases l with
      | nil => exact hk.elim
      | cons n l => simp
    | cons q h ih => intro l K hk; cases l with
      | nil => exact hk.elim
      | cons n l => have := ih l _ hk; simp; omega
  exact go h lits K hk
theorem gdK_more {all : List Oper} {t : List AV} {o : Oper} {run run' skip : Prop} (hm : run → run') (hk : gdK all t o run skip) : gdK all t o run' skip := by
  unfold gdK at *
  split at hk
  · exact hm hk
  · split at hk
    · split at hk
      · replace hk := getK_iff.1 hk
        refine getK_iff.2 ?_
        split at hk <;> first | exact hm hk | exact hk
      · exact hk
    · exact hk
theorem load_eff {o : Oper} (ho : loadO o = true) : effO o = false := by
  unfold loadO at ho
  unfold effO
  split at ho <;> first | (rename_i e; rw [e]; split <;> rfl) | cases ho
theorem alloc_eff {o : Oper} (ho : allocO o = true) : effO o = true := by
  unfold allocO at ho
  split at ho
  · rename_i e
    split at ho
    · rename_i e2; simp [effO, e, e2]
    · cases ho
  · cases ho
theorem load_more {ops : Array Oper} {o : Oper} {t : List AV} {h : List AO} {p : AO} {x : AV} (hl : h.length < 100) (ho : loadO o = true) (hy : resE P ops h t o x h) : resE P ops (h ++ [p]) t o x (h ++ [p]) := by
  unfold resE at *
  rw [load_eff ho] at *
  refine ⟨?_, rfl⟩
  have hy := hy.1
  unfold res at *
  have h1 : aq1 P t h o (fun y => y = x) → aq1 P t (h ++ [p]) o (fun y => y = x) := by
    unfold loadO at ho
    split at ho
    · rename_i T y e
      unfold aq1
      simp only [e]
      unfold apure
      intro hk
      exact evK_more (fun a ha => loadK_more ha) hk
    · rename_i e
      unfold aq1
      simp only [e]
      unfold apure
      intro hk
      exact evK_more (fun a ha => convK_more ha) hk
    · rename_i e
      unfold aq1
      simp only [e]
      unfold apure
      intro hk
      exact evK_more (fun a ha => optK_more (fun _ ha => optK_more (fun _ ha => optK_more (fun _ ha => sliceK_more ha) ha) ha) ha) hk
    · rename_i e
      unfold aq1
      simp only [e]
      exact evsK_more fun l hk => callK_more hl hk
    · rename_i e
      unfold aq1
      simp only [e]
      intro hk
      refine getK_iff.2 (evsK_more (fun l hk => ?_) (getK_iff.1 hk))
      split at hk
      · exact callK_more hl hk
      · exact callK_more hl hk
      · exact callK_more hl hk
      · exact hk
    · rename_i e
      unfold aq1
      simp only [e]
      exact fun hk => hk
    · cases ho
  exact gdK_more h1 hy
theorem alloc_more {o : Oper} {t : List AV} {h h' : List AO} {x : AV} (ho : allocO o = true) (hk : aeff P t h o (fun y k => y = x ∧ k = h')) : ∃ p, h' = h ++ [p] ∧ h.length < 100 := by
  unfold allocO at ho
  split at ho
  · split at ho
    · rename_i E e
      unfold aeff at hk
      simp only [e] at hk
      obtain ⟨z, _, hk⟩ := zeroK_spec hk
      split at hk
      · split at hk
        · obtain ⟨_, _, _, hk⟩ := sizeK_spec hk
          have hl := addO_len (sure_iff.1 hk).2.2
          have hk := addO_spec (sure_iff.1 hk).2.2
          exact ⟨_, hk.2.symm, hl⟩
        · split at hk
          · obtain ⟨ze, _, hk⟩ := zeroK_spec hk
            exact ⟨_, (addO_spec hk.2).2.symm, addO_len hk.2⟩
          · exact ⟨_, (addO_spec hk).2.symm, addO_len hk⟩
      · exact ⟨_, (addO_spec hk).2.symm, addO_len hk⟩
      · exact hk.elim
    · cases ho
  · cases ho

theorem aOp_swap {ops : Array Oper} {j : Nat} {oi oj : Oper} {x : AV} {h1 : List AO} (hj : ops[j]? = some oj) (hap : oi.apart ops oj = true) (hpr : ((!effO oi && !effO oj) || ((tmpP P oi || tmpP P oj) || (loadO oi && allocO oj))) = true) {K : List AV → List AO → Prop}
    (hy : resE P ops h t oi x h1) (hk : aOp P ops h1 j K (putT t oi.dst x)) : aOp P ops h j (fun t' h' => ∃ h3, resE P ops h' t' oi x h3 ∧ K (putT t' oi.dst x) h3) t := by
  obtain ⟨a1, a2, a3⟩ := Oper.apart_spec hap
  unfold aOp at *
  rw [hj] at *
  obtain ⟨y, h2, g1, g2⟩ := hk
  rw [resE_putT a1] at g1
  rw [putT_comm (d := oi.dst) (e := oj.dst) a2] at g2
  by_cases tl : (loadO oi && allocO oj) = true
  · rw [Bool.and_eq_true] at tl
    have e1 : h1 = h := by unfold resE at hy; rw [load_eff tl.1] at hy; exact hy.2
    subst e1
    refine ⟨y, h2, g1, h2, ?_, g2⟩
    rw [resE_putT a3]
    obtain ⟨p, rfl, hl⟩ : ∃ p, h2 = h1 ++ [p] ∧ h1.length < 100 := by unfold resE at g1; rw [alloc_eff tl.2] at g1; exact alloc_more tl.2 g1
    exact load_more hl tl.1 hy
  rw [Bool.not_eq_true] at tl
  rw [tl, Bool.or_false] at hpr
  by_cases ti : tmpP P oi = true
  · obtain ⟨rfl, _⟩ := resE_tmp (h2 := h) ti hy
    refine ⟨y, h2, g1, h2, ?_, g2⟩
    rw [resE_putT a3]
    exact (resE_tmp ti hy).2
  · by_cases tj : tmpP P oj = true
    · obtain ⟨rfl, g3⟩ := resE_tmp (h2 := h) tj g1
      refine ⟨y, h, g3, h2, ?_, g2⟩
      rw [resE_putT a3]
      exact hy
    · have hpr : effO oi = false ∧ effO oj = false := by
        rw [Bool.not_eq_true] at ti tj
        rw [ti, tj] at hpr
        revert hpr
        cases effO oi <;> cases effO oj <;> simp
      have e1 : h1 = h := by unfold resE at hy; rw [hpr.1] at hy; exact hy.2
      subst e1
      have e2 : h2 = h1 := by unfold resE at g1; rw [hpr.2] at g1; exact g1.2
      subst e2
      refine ⟨y, h2, g1, h2, ?_, g2⟩
      rw [resE_putT a3]
      exact hy

theorem behind2_not {ops : Array Oper} {listed : Array Bool} {o : Oper} {i : Nat} (hc : ∀ j oj, ops[j]? = some oj → listed.getD j false = true → ∀ e ∈ oj.after, Region.binds .any e = true → listed.getD e.on false = true)
    (hall : ∀ e ∈ o.after, Region.binds .any e = true → listed.getD e.on false = true) (hi : listed.getD i false = false) : behind2 ops o i = false := by
  rw [← Bool.not_eq_true]
  intro h
  unfold behind2 at h
  rw [Array.any_eq_true] at h
  obtain ⟨q, hq, h⟩ := h
  rw [Bool.and_eq_true] at h
  have h1 := hall _ (Array.getElem_mem hq) h.1
  have h2 := h.2
  split at h2
  · rename_i m hm
    rw [Array.any_eq_true] at h2
    obtain ⟨q2, hq2, h3⟩ := h2
    rw [Bool.and_eq_true, beq_iff_eq] at h3
    have h4 := hc _ m hm h1 _ (Array.getElem_mem hq2) h3.1
    rw [h3.2, hi] at h4
    cases h4
  · cases h2

theorem pairs_at {ops : Array Oper} {n i j : Nat} {oi oj : Oper} (hp : pairsB P ops n = true) (hi : i < n) (hj : j < n) (hne : j ≠ i) (ei : ops[i]? = some oi) (ej : ops[j]? = some oj)
    (h1 : ∀ e ∈ oj.after, Region.binds .any e = true → e.on ≠ i) (h2 : ∀ e ∈ oi.after, Region.binds .any e = true → e.on ≠ j) (h4 : behind2 ops oj i = false) (h5 : behind2 ops oi j = false) (hlt : i < j) : ((!effO oi && !effO oj) || ((tmpP P oi || tmpP P oj) || (loadO oi && allocO oj))) = true := by
  unfold pairsB at hp
  have h3 := List.all_eq_true.1 (List.all_eq_true.1 hp i (List.mem_range.2 hi)) j (List.mem_range.2 hj)
  rw [Bool.or_eq_true, decide_eq_true_eq] at h3
  rcases h3 with h3 | h3
  · exact absurd h3.symm hne
  · unfold pairO at h3
    rw [ei, ej] at h3
    simp only [h4, h5, Bool.or_self, Bool.false_or] at h3
    have k1 : (oj.after.any fun e => Region.binds .any e && e.on == i) = false := by
      rw [← Bool.not_eq_true]
      intro h
      rw [Array.any_eq_true] at h
      obtain ⟨q, hq, h⟩ := h
      rw [Bool.and_eq_true, beq_iff_eq] at h
      exact h1 _ (Array.getElem_mem hq) h.1 h.2
    have k2 : (oi.after.any fun e => Region.binds .any e && e.on == j) = false := by
      rw [← Bool.not_eq_true]
      intro h
      rw [Array.any_eq_true] at h
      obtain ⟨q, hq, h⟩ := h
      rw [Bool.and_eq_true, beq_iff_eq] at h
      exact h2 _ (Array.getElem_mem hq) h.1 h.2
    rw [k1, k2, decide_eq_true hlt, decide_eq_false (by omega : ¬ j < i)] at h3
    simpa using h3

theorem anyT_first {ops : Array Oper} {n i : Nat} {oi : Oper} {x : AV} {M : Array Bool → List AV → List AO → Prop} (hi : ops[i]? = some oi)
    (hs : Region.sinkB .any ops n = true) (hc : Region.chainB .any ops n = true) (hn : n < ops.size) (hin : i < n) (hp : pairsB P ops n = true)
    (hdone : ∀ listed t h, M listed t h → ∀ j ∈ Region.ready .any ops listed, n ≤ j) :
    ∀ (f : Nat) (listed : Array Bool) (t : List AV) (h h1 : List AO), HeadInv .any ops n listed → (∀ j, j < i → listed.getD j true = true) →
      (∀ j oj, ops[j]? = some oj → j ≠ i → listed.getD j true = false → (∀ e ∈ oj.after, Region.binds .any e = true → e.on ≠ i) → oi.apart ops oj = true) →
      i ∈ Region.ready .any ops listed → resE P ops h t oi x h1 →
      anyT P ops n M f (listed.setIfInBounds i true) (putT t oi.dst x) h1 → anyT P ops n M (f + 1) listed t h := by
  intro f
  induction f with
  | zero =>
    intro listed t h h1 inv _ _ hr hy H
    have hun := (mem_ready.1 hr).1
    refine ⟨fun e => (by rw [e] at hr; cases hr), fun j hj => ?_⟩
    have hjn : j < n := Nat.lt_of_not_le fun h' => tail_waits hs hc hn inv _ i rfl hin hun j h' hj
    refine ⟨hjn, ?_⟩
    by_cases hji : j = i
    · subst hji; unfold aOp; rw [hi]; exact ⟨x, h1, hy, H⟩
    · exact absurd (hdone _ _ _ H j (ready_mono hj hji)) (by omega)
  | succ f ih =>
    intro listed t h h1 inv hlow hfree hr hy H
    have hun := (mem_ready.1 hr).1
    refine ⟨fun e => (by rw [e] at hr; cases hr), fun j hj => ?_⟩
    have hjn : j < n := Nat.lt_of_not_le fun h' => tail_waits hs hc hn inv _ i rfl hin hun j h' hj
    refine ⟨hjn, ?_⟩
    by_cases hji : j = i
    · subst hji; unfold aOp; rw [hi]; exact ⟨x, h1, hy, H⟩
    · have hj1 := (H.2 j (ready_mono hj hji)).2
      obtain ⟨hjun, oj, hoj, hall⟩ := mem_ready.1 hj
      have hnot : ∀ e ∈ oj.after, Region.binds .any e = true → e.on ≠ i := fun e he hb heq => by
        have h2 := hall e he hb
        rw [heq, getD_both hun] at h2
        cases h2
      have hnot2 : ∀ e ∈ oi.after, Region.binds .any e = true → e.on ≠ j := fun e he hb heq => by
        obtain ⟨_, oi', hoi', hall'⟩ := mem_ready.1 hr
        rw [hi] at hoi'
        obtain rfl := Option.some.inj hoi'
        have h2 := hall' e he hb
        rw [heq, getD_both hjun] at h2
        cases h2
      have hnot3 : behind2 ops oj i = false := behind2_not inv.closed hall (getD_both hun)
      have hnot4 : behind2 ops oi j = false := by
        obtain ⟨_, oi', hoi', hall'⟩ := mem_ready.1 hr
        rw [hi] at hoi'
        obtain rfl := Option.some.inj hoi'
        exact behind2_not inv.closed hall' (getD_both hjun)
      refine aOp_mono (fun t' h' ⟨h3, q1, q2⟩ => ih (listed.setIfInBounds j true) t' h' h3 (inv.set hj hjn) (fun k hk => getD_set_more (hlow k hk)) (fun k ok hk hki hun' hno => ?_) (ready_mono hr (Ne.symm hji)) q1 ?_) (aOp_swap hoj (hfree j oj hoj hji hjun hnot) (pairs_at hp hin hjn hji hi hoj hnot hnot2 hnot3 hnot4 (Nat.lt_of_not_le fun h' => by rcases Nat.lt_or_ge j i with h4 | h4 <;> first | (rw [hlow j h4] at hjun; cases hjun) | omega)) hy hj1)
      · refine hfree k ok hk hki ?_ hno
        by_cases hjk : j = k
        · subst hjk; exact hjun
        · rw [getD_set_ne true hjk] at hun'; exact hun'
      · rw [Array.setIfInBounds_comm _ _ hji]
        exact q2

theorem anyT_lex {ops : Array Oper} {n g : Nat} {Q : List AV → List AO → Prop} (hs : Region.sinkB .any ops n = true) (hc : Region.chainB .any ops n = true) (hn : n < ops.size) (hp : pairsB P ops n = true) :
    ∀ (l : List Oper) (k : Nat) (listed : Array Bool) (t : List AV) (h : List AO), (∀ j, j < l.length → l[j]? = ops[k + j]?) → k + l.length = n → HeadInv .any ops n listed → (∀ j, j < k → listed.getD j true = true) →
    Region.lexHead .any ops g l.length k listed = true → aq1s P ops.toList Q l t h →
    anyT P ops n (fun listed' t' h' => Region.seqB .any ops g n listed' = true ∧ Q t' h') l.length listed t h
  | [], k, listed, t, h, _, hk, _, _, hB, hq => by
    obtain rfl : k = n := by simpa using hk
    exact ⟨by simpa [Region.lexHead] using hB, hq⟩
  | o :: l, k, listed, t, h, hl, hk, inv, hlow, hB, hq => by
    have h0 : ops[k]? = some o := by simpa using (hl 0 (by simp)).symm
    simp only [List.length_cons, Region.lexHead, Bool.and_eq_true] at hB
    obtain ⟨⟨hr, hf⟩, hB'⟩ := hB
    have hkn : k < n := by simp only [List.length_cons] at hk; omega
    have hr' : k ∈ Region.ready .any ops listed := by simpa using hr
    obtain ⟨x, h1, hx, hq2⟩ : ∃ x h1, resE P ops h t o x h1 ∧ aq1s P ops.toList Q l (putT t o.dst x) h1 := by
      rw [aq1s] at hq
      unfold resE
      split at hq
      · rename_i he
        obtain ⟨x, hx, hq2⟩ := hq
        exact ⟨x, h, by rw [he]; exact ⟨hx, rfl⟩, putK_iff.1 hq2⟩
      · rename_i he
        obtain ⟨x, h1, hx, hq2⟩ := hq
        exact ⟨x, h1, by rw [he]; exact hx, putK_iff.1 hq2⟩
    exact anyT_first h0 hs hc hn hkn hp (fun listed' t' h' hM => seqB_ready hM.1) l.length listed t h h1 inv hlow (Region.free_spec h0 hf) hr' hx
      (anyT_lex hs hc hn hp l (k + 1) _ _ _ (fun j hj => by have := hl (j + 1) (by simp; omega); simpa [Nat.add_assoc, Nat.add_comm 1 j] using this) (by simp only [List.length_cons] at hk; omega) (inv.set hr' hkn) (fun j hj => by
        rcases Nat.lt_or_ge j k with h4 | h4
        · exact getD_set_more (hlow j h4)
        · obtain rfl : j = k := by omega
          exact getD_set_self _ _) hB' hq2)

theorem wp_region_draw_tail {id n : Nat} {ops : Array Oper} {Q : Exit → Act → World → Prop} {K : List AV → List AO → Prop} (hQ : ∀ t h L a w, Rel C t h L a w → K t h → Q .normal a w)
    (hm : P.follows .mixedOrders = true) (hB : (Region.lexTailB .any ops n && pairsB P ops n) = true) (hr : Rel C t h L a { w with drawn := w.drawn + 1 })
    (hk : aq1s P ops.toList (fun t h => aops P ops.toList K (ops.toList.drop n) t h) (ops.toList.take n) t h) : (Code.region id ops true).wp P Q a w := by
  rw [Bool.and_eq_true] at hB
  obtain ⟨hB, hp⟩ := hB
  simp only [Region.lexTailB, Bool.and_eq_true, decide_eq_true_eq] at hB
  obtain ⟨⟨⟨⟨hsel, hn⟩, hs⟩, hc⟩, hlex⟩ := hB
  have htl : (ops.toList.take n).length = n := by simp; omega
  have hdl : (ops.toList.drop n).length = ops.size - n := by simp
  have inv0 : HeadInv .any ops n (Array.replicate ops.size false) :=
    ⟨by simp, fun j oj _ hl => (by rw [getD_replicate_false] at hl; cases hl), fun t _ ht => getD_in (by simpa using ht) (getD_replicate_false _ _)⟩
  have H := anyT_lex (P := P) (g := ops.size - n) hs hc hn hp (ops.toList.take n) 0 _ t h (fun j hj => by
    have hj' : j < n := by rw [htl] at hj; exact hj
    simp [hj']) (by simpa using htl) inv0 (fun j hj => absurd hj (Nat.not_lt_zero _)) (by rw [htl]; exact hlex) hk
  refine wp_region_any hm ?_
  have := wpAny_of_anyT (P := P) (C := C) (Q' := Q) (g := ops.size - n) (fun listed t' h' L' a' w' hM hr' => by
    have := wpAny_of_seq (P := P) (md := .any) (Q' := Q) (ops.toList.drop n) n listed a' w' (fun j => by simp [List.getElem?_drop]) (by rw [hdl]; exact hM.1) (aops_spec hQ hr' hM.2)
    rwa [hdl] at this) _ _ _ _ _ _ _ H hr
  rw [htl, show n + (ops.size - n) = ops.size by omega] at this
  exact this

end
end Go.Proofs.YtflclafbieokiaaGreatDoor.AL

namespace Go.Proofs.YtflclafbieokiaaGreatDoor.AL
open Go
variable [Globs]

section
variable {P : Program} {C : Ctx} {t : List AV} {h : List AO} {L : Loc} {a : Act} {w : World}

theorem aquiet_spec (hr : Rel C t h L a w) {o : Oper} {K : AV → Prop} (hk : aquiet P t h o K) :
    ∃ v x, (∀ w', Later w w' → o.quietAt P a (Later w) w' v) ∧ den w (SS C w h L) L x v ∧ K x := by
  have pureCase : ∀ {op : Op}, o.op = op → apure P t h op K → ∃ v x, (∀ w', Later w w' → o.quietAt P a (Later w) w' v) ∧ den w (SS C w h L) L x v ∧ K x := fun ho hp => by
    obtain ⟨v, x, h1, h2, h3⟩ := apure_spec hr ho hp
    exact ⟨v, x, fun w' hw => by unfold Oper.quietAt; rw [h1 w' hw.1]; exact ⟨rfl, rfl⟩, h2, h3⟩
  unfold aquiet at hk
  split at hk
  · rename_i f args types ho
    obtain ⟨vs, h1, h2, v, h3⟩ := evsK_spec hr hk
    have hex : execOp a.eval o = (do let d ← resolve a.eval { callee := .value (.func f), args, argTypes := types } o.type; invoke d.target d.args) := by unfold execOp; rw [ho]
    have hargs : (args.toList.map a.eval).toArray = args.map a.eval := by apply Array.ext'; simp
    -- the arguments are read wherever they lie
    have hlow := fun (w' : World) (hw : Later w w') => lowsK_spec (pass := []) (S1 := fun b => b < w'.heap.size) (hrel_later hw hr.heap) (fun b hb => hb.1) (xs := vs) (vs := args.toList.map a.eval)
      (fun _ id b hl _ e => ((hrel_later hw hr.heap).mine id b hl e).1) (by simpa using h1.symm) (fun i hi => by
        obtain ⟨x, h4, h5⟩ := h2 i vs[i] (by simp [hi])
        exact ⟨a.eval x, by simpa using ⟨x, by simpa using h4, rfl⟩, by simpa [List.getD_eq_getElem?_getD, hi] using den_later hw h5⟩) h3
    obtain ⟨_, ⟨⟨hent, _⟩, hkv⟩, _, _⟩ := hlow w ⟨.refl w, .refl w⟩
    refine ⟨v, .raw v, fun w' hw => ?_, rfl, hkv⟩
    unfold Oper.quietAt
    have hrun : (execOp a.eval o).run P w' = .ok (.enter f (args.map a.eval)) w' := by
      rw [hex]
      simp [resolve, Deferred.ofValue, Act.eval, invoke, run_callFunc hent]
    rw [hrun]
    refine ⟨rfl, ?_⟩
    obtain ⟨as, ⟨⟨_, hcall⟩, _⟩, hal, has⟩ := hlow w' hw
    have hctx : HRel ⟨w', fun b => b < w'.heap.size, 0, .zero⟩ [] .zero w' :=
      ⟨⟨rfl, rfl, rfl, Nat.le_refl _, fun _ _ _ => rfl, fun b hb => ⟨hb, fun ⟨i, hi, _⟩ => absurd hi (Nat.not_lt_zero _)⟩, hr.heap.globs.mono (fun b hb => hw.1.2 b hb.1) (fun b hb => Nat.lt_of_lt_of_le hb.1 hw.1.1)⟩, rfl, Nat.le_refl _, fun i hi => absurd hi (Nat.not_lt_zero _), fun i j b hi => by obtain ⟨o, ho, _⟩ := hi; simp at ho, fun i b hi => by obtain ⟨o, ho, _⟩ := hi; simp at ho, fun i o ho => by simp at ho⟩
    refine (hcall (fun b => b < w'.heap.size) .zero w' (args.map a.eval) hctx (fun b hb => ⟨hb, fun i hi => absurd hi (Nat.not_lt_zero _)⟩) (by rw [hal, h1]; simp) (fun i x hx => ?_)).mono fun e w'' he => ?_
    · have hi : i < vs.length := by rw [← hal]; exact (List.getElem?_eq_some_iff.1 hx).1
      obtain ⟨u, h4, h5⟩ := has i hi
      refine ⟨u, by rw [← hargs]; simpa using h4, ?_⟩
      have : as.getD i .top = x := by simp [List.getD_eq_getElem?_getD, hx]
      rw [this] at h5
      exact den_mono (fun _ _ => rfl) (fun _ h => h) (L := L.sel []) ⟨Nat.le_refl _, fun i hi => absurd hi (Nat.not_lt_zero _), fun i hi => absurd hi (Nat.not_lt_zero _)⟩ x u h5
    · obtain ⟨u, r, h', M, rfl, ⟨hR, _⟩, hM, hd⟩ := he
      have hu : u = v := by
        rcases hR with rfl | ⟨rfl, rfl⟩ | ⟨rfl, rfl⟩ <;> exact hd
      subst hu
      refine ⟨rfl, hw.trans ⟨⟨hM.fr.size, fun b hb => hM.fr.block b hb fun ⟨i, hi, _⟩ => absurd hi (Nat.not_lt_zero _)⟩, ⟨hM.fr.os, hM.fr.tape, hM.fr.output⟩⟩⟩
  · exact pureCase rfl hk

theorem aqops_spec {ops : Array Oper} {K : List AV → Prop} {Q : Act → Prop} (hQ : ∀ t a, Rel C t h L a w → K t → Q a) : ∀ {l : List Oper} {t : List AV} {a : Act}, Rel C t h L a w → aqops P ops.toList K l t h → wpQuiet P ops (Later w) Q l a
  | [], t, a, hr, hk => hQ _ _ hr hk
  | o :: l, t, a, hr, hk => by
    unfold aqops at hk
    unfold wpQuiet
    rcases aguard_spec hr hk with ⟨hw, t', hr', hk'⟩ | ⟨hw, t', hr', hk'⟩
    · rw [if_pos hw]
      obtain ⟨v, x, h1, h2, h3⟩ := aquiet_spec hr' hk'
      obtain ⟨t2, hr2, hk2⟩ := hr'.put h2 h3
      exact ⟨v, h1, aqops_spec hQ hr2 hk2⟩
    · rw [if_neg (by rw [hw]; decide)]
      exact aqops_spec hQ hr' hk'

theorem wp_loop_count {c : Code} {Q : Exit → Act → World → Prop} (I : Nat → Act → World → Prop) (round : ∀ n a w, I n a w → c.wp P (Exit.then (fun a' w' => ∃ m, m < n ∧ I m a' w') Q) a w) (n : Nat) (h0 : I n a w) : (Code.loop c).wp P Q a w := by
  intro b k cs
  have key : ∀ n a w, I n a w → ∃ e a' w', Q e a' w' ∧ Arrives P (lone (b.at a (.code c :: .inLoop c :: k)) cs w) b k cs e a' w' := by
    intro n
    induction n using Nat.strongRecOn with
    | _ n ih =>
      intro a w hI
      obtain ⟨e, a₁, w₁, hq, harr⟩ := round n a w hI b (.inLoop c :: k) cs
      cases e with
      | normal =>
        obtain ⟨m, hm, hI₁⟩ := hq
        obtain ⟨e₂, a₂, w₂, hq₂, harr₂⟩ := ih m hm a₁ w₁ hI₁
        exact ⟨e₂, a₂, w₂, hq₂, .of_steps (Steps.trans harr (.one step_inLoop)) harr₂⟩
      | exit id => exact ⟨_, a₁, w₁, hq, .pass (x := .inLoop c) rfl (fun _ _ => .inl (by simp)) harr⟩
      | goto l => exact ⟨_, a₁, w₁, hq, .pass (x := .inLoop c) rfl (fun _ _ => .inl (by simp)) harr⟩
      | ret => exact ⟨_, a₁, w₁, hq, .pass (x := .inLoop c) rfl (fun _ _ => .inl (by simp)) harr⟩
      | panic ch => exact ⟨_, a₁, w₁, hq, .pass (x := .inLoop c) rfl (fun _ _ => .inl (by simp)) harr⟩
      | outgrown => exact ⟨_, a₁, w₁, hq, .pass (x := .inLoop c) rfl (fun _ _ => .inl (by simp)) harr⟩
  obtain ⟨e, a', w', hq, harr⟩ := key n a w h0
  exact ⟨e, a', w', hq, .of_steps (.one step_loop) harr⟩

theorem topsK_iff : ∀ {t : List AV} {K : List AV → Prop}, topsK t K ↔ K (t.map fun _ => .top)
  | [], K => by simp [topsK]
  | _ :: l, K => by simp [topsK, topsK_iff (t := l)]
def mkT (t : List AV) : List (Nat × AV) → List AV
  | [] => t
  | (i, a) :: l => mkT (t.set i a) l
theorem mkK_iff : ∀ {l : List (Nat × AV)} {t : List AV} {K : List AV → Prop}, mkK t l K ↔ K (mkT t l)
  | [], _, _ => Iff.rfl
  | (i, a) :: l, t, K => by simp [mkK, setK_iff, mkK_iff (l := l), mkT]

theorem lenEq_length : ∀ {l m : List AV}, lenEq l m → m.length = l.length
  | [], [], _ => rfl
  | _ :: l, _ :: m, h => by simpa using lenEq_length (l := l) (m := m) h
  | [], _ :: _, h => h.elim
  | _ :: _, [], h => h.elim

theorem rel_mk (hr : Rel C t h L a w) {l : List Nat} {h1 : List AO} {sl : List (Nat × AV)} (hle : LeH C.np h l h1) (ht : LeT h l t sl) :
    Rel C (mkT (t.map fun _ => .top) sl) h1 (L.view l) a w := by
  have hs := leh_seen hr.heap hle
  have go : ∀ (sl : List (Nat × AV)) (t' : List AV), LeT h l t sl → Rel C t' h1 (L.view l) a w → Rel C (mkT t' sl) h1 (L.view l) a w := by
    intro sl
    induction sl with
    | nil => intro t' _ h; exact h
    | cons p sl ih =>
      intro t' hp hr'
      obtain ⟨i, x⟩ := p
      obtain ⟨hp1, hp2⟩ := hp
      have hle1 := getK_iff.1 hp1
      refine ih _ hp2 ⟨hr'.heap, by simp [hr'.size], fun j y hj => ?_, hr'.defers⟩
      by_cases e : i = j
      · subst e
        have hlt : i < t'.length := by
          have := (List.getElem?_eq_some_iff.1 hj).1
          simpa using this
        rw [List.getElem?_set_self (by simpa using hlt)] at hj
        cases hj
        have h2 : i < a.tmps.size := by rw [hr'.size]; exact hlt
        have := hle1.den hr.heap hs (hr.get i)
        exact ⟨a.tmps[i], by simp [h2], by simpa [h2] using this⟩
      · rw [List.getElem?_set_ne e] at hj
        exact hr'.tmps j y hj
  refine go sl _ ht ⟨leh_rel hr.heap hle, by simp [hr.size], fun i v hi => ?_, hr.defers⟩
  have hlt : i < a.tmps.size := by
    have := (List.getElem?_eq_some_iff.1 hi).1
    rw [hr.size]; simpa using this
  refine ⟨a.tmps[i], by simp [hlt], ?_⟩
  rw [List.getElem?_map] at hi
  obtain ⟨_, _, rfl⟩ := Option.map_eq_some_iff.1 hi
  trivial

theorem awpS_sound {sc : Code → (Exit → List AV → List AO → Prop) → List AV → List AO → Prop} (hsc : ∀ (c : Code) {Q : Exit → List AV → List AO → Prop} {t : List AV} {h : List AO} {L : Loc} {a : Act} {w : World}, Rel C t h L a w → sc c Q t h →
    (Code.scope c).wp P (fun e a' w' => ∃ t' h' L', Rel C t' h' L' a' w' ∧ Q e t' h') a w) (c : Code) : ∀ {Q : Exit → List AV → List AO → Prop} {t : List AV} {h : List AO} {L : Loc} {a : Act} {w : World}, Rel C t h L a w → awpS P C.np sc c Q t h →
    c.wp P (fun e a' w' => ∃ t' h' L', Rel C t' h' L' a' w' ∧ Q e t' h') a w := by
  induction c with
  | skip => intro Q t h L a w hr hk; exact wp_skip ⟨t, h, L, hr, hk⟩
  | label l => intro Q t h L a w hr hk; exact wp_label ⟨t, h, L, hr, hk⟩
  | ret => intro Q t h L a w hr hk; exact wp_ret ⟨t, h, L, hr, hk⟩
  | exit id => intro Q t h L a w hr hk; exact wp_exit ⟨t, h, L, hr, hk⟩
  | seq x y ihx ihy =>
    intro Q t h L a w hr hk
    refine wp_seq (wp_mono (ihx hr hk) fun e a' w' he => ?_)
    obtain ⟨t', h', L', hr', hq⟩ := he
    cases e with
    | normal => exact ihy hr' hq
    | exit id => exact ⟨t', h', L', hr', hq⟩
    | goto l => exact ⟨t', h', L', hr', hq⟩
    | ret => exact ⟨t', h', L', hr', hq⟩
    | panic ch => exact ⟨t', h', L', hr', hq⟩
    | outgrown => exact ⟨t', h', L', hr', hq⟩
  | block id c ih =>
    intro Q t h L a w hr hk
    refine wp_block (wp_mono (ih hr hk) fun e a' w' he => ?_)
    obtain ⟨t', h', L', hr', hq⟩ := he
    cases e with
    | exit id' =>
      unfold Exit.inBlock
      by_cases e : id' = id
      · subst e
        simp only [decide_true] at hq
        simp only [if_true]
        exact ⟨t', h', L', hr', hq⟩
      · simp only [e, decide_false] at hq
        simp only [e, if_false]
        exact ⟨t', h', L', hr', hq⟩
    | normal => exact ⟨t', h', L', hr', hq⟩
    | goto l => exact ⟨t', h', L', hr', hq⟩
    | ret => exact ⟨t', h', L', hr', hq⟩
    | panic ch => exact ⟨t', h', L', hr', hq⟩
    | outgrown => exact ⟨t', h', L', hr', hq⟩
  | cond c x y ihx ihy =>
    intro Q t h L a w hr hk
    obtain ⟨v, h1, h2⟩ := evK_spec hr hk
    split at h2
    · exact wp_cond_true h1 (ihx hr h2)
    · exact wp_cond_false h1 (ihy hr h2)
    · exact wp_cond_split h1 (fun hb => ihx hr (h2.1 hb)) (fun hb => ihy hr (h2.2 hb))
    · exact h2.elim
  | region id ops draw =>
    intro Q t h L a w hr hk
    cases draw with
    | false => exact wp_region_list (aops_spec (fun t h L a w hr hq => ⟨t, h, L, hr, hq⟩) hr hk)
    | true =>
      rcases hk with hk | ⟨n, hB, hk⟩
      rotate_left
      · simp only [drawB, Bool.and_eq_true] at hB
        have hdrew : Later w { w with drawn := w.drawn + 1 } := ⟨⟨Nat.le_refl _, fun _ _ => rfl⟩, ⟨rfl, rfl, rfl⟩⟩
        exact wp_region_draw_tail (fun t h L a w hr hq => ⟨t, h, L, hr, hq⟩) hB.1 (by rw [Bool.and_eq_true]; exact hB.2) (rel_later hdrew hr) hk
      obtain ⟨⟨hm, hB⟩, hk⟩ := hk
      have hdrew : Later w { w with drawn := w.drawn + 1 } := ⟨⟨Nat.le_refl _, fun _ _ => rfl⟩, ⟨rfl, rfl, rfl⟩⟩
      refine wp_region_quiet (C := Later w) hm hB hdrew (aqops_spec (fun t' a' hr' hq w' hw' => ?_) hr hk)
      exact ⟨t', h, L, rel_later hw' hr', hq⟩
  | loop c ih =>
    intro Q t h L a w hr hk
    obtain ⟨X, sl, hp, inv, μ, ⟨x, l, hi, hle, ht⟩, hround⟩ := hk
    refine wp_loop_count (fun n a w => ∃ x L, inv x ∧ μ x = n ∧ Rel C (mkT (t.map fun _ => .top) (sl x)) (hp x) L a w) (fun n a w hI => ?_) (μ x) ⟨x, _, hi, rfl, rel_mk hr hle ht⟩
    obtain ⟨x, L, hi, rfl, hr⟩ := hI
    have hk := mkK_iff.1 (topsK_iff.1 (hround x hi))
    refine wp_mono (ih hr hk) fun e a' w' he => ?_
    obtain ⟨t', h', L', hr', hq⟩ := he
    cases e with
    | normal =>
      obtain ⟨hlen, y, l, hy, hlt, hle, ht⟩ := hq
      have hl : (t'.map fun _ => AV.top) = t.map fun _ => AV.top := by
        have := lenEq_length hlen
        rw [List.map_const', List.map_const', this]
      have := rel_mk hr' hle ht
      rw [hl] at this
      exact ⟨μ y, hlt, y, _, hy, rfl, this⟩
    | exit id => exact ⟨t', h', L', hr', hq⟩
    | goto l => exact ⟨t', h', L', hr', hq⟩
    | ret => exact ⟨t', h', L', hr', hq⟩
    | panic ch => exact ⟨t', h', L', hr', hq⟩
    | outgrown => exact ⟨t', h', L', hr', hq⟩
  | rangeFunc => intro Q t h L a w hr hk; exact hk.elim
  | scope c => intro Q t h L a w hr hk; exact hsc c hr hk
  | goto l => intro Q t h L a w hr hk; exact wp_goto ⟨t, h, L, hr, hk⟩
  | refuse => intro Q t h L a w hr hk; exact hk.elim

theorem awpAt_sound {l : Nat} (c : Code) : ∀ {Q : Exit → List AV → List AO → Prop} {t : List AV} {h : List AO} {L : Loc} {a : Act} {w : World}, Rel C t h L a w → awpAt P C.np l c Q t h →
    ∃ rest, findLabel c l = some rest ∧ rest.wp P (fun e a' w' => ∃ t' h' L', Rel C t' h' L' a' w' ∧ Q e t' h') a w := by
  induction c with
  | label l' =>
    intro Q t h L a w hr hk
    unfold awpAt at hk
    split at hk
    · rename_i e
      exact ⟨.skip, by simp [findLabel, e], wp_skip ⟨t, h, L, hr, hk⟩⟩
    · exact hk.elim
  | seq x y ihx ihy =>
    intro Q t h L a w hr hk
    unfold awpAt at hk
    split at hk
    · obtain ⟨rest, h1, h2⟩ := ihx hr hk
      refine ⟨.seq rest y, by simp [findLabel, h1], wp_seq (wp_mono h2 fun e a' w' he => ?_)⟩
      obtain ⟨t', h', L', hr', hq⟩ := he
      cases e with
      | normal => exact awpS_sound (fun _ _ _ _ _ _ _ _ h => h.elim) y hr' hq
      | exit id => exact ⟨t', h', L', hr', hq⟩
      | goto l => exact ⟨t', h', L', hr', hq⟩
      | ret => exact ⟨t', h', L', hr', hq⟩
      | panic ch => exact ⟨t', h', L', hr', hq⟩
      | outgrown => exact ⟨t', h', L', hr', hq⟩
    · rename_i e
      obtain ⟨rest, h1, h2⟩ := ihy hr hk
      have e' : findLabel x l = none := by simpa using e
      exact ⟨rest, by simp [findLabel, e', h1], h2⟩
  | skip => intro Q t h L a w hr hk; exact hk.elim
  | ret => intro Q t h L a w hr hk; exact hk.elim
  | exit => intro Q t h L a w hr hk; exact hk.elim
  | block => intro Q t h L a w hr hk; exact hk.elim
  | cond => intro Q t h L a w hr hk; exact hk.elim
  | region => intro Q t h L a w hr hk; exact hk.elim
  | loop => intro Q t h L a w hr hk; exact hk.elim
  | rangeFunc => intro Q t h L a w hr hk; exact hk.elim
  | scope => intro Q t h L a w hr hk; exact hk.elim
  | goto => intro Q t h L a w hr hk; exact hk.elim
  | refuse => intro Q t h L a w hr hk; exact hk.elim

theorem wp_scope_many {c : Code} {Q : Exit → Act → World → Prop} (J : Nat → Nat → Act → World → Prop)
    (first : c.wp P (fun e a w => match e with
      | .goto l => ∃ m, J l m a w
      | e => Q e a w) a w)
    (pass : ∀ l m a w, J l m a w → ∃ rest, findLabel c l = some rest ∧ rest.wp P (fun e a' w' => match e with
      | .goto l' => ∃ m', m' < m ∧ J l' m' a' w'
      | e => Q e a' w') a w) : (Code.scope c).wp P Q a w := by
  intro b k cs
  have key : ∀ n l a w, J l n a w → ∃ rest, findLabel c l = some rest ∧ ∃ e a' w', Q e a' w' ∧ Arrives P (lone (b.at a (.code rest :: .inScope c :: k)) cs w) b k cs e a' w' := by
    intro n
    induction n using Nat.strongRecOn with
    | _ n ih =>
      intro l a w hJ
      obtain ⟨rest, hf, hp⟩ := pass l n a w hJ
      refine ⟨rest, hf, ?_⟩
      obtain ⟨e, a₁, w₁, hq, harr⟩ := hp b (.inScope c :: k) cs
      cases e with
      | normal => exact ⟨.normal, a₁, w₁, hq, Steps.trans harr (.one step_inScope)⟩
      | exit id => exact ⟨.exit id, a₁, w₁, hq, fun k' hk => harr k' (by simp [exitTo, hk])⟩
      | goto l' =>
        obtain ⟨m, hlt, hJ'⟩ := hq
        obtain ⟨rest', hf', e₂, a₂, w₂, hq₂, harr₂⟩ := ih m hlt l' a₁ w₁ hJ'
        exact ⟨e₂, a₂, w₂, hq₂, .of_steps (harr _ (by simp [gotoIn, hf'])) harr₂⟩
      | ret => exact ⟨_, a₁, w₁, hq, harr⟩
      | panic ch => exact ⟨_, a₁, w₁, hq, harr⟩
      | outgrown => exact ⟨_, a₁, w₁, hq, harr⟩
  obtain ⟨e, a₁, w₁, hq, harr⟩ := first b (.inScope c :: k) cs
  cases e with
  | normal => exact ⟨.normal, a₁, w₁, hq, .head step_scope (Steps.trans harr (.one step_inScope))⟩
  | exit id => exact ⟨.exit id, a₁, w₁, hq, fun k' hk => .head step_scope (harr k' (by simp [exitTo, hk]))⟩
  | goto l' =>
    obtain ⟨m, hJ'⟩ := hq
    obtain ⟨rest', hf', e₂, a₂, w₂, hq₂, harr₂⟩ := key _ l' a₁ w₁ hJ'
    exact ⟨e₂, a₂, w₂, hq₂, .of_steps (.head step_scope (harr _ (by simp [gotoIn, hf']))) harr₂⟩
  | ret => exact ⟨_, a₁, w₁, hq, .of_steps (.one step_scope) harr⟩
  | panic ch => exact ⟨_, a₁, w₁, hq, .of_steps (.one step_scope) harr⟩
  | outgrown => exact ⟨_, a₁, w₁, hq, .of_steps (.one step_scope) harr⟩

theorem map_top_eq {t t' : List AV} (hlen : lenEq t t') : (t'.map fun _ => AV.top) = t.map fun _ => AV.top := by
  have := lenEq_length hlen
  rw [List.map_const', List.map_const', this]

theorem scopeK_sound (c : Code) {Q : Exit → List AV → List AO → Prop} {t : List AV} {h : List AO} {L : Loc} {a : Act} {w : World} (hr : Rel C t h L a w) (hk : scopeK P C.np c Q t h) :
    (Code.scope c).wp P (fun e a' w' => ∃ t' h' L', Rel C t' h' L' a' w' ∧ Q e t' h') a w := by
  obtain ⟨X, lab, sl, hp, inv, μ, hfirst, hpass⟩ := hk
  refine wp_scope_many (fun l m a w => ∃ x L, lab x = l ∧ inv x ∧ μ x = m ∧ Rel C (mkT (t.map fun _ => .top) (sl x)) (hp x) L a w) (wp_mono (awpS_sound (fun _ _ _ _ _ _ _ _ h => h.elim) c hr hfirst) fun e a' w' he => ?_) (fun l m a w hJ => ?_)
  · obtain ⟨t', h', L', hr', hq⟩ := he
    cases e with
    | goto l' =>
      obtain ⟨hlen, y, p, hl, hi, hle, ht⟩ := hq
      have := rel_mk hr' hle ht
      rw [map_top_eq hlen] at this
      exact ⟨μ y, y, _, hl, hi, rfl, this⟩
    | normal => exact ⟨t', h', L', hr', hq⟩
    | exit id => exact ⟨t', h', L', hr', hq⟩
    | ret => exact ⟨t', h', L', hr', hq⟩
    | panic ch => exact ⟨t', h', L', hr', hq⟩
    | outgrown => exact ⟨t', h', L', hr', hq⟩
  · obtain ⟨x, L, rfl, hi, rfl, hr⟩ := hJ
    obtain ⟨rest, hf, hw⟩ := awpAt_sound c hr (mkK_iff.1 (topsK_iff.1 (hpass x hi)))
    refine ⟨rest, hf, wp_mono hw fun e a' w' he => ?_⟩
    obtain ⟨t', h', L', hr', hq⟩ := he
    cases e with
    | goto l' =>
      obtain ⟨hlen, y, p, hl, hi, hlt, hle, ht⟩ := hq
      have := rel_mk hr' hle ht
      rw [map_top_eq hlen] at this
      exact ⟨μ y, hlt, y, _, hl, hi, rfl, this⟩
    | normal => exact ⟨t', h', L', hr', hq⟩
    | exit id => exact ⟨t', h', L', hr', hq⟩
    | ret => exact ⟨t', h', L', hr', hq⟩
    | panic ch => exact ⟨t', h', L', hr', hq⟩
    | outgrown => exact ⟨t', h', L', hr', hq⟩

theorem awp_sound (c : Code) {Q : Exit → List AV → List AO → Prop} {t : List AV} {h : List AO} {L : Loc} {a : Act} {w : World} (hr : Rel C t h L a w) (hk : awp P C.np c Q t h) :
    c.wp P (fun e a' w' => ∃ t' h' L', Rel C t' h' L' a' w' ∧ Q e t' h') a w :=
  awpS_sound (fun c _ _ _ _ _ _ hr hk => scopeK_sound c hr hk) c hr hk

def resOf (tmps : Array Value) : ResultVar → Sem Value
  | .tmp t => pure (tmps.getD t undef)
  | .cell x t => do loadVar t (← asAddr (tmps.getD x undef))
theorem results_eq (fn : Func) (tmps : Array Value) : results fn tmps = (fn.results.mapM (resOf tmps) >>= fun vs => pure (if h : vs.size = 1 then vs[0] else .tuple vs)) := by
  unfold results
  congr 2

theorem loadK_ptr {S : Nat → Prop} {T : TypeId} {x : AV} {vx : Value} {K : AV → Prop} (hx : den w S L x vx) (hk : loadK P T h x K) : ∃ A, vx = .pointer (some A) := by
  unfold loadK at hk
  split at hk
  · obtain ⟨A, rfl, _⟩ := hx; exact ⟨A, rfl⟩
  · obtain ⟨_, b, _, rfl⟩ := hx; exact ⟨_, rfl⟩
  · obtain ⟨_, A, b, rfl, _⟩ := hx; exact ⟨_, rfl⟩
  · exact hk.elim

theorem resK_spec (hr : Rel C t h L a w) : ∀ {rs : List ResultVar} {K : List AV → Prop}, resK P h t rs K →
    ∃ l, K l ∧ l.length = rs.length ∧ ∃ us : List Value, us.length = rs.length ∧ ((rs.mapM (resOf a.tmps)).run P w = .ok us w) ∧ ∀ i, i < rs.length → ∃ u, us[i]? = some u ∧ den w (SS C w h L) L (l.getD i .top) u
  | [], K, hk => ⟨[], hk, rfl, [], rfl, rfl, by simp⟩
  | .tmp i :: rs, K, hk => by
    have hk1 := getK_iff.1 hk
    obtain ⟨l, h1, h2, us, h3, h4, h5⟩ := resK_spec hr hk1
    refine ⟨t.getD i .top :: l, h1, by simp [h2], a.tmps.getD i undef :: us, by simp [h3], ?_, fun j hj => ?_⟩
    · rw [List.mapM_cons]
      simp only [resOf, Sem.run_bind, Sem.run_pure, Result.andThen_ok, h4]
    · cases j with
      | zero => exact ⟨_, rfl, hr.get i⟩
      | succ j => simpa using h5 j (by simpa using hj)
  | .cell i T :: rs, K, hk => by
    have hk1 := getK_iff.1 hk
    obtain ⟨A, hA⟩ := loadK_ptr (hr.get i) hk1
    obtain ⟨v, x, g1, g2, g3⟩ := loadK_spec hr.heap (hr.get i) hk1
    obtain ⟨l, h1, h2, us, h3, h4, h5⟩ := resK_spec hr g3
    have g4 := g1 w (Ext.refl w)
    rw [hA] at g4
    have g5 : (loadVar T A).run P w = .ok v w := g4
    refine ⟨x :: l, h1, by simp [h2], v :: us, by simp [h3], ?_, fun j hj => ?_⟩
    · rw [List.mapM_cons]
      simp only [resOf, hA, asAddr, Sem.run_bind, Sem.run_pure, Result.andThen_ok, g5, h4]
    · cases j with
      | zero => exact ⟨_, rfl, g2⟩
      | succ j => simpa using h5 j (by simpa using hj)

def resV : List Value → Value
  | [u] => u
  | us => .tuple us.toArray
theorem run_results (fn : Func) (tmps : Array Value) (w : World) {us : List Value} (h : (fn.results.toList.mapM (resOf tmps)).run P w = .ok us w) :
    (results fn tmps).run P w = .ok (resV us) w := by
  rw [results_eq, Array.mapM_eq_mapM_toList]
  simp only [Sem.run_bind, Sem.run_map, h, Result.andThen_ok, Sem.run_pure]
  match us with
  | [] => rfl
  | [u] => rfl
  | u :: v :: r =>
    simp
    rfl

theorem retK_spec (hr : Rel C t h L a w) {fn : Func} {R : AV → List AO → Prop} {e : Exit} (hk : retK P C.np fn.results.toList R e t h) :
    (e = .ret ∨ e = .normal) ∧ ∃ v r h' L', (results fn a.tmps).run P w = .ok v w ∧ R r h' ∧ HRel C h' L' w ∧ den w (SS C w h' L') L' r v := by
  have go : (resK P h t fn.results.toList fun l => match l with
      | [a] => ∃ l h1 b, LeH C.np h l h1 ∧ LeV h l a b ∧ R b h1
      | m => ∃ l h1 b, LeH C.np h l h1 ∧ LeV h l (.tup m.length fun i => m.getD i .top) b ∧ R b h1) →
      ∃ v r h' L', (results fn a.tmps).run P w = .ok v w ∧ R r h' ∧ HRel C h' L' w ∧ den w (SS C w h' L') L' r v := by
    intro hk
    obtain ⟨l, hl, hn, us, hu, hrun, hd⟩ := resK_spec hr hk
    have hres := run_results fn a.tmps w hrun
    have fin : ∀ {x : AV} {v : Value}, den w (SS C w h L) L x v → (∃ l h1 b, LeH C.np h l h1 ∧ LeV h l x b ∧ R b h1) → (results fn a.tmps).run P w = .ok v w →
        ∃ v r h' L', (results fn a.tmps).run P w = .ok v w ∧ R r h' ∧ HRel C h' L' w ∧ den w (SS C w h' L') L' r v := fun hx ⟨l, h1, b, g1, g2, g3⟩ hv =>
      ⟨_, b, h1, _, hv, g3, leh_rel hr.heap g1, g2.den hr.heap (leh_seen hr.heap g1) hx⟩
    split at hl
    · rename_i x
      have hu1 : us.length = 1 := by rw [hu, ← hn]; rfl
      obtain ⟨u, rfl⟩ : ∃ u, us = [u] := by
        rcases us with _ | ⟨u, _ | ⟨v, r⟩⟩
        · cases hu1
        · exact ⟨u, rfl⟩
        · simp at hu1
      obtain ⟨u', h1, h2⟩ := hd 0 (by rw [← hn]; simp)
      cases h1
      exact fin h2 hl hres
    · rename_i hne
      have hus : resV us = .tuple us.toArray := by
        rcases us with _ | ⟨u, _ | ⟨v, r⟩⟩
        · rfl
        · have h1 : l.length = 1 := by rw [hn, ← hu]; rfl
          rcases l with _ | ⟨x, _ | ⟨y, r⟩⟩
          · cases h1
          · exact absurd rfl (hne x)
          · simp at h1
        · rfl
      rw [hus] at hres
      refine fin (x := .tup l.length fun i => l.getD i .top) ⟨us.toArray, rfl, by simp [hu, hn], fun i hi => ?_⟩ hl hres
      obtain ⟨u, h1, h2⟩ := hd i (by omega)
      exact ⟨u, by simpa using h1, h2⟩
  unfold retK at hk
  split at hk
  · exact ⟨.inl rfl, go hk⟩
  · exact ⟨.inr rfl, go hk⟩
  · exact hk.elim

theorem frameK_go : ∀ {n : Nat} {K : List AV → Prop}, frameK.go n K → K (List.replicate n .top)
  | 0, _, hk => hk
  | n + 1, K, hk => by
    have := frameK_go (n := n) hk
    simpa [List.replicate_succ] using this
theorem frameK_spec : ∀ {args : List AV} {n : Nat} {K : List AV → Prop}, frameK n args K → K (args ++ List.replicate (n - args.length) .top)
  | [], n, K, hk => by simpa using frameK_go hk
  | x :: l, 0, K, hk => by simpa using frameK_spec (args := l) (n := 0) hk
  | x :: l, n + 1, K, hk => by
    have := frameK_spec (args := l) (n := n) hk
    simpa using this

theorem acalls {f : FuncId} {fn : Func} {c : Code} {args : List AV} {h : List AO} {R : AV → List AO → Prop} (hf : P.funcs[f]? = some fn) (hb : fn.body = some c) (hnm : (fn.name == "runtime.NumGoroutine") = false)
    (hk : frameK fn.ntmps args fun t => awp P h.length c (retK P h.length fn.results.toList R) t h) : ACalls P f args h R := by
  refine ⟨⟨fn, hf, hnm, by rw [hb]; rfl⟩, fun S0 L w vs hh hS hn hv => ?_⟩
  have hk1 := frameK_spec hk
  refine calls_of_wp hf hb ?_
  have hS0 : ∀ b, S0 b → SS ⟨w, S0, h.length, L⟩ w h L b := fun b hb => ⟨(hS b hb).1, .inl hb, fun i hi => (hS b hb).2 i (live_lt hi)⟩
  have hrel : Rel ⟨w, S0, h.length, L⟩ (args ++ List.replicate (fn.ntmps - args.length) .top) h L { tmps := vs ++ Array.replicate (fn.ntmps - vs.size) undef, defers := [] } w := by
    refine ⟨hh, by simp [hn], fun i x hi => ?_, rfl⟩
    rcases Nat.lt_or_ge i args.length with hlt | hge
    · rw [List.getElem?_append_left hlt] at hi
      obtain ⟨u, h1, h2⟩ := hv i x hi
      exact ⟨u, by rw [Array.getElem?_append_left (by omega)]; exact h1, den_mono (fun _ _ => rfl) hS0 (.refl _) x u h2⟩
    · rw [List.getElem?_append_right hge] at hi
      have h1 := (List.getElem?_eq_some_iff.1 hi).1
      simp at h1
      rw [List.getElem?_replicate, if_pos h1] at hi
      cases hi
      exact ⟨undef, by rw [Array.getElem?_append_right (by omega), hn]; simp [h1], trivial⟩
  refine wp_mono (awp_sound c (C := ⟨w, S0, h.length, L⟩) hrel hk1) fun e a' w' he => ?_
  obtain ⟨t', h', L', hr', hq⟩ := he
  obtain ⟨he, v, r, h2, M, h3, h4, h5, h6⟩ := retK_spec (P := P) hr' hq
  rcases he with rfl | rfl
  · exact ⟨hr'.defers, v, h3, v, r, h2, M, rfl, h4, h5, h6⟩
  · exact ⟨hr'.defers, v, h3, v, r, h2, M, rfl, h4, h5, h6⟩

end
end Go.Proofs.YtflclafbieokiaaGreatDoor.AL

namespace Go.Proofs.YtflclafbieokiaaGreatDoor.AL
open Go

theorem w64 {n : Int} (h0 : -9223372036854775808 ≤ n) (h1 : n < 9223372036854775808) : IntKind.i64.wrap n = n := by
  rw [IntKind.wrap_i64]; omega
theorem w8 {n : Int} (h0 : 0 ≤ n) (h1 : n < 256) : IntKind.u8.wrap n = n := by
  rw [IntKind.wrap_u8]; omega

theorem bytesOf_inj {xs ys : List Int} (hx : ∀ x ∈ xs, 0 ≤ x ∧ x < 256) (hy : ∀ y ∈ ys, 0 ≤ y ∧ y < 256) (h : bytesOf xs = bytesOf ys) : xs = ys := by
  have h1 : (bytesOf xs).data.toList.map (fun b => (b.toNat : Int)) = (bytesOf ys).data.toList.map (fun b => (b.toNat : Int)) := by rw [h]
  have go : ∀ (l : List Int), (∀ x ∈ l, 0 ≤ x ∧ x < 256) → (bytesOf l).data.toList.map (fun b => (b.toNat : Int)) = l := by
    intro l hl
    simp only [bytesOf, List.map_map]
    conv => rhs; rw [← List.map_id l]
    apply List.map_congr_left
    intro x hx
    have := hl x hx
    simp
    omega
  rw [go xs hx, go ys hy] at h1
  exact h1
theorem intsOf_bytesOf {xs : List Int} (hx : ∀ x ∈ xs, 0 ≤ x ∧ x < 256) : intsOf (bytesOf xs) = xs := by
  unfold intsOf
  simp only [bytesOf, List.map_map]
  conv => rhs; rw [← List.map_id xs]
  apply List.map_congr_left
  intro x h
  have := hx x h
  simp
  omega
theorem intsOf_range (s : ByteArray) : ∀ x ∈ intsOf s, 0 ≤ x ∧ x < 256 := by
  intro x hx
  unfold intsOf at hx
  obtain ⟨b, _, rfl⟩ := List.mem_map.1 hx
  have := b.toNat_lt
  omega
theorem bytesOf_intsOf (s : ByteArray) : bytesOf (intsOf s) = s := by
  unfold bytesOf intsOf
  rw [List.map_map]
  have : (s.data.toList.map ((fun n : Int => UInt8.ofNat n.toNat) ∘ fun b => (b.toNat : Int))) = s.data.toList := by
    conv => rhs; rw [← List.map_id s.data.toList]
    apply List.map_congr_left
    intro b _
    simp
  rw [this]
theorem byteAt {xs : List Int} (hx : ∀ x ∈ xs, 0 ≤ x ∧ x < 256) (i : Nat) : 0 ≤ xs.getD i 0 ∧ xs.getD i 0 < 256 := by
  rw [List.getD_eq_getElem?_getD]
  cases h : xs[i]? with
  | none => simp
  | some v => exact hx v (List.mem_of_getElem? h)

theorem bits_mask64 (x : Int) (k : Nat) (hk : k < 63) : Go.bits .and .i64 x (2 ^ k - 1) = x % 2 ^ k := by
  have h1 : (2 : Int) ^ k - 1 = ((2 ^ k - 1 : Nat) : Int) := by
    have : 0 < 2 ^ k := Nat.two_pow_pos k
    rw [Int.natCast_sub this]; simp
  have hlt : (2 : Nat) ^ k < 2 ^ 63 := Nat.pow_lt_pow_right (by decide) hk
  have h2 : ((BitVec.ofInt 64 x) &&& (BitVec.ofInt 64 ((2 ^ k - 1 : Nat) : Int))).toNat = (x % 2 ^ 64).toNat % 2 ^ k := by
    rw [BitVec.toNat_and, BitVec.toNat_ofInt, BitVec.ofInt_natCast, BitVec.toNat_ofNat, Nat.mod_eq_of_lt (by omega : 2 ^ k - 1 < 2 ^ 64), Nat.and_two_pow_sub_one_eq_mod]
    rfl
  have h3 : (((x % 2 ^ 64).toNat % 2 ^ k : Nat) : Int) = x % 2 ^ k := by
    rw [Int.natCast_emod, Int.toNat_of_nonneg (Int.emod_nonneg _ (by decide))]
    have : ((2 ^ k : Nat) : Int) = 2 ^ k := by simp
    rw [this]
    exact Int.emod_emod_of_dvd x ⟨2 ^ (64 - k), by rw [← Int.pow_add]; congr 1; omega⟩
  unfold Go.bits
  simp only []
  rw [h1]
  show IntKind.i64.wrap (((BitVec.ofInt 64 x) &&& (BitVec.ofInt 64 ((2 ^ k - 1 : Nat) : Int))).toNat : Int) = _
  rw [h2, h3]
  have h4 := Int.emod_nonneg x (show (2 : Int) ^ k ≠ 0 from Int.ne_of_gt (Int.pow_pos (by decide)))
  have h5 := Int.emod_lt_of_pos x (show (0 : Int) < 2 ^ k from Int.pow_pos (by decide))
  have h6 : (2 : Int) ^ k < 2 ^ 63 := by exact_mod_cast hlt
  exact w64 (by omega) (by omega)

end Go.Proofs.YtflclafbieokiaaGreatDoor.AL

namespace Go.Proofs.YtflclafbieokiaaGreatDoor.AL
open Go
variable [Globs]

def pair (a b : AV) : Nat → AV := fun i => [a, b].getD i .top
def triple (a b c : AV) : Nat → AV := fun i => [a, b, c].getD i .top

section
variable {P : Program} {h : List AO} {l : List Nat}

theorem leh0 : LeH 0 [] [] [] := ⟨rfl, Nat.le_refl _, fun i hi => absurd hi (Nat.not_lt_zero _), .nil, fun i j o' hj => by simp at hj⟩
theorem lehN (h : List AO) : LeH 0 h [] [] := ⟨rfl, Nat.le_refl _, fun i hi => absurd hi (Nat.not_lt_zero _), .nil, fun i j o' hj => by simp at hj⟩
theorem leh1 {h : List AO} {j : Nat} {o o' : AO} (ho : h[j]? = some o) (hle : LeO h [j] o o') : LeH 0 h [j] [o'] :=
  ⟨rfl, Nat.zero_le _, fun i hi => absurd hi (Nat.not_lt_zero _), List.nodup_cons.2 ⟨by simp, .nil⟩, fun i k p hi hp => by
    cases i with
    | zero => simp at hi hp; subst hi hp; exact .inl ⟨o, ho, hle⟩
    | succ i => simp at hi⟩
theorem leh2 {h : List AO} {j k : Nat} {o o' p p' : AO} (hjk : j ≠ k) (ho : h[j]? = some o) (hp : h[k]? = some p) (hle : LeO h [j, k] o o') (hlp : LeO h [j, k] p p') : LeH 0 h [j, k] [o', p'] :=
  ⟨rfl, Nat.zero_le _, fun i hi => absurd hi (Nat.not_lt_zero _), List.nodup_cons.2 ⟨by simpa using hjk, List.nodup_cons.2 ⟨by simp, .nil⟩⟩, fun i m q hi hq => by
    match i with
    | 0 => simp at hi hq; subst hi hq; exact .inl ⟨o, ho, hle⟩
    | 1 => simp at hi hq; subst hi hq; exact .inl ⟨p, hp, hlp⟩
    | i + 2 => simp at hi⟩
theorem lehE {h : List AO} {j : Nat} (hj : h.length ≤ j) (k : IntKind) : LeH 0 h [j] [.ints k []] :=
  ⟨rfl, Nat.zero_le _, fun i hi => absurd hi (Nat.not_lt_zero _), List.nodup_cons.2 ⟨by simp, .nil⟩, fun i m p hi hp => by
    cases i with
    | zero => simp at hi hp; subst hi hp; exact .inr ⟨Nat.zero_le _, hj, .inr (.inl ⟨k, rfl⟩)⟩
    | succ i => simp at hi⟩

theorem leh1E {h : List AO} {j j' : Nat} {o o' : AO} (ho : h[j]? = some o) (hle : LeO h [j, j'] o o') (hj : h.length ≤ j') (k : IntKind) : LeH 0 h [j, j'] [o', .ints k []] :=
  ⟨rfl, Nat.zero_le _, fun i hi => absurd hi (Nat.not_lt_zero _), List.nodup_cons.2 ⟨by
    have := (List.getElem?_eq_some_iff.1 ho).1
    simp; omega, List.nodup_cons.2 ⟨by simp, .nil⟩⟩, fun i m p hi hp => by
    match i with
    | 0 => simp at hi hp; subst hi hp; exact .inl ⟨o, ho, hle⟩
    | 1 => simp at hi hp; subst hi hp; exact .inr ⟨Nat.zero_le _, hj, .inr (.inl ⟨k, rfl⟩)⟩
    | i + 2 => simp at hi⟩

theorem yes {p : Prop} [Decidable p] (h : decide p = true) : p := of_decide_eq_true h
theorem no {p : Prop} [Decidable p] (h : decide p = false) : ¬ p := of_decide_eq_false h

theorem leTT {b : Bool} (e : b = true) : LeV h l (bool b) .tt := by subst e; exact .rtt
theorem leI {k : IntKind} {x y : Int} (e : x = y) : LeV h l (int k x) (int k y) := by subst e; exact .raw _
theorem leB {x y : Bool} (e : x = y) : LeV h l (bool x) (bool y) := by subst e; exact .raw _
theorem leS {x y : ByteArray} (e : x = y) : LeV h l (str x) (str y) := by subst e; exact .raw _
theorem leRo {k : IntKind} {x y : List Int} (e : x = y) : LeV h l (.roI k x) (.roI k y) := by subst e; exact .roI _ _
theorem leOwn {id id' off off' len len' sz : Nat} (e : l[id']? = some id) (eo : off = off') (el : len = len') : LeV h l (.own id off len sz) (.own id' off' len' sz) := by
  subst eo el; exact .own _ _ _ e
theorem leOint {k : IntKind} {x y : List Int} (e : x = y) : LeO h l (.ints k x) (.ints k y) := by subst e; exact .ints _ _
theorem le_pair {f : Nat → AV} {a b : AV} (h0 : LeV h l (f 0) a) (h1 : LeV h l (f 1) b) : LeV h l (.tup 2 f) (.tup 2 (pair a b)) :=
  .tup 2 f _ fun i hi => by
    match i, hi with
    | 0, _ => exact h0
    | 1, _ => exact h1
theorem le_triple {f : Nat → AV} {a b c : AV} (h0 : LeV h l (f 0) a) (h1 : LeV h l (f 1) b) (h2 : LeV h l (f 2) c) : LeV h l (.tup 3 f) (.tup 3 (triple a b c)) :=
  .tup 3 f _ fun i hi => by
    match i, hi with
    | 0, _ => exact h0
    | 1, _ => exact h1
    | 2, _ => exact h2

theorem acalls_same {f : FuncId} {args : List Value} {v : Value} (hent : Entered P f) (hc : ∀ w, Calls P f args.toArray w fun e w' => e = .returned v ∧ w' = w) :
    ACalls P f (args.map .raw) [] (fun r h => r = .raw v ∧ h = []) := by
  refine ⟨hent, fun S0 L w vs hh hS hn hv => ?_⟩
  have hvs : vs = args.toArray := by
    apply Array.ext_getElem?
    intro i
    rcases Nat.lt_or_ge i args.length with hi | hi
    · obtain ⟨u, h1, h2⟩ := hv i (.raw args[i]) (by simp [hi])
      rw [h1]
      have : u = args[i] := h2
      simp [this, hi]
    · rw [Array.getElem?_eq_none (by simp at hn; omega), Array.getElem?_eq_none (by simpa using hi)]
  subst hvs
  refine (hc w).mono fun e w' he => ?_
  obtain ⟨rfl, rfl⟩ := he
  exact ⟨v, .raw v, [], L, rfl, ⟨rfl, rfl⟩, hh, rfl⟩

theorem raw_args {args : List Value} {vs : Array Value} {w : World} {S0 : Nat → Prop} {L : Loc} (hn : vs.size = (args.map AV.raw).length)
    (hv : ∀ (i : Nat) (a : AV), (args.map AV.raw)[i]? = some a → ∃ v, vs[i]? = some v ∧ den w S0 L a v) : vs = args.toArray := by
  apply Array.ext_getElem?
  intro i
  rcases Nat.lt_or_ge i args.length with hi | hi
  · obtain ⟨u, h1, h2⟩ := hv i (.raw args[i]) (by simp [hi])
    rw [h1]
    have : u = args[i] := h2
    simp [this, hi]
  · rw [Array.getElem?_eq_none (by simp at hn; omega), Array.getElem?_eq_none (by simpa using hi)]

theorem acalls_below {f : FuncId} {args : List Value} {r : AV} (hent : Entered P f) (hfree : r.free) (hflat : r.flat)
    (hc : ∀ (S : Nat → Prop) w, Glob S w → Calls P f args.toArray w fun e w' => ∃ v, e = .returned v ∧ den w' (fun _ => False) .zero r v ∧ RowKit.Below w.heap.size w w') :
    ACalls P f (args.map .raw) [] (fun r' h => r' = r ∧ h = []) := by
  refine ⟨hent, fun S0 L w vs hh hS hn hv => ?_⟩
  obtain rfl := raw_args hn hv
  refine (hc S0 w hh.fr.glob.2).mono fun e w' he => ?_
  obtain ⟨v, rfl, hd, hb⟩ := he
  refine ⟨v, r, [], L, rfl, ⟨rfl, rfl⟩, ⟨⟨hb.os, hb.tape, hb.output, hb.size, fun k hk _ => hb.block k hk, hh.fr.glob⟩, hh.n, Nat.le_refl _, fun i hi => absurd hi (Nat.not_lt_zero _),
    fun i j b hi => by obtain ⟨o, ho, _⟩ := hi; simp at ho, fun i b hi => by obtain ⟨o, ho, _⟩ := hi; simp at ho, fun i o ho => by simp at ho⟩, ?_⟩
  exact den_mono (fun _ _ => rfl) (fun _ h => h.elim) (Loc.zero_le L) r v hd

theorem ACalls.mono {f : FuncId} {args : List AV} {hp : List AO} {R R' : AV → List AO → Prop} (hc : ACalls P f args hp R) (hr : ∀ r h, R r h → R' r h) : ACalls P f args hp R' :=
  ⟨hc.1, fun S0 L w vs hh hS hn hv => (hc.2 S0 L w vs hh hS hn hv).mono fun e w' ⟨v, r, h', L', h1, h2, h3⟩ => ⟨v, r, h', L', h1, hr _ _ h2, h3⟩⟩

theorem ACalls.yes {f : FuncId} {args : List AV} {hp : List AO} {b : Bool} (hc : ACalls P f args hp (fun r h' => r = bool b ∧ h' = [])) (hb : b = true) : ACalls P f args hp (fun r h' => r = .tt ∧ h' = []) :=
  ⟨hc.1, fun S0 L w vs hh hS hn hv => (hc.2 S0 L w vs hh hS hn hv).mono fun e w' ⟨v, r, h', L', h1, ⟨h2, h5⟩, h3, h4⟩ => ⟨v, .tt, h', L', h1, ⟨rfl, h5⟩, h3, by rw [h2, hb] at h4; exact h4⟩⟩
theorem ACalls.not {f : FuncId} {args : List AV} {hp : List AO} {b : Bool} (hc : ACalls P f args hp (fun r h' => r = bool b ∧ h' = [])) (hb : b = false) : ACalls P f args hp (fun r h' => r = .ff ∧ h' = []) :=
  ⟨hc.1, fun S0 L w vs hh hS hn hv => (hc.2 S0 L w vs hh hS hn hv).mono fun e w' ⟨v, r, h', L', h1, ⟨h2, h5⟩, h3, h4⟩ => ⟨v, .ff, h', L', h1, ⟨rfl, h5⟩, h3, by rw [h2, hb] at h4; exact h4⟩⟩

theorem glob_none {S : Nat → Prop} {w : World} : @Glob ⟨[]⟩ S w := fun g hg => by cases hg

theorem calls_of_acalls {f : FuncId} {args : List AV} {R : AV → List AO → Prop} (hc : ACalls P f args [] R) {w : World} {vs : Array Value} (hn : vs.size = args.length)
    (hv : ∀ (i : Nat) (x : AV), args[i]? = some x → ∃ v, vs[i]? = some v ∧ den w (fun b => b < w.heap.size) .zero x v) (hg : Glob (fun b => b < w.heap.size) w) :
    Calls P f vs w fun e w' => ∃ v r h' L' S', e = .returned v ∧ R r h' ∧ den w' S' L' r v ∧ RowKit.Below w.heap.size w w' := by
  refine (hc.2 (fun b => b < w.heap.size) .zero w vs ⟨⟨rfl, rfl, rfl, Nat.le_refl _, fun _ _ _ => rfl, fun b hb => ⟨hb, fun ⟨i, hi, _⟩ => absurd hi (Nat.not_lt_zero _)⟩, hg⟩, rfl, Nat.le_refl _, fun i hi => absurd hi (Nat.not_lt_zero _),
    fun i j b hi => by obtain ⟨o, ho, _⟩ := hi; simp at ho, fun i b hi => by obtain ⟨o, ho, _⟩ := hi; simp at ho, fun i o ho => by simp at ho⟩ (fun b hb => ⟨hb, fun i hi => absurd hi (Nat.not_lt_zero _)⟩) hn hv).mono fun e w' he => ?_
  obtain ⟨v, r, h', L', rfl, h1, h2, h3⟩ := he
  exact ⟨v, r, h', L', _, rfl, h1, h3, ⟨h2.fr.os, h2.fr.tape, h2.fr.output, h2.fr.size, fun k hk => h2.fr.block k hk fun ⟨i, hi, _⟩ => absurd hi (Nat.not_lt_zero _)⟩⟩

end
end Go.Proofs.YtflclafbieokiaaGreatDoor.AL

namespace Go.Proofs.YtflclafbieokiaaGreatDoor.AL
open Go
variable [Globs]

def aopsR (P : Program) (all : List Oper) (K : List AV → List AO → Prop) (l : List Oper) : List AV → List AO → Prop :=
  List.rec (motive := fun _ => List AV → List AO → Prop) (fun t h => K t h)
    (fun o _ ih t h => aguard all t o (fun t => aeff P t h o fun v h' => putK t o.dst v fun t' => ih t' h') (fun t => ih t h)) l
theorem aopsR_eq (P : Program) (all : List Oper) (K : List AV → List AO → Prop) : ∀ (l : List Oper) (t : List AV) (h : List AO), aopsR P all K l t h = aops P all K l t h
  | [], _, _ => rfl
  | o :: r, t, h => by
    show aguard all t o (fun t => aeff P t h o fun v h' => putK t o.dst v fun t' => aopsR P all K r t' h') (fun t => aopsR P all K r t h) = aops P all K (o :: r) t h
    rw [aops]
    have e : aopsR P all K r = aops P all K r := funext fun t => funext fun h => aopsR_eq P all K r t h
    rw [e]
def aqopsR (P : Program) (all : List Oper) (K : List AV → Prop) (l : List Oper) : List AV → List AO → Prop :=
  List.rec (motive := fun _ => List AV → List AO → Prop) (fun t _ => K t)
    (fun o _ ih t h => aguard all t o (fun t => aquiet P t h o fun v => putK t o.dst v fun t' => ih t' h) (fun t => ih t h)) l
theorem aqopsR_eq (P : Program) (all : List Oper) (K : List AV → Prop) : ∀ (l : List Oper) (t : List AV) (h : List AO), aqopsR P all K l t h = aqops P all K l t h
  | [], _, _ => rfl
  | o :: r, t, h => by
    show aguard all t o (fun t => aquiet P t h o fun v => putK t o.dst v fun t' => aqopsR P all K r t' h) (fun t => aqopsR P all K r t h) = aqops P all K (o :: r) t h
    rw [aqops]
    have e : aqopsR P all K r = aqops P all K r := funext fun t => funext fun h => aqopsR_eq P all K r t h
    rw [e]

def aq1sR (P : Program) (all : List Oper) (Q : List AV → List AO → Prop) (l : List Oper) : List AV → List AO → Prop :=
  List.rec (motive := fun _ => List AV → List AO → Prop) (fun t h => Q t h) (fun o _ ih t h => match effO o with
    | false => ∃ x, gdK all t o (aq1 P t h o (fun y => y = x)) (x = .raw undef) ∧ putK t o.dst x fun t' => ih t' h
    | true => ∃ x h', aeff P t h o (fun y k => y = x ∧ k = h') ∧ putK t o.dst x fun t' => ih t' h') l
theorem aq1sR_eq (P : Program) (all : List Oper) (Q : List AV → List AO → Prop) : ∀ (l : List Oper) (t : List AV) (h : List AO), aq1sR P all Q l t h = aq1s P all Q l t h
  | [], _, _ => rfl
  | o :: r, t, h => by
    show (match effO o with
      | false => ∃ x, gdK all t o (aq1 P t h o (fun y => y = x)) (x = .raw undef) ∧ putK t o.dst x fun t' => aq1sR P all Q r t' h
      | true => ∃ x h', aeff P t h o (fun y k => y = x ∧ k = h') ∧ putK t o.dst x fun t' => aq1sR P all Q r t' h') = aq1s P all Q (o :: r) t h
    rw [aq1s]
    have e : aq1sR P all Q r = aq1s P all Q r := funext fun t => funext fun h => aq1sR_eq P all Q r t h
    rw [e]
    cases effO o <;> rfl

def awpR (P : Program) (np : Nat) (sc : Code → (Exit → List AV → List AO → Prop) → List AV → List AO → Prop) (c : Code) : (Exit → List AV → List AO → Prop) → List AV → List AO → Prop :=
  Code.rec (motive := fun _ => (Exit → List AV → List AO → Prop) → List AV → List AO → Prop)
    (skip := fun Q t h => Q .normal t h)
    (region := fun _ ops draw Q t h => match draw with
      | false => aopsR P ops.toList (Q .normal) ops.toList t h
      | true => ((P.follows .mixedOrders = true ∧ Region.lexB .any ops = true) ∧ aqopsR P ops.toList (fun t => Q .normal t h) ops.toList t h) ∨
          ∃ n : Nat, drawB P ops n = true ∧ aq1sR P ops.toList (fun t h => aopsR P ops.toList (Q .normal) (ops.toList.drop n) t h) (ops.toList.take n) t h)
    (seq := fun _ _ ia ib Q t h => ia (fun e t h => match e with
      | .normal => ib Q t h
      | e => Q e t h) t h)
    (cond := fun c _ _ ix iy Q t h => evK t c fun v => match v with
      | .tt => ix Q t h
      | .ff => iy Q t h
      | .raw (.bool b) => (b = true → ix Q t h) ∧ (b = false → iy Q t h)
      | _ => False)
    (block := fun id _ ic Q t h => ic (fun e t h => match e with
      | .exit id' => match decide (id' = id) with
        | true => Q .normal t h
        | false => Q (.exit id') t h
      | e => Q e t h) t h)
    (loop := fun _ ic Q t h => ∃ (X : Type) (sl : X → List (Nat × AV)) (hp : X → List AO) (inv : X → Prop) (μ : X → Nat),
      (∃ x l, inv x ∧ LeH np h l (hp x) ∧ LeT h l t (sl x)) ∧
      ∀ x, inv x → topsK t fun t0 => mkK t0 (sl x) fun t1 => ic (fun e t' h' => match e with
        | .normal => lenEq t t' ∧ ∃ y l, inv y ∧ μ y < μ x ∧ LeH np h' l (hp y) ∧ LeT h' l t' (sl y)
        | e => Q e t' h') t1 (hp x))
    (rangeFunc := fun _ _ _ _ _ _ _ _ _ => False)
    (exit := fun id Q t h => Q (.exit id) t h)
    (scope := fun c _ Q t h => sc c Q t h)
    (label := fun _ Q t h => Q .normal t h)
    (goto := fun l Q t h => Q (.goto l) t h)
    (ret := fun Q t h => Q .ret t h)
    (refuse := fun _ _ _ _ => False) c

theorem awpR_eq (P : Program) (np : Nat) (sc : Code → (Exit → List AV → List AO → Prop) → List AV → List AO → Prop) (c : Code) : awpR P np sc c = awpS P np sc c := by
  induction c with
  | skip => rfl
  | label => rfl
  | ret => rfl
  | exit => rfl
  | scope => rfl
  | goto => rfl
  | refuse => rfl
  | rangeFunc => rfl
  | region id ops draw =>
    funext Q t h
    cases draw
    · exact aopsR_eq ..
    · show ((_ ∧ aqopsR _ _ _ _ _ _) ∨ ∃ n : Nat, drawB P ops n = true ∧ aq1sR P ops.toList (fun t h => aopsR P ops.toList (Q .normal) (ops.toList.drop n) t h) (ops.toList.take n) t h) = awpS P np sc (.region id ops true) Q t h
      simp only [aqopsR_eq, aopsR_eq, aq1sR_eq]
      rw [awpS]
  | seq a b ia ib =>
    funext Q t h
    show awpR P np sc a (fun e t h => match e with
      | .normal => awpR P np sc b Q t h
      | e => Q e t h) t h = _
    rw [ia, ib, awpS]
    rfl
  | cond c x y ix iy =>
    funext Q t h
    show (evK t c fun v => match v with
      | .tt => awpR P np sc x Q t h
      | .ff => awpR P np sc y Q t h
      | .raw (.bool b) => (b = true → awpR P np sc x Q t h) ∧ (b = false → awpR P np sc y Q t h)
      | _ => False) = _
    rw [ix, iy, awpS]
    rfl
  | block id c ic =>
    funext Q t h
    show awpR P np sc c (fun e t h => match e with
      | .exit id' => match decide (id' = id) with
        | true => Q .normal t h
        | false => Q (.exit id') t h
      | e => Q e t h) t h = _
    rw [ic, awpS]
    rfl
  | loop c ic =>
    funext Q t h
    show (∃ (X : Type) (sl : X → List (Nat × AV)) (hp : X → List AO) (inv : X → Prop) (μ : X → Nat),
      (∃ x l, inv x ∧ LeH np h l (hp x) ∧ LeT h l t (sl x)) ∧
      ∀ x, inv x → topsK t fun t0 => mkK t0 (sl x) fun t1 => awpR P np sc c (fun e t' h' => match e with
        | .normal => lenEq t t' ∧ ∃ y l, inv y ∧ μ y < μ x ∧ LeH np h' l (hp y) ∧ LeT h' l t' (sl y)
        | e => Q e t' h') t1 (hp x)) = _
    rw [ic, awpS]
    rfl

def awpAtR (P : Program) (np : Nat) (l : Nat) (c : Code) : (Exit → List AV → List AO → Prop) → List AV → List AO → Prop :=
  Code.rec (motive := fun _ => (Exit → List AV → List AO → Prop) → List AV → List AO → Prop)
    (skip := fun _ _ _ => False)
    (region := fun _ _ _ _ _ _ => False)
    (seq := fun a b ia ib Q t h => match (findLabel a l).isSome with
      | true => ia (fun e t h => match e with
        | .normal => awpR P np noScope b Q t h
        | e => Q e t h) t h
      | false => ib Q t h)
    (cond := fun _ _ _ _ _ _ _ _ => False)
    (block := fun _ _ _ _ _ _ => False)
    (loop := fun _ _ _ _ _ => False)
    (rangeFunc := fun _ _ _ _ _ _ _ _ _ => False)
    (exit := fun _ _ _ _ => False)
    (scope := fun _ _ _ _ _ => False)
    (label := fun l' Q t h => match l' == l with
      | true => Q .normal t h
      | false => False)
    (goto := fun _ _ _ _ => False)
    (ret := fun _ _ _ => False)
    (refuse := fun _ _ _ _ => False) c

theorem awpAtR_eq (P : Program) (np : Nat) (l : Nat) (c : Code) : awpAtR P np l c = awpAt P np l c := by
  induction c with
  | seq a b ia ib =>
    funext Q t h
    show (match (findLabel a l).isSome with
      | true => awpAtR P np l a (fun e t h => match e with
        | .normal => awpR P np noScope b Q t h
        | e => Q e t h) t h
      | false => awpAtR P np l b Q t h) = _
    rw [ia, ib, awpR_eq, awpAt]
    rfl
  | _ => rfl

def scopeR (P : Program) (np : Nat) (c : Code) (Q : Exit → List AV → List AO → Prop) (t : List AV) (h : List AO) : Prop :=
  ∃ (X : Type) (lab : X → Nat) (sl : X → List (Nat × AV)) (hp : X → List AO) (inv : X → Prop) (μ : X → Nat),
    awpR P np noScope c (fun e t' h' => match e with
      | .goto l' => lenEq t t' ∧ ∃ y l, lab y = l' ∧ inv y ∧ LeH np h' l (hp y) ∧ LeT h' l t' (sl y)
      | e => Q e t' h') t h ∧
    ∀ x, inv x → topsK t fun t0 => mkK t0 (sl x) fun t1 => awpAtR P np (lab x) c (fun e t' h' => match e with
      | .goto l' => lenEq t t' ∧ ∃ y l, lab y = l' ∧ inv y ∧ μ y < μ x ∧ LeH np h' l (hp y) ∧ LeT h' l t' (sl y)
      | e => Q e t' h') t1 (hp x)
theorem scopeR_eq (P : Program) (np : Nat) : scopeR P np = scopeK P np := by
  funext c Q t h
  unfold scopeR scopeK
  simp only [awpR_eq, awpAtR_eq]
  rfl

theorem rcalls {P : Program} {f : FuncId} {fn : Func} {c : Code} {args : List AV} {h : List AO} {R : AV → List AO → Prop} (hf : P.funcs[f]? = some fn) (hb : fn.body = some c) (hnm : (fn.name == "runtime.NumGoroutine") = false)
    (hk : frameK fn.ntmps args fun t => awpR P h.length (scopeR P h.length) c (retK P h.length fn.results.toList R) t h) : ACalls P f args h R := by
  rw [awpR_eq, scopeR_eq] at hk
  exact acalls hf hb hnm hk

end Go.Proofs.YtflclafbieokiaaGreatDoor.AL

namespace Go.Proofs.YtflclafbieokiaaGreatDoor.AL
open Go
variable [Globs]

def VLe (a b : AV) : Prop := ∀ (w : World) (S : Nat → Prop) (L : Loc) (v : Value), den w S L a v → den w S L b v
theorem VLe.refl (a : AV) : VLe a a := fun _ _ _ _ h => h
def ArgsLe : List AV → List AV → Prop
  | [], [] => True
  | a :: l, b :: m => VLe a b ∧ ArgsLe l m
  | _, _ => False
theorem argsLe_get : ∀ {l m : List AV}, ArgsLe l m → l.length = m.length ∧ ∀ (i : Nat) (b : AV), m[i]? = some b → ∃ a, l[i]? = some a ∧ VLe a b
  | [], [], _ => ⟨rfl, fun i b h => by simp at h⟩
  | a :: l, b :: m, ⟨h1, h2⟩ => by
    obtain ⟨g1, g2⟩ := argsLe_get h2
    refine ⟨by simp [g1], fun i c hc => ?_⟩
    cases i with
    | zero => simp at hc; subst hc; exact ⟨a, rfl, h1⟩
    | succ i => simpa using g2 i c (by simpa using hc)
  | [], _ :: _, h => h.elim
  | _ :: _, [], h => h.elim
theorem ACalls.args {P : Program} {f : FuncId} {as bs : List AV} {h : List AO} {R : AV → List AO → Prop} (hc : ACalls P f bs h R) (hl : ArgsLe as bs) : ACalls P f as h R := by
  obtain ⟨g1, g2⟩ := argsLe_get hl
  refine ⟨hc.1, fun S0 L w vs hh hS hn hv => hc.2 S0 L w vs hh hS (by omega) fun i b hb => ?_⟩
  obtain ⟨a, ha, hab⟩ := g2 i b hb
  obtain ⟨v, h1, h2⟩ := hv i a ha
  exact ⟨v, h1, hab _ _ _ _ h2⟩

theorem vagg {n : Nat} {f g : Nat → AV} (h : ∀ i, i < n → VLe (f i) (g i)) : VLe (.agg n f) (.agg n g) := fun w S L v hv => by
  obtain ⟨vs, e, hn, hd⟩ := hv
  refine ⟨vs, e, hn, fun i hi => ?_⟩
  obtain ⟨u, h1, h2⟩ := hd i hi
  exact ⟨u, h1, h i hi w S L u h2⟩

theorem leTB {h : List AO} {l : List Nat} {b : Bool} (e : b = true) : LeV h l .tt (bool b) := by subst e; exact .ttr
theorem leFB {h : List AO} {l : List Nat} {b : Bool} (e : b = false) : LeV h l .ff (bool b) := by subst e; exact .ffr
theorem notT {p : Prop} [Decidable p] (h : (!decide p) = true) : ¬ p := fun hp => by rw [decide_eq_true hp] at h; cases h
theorem notF {p : Prop} [Decidable p] (h : (!decide p) = false) : p := Classical.byContradiction fun hp => by rw [decide_eq_false hp] at h; cases h
theorem leP {h : List AO} {l : List Nat} {p q : Prop} [Decidable p] [Decidable q] (e : p ↔ q) : LeV h l (bool (decide p)) (bool (decide q)) := leB (decide_eq_decide.2 e)
theorem leTP {h : List AO} {l : List Nat} {q : Prop} [Decidable q] (e : q) : LeV h l .tt (bool (decide q)) := leTB (decide_eq_true e)
theorem leFP {h : List AO} {l : List Nat} {q : Prop} [Decidable q] (e : ¬ q) : LeV h l .ff (bool (decide q)) := leFB (decide_eq_false e)

theorem unnot : ∀ {b : Bool}, (!b) = false → b = true
  | true, _ => rfl
  | false, h => (by cases h)
end Go.Proofs.YtflclafbieokiaaGreatDoor.AL

namespace Go.Proofs.YtflclafbieokiaaGreatDoor.AL
open Go Go.ChangeShapes Go.WideShapes Go.ChangeAt Go.RowKit

section
variable {H : Type} {enc : TypeId × Value → H} {P : Program}

theorem trodAll_stays {W W' : World} {sp : Nat → Bool} (hl : laidOutB P = true) (hB : Below W.heap.size W W') : ∀ {ts : List TypeId} {vs : List Value} {ds : List (DataW H)} {p : List MemPlace},
    (∀ t ∈ ts, P.readableRec t = true ∧ t < P.types.size) → DataW.TrodAll enc P W 0 (fun _ => true) true ts vs ds p → (∀ x ∈ p, x.block < W.heap.size) → (∀ x ∈ p, sp x.block = true) →
    DataW.TrodAll enc P W' 0 sp true ts vs ds p
  | [], _, _, _, _, h, _, _ => by
    obtain ⟨rfl, rfl, rfl⟩ := trodAll_nil h
    exact h
  | t :: ts, _, _, _, hr, h, hlt, hs => by
    obtain ⟨v, vs1, d, ds1, a, b, rfl, rfl, rfl, h1, h2⟩ := trodAll_cons h
    exact ⟨a, b, WideElems.Trod_stays hl (hr t (List.mem_cons_self ..)).1 (hr t (List.mem_cons_self ..)).2 h1 (fun x hx => hB.same (hlt x (List.mem_append_left _ hx))) (fun x hx => hs x (List.mem_append_left _ hx)),
      trodAll_stays hl hB (fun u hu => hr u (List.mem_cons_of_mem _ hu)) h2 (fun x hx => hlt x (List.mem_append_right _ hx)) (fun x hx => hs x (List.mem_append_right _ hx)), rfl⟩

theorem law_post {f : Func} {s : ChangeSpec} {apart fresh handsOn again : Bool} {W W' : World} {args : Array Value} {ds gs : List (DataW H)} {before : List MemPlace} {t : TypeId}
    (hl : laidOutB P = true) (hp : ∀ t ∈ f.params.toList, P.readableRec t = true ∧ t < P.types.size) (ht : f.resultTypes = #[t]) (hb : P.underlying t = some .bool)
    (hvars : s.vars = []) (hfn : s.fn H (ds ++ gs) = { results := [.lit (.bool true)], args := ds })
    (hW : DataW.Whole enc P f.params.toList s.vars apart W args.toList ds gs before) (hB : Below W.heap.size W W') : s.post enc P f apart fresh handsOn again W args (.bool true) W' := by
  have hW0 := hW
  have hlt : ∀ x ∈ before, x.block < W.heap.size := fun x hx => hW.lt x hx
  obtain ⟨p, q, hA, hV, rfl, hz, hn⟩ := hW
  rw [hvars] at hV
  obtain ⟨rfl, rfl⟩ := trodVars_none hV
  have hps : p ++ ([] : List MemPlace) = p := List.append_nil _
  have hres : ∀ (b : Nat) (sp : Nat → Bool) (hd : Bool), DataW.TrodAll enc P W' b sp hd f.resultTypes.toList ((Value.bool true).resultList f.resultTypes.size) (s.fn H (ds ++ [])).results [] := fun b sp hd => by
    rw [hfn, ht]; exact trodAll_mk1 (shut_bool hb true)
  have hargs : ∀ sp : Nat → Bool, (∀ x ∈ p, sp x.block = true) → DataW.TrodAll enc P W' 0 sp true f.params.toList args.toList (s.fn H (ds ++ [])).args p := fun sp hs => by
    rw [hfn]; exact trodAll_stays hl hB hp hA (fun x hx => hlt x (by simpa using hx)) hs
  have hv : ∀ sp : Nat → Bool, DataW.TrodVars enc P W' sp s.vars (s.fn H (ds ++ [])).vars [] := fun sp => by
    rw [hfn, hvars]; rfl
  refine ⟨ds, [], _, [], p, [], hW0, hres _ _ _, hargs _ (fun x hx => by simpa using hlt x (by simpa using hx)), hv _, hB.frame _, fun _ => ?_⟩
  refine ⟨?_, _, _, ([] ++ p) ++ [], ⟨[] ++ p, [], trodAll_append (hargs _ (fun _ _ => rfl)) (hres _ _ _), hv _, rfl, ?_, ?_⟩, ?_⟩
  · rw [ht]
    intro j t' r h1 h2
    cases j with
    | zero =>
      simp [Value.resultList] at h1 h2
      subst h1; subst h2
      simp [Value.okWide, hb, Cell.okWide, Cell.ok]
    | succ j => simp at h1
  · intro b off hx
    rw [hB.frozen (hlt (.cell b off) (by simpa using hx))]
    exact hz b off (by simpa using hx)
  · intro ha
    have := hn ha
    simpa using this
  · intro x hx _
    simpa using hx

def intAt (cs : Array Value) (i : Nat) : Int :=
  match cs[i]? with
  | some (.int _ z) => z
  | _ => 0
theorem open_ints_array {W : World} {base n : Nat} {t e : TypeId} {k : IntKind} {v : Value} {d : DataW H} {ps : List MemPlace} (ht : P.underlying t = some (.array n e)) (he : P.underlying e = some (.int k)) (hc : P.cellsOf e = 1) (hct : P.cellsOf t = n)
    (hval : Value.okWide P W .any base t v) (h : DataW.Trod enc P W 0 (fun _ => true) true t v d ps) :
    ∃ xs : List Int, v = .agg (xs.map (Value.int k)).toArray ∧ xs.length = n ∧ ∀ x ∈ xs, (Lit.int k x).wf = true := by
  obtain ⟨cs, rfl, hsz⟩ : ∃ cs, v = .agg cs ∧ cs.size = P.cellsOf t := by
    simp only [Value.okWide, ht] at hval
    obtain ⟨cs, h1, h2, _⟩ := hval
    exact ⟨cs, h1, h2⟩
  obtain ⟨fuel, hf⟩ := h
  obtain ⟨ys, m, _, _, _, hl, hel⟩ := DataW.trod_array ht hf
  have each : ∀ i, i < n → ∃ z, cs[i]? = some (.int k z) ∧ (Lit.int k z).wf = true := fun i hi => by
    have h1 := hel i hi
    rw [hc, Nat.mul_one, List.getElem?_eq_getElem (by omega)] at h1
    obtain ⟨z, e1, _, hw⟩ := DataW.trod_int he h1
    refine ⟨z, ?_, hw⟩
    have h2 : (((Value.agg cs).cells.toList.drop i).take 1)[0]? = some (.int k z) := by rw [e1]; rfl
    simpa [Value.cells] using h2
  have hxs : cs = (((List.range n).map (intAt cs)).map (Value.int k)).toArray := by
    apply Array.ext_getElem?
    intro i
    rcases Nat.lt_or_ge i n with hi | hi
    · obtain ⟨z, e1, _⟩ := each i hi
      simp [hi, e1, intAt]
    · rw [Array.getElem?_eq_none (by omega), Array.getElem?_eq_none (by simp; omega)]
  refine ⟨_, congrArg Value.agg hxs, by simp, fun x hx => ?_⟩
  obtain ⟨i, hi, rfl⟩ := List.mem_map.1 hx
  obtain ⟨z, e1, hw⟩ := each i (List.mem_range.1 hi)
  simp only [intAt, e1]
  exact hw

end
end Go.Proofs.YtflclafbieokiaaGreatDoor.AL

namespace Go.Proofs.YtflclafbieokiaaGreatDoor.AL
open Go Go.ChangeShapes Go.WideShapes Go.ChangeAt Go.RowKit Go.Deep Go.Joins Go.WideElems

section
variable {H : Type} {enc : TypeId × Value → H} {P : Program}

abbrev allB (W : World) : Nat → Prop := fun b => b < W.heap.size
theorem trod_rows {W : World} {fuel base c : Nat} {sp : Nat → Bool} {hd : Bool} {t e : TypeId} {u : Value} {x : DataW H × List MemPlace} (ht : P.underlying t = some (.slice e)) (hC : P.cellsOf e = c) (hc : 0 < c)
    (hf : DataW.trod enc P W base sp hd fuel t [u] = some x) (hlt : ∀ p ∈ x.2, p.block < W.heap.size) :
    ∃ (A : Option Addr) (len cap n : Nat) (cs : Nat → List Value) (y : Nat → DataW H × List MemPlace), u = .slice A len cap ∧ len ≤ cap ∧ len ≤ maxLen ∧ (x.1 = .nil ∧ len = 0 ∨ ∃ es rs, x.1 = .slice es rs ∧ es.length = len) ∧
      ∀ i, i < len → DataW.trod enc P W base sp hd n e (cs i) = some (y i) ∧ (cs i).length = c ∧ (∀ p ∈ (y i).2, p ∈ x.2) ∧ ∀ j, j < c → ∃ v, (cs i)[j]? = some v ∧ rcell W (allB W) A (i * c + j) v := by
  rcases DataW.trod_slice ht hf with ⟨hcs, rfl⟩ | ⟨a, len, cap, elems, rest, n, _, hcs, rfl, hb, hl, hm, hlen, hel, hsp, hns⟩
  · simp at hcs
    subst hcs
    exact ⟨none, 0, 0, 0, fun _ => [], fun _ => (.nil, []), rfl, Nat.le_refl _, Nat.zero_le _, .inl ⟨rfl, rfl⟩, fun i hi => absurd hi (Nat.not_lt_zero _)⟩
  · simp at hcs
    subst hcs
    have key : ∀ i, ∃ (q : List Value × (DataW H × List MemPlace)), i < len → DataW.trod enc P W base sp hd n e q.1 = some q.2 ∧ q.1.length = c ∧ elems[i]? = some q.2 ∧ ∀ j, j < c → ∃ v, q.1[j]? = some v ∧ W.cell? ((a.add (i * c)).add j) = some v := fun i => by
      by_cases hi : i < len
      · have h2 := hel i hi
        rw [List.getElem?_eq_getElem (by omega), Option.bind_eq_some_iff] at h2
        obtain ⟨cs, hcc, hy⟩ := h2
        rw [hC] at hcc
        obtain ⟨_, hlen2, hcell⟩ := World.cells?_some hcc
        refine ⟨(cs, _), fun _ => ⟨hy, hlen2, by rw [List.getElem?_eq_getElem (by omega)], fun j hj => ⟨cs[j]'(by omega), List.getElem?_eq_getElem (by show j < cs.length; omega), ?_⟩⟩⟩
        rw [hcell j (by omega), List.getElem?_eq_getElem (by omega)]
      · exact ⟨([], (.nil, [])), fun h => absurd h hi⟩
    refine ⟨some a, len, cap, n, fun i => (key i).choose.1, fun i => (key i).choose.2, rfl, hl, by omega, .inr ⟨_, _, rfl, by simp [hlen]⟩, fun i hi => ?_⟩
    obtain ⟨h1, h2, h3, h4⟩ := (key i).choose_spec hi
    refine ⟨h1, h2, fun p hp => ?_, fun j hj => ?_⟩
    · refine List.mem_append_right _ (List.mem_flatMap.2 ⟨_, List.mem_append_left _ (List.mem_of_getElem? h3), hp⟩)
    · obtain ⟨v, h5, h6⟩ := h4 j hj
      obtain ⟨_, _, _, k4⟩ := (key 0).choose_spec (by omega)
      obtain ⟨v0, _, k6⟩ := k4 0 hc
      obtain ⟨ab, ao, spot⟩ := a
      have hspot : spot = none := by simpa [Addr.add] using World.cell?_spot k6
      subst hspot
      rw [Addr.add_lit, Addr.add_lit, Nat.add_assoc] at h6
      refine ⟨v, h5, ab, ao, rfl, ?_, h6⟩
      refine hlt (.cell ab (ao + (i * c + j))) (List.mem_append_left _ ?_)
      simp only [MemPlace.row, List.mem_map, List.mem_range]
      refine ⟨i * c + j, ?_, rfl⟩
      rw [hC]
      have : i * c + j < (i + 1) * c := by rw [Nat.add_mul]; omega
      have h7 : (i + 1) * c ≤ elems.length * c := Nat.mul_le_mul_right _ (by omega)
      have h8 : elems.length * c ≤ (elems.length + rest.length) * c := Nat.mul_le_mul_right _ (by omega)
      omega

theorem open_list {α : Type} (cell : α → Nat → AV) (dflt : α) (good : α → Prop) {W : World} {fuel base c : Nat} {sp : Nat → Bool} {hd : Bool} {t e : TypeId} {u : Value} {x : DataW H × List MemPlace} (ht : P.underlying t = some (.slice e)) (hC : P.cellsOf e = c) (hc : 0 < c)
    (hel : ∀ (n : Nat) (cs : List Value) (y : DataW H × List MemPlace), DataW.trod enc P W base sp hd n e cs = some y → (∀ p ∈ y.2, p.block < W.heap.size) → ∃ a, good a ∧ ∀ j, j < c → ∀ v, cs[j]? = some v → den W (allB W) .zero (cell a j) v)
    (hf : DataW.trod enc P W base sp hd fuel t [u] = some x) (hlt : ∀ p ∈ x.2, p.block < W.heap.size) :
    ∃ L : List α, (∀ a ∈ L, good a) ∧ L.length ≤ maxLen ∧ den W (allB W) .zero (.ro L.length c fun i => cell (L.getD (i / c) dflt) (i % c)) u ∧ (x.1 = .nil ∧ L = [] ∨ ∃ es rs, x.1 = .slice es rs ∧ es.length = L.length) := by
  obtain ⟨A, len, cap, n, cs, y, rfl, h1, h2, h3, h4⟩ := trod_rows ht hC hc hf hlt
  have key : ∀ i, ∃ a, i < len → good a ∧ ∀ j, j < c → ∀ v, (cs i)[j]? = some v → den W (allB W) .zero (cell a j) v := fun i => by
    by_cases hi : i < len
    · obtain ⟨g1, g2, g3, g4⟩ := h4 i hi
      obtain ⟨a, k1, k2⟩ := hel n (cs i) (y i) g1 (fun p hp => hlt p (g3 p hp))
      exact ⟨a, fun _ => ⟨k1, k2⟩⟩
    · exact ⟨dflt, fun h => absurd h hi⟩
  let L : List α := (List.range len).map fun i => (key i).choose
  have hL : L.length = len := by simp [L]
  have hget : ∀ i, i < len → L.getD i dflt = (key i).choose := fun i hi => by simp [L, List.getD_eq_getElem?_getD, hi]
  refine ⟨L, fun a ha => ?_, by rw [hL]; exact h2, ⟨A, cap, by rw [hL], by rw [hL]; exact h1, fun i hi => ?_⟩, ?_⟩
  · obtain ⟨i, hi, rfl⟩ := List.mem_map.1 ha
    exact ((key i).choose_spec (List.mem_range.1 hi)).1
  · rw [hL] at hi
    have hi2 : i / c < len := (Nat.div_lt_iff_lt_mul hc).2 hi
    obtain ⟨_, _, _, g4⟩ := h4 (i / c) hi2
    obtain ⟨v, g5, g6⟩ := g4 (i % c) (Nat.mod_lt _ hc)
    refine ⟨v, ?_, ?_⟩
    · have e : i / c * c + i % c = i := by rw [Nat.mul_comm]; exact Nat.div_add_mod i c
      rwa [e] at g6
    · show den W (allB W) .zero (cell (L.getD (i / c) dflt) (i % c)) v
      rw [hget _ hi2]
      exact ((key (i / c)).choose_spec hi2).2 _ (Nat.mod_lt _ hc) v g5
  · rcases h3 with ⟨a, b⟩ | ⟨es, rs, a, b⟩
    · exact .inl ⟨a, by apply List.eq_nil_of_length_eq_zero; omega⟩
    · exact .inr ⟨es, rs, a, by omega⟩

theorem one_cell {cs : List Value} {off : Nat} {u v : Value} (h : (cs.drop off).take 1 = [u]) (hv : cs[off]? = some v) : v = u := by
  have := congrArg (fun l : List Value => l[0]?) h
  simp [hv] at this
  exact this

end
end Go.Proofs.YtflclafbieokiaaGreatDoor.AL
