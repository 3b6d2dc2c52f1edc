/-
  What is known of a state, seen as less. No program in sight.
-/
import Derived.Test.YtmohncaoimeneaaDoorAlCall
set_option linter.unusedVariables false
set_option linter.unusedSimpArgs false
set_option linter.unusedSectionVars false
namespace Go.Proofs.YtmohncaoimeneaaDoor.AL
open Go
variable [Globs]

section
variable {P : Program} {C : Ctx} {t : List AV} {h : List AO} {L : Loc} {a : Act} {w : World}

def Loc.view (L : Loc) (l : List Nat) : Loc :=
  ⟨l.length, fun i => match l[i]? with | some j => if j < L.n then L.b j else none | none => none, fun i => match l[i]? with | some j => L.sz j | none => 0⟩
theorem view_b {l : List Nat} {i j : Nat} (e : l[i]? = some j) (hj : j < L.n) : (L.view l).b i = L.b j := by simp [Loc.view, e, hj]
theorem view_sz {l : List Nat} {i j : Nat} (e : l[i]? = some j) : (L.view l).sz i = L.sz j := by simp [Loc.view, e]

theorem LeO.live {l : List Nat} {o o' : AO} (hle : LeO h l o o') (hl : o'.live) : o.live := by
  cases hle <;> first | exact hl.elim | trivial

structure Seen (C : Ctx) (h : List AO) (L : Loc) (w : World) (l : List Nat) (h1 : List AO) : Prop where
  ss : ∀ b, SS C w h L b → SS C w h1 (L.view l) b
  own : ∀ id b, Live h id → id ∉ l → L.b id = some b → SS C w h1 (L.view l) b

theorem leh_live (hr : HRel C h L w) {l : List Nat} {h1 : List AO} (hle : LeH C.np h l h1) {i b : Nat} (hi : Live h1 i) (e : (L.view l).b i = some b) :
    ∃ j, l[i]? = some j ∧ Live h j ∧ L.b j = some b := by
  obtain ⟨o', ho', hlo⟩ := hi
  have hlt : i < l.length := by rw [← hle.len]; exact (List.getElem?_eq_some_iff.1 ho').1
  obtain ⟨j, hj⟩ : ∃ j, l[i]? = some j := ⟨l[i], by simp [hlt]⟩
  rcases hle.objs i j o' hj ho' with ⟨o, ho, hoo⟩ | ⟨_, hge, _⟩
  · have hjn : j < L.n := by rw [hr.n]; exact (List.getElem?_eq_some_iff.1 ho).1
    exact ⟨j, hj, ⟨o, ho, hoo.live hlo⟩, by rw [← view_b hj hjn]; exact e⟩
  · have : ¬ j < L.n := by rw [hr.n]; omega
    simp [Loc.view, hj, this] at e

theorem leh_seen (hr : HRel C h L w) {l : List Nat} {h1 : List AO} (hle : LeH C.np h l h1) : Seen C h L w l h1 := by
  refine ⟨fun b hb => ⟨hb.1, hb.2.1, fun i hi e => ?_⟩, fun id b hl hn e => ⟨(hr.mine id b hl e).1, .inr (hr.mine id b hl e).2, fun i hi e1 => ?_⟩⟩
  · obtain ⟨j, _, l1, e1⟩ := leh_live hr hle hi e
    exact hb.2.2 j l1 e1
  · obtain ⟨j, h2, l1, e2⟩ := leh_live hr hle hi e1
    have := hr.inj id j b hl l1 e e2
    subst this
    exact hn (List.mem_of_getElem? h2)

theorem LeV.den (hr : HRel C h L w) {l : List Nat} {h1 : List AO} (hs : Seen C h L w l h1) {x y : AV} (hle : LeV h l x y) : ∀ {v : Value}, den w (SS C w h L) L x v → den w (SS C w h1 (L.view l)) (L.view l) y v := by
  have place : ∀ {id id' : Nat}, l[id']? = some id → id < L.n → id' < (L.view l).n ∧ (L.view l).b id' = L.b id ∧ (L.view l).sz id' = L.sz id := fun e hid =>
    ⟨(List.getElem?_eq_some_iff.1 e).1, view_b e hid, view_sz e⟩
  induction hle with
  | top a => intro v _; trivial
  | raw u => intro v hv; exact hv
  | tt => intro v hv; exact hv
  | ff => intro v hv; exact hv
  | ttr => intro v hv; exact hv
  | rtt => intro v hv; exact hv
  | rff => intro v hv; exact hv
  | ffr => intro v hv; exact hv
  | same a hf => intro v hv; exact den_free _ _ _ hf (den_mono (fun _ _ => rfl) hs.ss (.refl _) _ _ hv)
  | own off len sz e =>
    intro v hv
    obtain ⟨hid, hv⟩ := hv
    obtain ⟨p1, p2, p3⟩ := place e hid
    refine ⟨p1, ?_⟩
    rcases hv with hv | ⟨b, cap, g1, g2, g3, g4⟩
    · exact .inl hv
    · exact .inr ⟨b, cap, by rw [p2]; exact g1, g2, g3, by rw [p3]; exact g4⟩
  | nil off sz e => intro v hv; exact ⟨e, .inl ⟨rfl, none, hv⟩⟩
  | ptr off e =>
    intro v hv
    obtain ⟨hid, b, g1, g2⟩ := hv
    obtain ⟨p1, p2, p3⟩ := place e hid
    exact ⟨p1, b, by rw [p2]; exact g1, g2⟩
  | mp e =>
    intro v hv
    obtain ⟨hid, b, g1, g2⟩ := hv
    obtain ⟨p1, p2, p3⟩ := place e hid
    exact ⟨p1, b, by rw [p2]; exact g1, g2⟩
  | rp n f g e ef ih =>
    intro v hv
    obtain ⟨A, rfl, hc⟩ := hv
    exact ⟨A, rfl, fun i hi => let ⟨u, g1, g2⟩ := hc i hi; ⟨u, rcell_mono (fun _ _ => rfl) hs.ss g1, den_free _ _ _ (ef i hi) (ih i hi (den_zero L g2))⟩⟩
  | ro n sz f g e ef ih =>
    intro v hv
    obtain ⟨A, cap, rfl, hcap, hc⟩ := hv
    exact ⟨A, cap, rfl, hcap, fun i hi => let ⟨u, g1, g2⟩ := hc i hi; ⟨u, rcell_mono (fun _ _ => rfl) hs.ss g1, den_free _ _ _ (ef i hi) (ih i hi (den_zero L g2))⟩⟩
  | roI k xs =>
    intro v hv
    obtain ⟨A, cap, rfl, hcap, hc⟩ := hv
    exact ⟨A, cap, rfl, hcap, fun i hi => rcell_mono (fun _ _ => rfl) hs.ss (hc i hi)⟩
  | roOfI k xs =>
    intro v hv
    obtain ⟨A, cap, rfl, hcap, hc⟩ := hv
    exact ⟨A, cap, rfl, hcap, fun i hi => ⟨_, rcell_mono (fun _ _ => rfl) hs.ss (hc i (by omega)), rfl⟩⟩
  | aggI k xs => intro v hv; exact hv
  | agg n f g e ih =>
    intro v hv
    obtain ⟨vs, rfl, hn, hc⟩ := hv
    exact ⟨vs, rfl, hn, fun i hi => let ⟨u, g1, g2⟩ := hc i hi; ⟨u, g1, ih i hi g2⟩⟩
  | aggOfI k xs =>
    intro v hv
    obtain rfl := hv
    exact ⟨_, rfl, by simp, fun i hi => ⟨.int k (xs.getD i 0), by simp [hi], rfl⟩⟩
  | iOfAgg k xs f e =>
    intro v hv
    obtain ⟨vs, rfl, hn, hc⟩ := hv
    show Value.agg vs = _
    congr 1
    apply Array.ext_getElem?
    intro i
    rcases Nat.lt_or_ge i xs.length with hi | hi
    · obtain ⟨u, g1, g2⟩ := hc i hi
      rw [e i hi] at g2
      rw [g1, g2]
      simp [List.getD_eq_getElem?_getD, hi]
    · rw [Array.getElem?_eq_none (by omega), Array.getElem?_eq_none (by simp; omega)]
  | tup n f g e ih =>
    intro v hv
    obtain ⟨vs, rfl, hn, hc⟩ := hv
    exact ⟨vs, rfl, hn, fun i hi => let ⟨u, g1, g2⟩ := hc i hi; ⟨u, g1, ih i hi g2⟩⟩
  | clo fn n f g e ih =>
    intro v hv
    obtain ⟨vs, rfl, hn, hc⟩ := hv
    exact ⟨vs, rfl, hn, fun i hi => let ⟨u, g1, g2⟩ := hc i hi; ⟨u, g1, ih i hi g2⟩⟩
  | nilI k => intro v hv; exact ⟨none, 0, hv, Nat.le_refl _, fun i hi => by simp at hi⟩
  | nilR sz f => intro v hv; exact ⟨none, 0, hv, Nat.le_refl _, fun i hi => by simp at hi⟩
  | giveI ys e hl hb hy =>
    rename_i id off len k xs
    intro v hv
    subst hy
    have hlen : ((xs.drop off).take len).length = len := by simp; omega
    obtain ⟨_, ⟨rfl, A, rfl⟩ | ⟨b, cap, hbk, rfl, hcap, hsz⟩⟩ := hv
    · exact ⟨A, 0, by simp, by simp, fun i hi => by simp at hi⟩
    · refine ⟨_, cap, by rw [hlen], by rw [hlen]; exact hcap, fun i hi => ⟨b, off, rfl, hs.own id b ⟨_, e, trivial⟩ hl hbk, ?_⟩⟩
      rw [hlen] at hi
      exact own_ints (len := len) (cap := cap) hr e hbk hb i hi
  | giveR g e hl hb hy hyf ih =>
    rename_i id off len sz n f
    intro v hv
    obtain ⟨_, ⟨rfl, A, rfl⟩ | ⟨b, cap, hbk, rfl, hcap, hsz⟩⟩ := hv
    · exact ⟨A, 0, rfl, Nat.le_refl _, fun i hi => by simp at hi⟩
    · refine ⟨_, cap, rfl, hcap, fun i hi => ?_⟩
      obtain ⟨u, g1, g2⟩ := own_cell (hr.objs id _ e) hbk (i := off + i) (by omega)
      exact ⟨u, ⟨b, off, rfl, hs.own id b ⟨_, e, trivial⟩ hl hbk, g1⟩, den_free _ _ _ (hyf i hi) (ih i hi g2)⟩
  | giveL g e hl hb hy hyf ih =>
    rename_i id off len sz m
    intro v hv
    obtain ⟨_, ⟨rfl, A, rfl⟩ | ⟨b, cap, hbk, rfl, hcap, hsz⟩⟩ := hv
    · exact ⟨A, 0, rfl, Nat.le_refl _, fun i hi => by simp at hi⟩
    · refine ⟨_, cap, rfl, hcap, fun i hi => ?_⟩
      obtain ⟨u, g1, g2⟩ := own_cell (hr.objs id _ e) hbk (i := off + i) (by omega)
      exact ⟨u, ⟨b, off, rfl, hs.own id b ⟨_, e, trivial⟩ hl hbk, g1⟩, den_free _ _ _ (hyf i hi) (ih i hi g2)⟩
  | givePL g e hl hb hy hyf ih =>
    rename_i id off n m
    intro v hv
    obtain ⟨_, b, hbk, rfl⟩ := hv
    refine ⟨_, rfl, fun i hi => ?_⟩
    obtain ⟨u, g1, g2⟩ := own_cell (hr.objs id _ e) hbk (i := off + i) (by omega)
    exact ⟨u, ⟨b, off, rfl, hs.own id b ⟨_, e, trivial⟩ hl hbk, g1⟩, den_free _ _ _ (hyf i hi) (ih i hi g2)⟩

theorem LeO.obj (hr : HRel C h L w) {l : List Nat} {h1 : List AO} (hs : Seen C h L w l h1) {o o' : AO} (hle : LeO h l o o') {B : Option Nat} {sz : Nat} (ho : objIs w (SS C w h L) L B sz o) :
    objIs w (SS C w h1 (L.view l)) (L.view l) B sz o' := by
  cases hle with
  | dead => trivial
  | ints k xs => exact ho
  | row n m f g hm e =>
    rcases ho with ⟨h2, h3⟩ | ⟨b, c, el, lo, hi, e1, h2, h3, h4, h5, h6⟩
    · exact .inl ⟨by omega, h3⟩
    · exact .inr ⟨b, c, el, lo, hi, e1, h2, h3, by omega, h5, fun i hi => let ⟨u, g1, g2⟩ := h6 i (by omega); ⟨u, g1, (e i hi).den hr hs g2⟩⟩
  | lst x y hn e =>
    show cellsAre _ _ _ _ _
    rw [hn]
    exact cellsAre_mono (fun _ _ => rfl) (fun i u hi hu => (e i hi).den hr hs hu) ho
  | rowL x g e => exact cellsAre_mono (fun _ _ => rfl) (fun i u hi hu => (e i hi).den hr hs hu) ho
  | rowI k xs => exact ho
  | map n key val key' val' e =>
    obtain ⟨b, es, clock, e1, hb, hn, hc⟩ := ho
    exact ⟨b, es, clock, e1, hb, hn, fun i hi => let ⟨x, g1, g2, g3⟩ := hc i hi; ⟨x, g1, (e i hi).1.den hr hs g2, (e i hi).2.den hr hs g3⟩⟩

theorem leh_rel (hr : HRel C h L w) {l : List Nat} {h1 : List AO} (hle : LeH C.np h l h1) : HRel C h1 (L.view l) w := by
  have hs := leh_seen hr hle
  refine ⟨hr.fr, hle.len.symm, by rw [hle.len]; exact hle.enough, fun i hi => ?_, fun i j b hi hj ei ej => ?_, fun i b hi e => ?_, fun i o' ho' => ?_⟩
  · have e := hle.pre i hi
    have hin : i < L.n := by rw [hr.n]; exact Nat.lt_of_lt_of_le hi hr.np
    have := hr.pre i hi
    exact ⟨by rw [view_b e hin]; exact this.1, by rw [view_sz e]; exact this.2⟩
  · obtain ⟨p, g1, l1, e1⟩ := leh_live hr hle hi ei
    obtain ⟨q, g2, l2, e2⟩ := leh_live hr hle hj ej
    have := hr.inj p q b l1 l2 e1 e2
    subst this
    exact nodup_inj hle.dist g1 g2
  · obtain ⟨p, g1, l1, e1⟩ := leh_live hr hle hi e
    exact hr.mine p b l1 e1
  · have hlt : i < l.length := by rw [← hle.len]; exact (List.getElem?_eq_some_iff.1 ho').1
    obtain ⟨j, hj⟩ : ∃ j, l[i]? = some j := ⟨l[i], by simp [hlt]⟩
    rcases hle.objs i j o' hj ho' with ⟨o, ho, hoo⟩ | ⟨_, hge, hnew⟩
    · have hjn : j < L.n := by rw [hr.n]; exact (List.getElem?_eq_some_iff.1 ho).1
      rw [view_b hj hjn, view_sz hj]
      exact hoo.obj hr hs (hr.objs j o ho)
    · have hjn : ¬ j < L.n := by rw [hr.n]; omega
      have hb : (L.view l).b i = none := by simp [Loc.view, hj, hjn]
      rw [hb]
      rcases hnew with rfl | ⟨k, rfl⟩ | ⟨g, rfl⟩
      · trivial
      · exact .inl ⟨rfl, rfl⟩
      · exact .inl ⟨rfl, rfl⟩

end
end Go.Proofs.YtmohncaoimeneaaDoor.AL
