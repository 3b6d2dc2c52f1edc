/-
  The program's disk: what a deed does to its files; deeds noted.
-/
import Derived.Test.YtflclafbieokiaaDkP
set_option linter.unusedVariables false
set_option linter.unusedSectionVars false
set_option linter.unusedSimpArgs false
namespace Go.Proofs.Ytflclafbieokiaa.Dk
open Go AL Us
section
variable [Globs]

/-- Maps, entry by entry. -/
def pwM (h : List AO) (l : List Nat) : List (ByteArray × AV) → List (ByteArray × AV) → Prop
  | [], [] => True
  | a :: x, b :: y => (b.1 = a.1 ∧ LeV h l a.2 b.2) ∧ pwM h l x y
  | _, _ => False
theorem pwM_at {h : List AO} {l : List Nat} : ∀ {x y : List (ByteArray × AV)}, pwM h l x y → y.length = x.length ∧ ∀ i, i < x.length → (y.getD i mz).1 = (x.getD i mz).1 ∧ LeV h l (x.getD i mz).2 (y.getD i mz).2
  | [], [], _ => ⟨rfl, fun i hi => by simp at hi⟩
  | [], _ :: _, e => e.elim
  | _ :: _, [], e => e.elim
  | a :: x, b :: y, ⟨e1, e2⟩ => by
    obtain ⟨h1, h2⟩ := pwM_at e2
    refine ⟨by simp [h1], fun i hi => ?_⟩
    cases i with
    | zero => exact e1
    | succ i => exact h2 i (by simpa using hi)
theorem pwM_le {h : List AO} {l : List Nat} {x y : List (ByteArray × AV)} (e : pwM h l x y) : LeO h l (.map x) (.map y) := .map _ _ (pwM_at e).1 (pwM_at e).2
theorem pwM_refl {h : List AO} {l : List Nat} : ∀ m : FM, pwM h l (fmV m) (fmV m)
  | [] => trivial
  | p :: m => ⟨⟨rfl, .same _ trivial⟩, pwM_refl m⟩
theorem pwM_nil {h : List AO} {l : List Nat} (t : ByteArray) : ∀ m : FM, pwM h l (setM t (.raw (.slice none 0 0)) (fmV m)) (fmV (setF t [] m))
  | [] => ⟨⟨rfl, .nilI .u8⟩, trivial⟩
  | p :: m => by
    show pwM h l (if p.1 = t then (p.1, AV.raw (.slice none 0 0)) :: fmV m else (p.1, AV.roI .u8 p.2) :: setM t _ (fmV m)) _
    unfold setF
    by_cases e : p.1 = t
    · rw [if_pos e, if_pos e]
      exact ⟨⟨rfl, .nilI .u8⟩, pwM_refl m⟩
    · rw [if_neg e, if_neg e]
      exact ⟨⟨rfl, .same _ trivial⟩, pwM_nil t m⟩

set_option maxRecDepth 10000 in
theorem wr_p (m : FM) (n : ByteArray) (b : List Int) : ACalls Try.prog 34 [.mp 0, one (.roI .u8 b), one (str n)] [.map (fmV m)] (fun r h => r = .top ∧ h = [.map (fmV (actF (.wr n b) m))]) := by
  have hs := set_fmV n b m
  refine rcalls Try.func34 rfl (by decide) ?_
  exact ⟨[0], [.map (fmV (actF (.wr n b) m))], .top, lehH1 rfl (leMap hs), .top _, rfl, rfl⟩

set_option maxRecDepth 10000 in
theorem rm_p (m : FM) (a : ByteArray) : ACalls Try.prog 36 [.mp 0, one (str a)] [.map (fmV m)] (fun r h => r = .top ∧ h = [.map (fmV (actF (.rm a) m))]) := by
  have hs := del_fmV a m
  refine rcalls Try.func36 rfl (by decide) ?_
  exact ⟨[0], [.map (fmV (actF (.rm a) m))], .top, lehH1 rfl (leMap hs), .top _, rfl, rfl⟩

set_option maxRecDepth 10000 in
theorem mv_p (m : FM) (a t : ByteArray) : ACalls Try.prog 35 [.mp 0, one (str a), one (str t)] [.map (fmV m)] (fun r h => r = .top ∧ h = [.map (fmV (actF (.mv a t) m))]) := by
  have hg := get_fmV a m
  have hd := del_fmV a m
  have hs := fun v => set_fmV t v (delF a m)
  have ha : actF (.mv a t) m = setF t ((getF a m).getD []) (delF a m) := rfl
  obtain ⟨G, hG⟩ : ∃ G, getF a m = G := ⟨_, rfl⟩
  rw [hG] at hg ha
  rw [ha]
  refine rcalls Try.func35 rfl (by decide) ?_
  refine ⟨fun v hv => ?_, fun hv => ?_⟩
  · cases G with
    | none => rw [hg] at hv; cases hv
    | some x =>
      rw [hg] at hv
      obtain rfl := Option.some.inj hv
      exact ⟨[0], [.map (fmV (setF t x (delF a m)))], .top, lehH1 rfl (leMap (by rw [hd]; exact hs x)), .top _, rfl, rfl⟩
  · cases G with
    | some x => rw [hg] at hv; cases hv
    | none => exact ⟨[0], [.map (fmV (setF t [] (delF a m)))], .top, lehH1 rfl (pwM_le (by rw [hd]; exact pwM_nil t _)), .top _, rfl, rfl⟩

/-- Blocks that are kept, one by one. -/
def relH (h : List AO) (l : List Nat) : List Nat → List AO → Prop
  | [], [] => True
  | j :: r, o :: s => (∃ p, h[j]? = some p ∧ LeO h l p o) ∧ relH h l r s
  | _, _ => False
theorem relH_at {h : List AO} {l : List Nat} : ∀ {r : List Nat} {s : List AO}, relH h l r s → s.length = r.length ∧ ∀ (i j : Nat) (o : AO), r[i]? = some j → s[i]? = some o → ∃ p, h[j]? = some p ∧ LeO h l p o
  | [], [], _ => ⟨rfl, fun i j o hi _ => by simp at hi⟩
  | [], _ :: _, e => e.elim
  | _ :: _, [], e => e.elim
  | j :: r, o :: s, ⟨e1, e2⟩ => by
    obtain ⟨h1, h2⟩ := relH_at e2
    refine ⟨by simp [h1], fun i k q hi hq => ?_⟩
    cases i with
    | zero => cases hi; cases hq; exact e1
    | succ i => exact h2 i k q hi hq
theorem leh_rel {np : Nat} {h : List AO} {l : List Nat} {hs : List AO} (hnp : np ≤ l.length) (hp : ∀ i, i < np → l[i]? = some i) (hd : l.Nodup) (e : relH h l l hs) : LeH np h l hs :=
  ⟨(relH_at e).1, hnp, hp, hd, fun i j o hi ho => .inl ((relH_at e).2 i j o hi ho)⟩
theorem first4 {l : List Nat} {a b c d : Nat} (ha : a = 0) (hb : b = 1) (hc : c = 2) (hd : d = 3) : ∀ i, i < 4 → (a :: b :: c :: d :: l)[i]? = some i := fun i hi => by
  subst ha hb hc hd
  match i, hi with
  | 0, _ => rfl
  | 1, _ => rfl
  | 2, _ => rfl
  | 3, _ => rfl
/-- A disk whose parts lie anywhere. -/
abbrev dkA (a b c : Nat) (d : DkF) : AO := .lst [.mp a, .mp b, .own c 0 d.deeds.length 4, int .i64 d.room]
abbrev dkN (d : DkF) : List AO := [dkA 1 2 4 d, .map (fmV d.now), .map (fmV d.synced), .dead, .row (d.deeds.length * 4) (rowP d.deeds)]
theorem leDkA {h : List AO} {l : List Nat} {a b c a' b' c' n m : Nat} {r s : Int} (ea : l[a']? = some a) (eb : l[b']? = some b) (ec : l[c']? = some c) (en : n = m) (er : r = s) :
    LeO h l (.lst [.mp a, .mp b, .own c 0 n 4, int .i64 r]) (.lst [.mp a', .mp b', .own c' 0 m 4, int .i64 s]) := .lst _ _ rfl fun i hi => by
  have hi : i < 4 := hi
  match i, hi with
  | 0, _ => exact .mp ea
  | 1, _ => exact .mp eb
  | 2, _ => exact leOwn ec rfl en
  | 3, _ => exact leI er
theorem leRowQ {h : List AO} {l : List Nat} {D : List Dee} {n : Nat} {f : Nat → AV} (hn : n = D.length * 4) (hf : f = rowP D) : LeO h l (.row n f) (.row (D.length * 4) (rowP D)) := by
  subst hn hf
  exact leRowP D
def noteF (d : DkF) (e : Dee) : DkF := ⟨actF e d.now, d.synced, d.deeds ++ [e], d.room⟩

set_option maxHeartbeats 1000000 in
set_option maxRecDepth 10000 in
theorem note_wr (d : DkF) (n : ByteArray) (b : List Int) (hl : d.deeds.length ≤ 100000) : ACalls Try.prog 33 [.ptr 0 0, .agg 4 (pdC (.wr n b))] (dkH d) (fun r h => r = int .i64 0 ∧ h = dkN (noteF d (.wr n b))) := by
  have hw := wr_p d.now n b
  refine rcalls Try.func33 rfl (by decide) ?_
  refine .inr ⟨6, by decide +kernel, ?_⟩
  refine ⟨_, rfl, ?_⟩
  refine ⟨_, rfl, ?_⟩
  refine ⟨_, rfl, ?_⟩
  refine ⟨_, rfl, ?_⟩
  refine ⟨_, rfl, ?_⟩
  refine ⟨_, rfl, ?_⟩
  refine ⟨[1], _, fmVFree _, hw, ?_⟩
  rintro r hh ⟨rfl, rfl⟩
  refine ⟨.inl rfl, ?_⟩
  refine .inr ⟨8, by decide +kernel, ?_⟩
  refine ⟨_, rfl, ?_⟩
  refine ⟨_, rfl, ?_⟩
  refine ⟨_, rfl, ?_⟩
  refine ⟨_, rfl, ?_⟩
  refine ⟨_, rfl, ?_⟩
  refine ⟨_, rfl, ?_⟩
  refine ⟨_, ⟨⟨pdC_free (.wr n b) 0, trivial, trivial, trivial, trivial⟩, rfl⟩, ?_⟩
  refine ⟨_, _, ⟨rfl, fun i hi => rowPCell1 d.deeds i, by show (d.deeds.length + 1) * 56 ≤ _; omega, fun i hi => ?_, rowP (d.deeds ++ [(.wr n b)]), fun i hi => rowP_old d.deeds (.wr n b) hi, fun i hi => ?_, rfl, rfl⟩, ?_⟩
  · match i, hi with
    | 0, _ => rfl
    | 1, _ => rfl
    | 2, _ => rfl
    | 3, _ => rfl
  · rw [rowP_new d.deeds (.wr n b) hi]
    match i, hi with
    | 0, _ => rfl
    | 1, _ => rfl
    | 2, _ => rfl
    | 3, _ => rfl
  have el : d.deeds.length + 1 = (d.deeds ++ [((.wr n b) : Dee)]).length := by rw [List.length_append, List.length_singleton]
  exact ⟨[0, 1, 2, 3, 5], dkN (noteF d (.wr n b)), _, leh_rel (Nat.le_of_ble_eq_true rfl) (first4 rfl rfl rfl rfl) (by decide)
    ⟨⟨_, rfl, leDkA rfl rfl rfl el rfl⟩, ⟨_, rfl, leMap (by simp only [ren_fmV]; rfl)⟩, ⟨_, rfl, leMap rfl⟩, ⟨_, rfl, .dead _⟩, ⟨_, rfl, leRowQ (by rw [el]; rfl) rfl⟩, trivial⟩, leI rfl, rfl, rfl⟩

set_option maxHeartbeats 1000000 in
set_option maxRecDepth 10000 in
theorem note_mv (d : DkF) (a t : ByteArray) (hl : d.deeds.length ≤ 100000) : ACalls Try.prog 33 [.ptr 0 0, .agg 4 (pdC (.mv a t))] (dkH d) (fun r h => r = int .i64 0 ∧ h = dkN (noteF d (.mv a t))) := by
  have hw := mv_p d.now a t
  refine rcalls Try.func33 rfl (by decide) ?_
  refine .inr ⟨6, by decide +kernel, ?_⟩
  refine ⟨_, rfl, ?_⟩
  refine ⟨_, rfl, ?_⟩
  refine ⟨_, rfl, ?_⟩
  refine ⟨_, rfl, ?_⟩
  refine ⟨_, rfl, ?_⟩
  refine ⟨_, rfl, ?_⟩
  refine ⟨[1], _, fmVFree _, hw, ?_⟩
  rintro r hh ⟨rfl, rfl⟩
  refine ⟨.inl rfl, ?_⟩
  refine .inr ⟨8, by decide +kernel, ?_⟩
  refine ⟨_, rfl, ?_⟩
  refine ⟨_, rfl, ?_⟩
  refine ⟨_, rfl, ?_⟩
  refine ⟨_, rfl, ?_⟩
  refine ⟨_, rfl, ?_⟩
  refine ⟨_, rfl, ?_⟩
  refine ⟨_, ⟨⟨pdC_free (.mv a t) 0, trivial, trivial, trivial, trivial⟩, rfl⟩, ?_⟩
  refine ⟨_, _, ⟨rfl, fun i hi => rowPCell1 d.deeds i, by show (d.deeds.length + 1) * 56 ≤ _; omega, fun i hi => ?_, rowP (d.deeds ++ [(.mv a t)]), fun i hi => rowP_old d.deeds (.mv a t) hi, fun i hi => ?_, rfl, rfl⟩, ?_⟩
  · match i, hi with
    | 0, _ => rfl
    | 1, _ => rfl
    | 2, _ => rfl
    | 3, _ => rfl
  · rw [rowP_new d.deeds (.mv a t) hi]
    match i, hi with
    | 0, _ => rfl
    | 1, _ => rfl
    | 2, _ => rfl
    | 3, _ => rfl
  have el : d.deeds.length + 1 = (d.deeds ++ [((.mv a t) : Dee)]).length := by rw [List.length_append, List.length_singleton]
  exact ⟨[0, 1, 2, 3, 5], dkN (noteF d (.mv a t)), _, leh_rel (Nat.le_of_ble_eq_true rfl) (first4 rfl rfl rfl rfl) (by decide)
    ⟨⟨_, rfl, leDkA rfl rfl rfl el rfl⟩, ⟨_, rfl, leMap (by simp only [ren_fmV]; rfl)⟩, ⟨_, rfl, leMap rfl⟩, ⟨_, rfl, .dead _⟩, ⟨_, rfl, leRowQ (by rw [el]; rfl) rfl⟩, trivial⟩, leI rfl, rfl, rfl⟩

set_option maxHeartbeats 1000000 in
set_option maxRecDepth 10000 in
theorem note_rm (d : DkF) (a : ByteArray) (hl : d.deeds.length ≤ 100000) : ACalls Try.prog 33 [.ptr 0 0, .agg 4 (pdC (.rm a))] (dkH d) (fun r h => r = int .i64 0 ∧ h = dkN (noteF d (.rm a))) := by
  have hw := rm_p d.now a
  refine rcalls Try.func33 rfl (by decide) ?_
  refine .inr ⟨6, by decide +kernel, ?_⟩
  refine ⟨_, rfl, ?_⟩
  refine ⟨_, rfl, ?_⟩
  refine ⟨_, rfl, ?_⟩
  refine ⟨_, rfl, ?_⟩
  refine ⟨_, rfl, ?_⟩
  refine ⟨_, rfl, ?_⟩
  refine ⟨[1], _, fmVFree _, hw, ?_⟩
  rintro r hh ⟨rfl, rfl⟩
  refine ⟨.inl rfl, ?_⟩
  refine .inr ⟨8, by decide +kernel, ?_⟩
  refine ⟨_, rfl, ?_⟩
  refine ⟨_, rfl, ?_⟩
  refine ⟨_, rfl, ?_⟩
  refine ⟨_, rfl, ?_⟩
  refine ⟨_, rfl, ?_⟩
  refine ⟨_, rfl, ?_⟩
  refine ⟨_, ⟨⟨pdC_free (.rm a) 0, trivial, trivial, trivial, trivial⟩, rfl⟩, ?_⟩
  refine ⟨_, _, ⟨rfl, fun i hi => rowPCell1 d.deeds i, by show (d.deeds.length + 1) * 56 ≤ _; omega, fun i hi => ?_, rowP (d.deeds ++ [(.rm a)]), fun i hi => rowP_old d.deeds (.rm a) hi, fun i hi => ?_, rfl, rfl⟩, ?_⟩
  · match i, hi with
    | 0, _ => rfl
    | 1, _ => rfl
    | 2, _ => rfl
    | 3, _ => rfl
  · rw [rowP_new d.deeds (.rm a) hi]
    match i, hi with
    | 0, _ => rfl
    | 1, _ => rfl
    | 2, _ => rfl
    | 3, _ => rfl
  have el : d.deeds.length + 1 = (d.deeds ++ [((.rm a) : Dee)]).length := by rw [List.length_append, List.length_singleton]
  exact ⟨[0, 1, 2, 3, 5], dkN (noteF d (.rm a)), _, leh_rel (Nat.le_of_ble_eq_true rfl) (first4 rfl rfl rfl rfl) (by decide)
    ⟨⟨_, rfl, leDkA rfl rfl rfl el rfl⟩, ⟨_, rfl, leMap (by simp only [ren_fmV]; rfl)⟩, ⟨_, rfl, leMap rfl⟩, ⟨_, rfl, .dead _⟩, ⟨_, rfl, leRowQ (by rw [el]; rfl) rfl⟩, trivial⟩, leI rfl, rfl, rfl⟩
end
end Go.Proofs.Ytflclafbieokiaa.Dk
