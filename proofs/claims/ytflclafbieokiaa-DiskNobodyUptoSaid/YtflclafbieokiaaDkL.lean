/-
  Deeds of a disk's laws: what a disk is behind them, program and document side by side. No program in sight.
-/
import Derived.Test.YtflclafbieokiaaDkR6
import Derived.Test.YtflclafbieokiaaDkC2
set_option linter.unusedVariables false
set_option linter.unusedSectionVars false
namespace Go.Proofs.Ytflclafbieokiaa.Dk
open Go AL Us

/-! Names. -/
theorem lt_uniq : ∀ {L M : List ByteArray}, L.Pairwise (fun a b => ltS a b = true) → M.Pairwise (fun a b => ltS a b = true) → L.Perm M → L = M
  | [], M, _, _, h => by rw [h.nil_eq]
  | f :: L, [], _, _, h => by have := h.length_eq; simp at this
  | f :: L, g :: M, hl, hm, h => by
    obtain ⟨a1, a2⟩ := List.pairwise_cons.1 hl
    obtain ⟨b1, b2⟩ := List.pairwise_cons.1 hm
    have e : f = g := by
      rcases List.mem_cons.1 (h.mem_iff.1 (List.mem_cons_self ..)) with e | e
      · exact e
      · rcases List.mem_cons.1 (h.mem_iff.2 (List.mem_cons_self (a := g) (l := M))) with e2 | e2
        · exact e2.symm
        · exact absurd (ltS_trans (b1 f e) (a1 g e2)) (ltS_irr _)
    subst e
    rw [lt_uniq a2 b2 (h.cons_inv)]
theorem names_are {m : FM} {L : List Fl} (h : RelF m L) {ns : List ByteArray} (hn : NamesOf m ns) : ns = L.map Fl.path := by
  refine lt_uniq hn.2 (List.pairwise_map.2 h.rise) (hn.1.trans ?_)
  have := h.perm.map Prod.fst
  rw [List.map_map] at this
  exact this.symm
theorem rel_len {m : FM} {L : List Fl} (h : RelF m L) : L.length = m.length := by
  have := h.perm.length_eq
  rwa [List.length_map] at this
theorem rising_get : ∀ {L : List Fl}, Rising L → ∀ {f : Fl}, f ∈ L → getR f.path L = some f.data
  | [], _, f, hf => by cases hf
  | g :: r, h, f, hf => by
    obtain ⟨h1, h2⟩ := List.pairwise_cons.1 h
    unfold getR
    rcases List.mem_cons.1 hf with rfl | hf
    · rw [if_pos rfl]
    · rw [if_neg (fun e => ltS_irr _ (by have := h1 f hf; rwa [e] at this)), rising_get h2 hf]
theorem rel_file {m : FM} {L : List Fl} (h : RelF m L) {k : Nat} (hk : k < L.length) : getF (L.getD k fl0).path m = some (L.getD k fl0).data := by
  rw [← rel_get h]
  exact rising_get h.rise (get_mem hk)

/-! Deeds. -/
structure De6 where
  kind : Int
  a : Int
  b : Int
  name : ByteArray
  to : ByteArray
  data : List Int
def de6C (e : De6) : Nat → AV
  | 0 => int .i64 e.kind
  | 1 => int .i64 e.a
  | 2 => int .i64 e.b
  | 3 => str e.name
  | 4 => str e.to
  | _ => .roI .u8 e.data
def d60 : De6 := ⟨0, 0, 0, ByteArray.empty, ByteArray.empty, []⟩
def rowG (l : List De6) (i : Nat) : AV := de6C (l.getD (i / 6) d60) (i % 6)
abbrev de6s (l : List De6) : AV := .rs l.length 6 (rowG l)
abbrev de6V (e : De6) : AV := .agg 6 (de6C e)
theorem rowG_at (l : List De6) {k c : Nat} (h : c < 6) : rowG l (k * 6 + c) = de6C (l.getD k d60) c := by
  unfold rowG
  rw [show (k * 6 + c) / 6 = k by omega, show (k * 6 + c) % 6 = c by omega]
theorem de6C_free (e : De6) : ∀ c, (de6C e c).free
  | 0 => trivial
  | 1 => trivial
  | 2 => trivial
  | 3 => trivial
  | 4 => trivial
  | _ + 5 => trivial
theorem rowGFree (l : List De6) (i : Nat) : (rowG l i).free := de6C_free _ _
def de4 (e : De6) : De4 := ⟨e.kind, e.name, e.to, e.data⟩
def isD (e : De6) : Prop := 1 ≤ e.kind ∧ e.kind ≤ 3
instance (e : De6) : Decidable (isD e) := by unfold isD; infer_instance
def stepF (d : DkF) (e : De6) : DkF := if isD e then doF d (toDee (de4 e)) else if e.kind = 4 then syncF d else crashF d e.a e.b
def ansF (d : DkF) (e : De6) : Int := if isD e then errF d (toDee (de4 e)) else 0
def syncD (d : DkD) : DkD := ⟨d.files, d.files, [], d.room⟩
def stepD (d : DkD) (e : De6) : DkD := if isD e then doD d (de4 e) else if e.kind = 4 then syncD d else crashD d e.a e.b
def ansD (d : DkD) (e : De6) : Int := if isD e then errD d (de4 e) else 0
theorem ans_same {d : DkF} {x : DkD} (h : RelD d (dkdR x)) (e : De6) : ansF d e = ansD x e := by
  unfold ansF ansD errD
  rw [err_same h]
theorem rel_step {d : DkF} {x : DkD} (h : RelD d (dkdR x)) (e : De6) : RelD (stepF d e) (dkdR (stepD x e)) := by
  unfold stepF stepD
  split
  · rw [dkdR_do]; exact rel_do h _
  · split
    · exact rel_sync h
    · rw [dkdR_crash]; exact rel_crash h _ _
theorem good_step {d : DkF} (h : GoodD d) (e : De6) : GoodD (stepF d e) := by
  unfold stepF
  split
  · exact good_do h _
  · split
    · exact good_sync h
    · exact good_crash h _ _
theorem step_room (d : DkF) (e : De6) : (stepF d e).room = d.room := by
  unfold stepF doF
  split
  · split <;> rfl
  · split <;> rfl
theorem ans_no {d : DkF} {e : De6} (h : ansF d e ≠ 0) : stepF d e = d := by
  unfold ansF at h
  unfold stepF
  split at h
  · rename_i h1
    rw [if_pos h1]
    unfold doF
    rw [if_neg h]
  · exact absurd rfl h

/-! How large a disk is. -/
def okB (b : List Int) : Prop := ∀ x ∈ b, 0 ≤ x ∧ x < 256
def okV (B : Nat) (b : List Int) : Prop := b.length ≤ B ∧ okB b
theorem okV_nil (B : Nat) : okV B [] := ⟨Nat.zero_le _, fun x hx => by cases hx⟩
theorem okV_take {B : Nat} {b : List Int} (h : okV B b) (n : Nat) : okV B (b.take n) := ⟨by rw [List.length_take]; have := h.1; omega, fun x hx => h.2 x (List.mem_of_mem_take hx)⟩
def okM (B : Nat) (m : FM) : Prop := ∀ p ∈ m, p.1.size ≤ 40 ∧ okV B p.2
def okE (B : Nat) : Dee → Prop
  | .wr n b => n.size ≤ 40 ∧ okV B b
  | .mv a t => t.size ≤ 40
  | .rm a => True
theorem okM_set {B : Nat} {s : ByteArray} {v : List Int} (hs : s.size ≤ 40) (hv : okV B v) : ∀ {m : FM}, okM B m → okM B (setF s v m)
  | [], _ => fun p hp => by
    obtain rfl := List.mem_singleton.1 hp
    exact ⟨hs, hv⟩
  | q :: r, h => by
    unfold setF
    have h1 := h q (List.mem_cons_self ..)
    have h2 : okM B r := fun p hp => h p (List.mem_cons_of_mem _ hp)
    split
    · intro p hp
      rcases List.mem_cons.1 hp with rfl | hp
      · exact ⟨h1.1, hv⟩
      · exact h2 p hp
    · intro p hp
      rcases List.mem_cons.1 hp with rfl | hp
      · exact h1
      · exact okM_set hs hv h2 p hp
theorem okM_del {B : Nat} {s : ByteArray} : ∀ {m : FM}, okM B m → okM B (delF s m)
  | [], h => h
  | q :: r, h => by
    unfold delF
    have h2 : okM B r := fun p hp => h p (List.mem_cons_of_mem _ hp)
    split
    · exact h2
    · intro p hp
      rcases List.mem_cons.1 hp with rfl | hp
      · exact h p (List.mem_cons_self ..)
      · exact okM_del h2 p hp
theorem okM_get {B : Nat} {s : ByteArray} : ∀ {m : FM}, okM B m → okV B ((getF s m).getD [])
  | [], h => okV_nil B
  | q :: r, h => by
    unfold getF
    have h2 : okM B r := fun p hp => h p (List.mem_cons_of_mem _ hp)
    split
    · exact (h q (List.mem_cons_self ..)).2
    · exact okM_get h2
theorem okM_act {B : Nat} {m : FM} (h : okM B m) {e : Dee} (he : okE B e) : okM B (actF e m) := by
  cases e with
  | wr n b => exact okM_set he.1 he.2 h
  | mv a t => exact okM_set he (okM_get h) (okM_del h)
  | rm a => exact okM_del h
theorem okM_acts {B : Nat} : ∀ {ds : List Dee} {m : FM}, okM B m → (∀ e ∈ ds, okE B e) → okM B (ds.foldl (fun m e => actF e m) m)
  | [], _, h, _ => h
  | e :: ds, m, h, g => okM_acts (ds := ds) (m := actF e m) (okM_act h (g e (List.mem_cons_self ..))) fun x hx => g x (List.mem_cons_of_mem _ hx)
theorem del_len (s : ByteArray) : ∀ m : FM, (delF s m).length ≤ m.length
  | [] => Nat.le_refl _
  | p :: r => by
    unfold delF
    split
    · exact Nat.le_succ _
    · have := del_len s r
      simp only [List.length_cons]; omega
theorem del_less {s : ByteArray} : ∀ {m : FM}, getF s m ≠ none → (delF s m).length + 1 = m.length
  | [], h => absurd rfl h
  | p :: r, h => by
    unfold delF
    unfold getF at h
    split
    · rfl
    · rename_i hp
      rw [if_neg hp] at h
      have := del_less h
      simp only [List.length_cons]; omega
theorem act_len (m : FM) (e : Dee) : (actF e m).length ≤ m.length + 1 := by
  cases e with
  | wr n b => exact set_len n b m
  | mv a t =>
    have h1 := set_len t ((getF a m).getD []) (delF a m)
    have h2 := del_len a m
    show (setF t ((getF a m).getD []) (delF a m)).length ≤ _
    omega
  | rm a => have := del_len a m; show (delF a m).length ≤ _; omega
theorem acts_len : ∀ (ds : List Dee) (m : FM), (ds.foldl (fun m e => actF e m) m).length ≤ m.length + ds.length
  | [], _ => Nat.le_refl _
  | e :: ds, m => by
    have h1 := acts_len ds (actF e m)
    have h2 := act_len m e
    show (ds.foldl (fun m e => actF e m) (actF e m)).length ≤ _
    rw [List.length_cons]; omega
theorem size_le {B : Nat} : ∀ {m : FM}, okM B m → sizeF m ≤ m.length * B
  | [], _ => Nat.zero_le _
  | p :: r, h => by
    have h1 := size_le (m := r) fun p hp => h p (List.mem_cons_of_mem _ hp)
    have h2 := (h p (List.mem_cons_self ..)).2.1
    rw [size_cons, List.length_cons, Nat.succ_mul]
    omega
structure FitP (B k : Nat) (d : DkF) : Prop where
  now : okM B d.now
  synced : okM B d.synced
  deeds : ∀ e ∈ d.deeds, okE B e
  nowL : d.now.length ≤ k
  synL : d.synced.length + d.deeds.length ≤ k
theorem fit_new (B : Nat) (room : Int) : FitP B 0 (newF room) := ⟨fun p hp => (by cases hp), fun p hp => (by cases hp), fun p hp => (by cases hp), Nat.le_refl _, Nat.le_refl _⟩
theorem fit_more {B k n : Nat} {d : DkF} (h : FitP B k d) (hn : k ≤ n) : FitP B n d := ⟨h.now, h.synced, h.deeds, Nat.le_trans h.nowL hn, Nat.le_trans h.synL hn⟩
theorem fit_note {B k : Nat} {d : DkF} (h : FitP B k d) {e : Dee} (he : okE B e) : FitP B (k + 1) ⟨actF e d.now, d.synced, d.deeds ++ [e], d.room⟩ :=
  ⟨okM_act h.now he, h.synced, fun x hx => by
    rcases List.mem_append.1 hx with hx | hx
    · exact h.deeds x hx
    · rw [List.mem_singleton.1 hx]; exact he, by
    have := act_len d.now e
    have := h.nowL
    show (actF e d.now).length ≤ _
    omega, by
    have := h.synL
    show d.synced.length + (d.deeds ++ [e]).length ≤ _
    rw [List.length_append, List.length_singleton]; omega⟩
theorem err_ok {B : Nat} {d : DkF} {e : De6} (hb : okV B e.data) (h : errF d (toDee (de4 e)) = 0) : okE B (toDee (de4 e)) := by
  unfold toDee at h ⊢
  split
  · rename_i h1
    rw [if_pos h1] at h
    have h : (if ¬ mayN e.name then (1 : Int) else if (sizeF d.now : Int) - ((getF e.name d.now).getD []).length + e.data.length > d.room then 5 else 0) = 0 := h
    by_cases hm : mayN e.name
    · exact ⟨hm.2, hb⟩
    · rw [if_pos hm] at h; omega
  · rename_i h1
    rw [if_neg h1] at h
    split
    · rename_i h2
      rw [if_pos h2] at h
      have h : (if ¬ mayN e.to then (1 : Int) else if getF e.name d.now = none then 6 else 0) = 0 := h
      by_cases hm : mayN e.to
      · exact hm.2
      · rw [if_pos hm] at h; omega
    · exact trivial
theorem fit_sync {B k : Nat} {d : DkF} (h : FitP B k d) : FitP B k (syncF d) := ⟨h.now, h.now, fun e he => (by cases he), h.nowL, h.nowL⟩
theorem fit_crash {B k : Nat} {d : DkF} (h : FitP B k d) (keep bytes : Int) : FitP B k (crashF d keep bytes) := by
  have key : okM B (crashM d keep bytes) ∧ (crashM d keep bytes).length ≤ d.synced.length + d.deeds.length := by
    unfold crashM nextD
    have h1 := okM_acts (ds := d.deeds.take keep.toNat) h.synced fun e he => h.deeds e (List.mem_of_mem_take he)
    have h2 := acts_len (d.deeds.take keep.toNat) d.synced
    generalize (d.deeds.take keep.toNat).foldl (fun m e => actF e m) d.synced = m at *
    rw [List.length_take] at h2
    unfold lostF
    split
    · rename_i n b hn
      split at hn
      · have hlt := (List.getElem?_eq_some_iff.1 hn).1
        have hmem : okE B (.wr n b) := h.deeds _ (List.mem_of_getElem? hn)
        split
        · have h3 := set_len n (b.take bytes.toNat) m
          exact ⟨okM_set hmem.1 (okV_take hmem.2 _) h1, by omega⟩
        · exact ⟨h1, by omega⟩
      · cases hn
    · exact ⟨h1, by omega⟩
  have hk := h.synL
  exact ⟨key.1, key.1, fun e he => (by cases he), Nat.le_trans key.2 hk, Nat.le_trans key.2 hk⟩
theorem fit_step {B k : Nat} {d : DkF} (h : FitP B k d) {e : De6} (hb : okV B e.data) : FitP B (k + 1) (stepF d e) := by
  unfold stepF
  split
  · unfold doF
    split
    · rename_i he
      exact fit_note h (err_ok hb he)
    · exact fit_more h (Nat.le_succ k)
  · split
    · exact fit_more (fit_sync h) (Nat.le_succ k)
    · exact fit_more (fit_crash h _ _) (Nat.le_succ k)
theorem fit_size {B k : Nat} {d : DkF} (h : FitP B k d) : sizeF d.now ≤ k * B := Nat.le_trans (size_le h.now) (Nat.mul_le_mul_right _ h.nowL)
theorem fit_len {B k : Nat} {d : DkF} (h : FitP B k d) : d.deeds.length ≤ k ∧ d.synced.length ≤ k := by have := h.synL; omega
theorem fit_doc {B k : Nat} {d : DkF} {x : DkD} (h : FitP B k d) (r : RelD d (dkdR x)) (hk : k ≤ 100000) (hB : k * B ≤ 1000000000000) : FitD x := by
  have h1 := rel_len r.now
  have h2 := rel_len r.synced
  have h3 := fit_len h
  have h4 := h.nowL
  have h5 := rel_size r.now
  have h6 := fit_size h
  have h7 : d.deeds.length = x.deeds.length := by rw [r.deeds]; exact List.length_map _
  have e1 : (dkdR x).files = x.files := rfl
  have e2 : (dkdR x).synced = x.synced := rfl
  rw [e1] at h1 h5
  rw [e2] at h2
  exact ⟨by omega, by omega, by omega, by omega⟩
theorem fit_bytes {B : Nat} {m : FM} {L : List Fl} (r : RelF m L) (h : okM B m) : okBytes L := fun f hf => by
  have : prF f ∈ m := r.perm.mem_iff.1 (List.mem_map.2 ⟨f, hf, rfl⟩)
  exact (h _ this).2.2

/-! A disk behind the first so many deeds. -/
def stF (d : DkF) (l : List De6) (k : Nat) : DkF := (l.take k).foldl stepF d
def stD (d : DkD) (l : List De6) (k : Nat) : DkD := (l.take k).foldl stepD d
theorem take6 {l : List De6} {k : Nat} (h : k < l.length) : l.take (k + 1) = l.take k ++ [l.getD k d60] := by
  rw [List.take_succ_eq_append_getElem h, List.getD_eq_getElem?_getD, List.getElem?_eq_getElem h]; rfl
theorem mem6 {l : List De6} {k : Nat} (h : k < l.length) : l.getD k d60 ∈ l := by
  rw [List.getD_eq_getElem?_getD, List.getElem?_eq_getElem h]; exact List.getElem_mem h
theorem stF_succ {d : DkF} {l : List De6} {k : Nat} (h : k < l.length) : stF d l (k + 1) = stepF (stF d l k) (l.getD k d60) := by
  unfold stF
  rw [take6 h, List.foldl_append]; rfl
theorem stD_succ {d : DkD} {l : List De6} {k : Nat} (h : k < l.length) : stD d l (k + 1) = stepD (stD d l k) (l.getD k d60) := by
  unfold stD
  rw [take6 h, List.foldl_append]; rfl
def newD (room : Int) : DkD := ⟨[], [], [], max room 0⟩
theorem st_rel (room : Int) (l : List De6) : ∀ k, k ≤ l.length → RelD (stF (newF room) l k) (dkdR (stD (newD room) l k))
  | 0, _ => by
    unfold stF stD
    rw [List.take_zero]
    exact rel_new room
  | k + 1, h => by
    rw [stF_succ h, stD_succ h]
    exact rel_step (st_rel room l k (by omega)) _
theorem st_good (room : Int) (l : List De6) : ∀ k, k ≤ l.length → GoodD (stF (newF room) l k)
  | 0, _ => by
    unfold stF
    rw [List.take_zero]
    exact good_new room
  | k + 1, h => by
    rw [stF_succ h]
    exact good_step (st_good room l k (by omega)) _
theorem st_room (room : Int) (l : List De6) : ∀ k, k ≤ l.length → (stF (newF room) l k).room = max room 0
  | 0, _ => by
    unfold stF
    rw [List.take_zero]; rfl
  | k + 1, h => by
    rw [stF_succ h, step_room]
    exact st_room room l k (by omega)
def smallD (l : List De6) : Prop := ∀ e ∈ l.take 60, e.data.length ≤ 100
instance (l : List De6) : Decidable (smallD l) := by unfold smallD; infer_instance
def okD6 (l : List De6) : Prop := ∀ e ∈ l, okB e.data
theorem small_at {l : List De6} (h : smallD l) (g : okD6 l) {k : Nat} (hk : k < l.length) (h60 : k < 60) : okV 100 (l.getD k d60).data := by
  refine ⟨h _ ?_, g _ (mem6 hk)⟩
  have e : (l.take 60)[k]? = l[k]? := List.getElem?_take_of_lt h60
  rw [List.getElem?_eq_getElem hk] at e
  rw [List.getD_eq_getElem?_getD, List.getElem?_eq_getElem hk]
  exact List.mem_of_getElem? e
theorem st_fit (room : Int) (l : List De6) (hs : smallD l) (hb : okD6 l) : ∀ k, k ≤ l.length → k ≤ 60 → FitP 100 k (stF (newF room) l k)
  | 0, _, _ => by
    unfold stF
    rw [List.take_zero]
    exact fit_new 100 room
  | k + 1, h, h60 => by
    rw [stF_succ h]
    exact fit_step (st_fit room l hs hb k (by omega) (by omega)) (small_at hs hb h h60)
/-- The files of a disk, rising: there always are such. -/
def filesD (d : DkD) : List Fl := d.files

end Go.Proofs.Ytflclafbieokiaa.Dk
