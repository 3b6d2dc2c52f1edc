/-
  Files on a disk: by name, in the order in which they came, and rising. No program in sight.
-/
import Derived.Test.YtflclafbieokiaaUsF
set_option linter.unusedVariables false
set_option linter.unusedSectionVars false
namespace Go.Proofs.Ytflclafbieokiaa.Dk
open Go AL Us

/-! Texts, in order. -/
def ltS (x y : ByteArray) : Bool := Op.bytesLess x.toList y.toList
theorem less_iff : ∀ (x y : List UInt8), Op.bytesLess x y = true ↔ x < y
  | [], [] => by simp [Op.bytesLess]
  | _ :: _, [] => by simp [Op.bytesLess]
  | [], _ :: _ => by simp [Op.bytesLess]
  | a :: x, b :: y => by
    unfold Op.bytesLess
    rw [List.cons_lt_cons_iff, Bool.or_eq_true, Bool.and_eq_true, less_iff x y]
    simp
theorem ltS_iff {x y : ByteArray} : ltS x y = true ↔ x.toList < y.toList := less_iff _ _
theorem toList_inj {x y : ByteArray} (h : x.toList = y.toList) : x = y := by
  rw [Lib.toList_data, Lib.toList_data] at h
  cases x; cases y
  simpa using h
theorem ltS_irr (x : ByteArray) : ¬ ltS x x = true := fun h => List.lt_irrefl _ (ltS_iff.1 h)
theorem ltS_trans {x y z : ByteArray} (h : ltS x y = true) (g : ltS y z = true) : ltS x z = true := ltS_iff.2 (List.lt_trans (ltS_iff.1 h) (ltS_iff.1 g))
theorem ltS_tri {x y : ByteArray} (h : ¬ ltS x y = true) (g : ¬ ltS y x = true) : x = y := by
  rw [ltS_iff] at h g
  exact toList_inj (List.le_antisymm (List.not_lt.1 g) (List.not_lt.1 h))

/-! Files by name. -/
abbrev FM := List (ByteArray × List Int)
def setF (s : ByteArray) (v : List Int) : FM → FM
  | [] => [(s, v)]
  | p :: r => if p.1 = s then (p.1, v) :: r else p :: setF s v r
def delF (s : ByteArray) : FM → FM
  | [] => []
  | p :: r => if p.1 = s then r else p :: delF s r
def getF (s : ByteArray) : FM → Option (List Int)
  | [] => none
  | p :: r => if p.1 = s then some p.2 else getF s r
def fmV (m : FM) : List (ByteArray × AV) := m.map fun p => (p.1, .roI .u8 p.2)
def keysF (m : FM) : List ByteArray := m.map Prod.fst
def sizeF (m : FM) : Nat := (m.map fun p => p.2.length).sum
theorem set_fmV (s : ByteArray) (v : List Int) : ∀ m : FM, setM s (.roI .u8 v) (fmV m) = fmV (setF s v m)
  | [] => rfl
  | p :: r => by
    show (if p.1 = s then (p.1, _) :: fmV r else (p.1, AV.roI .u8 p.2) :: setM s _ (fmV r)) = _
    unfold setF
    by_cases h : p.1 = s
    · rw [if_pos h, if_pos h]; rfl
    · rw [if_neg h, if_neg h, set_fmV s v r]; rfl
theorem del_fmV (s : ByteArray) : ∀ m : FM, delM s (fmV m) = fmV (delF s m)
  | [] => rfl
  | p :: r => by
    show (if p.1 = s then fmV r else (p.1, AV.roI .u8 p.2) :: delM s (fmV r)) = _
    unfold delF
    by_cases h : p.1 = s
    · rw [if_pos h, if_pos h]
    · rw [if_neg h, if_neg h, del_fmV s r]; rfl
theorem get_fmV (s : ByteArray) : ∀ m : FM, getM s (fmV m) = (getF s m).map fun v => .roI .u8 v
  | [] => rfl
  | p :: r => by
    show (if p.1 = s then some (AV.roI .u8 p.2) else getM s (fmV r)) = _
    unfold getF
    by_cases h : p.1 = s
    · rw [if_pos h, if_pos h]; rfl
    · rw [if_neg h, if_neg h, get_fmV s r]
theorem fmV_len (m : FM) : (fmV m).length = m.length := List.length_map _
theorem fmV_get {m : FM} {i : Nat} (h : i < m.length) : (fmV m).getD i mz = (m[i].1, .roI .u8 m[i].2) := by
  unfold fmV
  rw [List.getD_eq_getElem?_getD, List.getElem?_map, List.getElem?_eq_getElem h]; rfl

theorem delF_filter (s : ByteArray) : ∀ {m : FM}, (keysF m).Nodup → delF s m = m.filter fun p => decide (p.1 ≠ s)
  | [], _ => rfl
  | p :: r, h => by
    obtain ⟨h1, h2⟩ := List.nodup_cons.1 (show (p.1 :: keysF r).Nodup from h)
    unfold delF
    by_cases e : p.1 = s
    · rw [if_pos e, List.filter_cons_of_neg (by simp [e])]
      refine (List.filter_eq_self.2 fun q hq => ?_).symm
      refine decide_eq_true fun x => h1 ?_
      rw [e, ← x]
      exact List.mem_map.2 ⟨q, hq, rfl⟩
    · rw [if_neg e, List.filter_cons_of_pos (by simp [e]), delF_filter s h2]
theorem setF_perm (s : ByteArray) (v : List Int) : ∀ {m : FM}, (keysF m).Nodup → (setF s v m).Perm ((s, v) :: delF s m)
  | [], _ => .refl _
  | p :: r, h => by
    obtain ⟨h1, h2⟩ := List.nodup_cons.1 (show (p.1 :: keysF r).Nodup from h)
    unfold setF delF
    by_cases e : p.1 = s
    · rw [if_pos e, if_pos e, e]
    · rw [if_neg e, if_neg e]
      exact (List.Perm.cons p (setF_perm s v h2)).trans (List.Perm.swap ..)
theorem delF_keys {s : ByteArray} {m : FM} (h : (keysF m).Nodup) : (keysF (delF s m)).Nodup ∧ s ∉ keysF (delF s m) := by
  rw [delF_filter s h]
  refine ⟨?_, fun hm => ?_⟩
  · exact List.Nodup.sublist (List.Sublist.map _ (List.filter_sublist)) h
  · obtain ⟨p, hp, e⟩ := List.mem_map.1 hm
    have := (List.mem_filter.1 hp).2
    simp [e] at this
theorem setF_keys {s : ByteArray} {v : List Int} {m : FM} (h : (keysF m).Nodup) : (keysF (setF s v m)).Nodup := by
  have h1 := (setF_perm s v h).map Prod.fst
  refine h1.nodup_iff.2 ?_
  obtain ⟨a, b⟩ := delF_keys (s := s) h
  exact List.nodup_cons.2 ⟨b, a⟩
theorem getF_mem {s : ByteArray} {v : List Int} : ∀ {m : FM}, (keysF m).Nodup → (getF s m = some v ↔ (s, v) ∈ m)
  | [], _ => by simp [getF]
  | p :: r, h => by
    obtain ⟨h1, h2⟩ := List.nodup_cons.1 (show (p.1 :: keysF r).Nodup from h)
    unfold getF
    by_cases e : p.1 = s
    · rw [if_pos e]
      constructor
      · intro x
        cases x
        rw [← e]
        exact List.mem_cons_self ..
      · intro x
        rcases List.mem_cons.1 x with x | x
        · rw [← x]
        · exact absurd (List.mem_map.2 ⟨_, x, e.symm⟩) h1
    · rw [if_neg e, getF_mem h2]
      constructor
      · exact List.mem_cons_of_mem _
      · intro x
        rcases List.mem_cons.1 x with x | x
        · exact absurd (by rw [← x]) e
        · exact x
theorem getF_none {s : ByteArray} : ∀ {m : FM}, getF s m = none ↔ s ∉ keysF m
  | [] => by simp [getF, keysF]
  | p :: r => by
    unfold getF
    have ih := getF_none (s := s) (m := r)
    have hk : keysF (p :: r) = p.1 :: keysF r := rfl
    by_cases e : p.1 = s
    · rw [if_pos e, hk]; simp [e]
    · rw [if_neg e, hk, ih]; simp [Ne.symm e]

theorem get_set_same (s : ByteArray) (v : List Int) : ∀ m : FM, getF s (setF s v m) = some v
  | [] => by unfold setF getF; rw [if_pos rfl]
  | p :: r => by
    unfold setF
    by_cases h : p.1 = s
    · rw [if_pos h]; unfold getF; rw [if_pos h]
    · rw [if_neg h]; unfold getF; rw [if_neg h, get_set_same s v r]
theorem get_set_other {s t : ByteArray} (ht : t ≠ s) (v : List Int) : ∀ m : FM, getF t (setF s v m) = getF t m
  | [] => by unfold setF getF; rw [if_neg (Ne.symm ht)]; rfl
  | p :: r => by
    unfold setF
    by_cases h : p.1 = s
    · rw [if_pos h]; unfold getF; rw [if_neg (by rw [h]; exact Ne.symm ht), if_neg (by rw [h]; exact Ne.symm ht)]
    · rw [if_neg h]; unfold getF; rw [get_set_other ht v r]
theorem get_del_other {s t : ByteArray} (ht : t ≠ s) : ∀ m : FM, getF t (delF s m) = getF t m
  | [] => rfl
  | p :: r => by
    unfold delF
    by_cases h : p.1 = s
    · rw [if_pos h]
      conv => rhs; unfold getF
      rw [if_neg (by rw [h]; exact Ne.symm ht)]
    · rw [if_neg h]; unfold getF; rw [get_del_other ht r]
theorem get_del_same {s : ByteArray} {m : FM} (h : (keysF m).Nodup) : getF s (delF s m) = none := getF_none.2 (delF_keys h).2
theorem set_len (s : ByteArray) (v : List Int) : ∀ m : FM, (setF s v m).length ≤ m.length + 1
  | [] => Nat.le_refl _
  | p :: r => by
    unfold setF
    by_cases h : p.1 = s
    · rw [if_pos h]; exact Nat.le_succ _
    · rw [if_neg h]
      have := set_len s v r
      simp only [List.length_cons]; omega

/-! The same, rising. -/
def prF (f : Fl) : ByteArray × List Int := (f.path, f.data)
def Rising (L : List Fl) : Prop := L.Pairwise fun a b => ltS a.path b.path = true
def getR (s : ByteArray) : List Fl → Option (List Int)
  | [] => none
  | f :: r => if f.path = s then some f.data else getR s r
def withoutR (s : ByteArray) (L : List Fl) : List Fl := L.filter fun f => decide (f.path ≠ s)
def withR (s : ByteArray) (v : List Int) (L : List Fl) : List Fl := (withoutR s L).takeWhile (fun f => ltS f.path s) ++ ⟨s, v⟩ :: (withoutR s L).dropWhile (fun f => ltS f.path s)
structure RelF (m : FM) (L : List Fl) : Prop where
  keys : (keysF m).Nodup
  rise : Rising L
  perm : (L.map prF).Perm m
theorem rel_nil : RelF [] [] := ⟨List.nodup_nil, List.Pairwise.nil, .refl _⟩
theorem getR_prF (s : ByteArray) : ∀ L : List Fl, getR s L = getF s (L.map prF)
  | [] => rfl
  | f :: r => by
    unfold getR
    rw [List.map_cons]
    unfold getF
    rw [getR_prF s r]; rfl
theorem perm_get {m n : FM} (hm : (keysF m).Nodup) (h : n.Perm m) (s : ByteArray) : getF s n = getF s m := by
  have hn : (keysF n).Nodup := (h.map Prod.fst).nodup_iff.2 hm
  cases e : getF s m with
  | none =>
    rw [getF_none] at e ⊢
    exact fun x => e ((h.map Prod.fst).mem_iff.1 x)
  | some v => exact (getF_mem hn).2 (h.mem_iff.2 ((getF_mem hm).1 e))
theorem rel_get {m : FM} {L : List Fl} (h : RelF m L) (s : ByteArray) : getR s L = getF s m := by
  rw [getR_prF]; exact perm_get h.keys h.perm s
theorem rel_size {m : FM} {L : List Fl} (h : RelF m L) : sizeF m = dataN L := by
  unfold sizeF dataN
  rw [← (h.perm.map fun p => p.2.length).sum_nat, List.map_map]; rfl
theorem rel_del {m : FM} {L : List Fl} (h : RelF m L) (s : ByteArray) : RelF (delF s m) (withoutR s L) := by
  refine ⟨(delF_keys h.keys).1, List.Pairwise.filter _ h.rise, ?_⟩
  rw [delF_filter s h.keys]
  have : (withoutR s L).map prF = (L.map prF).filter fun p => decide (p.1 ≠ s) := by
    unfold withoutR
    rw [List.filter_map]; rfl
  rw [this]
  exact h.perm.filter _
theorem withR_perm (s : ByteArray) (v : List Int) (L : List Fl) : (withR s v L).Perm (⟨s, v⟩ :: withoutR s L) := by
  unfold withR
  refine List.perm_middle.trans ?_
  rw [List.takeWhile_append_dropWhile]
theorem drop_ge {s : ByteArray} : ∀ {L : List Fl}, Rising L → ∀ f ∈ L.dropWhile (fun f => ltS f.path s), ¬ ltS f.path s = true
  | [], _, f, hf => by cases hf
  | g :: r, h, f, hf => by
    obtain ⟨h1, h2⟩ := List.pairwise_cons.1 h
    by_cases e : ltS g.path s = true
    · rw [List.dropWhile_cons_of_pos (p := fun f : Fl => ltS f.path s) e] at hf
      exact drop_ge h2 f hf
    · rw [List.dropWhile_cons_of_neg (p := fun f : Fl => ltS f.path s) e] at hf
      rcases List.mem_cons.1 hf with rfl | hf
      · exact e
      · exact fun x => e (ltS_trans (h1 f hf) x)
theorem take_lt {s : ByteArray} : ∀ {L : List Fl}, ∀ f ∈ L.takeWhile (fun f => ltS f.path s), ltS f.path s = true
  | [], f, hf => by cases hf
  | g :: r, f, hf => by
    by_cases e : ltS g.path s = true
    · rw [List.takeWhile_cons_of_pos (p := fun f : Fl => ltS f.path s) e] at hf
      rcases List.mem_cons.1 hf with rfl | hf
      · exact e
      · exact take_lt f hf
    · rw [List.takeWhile_cons_of_neg (p := fun f : Fl => ltS f.path s) e] at hf
      cases hf
theorem withR_rise {s : ByteArray} {v : List Int} {L : List Fl} (h : Rising L) : Rising (withR s v L) := by
  have h1 : Rising (withoutR s L) := List.Pairwise.filter _ h
  have hne : ∀ f ∈ withoutR s L, f.path ≠ s := fun f hf => by simpa using (List.mem_filter.1 hf).2
  unfold withR
  unfold Rising at h1 ⊢
  rw [List.pairwise_append]
  have hsp := @List.takeWhile_append_dropWhile _ (fun f : Fl => ltS f.path s) (withoutR s L)
  have h2 := h1
  rw [← hsp, List.pairwise_append] at h2
  obtain ⟨a, b, c⟩ := h2
  have hgt : ∀ f ∈ (withoutR s L).dropWhile (fun f => ltS f.path s), ltS s f.path = true := fun f hf => by
    have g1 := drop_ge h1 f hf
    refine Classical.byContradiction fun g2 => hne f ?_ (ltS_tri g1 g2)
    rw [← hsp]; exact List.mem_append_right _ hf
  refine ⟨a, List.pairwise_cons.2 ⟨hgt, b⟩, fun x hx y hy => ?_⟩
  rcases List.mem_cons.1 hy with rfl | hy
  · exact take_lt x hx
  · exact c x hx y hy
theorem rel_set {m : FM} {L : List Fl} (h : RelF m L) (s : ByteArray) (v : List Int) : RelF (setF s v m) (withR s v L) := by
  refine ⟨setF_keys h.keys, withR_rise h.rise, ?_⟩
  refine ((withR_perm s v L).map prF).trans ?_
  refine List.Perm.trans ?_ (setF_perm s v h.keys).symm
  exact List.Perm.cons _ (rel_del h s).perm
theorem rising_uniq : ∀ {L M : List Fl}, Rising L → Rising M → L.Perm M → L = M
  | [], M, _, _, h => by rw [h.nil_eq]
  | f :: L, [], _, _, h => by have := h.length_eq; simp at this
  | f :: L, g :: M, hl, hm, h => by
    obtain ⟨a1, a2⟩ := List.pairwise_cons.1 hl
    obtain ⟨b1, b2⟩ := List.pairwise_cons.1 hm
    have e : f = g := by
      rcases List.mem_cons.1 (h.mem_iff.1 (List.mem_cons_self ..)) with e | e
      · exact e
      · rcases List.mem_cons.1 (h.mem_iff.2 (List.mem_cons_self (a := g) (l := M))) with e2 | e2
        · exact e2.symm
        · exact absurd (ltS_trans (b1 f e) (a1 g e2)) (ltS_irr _)
    subst e
    rw [rising_uniq a2 b2 (h.cons_inv)]
theorem prF_inj {f g : Fl} (h : prF f = prF g) : f = g := by
  cases f; cases g
  unfold prF at h
  injection h with h1 h2
  simp only at h1 h2
  rw [h1, h2]
theorem rel_uniq {m : FM} {L M : List Fl} (h : RelF m L) (g : RelF m M) : L = M := by
  refine rising_uniq h.rise g.rise ?_
  have hp := h.perm.trans g.perm.symm
  have := hp.map fun p : ByteArray × List Int => (⟨p.1, p.2⟩ : Fl)
  simpa [List.map_map, prF, Function.comp_def] using this

end Go.Proofs.Ytflclafbieokiaa.Dk
