/-
  Matrices whose rows are raised by many, in plain Lean. No program in sight.
-/
import Derived.Test.YthckagkciefliaaGreatDoorMtLaws2
set_option linter.unusedVariables false
namespace Go.Proofs.YthckagkciefliaaGreatDoor.Mt
open Go AL Hx Dt Spl Vc

abbrev Rs := Int × Vc1
/-- What a row knows that was raised by some of these. -/
def accF (K : Nat) : List Rs → Nat → Nat → Int
  | [], _, _ => 0
  | p :: l, r, q => if p.1 % (K : Int) = (r : Int) then max (cntF p.2 q) (accF K l r q) else accF K l r q
theorem acc_nonneg (K : Nat) : ∀ (l : List Rs) (r q : Nat), 0 ≤ accF K l r q
  | [], _, _ => Int.le_refl _
  | p :: l, r, q => by
    have := acc_nonneg K l r q
    unfold accF
    split <;> omega
theorem acc_le {K : Nat} : ∀ {l : List Rs} {r q : Nat} {x : Int}, accF K l r q ≤ x ↔ 0 ≤ x ∧ ∀ p ∈ l, p.1 % (K : Int) = (r : Int) → cntF p.2 q ≤ x
  | [], r, q, x => by
    show 0 ≤ x ↔ _
    simp
  | p :: l, r, q, x => by
    have ih := acc_le (K := K) (l := l) (r := r) (q := q) (x := x)
    unfold accF
    split
    · rename_i h
      rw [Int.max_le, ih]
      constructor
      · rintro ⟨h1, h2, h3⟩
        refine ⟨h2, fun z hz hr => ?_⟩
        rcases List.mem_cons.1 hz with rfl | hz
        · exact h1
        · exact h3 z hz hr
      · rintro ⟨h1, h2⟩
        exact ⟨h2 p (by simp) h, h1, fun z hz => h2 z (by simp [hz])⟩
    · rename_i h
      rw [ih]
      constructor
      · rintro ⟨h2, h3⟩
        refine ⟨h2, fun z hz hr => ?_⟩
        rcases List.mem_cons.1 hz with rfl | hz
        · exact absurd hr h
        · exact h3 z hz hr
      · rintro ⟨h1, h2⟩
        exact ⟨h1, fun z hz => h2 z (by simp [hz])⟩
theorem acc_sub {K : Nat} {l m : List Rs} (h : ∀ p ∈ l, p ∈ m) (r q : Nat) : accF K l r q ≤ accF K m r q :=
  acc_le.2 ⟨acc_nonneg K m r q, fun p hp hr => (acc_le.1 (Int.le_refl _)).2 p (h p hp) hr⟩
theorem acc_same {K : Nat} {l m : List Rs} (h : ∀ p, p ∈ l ↔ p ∈ m) (r q : Nat) : accF K l r q = accF K m r q :=
  Int.le_antisymm (acc_sub (fun p hp => (h p).1 hp) r q) (acc_sub (fun p hp => (h p).2 hp) r q)
theorem acc_cons (K : Nat) (a : Rs) (l : List Rs) (r q : Nat) : accF K (a :: l) r q = if a.1 % (K : Int) = (r : Int) then max (cntF a.2 q) (accF K l r q) else accF K l r q := rfl
theorem acc_snoc (K : Nat) (p : Rs) (r q : Nat) : ∀ l : List Rs, accF K (l ++ [p]) r q = if p.1 % (K : Int) = (r : Int) then max (accF K l r q) (cntF p.2 q) else accF K l r q
  | [] => by
    have h0 := cnt_ok p.2 q
    have e0 : accF K [] r q = 0 := rfl
    rw [List.nil_append, acc_cons, e0]
    by_cases h1 : p.1 % (K : Int) = (r : Int) <;> simp only [h1, if_true, if_false] <;> omega
  | a :: l => by
    have ih := acc_snoc K p r q l
    rw [List.cons_append, acc_cons, acc_cons, ih]
    by_cases h1 : a.1 % (K : Int) = (r : Int) <;> by_cases h2 : p.1 % (K : Int) = (r : Int) <;> simp only [h1, h2, if_true, if_false] <;> omega
theorem acc_app (K : Nat) (m : List Rs) (r q : Nat) : ∀ l : List Rs, accF K (l ++ m) r q = max (accF K l r q) (accF K m r q)
  | [] => by
    have := acc_nonneg K m r q
    show accF K m r q = max 0 _
    omega
  | a :: l => by
    have ih := acc_app K m r q l
    rw [List.cons_append, acc_cons, acc_cons, ih]
    by_cases h1 : a.1 % (K : Int) = (r : Int) <;> simp only [h1, if_true, if_false] <;> omega

/-- A matrix of K rows that were raised by these. -/
def isM (K : Nat) (M : List Vc1) (l : List Rs) : Prop := M.length = K ∧ ∀ i, i < K → mayV (rowM M i) ∧ ∀ q, cntF (rowM M i) q = accF K l i q
theorem isM_new {K : Nat} (h : 1 ≤ K ∧ K ≤ 32) : isM K (newL K) [] := by
  have hl : newL (K : Int) = List.replicate K [] := by unfold newL; rw [if_neg (by omega)]; simp
  refine ⟨by rw [hl]; simp, fun i hi => ?_⟩
  have e := @newL_row ⟨[]⟩ (K : Int) i
  rw [e]
  exact ⟨by unfold mayV; rw [cnt_nil]; decide +kernel, fun q => rfl⟩
theorem isM_raise {K : Nat} {M : List Vc1} {l : List Rs} (hK : 1 ≤ K) (h : isM K M l) (p : Rs) (hp : 0 ≤ p.1) : isM K (raiseM M (p.1 % (K : Int)) p.2) (l ++ [p]) := by
  obtain ⟨h1, h2⟩ := h
  have g1 := Int.emod_nonneg p.1 (show (K : Int) ≠ 0 by omega)
  have g2 := Int.emod_lt_of_pos p.1 (show (0 : Int) < K by omega)
  refine ⟨by rw [raise_len]; exact h1, fun i hi => ?_⟩
  rw [raise_row]
  by_cases hc : i = (p.1 % (K : Int)).toNat
  · rw [if_pos ⟨g1, by omega, hc⟩]
    refine ⟨joinV_may _ _, fun q => ?_⟩
    rw [joinV_cnt, acc_snoc, if_pos (by omega)]
    simp only [maxF]
    rw [(h2 i hi).2 q]
  · rw [if_neg fun c => hc c.2.2]
    refine ⟨(h2 i hi).1, fun q => ?_⟩
    rw [acc_snoc, if_neg (by omega)]
    exact (h2 i hi).2 q
theorem isM_eq {K : Nat} {M N : List Vc1} {l m : List Rs} (hM : isM K M l) (hN : isM K N m) (h : ∀ i q, accF K l i q = accF K m i q) : M = N := by
  refine row_ext (by rw [hM.1, hN.1]) fun i hi => ?_
  rw [hM.1] at hi
  exact mayV_eq (hM.2 i hi).1 (hN.2 i hi).1 (funext fun q => by rw [(hM.2 i hi).2 q, (hN.2 i hi).2 q, h i q])
theorem isM_join {K : Nat} {M N : List Vc1} {l m : List Rs} (hM : isM K M l) (hN : isM K N m) : isM K (joinM M N) (l ++ m) := by
  refine ⟨by rw [joinM_len, hM.1, hN.1]; omega, fun i hi => ?_⟩
  rw [joinM_row (by rw [hM.1]; exact hi) (by rw [hN.1]; exact hi)]
  refine ⟨joinV_may _ _, fun q => ?_⟩
  rw [joinV_cnt, acc_app]
  simp only [maxF]
  rw [(hM.2 i hi).2 q, (hN.2 i hi).2 q]
theorem isM_may {K : Nat} {M : List Vc1} {l : List Rs} (hK : 1 ≤ K ∧ K ≤ 32) (h : isM K M l) : mayM M K :=
  ⟨by omega, by omega, by rw [h.1], fun i hi => (h.2 i (by rw [← h.1]; exact hi)).1⟩
theorem isM_sz {K : Nat} {M : List Vc1} {l : List Rs} (hK : K ≤ 32) (h : isM K M l) : szM M := by
  refine ⟨by rw [h.1]; omega, fun i hi => ?_⟩
  rw [h.1] at hi
  rw [(h.2 i hi).1]
  have := ofK_len (cntF (rowM M i)) 32
  show (ofK _ 32).length ≤ _
  omega

end Go.Proofs.YthckagkciefliaaGreatDoor.Mt
