/-
  Texts that are cut at a sign, and put together with it. No program in sight.
-/
import Derived.Test.YthckagkciefliaaGreatDoorFwD
import Derived.Lib.Join
import Derived.Lib.Bytealg
set_option linter.unusedVariables false
namespace Go.Proofs.YthckagkciefliaaGreatDoor.Spl
open Go AL

def pieces (c : UInt8) : List UInt8 → List (List UInt8)
  | [] => [[]]
  | x :: l => if x = c then [] :: pieces c l else match pieces c l with
    | p :: ps => (x :: p) :: ps
    | [] => [[x]]
def joinC (c : UInt8) : List (List UInt8) → List UInt8
  | [] => []
  | p :: r => p ++ r.flatMap fun q => c :: q
theorem pieces_ne (c : UInt8) : ∀ l, pieces c l ≠ []
  | [] => by simp [pieces]
  | x :: l => by
    unfold pieces
    split
    · simp
    · split <;> simp
theorem pieces_one {c : UInt8} : ∀ {a : List UInt8}, (∀ x ∈ a, x ≠ c) → pieces c a = [a]
  | [], _ => rfl
  | x :: a, h => by
    unfold pieces
    rw [if_neg (h x (by simp)), pieces_one fun y hy => h y (by simp [hy])]
theorem pieces_app {c : UInt8} (b : List UInt8) : ∀ {a : List UInt8}, (∀ x ∈ a, x ≠ c) → pieces c (a ++ c :: b) = a :: pieces c b
  | [], _ => by simp [pieces]
  | x :: a, h => by
    rw [List.cons_append]
    conv => lhs; unfold pieces
    rw [if_neg (h x (by simp)), pieces_app b fun y hy => h y (by simp [hy])]
theorem pieces_free {c : UInt8} : ∀ {l : List UInt8}, ∀ p ∈ pieces c l, ∀ x ∈ p, x ≠ c
  | [], p, h, x, hx => by simp [pieces] at h; subst h; cases hx
  | y :: l, p, h, x, hx => by
    unfold pieces at h
    split at h
    · rcases List.mem_cons.1 h with rfl | h
      · cases hx
      · exact pieces_free p h x hx
    · rename_i hy
      split at h
      · rename_i q qs e
        rcases List.mem_cons.1 h with rfl | h
        · rcases List.mem_cons.1 hx with rfl | hx
          · exact hy
          · exact pieces_free q (by rw [e]; simp) x hx
        · exact pieces_free p (by rw [e]; simp [h]) x hx
      · rename_i e; exact absurd e (pieces_ne c l)
theorem join_pieces (c : UInt8) : ∀ l, joinC c (pieces c l) = l
  | [] => rfl
  | x :: l => by
    have ih := join_pieces c l
    unfold pieces
    split
    · rename_i e
      subst e
      cases h : pieces x l with
      | nil => exact absurd h (pieces_ne x l)
      | cons p ps =>
        rw [h] at ih
        simp only [joinC, List.nil_append, List.flatMap_cons] at ih ⊢
        rw [List.cons_append, ih]
    · split
      · rename_i p ps e
        rw [e] at ih
        simp only [joinC, List.cons_append] at ih ⊢
        rw [ih]
      · rename_i e; exact absurd e (pieces_ne c l)
theorem join_cons (c : UInt8) (p q : List UInt8) (r : List (List UInt8)) : joinC c (p :: q :: r) = p ++ c :: joinC c (q :: r) := by
  simp [joinC]
theorem pieces_join {c : UInt8} : ∀ {ps : List (List UInt8)}, ps ≠ [] → (∀ p ∈ ps, ∀ x ∈ p, x ≠ c) → pieces c (joinC c ps) = ps
  | [], h, _ => absurd rfl h
  | [p], _, h => by
    have : joinC c [p] = p := by simp [joinC]
    rw [this, pieces_one (h p (by simp))]
  | p :: q :: r, _, h => by
    rw [join_cons, pieces_app _ (h p (by simp)), pieces_join (by simp) fun x hx => h x (by simp [hx])]
theorem join_snoc (c : UInt8) (p : List UInt8) : ∀ {ps : List (List UInt8)}, ps ≠ [] → joinC c (ps ++ [p]) = joinC c ps ++ c :: p
  | [], h => absurd rfl h
  | q :: r, _ => by simp [joinC]
theorem lib_join (c : UInt8) : ∀ ps, Lib.join ps [c] = joinC c ps
  | [] => rfl
  | p :: r => by
    rw [Lib.join_cons]
    show p ++ (List.map (fun x => [c] ++ x) r).flatten = p ++ List.flatMap (fun q => c :: q) r
    rw [List.flatMap_def]
    rfl
theorem pieces_len (c : UInt8) : ∀ l, (pieces c l).length = l.count c + 1
  | [] => rfl
  | x :: l => by
    have ih := pieces_len c l
    unfold pieces
    split
    · rename_i e; subst e; simp [ih]
    · rename_i hne
      split
      · rename_i p ps e
        rw [e] at ih
        rw [List.count_cons_of_ne hne]
        simpa using ih
      · rename_i e; exact absurd e (pieces_ne c l)
theorem join_inj {c : UInt8} {ps qs : List (List UInt8)} (hp : ps ≠ []) (hq : qs ≠ []) (fp : ∀ p ∈ ps, ∀ x ∈ p, x ≠ c) (fq : ∀ p ∈ qs, ∀ x ∈ p, x ≠ c) (h : joinC c ps = joinC c qs) : ps = qs := by
  rw [← pieces_join hp fp, h, pieces_join hq fq]
/-- The place of the first sign. -/
theorem pieces_cut {c : UInt8} {l : List UInt8} {k : Nat} (hk : k < l.length) (hc : l[k] = c) (hn : ∀ i (hi : i < k), l[i]'(by omega) ≠ c) : pieces c l = l.take k :: pieces c (l.drop (k + 1)) := by
  have e : l = l.take k ++ c :: l.drop (k + 1) := by
    conv => lhs; rw [← List.take_append_drop k l, List.drop_eq_getElem_cons hk, hc]
  conv => lhs; rw [e]
  rw [pieces_app]
  intro x hx
  obtain ⟨i, hi, rfl⟩ := List.getElem_of_mem hx
  have : i < k := by simp at hi; omega
  rw [List.getElem_take]
  exact hn i this

theorem rest_last {c : UInt8} {ps : List (List UInt8)} {k : Nat} (h : k + 1 = ps.length) : joinC c (ps.drop k) = ps.getD k [] := by
  have hk : k < ps.length := by omega
  rw [List.drop_eq_getElem_cons hk, List.drop_eq_nil_of_le (by omega), List.getD_eq_getElem?_getD, List.getElem?_eq_getElem hk]
  simp [joinC]
theorem rest_more {c : UInt8} {ps : List (List UInt8)} {k : Nat} (h : k + 1 < ps.length) : joinC c (ps.drop k) = ps.getD k [] ++ c :: joinC c (ps.drop (k + 1)) := by
  have hk : k < ps.length := by omega
  rw [List.drop_eq_getElem_cons hk, List.drop_eq_getElem_cons h, join_cons, List.getD_eq_getElem?_getD, List.getElem?_eq_getElem hk]
  rfl
/-- Where a piece begins. -/
def pre (ps : List (List UInt8)) : Nat → Nat
  | 0 => 0
  | k + 1 => pre ps k + (ps.getD k []).length + 1
theorem pre_drop (c : UInt8) (ps : List (List UInt8)) : ∀ k, k < ps.length → (joinC c ps).drop (pre ps k) = joinC c (ps.drop k)
  | 0, _ => rfl
  | k + 1, h => by
    have ih := pre_drop c ps k (by omega)
    rw [rest_more (by omega)] at ih
    show (joinC c ps).drop (pre ps k + (ps.getD k []).length + 1) = _
    rw [Nat.add_assoc, ← List.drop_drop, ih, List.drop_append, List.drop_eq_nil_of_le (by omega)]
    simp
theorem pre_end (c : UInt8) {ps : List (List UInt8)} {k : Nat} (h : k + 1 = ps.length) (hp : pre ps k ≤ (joinC c ps).length) : pre ps k + (ps.getD k []).length = (joinC c ps).length := by
  have h1 := pre_drop c ps k (by omega)
  rw [rest_last h] at h1
  have := congrArg List.length h1
  rw [List.length_drop] at this
  omega
theorem pre_le (c : UInt8) (ps : List (List UInt8)) : ∀ k, k < ps.length → pre ps k ≤ (joinC c ps).length
  | 0, _ => Nat.zero_le _
  | k + 1, h => by
    have h0 := pre_le c ps k (by omega)
    have h1 := pre_drop c ps k (by omega)
    rw [rest_more (by omega)] at h1
    have := congrArg List.length h1
    rw [List.length_drop, List.length_append, List.length_cons] at this
    show pre ps k + (ps.getD k []).length + 1 ≤ _
    omega
theorem pre_get {c : UInt8} {ps : List (List UInt8)} {k j : Nat} (hk : k < ps.length) (hj : j < (ps.getD k []).length) : (joinC c ps)[pre ps k + j]? = (ps.getD k [])[j]? := by
  have h1 := pre_drop c ps k hk
  have : ((joinC c ps).drop (pre ps k))[j]? = (ps.getD k [])[j]? := by
    rw [h1]
    rcases Nat.lt_or_ge (k + 1) ps.length with h | h
    · rw [rest_more h, List.getElem?_append_left hj]
    · rw [rest_last (by omega)]
  rwa [List.getElem?_drop] at this
theorem pre_sep {c : UInt8} {ps : List (List UInt8)} {k : Nat} (hk : k + 1 < ps.length) : (joinC c ps)[pre ps k + (ps.getD k []).length]? = some c := by
  have h1 := pre_drop c ps k (by omega)
  have : ((joinC c ps).drop (pre ps k))[(ps.getD k []).length]? = some c := by
    rw [h1, rest_more hk, List.getElem?_append_right (Nat.le_refl _)]
    simp
  rwa [List.getElem?_drop] at this
theorem pre_piece {c : UInt8} {ps : List (List UInt8)} {k : Nat} (hk : k < ps.length) : ((joinC c ps).take (pre ps k + (ps.getD k []).length)).drop (pre ps k) = ps.getD k [] := by
  have h1 := pre_drop c ps k hk
  rw [List.drop_take, h1, show pre ps k + (ps.getD k []).length - pre ps k = (ps.getD k []).length by omega]
  rcases Nat.lt_or_ge (k + 1) ps.length with h | h
  · rw [rest_more h, List.take_append_of_le_length (Nat.le_refl _), List.take_of_length_le (Nat.le_refl _)]
  · rw [rest_last (by omega), List.take_of_length_le (Nat.le_refl _)]
theorem piece_len {c : UInt8} {ps : List (List UInt8)} {k : Nat} (hk : k < ps.length) : (ps.getD k []).length ≤ (joinC c ps).length := by
  have := congrArg List.length (pre_piece (c := c) hk)
  rw [List.length_drop, List.length_take] at this
  omega
theorem rest_len (c : UInt8) (ps : List (List UInt8)) (k : Nat) (hk : k < ps.length) : (joinC c (ps.drop k)).length ≤ (joinC c ps).length := by
  have := congrArg List.length (pre_drop c ps k hk)
  rw [List.length_drop] at this
  omega
/-- The first sign of a text. -/
theorem index_app {c : UInt8} (b : List UInt8) : ∀ {a : List UInt8}, (∀ x ∈ a, x ≠ c) → Lib.indexByte (a ++ c :: b) c = (a.length : Int)
  | [], _ => by simp [Lib.indexByte]
  | x :: a, h => by
    have ih := index_app b (a := a) fun y hy => h y (by simp [hy])
    rw [List.cons_append]
    unfold Lib.indexByte
    have hx : (x == c) = false := by simpa using h x (by simp)
    have h2 : (Lib.indexByte (a ++ c :: b) c == -1) = false := by rw [ih]; simp
    rw [if_neg (by rw [hx]; decide), h2, ih]
    simp

end Go.Proofs.YthckagkciefliaaGreatDoor.Spl
