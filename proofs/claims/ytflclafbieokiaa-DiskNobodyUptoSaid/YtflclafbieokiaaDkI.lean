/-
  What a range over a map has seen. No program in sight.
-/
import Derived.Test.YtflclafbieokiaaDkS
set_option linter.unusedVariables false
set_option linter.unusedSectionVars false
namespace Go.Proofs.Ytflclafbieokiaa.Dk
open Go AL Us

/-- How many bytes those have that were seen. -/
def sumS : FM → List Nat → List Nat → Nat
  | p :: m, b :: bs, seen => (if b ∈ seen then p.2.length else 0) + sumS m bs seen
  | _, _, _ => 0
theorem sumS_nil : ∀ (m : FM) (bs : List Nat), sumS m bs [] = 0
  | [], _ => by cases ‹List Nat› <;> rfl
  | _ :: _, [] => rfl
  | p :: m, b :: bs => by
    unfold sumS
    rw [if_neg (by simp), sumS_nil m bs]
theorem sumS_all {seen : List Nat} : ∀ {m : FM} {bs : List Nat}, bs.length = m.length → (∀ i, i < m.length → bs.getD i 0 ∈ seen) → sumS m bs seen = sizeF m
  | [], [], _, _ => rfl
  | [], _ :: _, h, _ => by simp at h
  | _ :: _, [], h, _ => by simp at h
  | p :: m, b :: bs, h, g => by
    have h0 : b ∈ seen := g 0 (by simp)
    unfold sumS
    rw [if_pos h0, sumS_all (by simpa using h) fun i hi => g (i + 1) (by simpa using hi), size_cons]
theorem sumS_more {seen : List Nat} {x : Nat} : ∀ {m : FM} {bs : List Nat}, x ∉ bs → sumS m bs (seen ++ [x]) = sumS m bs seen
  | [], bs, _ => by cases bs <;> rfl
  | _ :: _, [], _ => rfl
  | p :: m, b :: bs, h => by
    have h1 : b ≠ x := fun e => h (by rw [e]; exact List.mem_cons_self ..)
    have h2 : x ∉ bs := fun e => h (List.mem_cons_of_mem _ e)
    have e : (b ∈ seen ++ [x]) ↔ b ∈ seen := by simp [h1]
    unfold sumS
    rw [sumS_more h2]
    simp only [e]
theorem sumS_step {seen : List Nat} : ∀ {m : FM} {bs : List Nat} {i : Nat}, bs.Nodup → bs.length = m.length → i < m.length → bs.getD i 0 ∉ seen → sumS m bs (seen ++ [bs.getD i 0]) = sumS m bs seen + (m.getD i (ByteArray.empty, [])).2.length
  | [], _, _, _, _, hi, _ => by simp at hi
  | _ :: _, [], _, _, h, _, _ => by simp at h
  | p :: m, b :: bs, 0, hd, hl, hi, hs => by
    obtain ⟨h1, h2⟩ := List.nodup_cons.1 hd
    have hs : b ∉ seen := hs
    show sumS (p :: m) (b :: bs) (seen ++ [b]) = _
    unfold sumS
    rw [if_pos (by simp), if_neg hs, sumS_more h1]
    show p.2.length + _ = 0 + _ + p.2.length
    omega
  | p :: m, b :: bs, i + 1, hd, hl, hi, hs => by
    obtain ⟨h1, h2⟩ := List.nodup_cons.1 hd
    have hl : bs.length = m.length := by simpa using hl
    have hi : i < m.length := by simpa using hi
    have hs : bs.getD i 0 ∉ seen := hs
    have ih := sumS_step (m := m) (bs := bs) (i := i) h2 hl hi hs
    have hne : b ≠ bs.getD i 0 := fun e => h1 (by
      rw [e, List.getD_eq_getElem?_getD, List.getElem?_eq_getElem (by omega)]; exact List.getElem_mem (by omega))
    have e : (b ∈ seen ++ [bs.getD i 0]) ↔ b ∈ seen := by
      rw [List.mem_append, List.mem_singleton]; exact ⟨fun h => h.resolve_right hne, .inl⟩
    show sumS (p :: m) (b :: bs) (seen ++ [bs.getD i 0]) = _
    unfold sumS
    rw [ih]
    simp only [e]
    show _ + (_ + _) = _ + _ + (m.getD i (ByteArray.empty, [])).2.length
    omega
theorem sumS_le {seen : List Nat} : ∀ (m : FM) (bs : List Nat), sumS m bs seen ≤ sizeF m
  | [], bs => by cases bs <;> exact Nat.zero_le _
  | _ :: _, [] => Nat.zero_le _
  | p :: m, b :: bs => by
    have ih := sumS_le (seen := seen) m bs
    unfold sumS
    rw [size_cons]
    split <;> omega
/-- How many are left. -/
def leftS (bs seen : List Nat) : Nat := (bs.filter fun b => decide (b ∉ seen)).length
theorem leftS_step {bs seen : List Nat} {x : Nat} (hx : x ∈ bs) (hs : x ∉ seen) : leftS bs (seen ++ [x]) < leftS bs seen := by
  unfold leftS
  have e : (bs.filter fun b => decide (b ∉ seen ++ [x])) = (bs.filter fun b => decide (b ∉ seen)).filter fun b => decide (b ≠ x) := by
    rw [List.filter_filter]
    refine List.filter_congr fun b _ => ?_
    by_cases h1 : b ∈ seen <;> by_cases h2 : b = x <;> simp [h1, h2]
  rw [e]
  refine List.length_filter_lt_length_iff_exists.2 ⟨x, List.mem_filter.2 ⟨hx, by simpa using hs⟩, by simp⟩

end Go.Proofs.Ytflclafbieokiaa.Dk
