/-
  The law OctalBack, walked.
-/
import Derived.Test.YtlogcpcdkhmjoaaDoorOcName
import Derived.Test.YtlogcpcdkhmjoaaDoorOcTextR
import Derived.Test.YtlogcpcdkhmjoaaDoorOcAwake
set_option linter.unusedVariables false
set_option linter.unusedSectionVars false
namespace Go.Proofs.YtlogcpcdkhmjoaaDoor.Oc
open Go AL
section
variable [Globs]

theorem getD_append_l {xs ys : List Int} {i : Nat} (h : i < xs.length) : (xs ++ ys).getD i 0 = xs.getD i 0 := by
  rw [List.getD_eq_getElem?_getD, List.getElem?_append_left h, List.getD_eq_getElem?_getD]
theorem getD_append_r {xs ys : List Int} {i : Nat} (h : xs.length ≤ i) : (xs ++ ys).getD i 0 = ys.getD (i - xs.length) 0 := by
  rw [List.getD_eq_getElem?_getD, List.getElem?_append_right h, List.getD_eq_getElem?_getD]
theorem getD_zeros (m i : Nat) : (List.replicate m (0 : Int)).getD i 0 = 0 := by
  rw [List.getD_eq_getElem?_getD]
  cases h : (List.replicate m (0 : Int))[i]? with
  | none => rfl
  | some v =>
    have := List.mem_of_getElem? h
    simpa using (List.mem_replicate.1 this).2
theorem textE_ok {s : ByteArray} {w : Int} (h : textE s w = 0) : ¬ (w < 1 ∨ w > 255) ∧ ¬ has0 s ∧ ¬ (s.size : Int) > w := by
  unfold textE at h
  split at h
  · omega
  · split at h
    · omega
    · split at h
      · omega
      · exact ⟨by assumption, by assumption, by assumption⟩
theorem textR_ok {s : ByteArray} {w : Int} (h : textE s w = 0) : textR s w = intsOf s ++ List.replicate (w.toNat - s.size) 0 := by rw [textR, if_pos h]
theorem textR_range (s : ByteArray) (w : Int) : ∀ x ∈ textR s w, 0 ≤ x ∧ x < 256 := by
  intro x hx
  unfold textR at hx
  split at hx
  · rcases List.mem_append.1 hx with h | h
    · exact intsOf_range s x h
    · have := (List.mem_replicate.1 h).2; omega
  · simp at hx
/-- What was put as a text is got. -/
theorem text_name {s : ByteArray} {w : Int} (h : textE s w = 0) : nameE (textR s w) = 0 ∧ nameR (textR s w) = s ∧ ((textR s w).length : Int) = w := by
  obtain ⟨h1, h2, h3⟩ := textE_ok h
  have e := textR_ok h
  have hl := intsOf_length s
  have hlen : (textR s w).length = w.toNat := by rw [e]; simp; omega
  have hn : ∀ i, i < s.size → (textR s w).getD i 0 ≠ 0 := fun i hi h0 => h2 ((has0_iff s).2 ⟨i, hi, by rw [e, getD_append_l (by omega)] at h0; exact h0⟩)
  have hz : ∀ j, s.size ≤ j → j < (textR s w).length → (textR s w).getD j 0 = 0 := fun j hj _ => by rw [e, getD_append_r (by omega), getD_zeros]
  obtain ⟨g1, g2⟩ := name_ok (by omega) hn hz
  refine ⟨g2, ?_, by omega⟩
  rw [nameR, if_pos g2, g1, e, List.take_left' hl, bytesOf_intsOf]
theorem trimN_rest {xs : List Int} : ∀ k j, trimN xs k ≤ j → j < k → xs.getD j 0 = 0
  | 0, j, _, h => absurd h (Nat.not_lt_zero _)
  | k + 1, j, h1, h2 => by
    unfold trimN at h1
    split at h1
    · rename_i h0
      rcases Nat.lt_or_ge j k with h3 | h3
      · exact trimN_rest k j h1 h3
      · rw [show j = k by omega]; exact h0
    · omega
/-- What was got as a text is put as it stood. -/
theorem name_text {xs : List Int} (hx : ∀ x ∈ xs, 0 ≤ x ∧ x < 256) (h : nameE xs = 0) (h1 : 1 ≤ xs.length) (h2 : xs.length ≤ 255) : textE (nameR xs) xs.length = 0 ∧ textR (nameR xs) xs.length = xs := by
  have hN : nameN xs ≤ xs.length := trimN_le _ _
  have hr : nameR xs = bytesOf (xs.take (nameN xs)) := by rw [nameR, if_pos h]
  have hi : intsOf (nameR xs) = xs.take (nameN xs) := by rw [hr, intsOf_bytesOf (fun x hm => hx x (List.mem_of_mem_take hm))]
  have hsz : (nameR xs).size = nameN xs := by rw [← intsOf_length, hi]; simp; omega
  have hno : ¬ (0 : Int) ∈ xs.take (nameN xs) := fun hm => by rw [nameE, if_pos hm] at h; omega
  have h0 : ¬ has0 (nameR xs) := fun h0 => by
    obtain ⟨i, g1, g2⟩ := (has0_iff _).1 h0
    rw [hi] at g2
    refine hno ((mem_take_iff hN).2 ⟨i, by omega, ?_⟩)
    rw [List.getD_eq_getElem?_getD, List.getElem?_take, if_pos (by omega), ← List.getD_eq_getElem?_getD] at g2
    exact g2
  have hE : textE (nameR xs) xs.length = 0 := by
    unfold textE
    rw [if_neg (by omega), if_neg h0, if_neg (by omega)]
  refine ⟨hE, ?_⟩
  rw [textR_ok hE, hi, hsz, Int.toNat_natCast]
  apply List.ext_getElem?
  intro i
  rcases Nat.lt_or_ge i (nameN xs) with g | g
  · rw [List.getElem?_append_left (by simp; omega), List.getElem?_take, if_pos g]
  · rw [List.getElem?_append_right (by simp; omega)]
    rcases Nat.lt_or_ge i xs.length with g2 | g2
    · have g3 := trimN_rest xs.length i g g2
      rw [List.getD_eq_getElem?_getD, List.getElem?_eq_getElem g2] at g3
      rw [List.getElem?_eq_getElem g2, List.getElem?_replicate, if_pos (by simp; omega)]
      simpa using g3.symm
    · rw [List.getElem?_eq_none g2, List.getElem?_eq_none (by simp; omega)]

set_option maxHeartbeats 4000000 in
set_option maxRecDepth 10000 in
theorem back_prog (n : Int) (s : ByteArray) (xs : List Int) (hn : -9223372036854775808 ≤ n ∧ n < 9223372036854775808) (hs : s.size ≤ 281474976710656) (hx : ∀ x ∈ xs, 0 ≤ x ∧ x < 256) (hl : xs.length ≤ 281474976710656) :
    ACalls Tryd.prog 4 [int .i64 n, str s, .roI .u8 xs] [] (fun r h => r = .tt ∧ h = []) := by
  have p1 := put_prog n 12
  have p2 : putE n 12 = 0 → getV (putR n 12) = n ∧ getE (putR n 12) = 0 ∧ ((putR n 12).length : Int) = 12 := fun h => by
    obtain ⟨g1, g2, g3⟩ := put_field h
    exact ⟨by rw [(get_ok g2).1, g3], (get_ok g2).2, g1⟩
  have p3 : (putE n 12 = 0) ↔ (0 ≤ n ∧ n < 8589934592) := by
    have hf : fits n 12 ↔ (0 ≤ n ∧ n < 8589934592) := by
      unfold fits
      have : (8 : Int) ^ ((12 : Int) - 1).toNat = 8589934592 := by decide
      rw [this]
    rw [← hf]
    unfold putE
    rw [if_neg (by omega)]
    by_cases h : fits n 12 <;> simp [h]
  have p4 : (putR n 12).length ≤ 12 := by
    unfold putR
    split
    · simp
    · split
      · simp [digs_length]
      · simp
  have p5 := get_prog (putR n 12) (putR_range n 12) (by omega)
  have q1 := text_prog s 100 (by omega)
  have q2 : textE s 100 = 0 → nameE (textR s 100) = 0 ∧ nameR (textR s 100) = s ∧ ((textR s 100).length : Int) = 100 := fun h => text_name h
  have q4 : (textR s 100).length ≤ 100 := by
    by_cases h : textE s 100 = 0
    · have := (q2 h).2.2; omega
    · rw [textR, if_neg h]; simp
  have q5 := name_prog (textR s 100) (textR_range s 100) (by omega)
  have r1 := get_prog xs hx (by omega)
  have r2 := put_prog (getV xs) xs.length
  have r3 : getE xs = 0 → putE (getV xs) xs.length = 0 ∧ putR (getV xs) xs.length = xs := fun h => by
    by_cases hv : valid xs
    · rw [(get_ok hv).1]; exact put_back hv
    · rw [(get_no hv).2] at h; omega
  have t1 := name_prog xs hx hl
  have t0 : (nameR xs).size ≤ 281474976710656 := by
    have hN : nameN xs ≤ xs.length := trimN_le _ _
    unfold nameR
    split
    · have : (bytesOf (xs.take (nameN xs))).size = (xs.take (nameN xs)).length := by unfold bytesOf; show (List.map _ _).toArray.size = _; simp
      rw [this]; simp; omega
    · exact Nat.zero_le _
  have t2 := text_prog (nameR xs) xs.length (by omega)
  have t3 : nameE xs = 0 → 1 ≤ xs.length → xs.length ≤ 255 → textE (nameR xs) xs.length = 0 ∧ textR (nameR xs) xs.length = xs := fun h h1 h2 => name_text hx h h1 h2
  unfold PutR at p1 r2
  unfold GetR at p5 r1
  unfold TextR at q1 t2
  unfold NameR at q5 t1
  generalize getV (putR n 12) = V1 at *
  generalize getE (putR n 12) = F1 at *
  generalize putR n 12 = R1 at *
  generalize putE n 12 = E1 at *
  generalize nameE (textR s 100) = F2 at *
  generalize nameR (textR s 100) = V2 at *
  generalize textR s 100 = R2 at *
  generalize textE s 100 = E2 at *
  generalize putE (getV xs) xs.length = E3 at *
  generalize putR (getV xs) xs.length = R3 at *
  generalize getV xs = V3 at *
  generalize getE xs = F3 at *
  generalize textE (nameR xs) xs.length = E4 at *
  generalize textR (nameR xs) xs.length = R4 at *
  generalize nameR xs = V4 at *
  generalize nameE xs = F4 at *
  refine rcalls Tryd.func4 rfl (by decide) ?_
  refine ⟨[], _, awake_prog, ?_⟩
  rintro r h ⟨rfl, rfl⟩
  refine ⟨.inl rfl, ?_⟩
  refine ⟨[], _, p1, ?_⟩
  rintro r h ⟨rfl, rfl⟩
  refine ⟨.inl rfl, ?_⟩
  have fin1 : ∀ (b : Bool), b = decide (E1 = 0) → b = true → E1 = 0 := fun b hb h => by rw [hb] at h; exact yes h
  have f1 : 0 ≤ n → (decide (E1 = 0) == decide (n < 8589934592)) = true := fun h => by
    by_cases h1 : E1 = 0
    · have := p3.1 h1; simp [h1, this.2]
    · have : ¬ n < 8589934592 := fun h2 => h1 (p3.2 ⟨h, h2⟩)
      simp [h1, this]
  have f2 : ¬ 0 ≤ n → (decide (E1 = 0) == false) = true := fun h => by
    have : ¬ E1 = 0 := fun h1 => h (p3.1 h1).1
    simp [this]
  refine ⟨fun a1 => ?_, fun a1 => ?_⟩
  all_goals try (
    have a2 : E1 = 0 := yes a1
    obtain ⟨g1, g2, g3⟩ := p2 a2
    refine ⟨[], _, p5, ?_⟩
    rintro r h ⟨rfl, rfl⟩
    refine ⟨.inl rfl, ?_⟩
    refine ⟨fun e => absurd g2 (of_decide_eq_true e), fun _ => ?_⟩
    refine ⟨fun e => absurd g1 (of_decide_eq_true e), fun _ => ?_⟩
    refine ⟨fun e => absurd g3 (of_decide_eq_true e), fun _ => ?_⟩)
  all_goals
    refine ⟨[], _, q1, ?_⟩
    rintro r h ⟨rfl, rfl⟩
    refine ⟨.inl rfl, ?_⟩
    refine ⟨fun b1 => ?_, fun b1 => ?_⟩
  all_goals try (
    have b2 : E2 = 0 := yes b1
    obtain ⟨h1, h2, h3⟩ := q2 b2
    refine ⟨[], _, q5, ?_⟩
    rintro r h ⟨rfl, rfl⟩
    refine ⟨.inl rfl, ?_⟩
    refine ⟨fun e => absurd h1 (of_decide_eq_true e), fun _ => ?_⟩
    refine ⟨fun e => absurd h2 (of_decide_eq_true e), fun _ => ?_⟩
    refine ⟨fun e => absurd h3 (of_decide_eq_true e), fun _ => ?_⟩)
  all_goals
    refine ⟨[], _, r1, ?_⟩
    rintro r h ⟨rfl, rfl⟩
    refine ⟨.inl rfl, ?_⟩
    refine ⟨[], _, r2, ?_⟩
    rintro r h ⟨rfl, rfl⟩
    refine ⟨.inl rfl, ?_⟩
    refine ⟨fun c1 => ?_, fun c1 => ?_⟩
  all_goals try (
    obtain ⟨i1, i2⟩ := r3 (yes c1)
    refine ⟨fun e => absurd i1 (of_decide_eq_true e), fun _ => ?_⟩
    refine ⟨fun e => absurd (congrArg bytesOf i2) (of_decide_eq_true e), fun _ => ?_⟩)
  all_goals
    refine ⟨[], _, t1, ?_⟩
    rintro r h ⟨rfl, rfl⟩
    refine ⟨.inl rfl, ?_⟩
    refine ⟨[], _, t2, ?_⟩
    rintro r h ⟨rfl, rfl⟩
    refine ⟨.inl rfl, ?_⟩
    refine ⟨fun d1 => ⟨fun d2 => ⟨fun d3 => ?_, fun d3 => ?_⟩, fun d2 => ?_⟩, fun d1 => ?_⟩
  all_goals try (
    obtain ⟨j1, j2⟩ := t3 (yes d1) (by have := yes d2; omega) (by have := yes d3; omega)
    refine ⟨fun e => absurd j1 (of_decide_eq_true e), fun _ => ?_⟩
    refine ⟨fun e => absurd (congrArg bytesOf j2) (of_decide_eq_true e), fun _ => ?_⟩)
  all_goals
    refine ⟨fun e => ?_, fun e => ?_⟩
    · exact ⟨[], [], .tt, lehN _, leTT (f1 (yes e)), rfl, rfl⟩
    · exact ⟨[], [], .tt, lehN _, leTT (f2 (no e)), rfl, rfl⟩
end

end Go.Proofs.YtlogcpcdkhmjoaaDoor.Oc
