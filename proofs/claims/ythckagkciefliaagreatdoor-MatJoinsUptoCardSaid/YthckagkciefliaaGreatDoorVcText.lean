/-
  The contracts of a vector's text: the program's and the document's.
-/
import Derived.Test.YthckagkciefliaaGreatDoorVcJoin
import Derived.Test.YthckagkciefliaaGreatDoorVcT
import Derived.Test.YthckagkciefliaaGreatDoorDtNext
import Derived.Test.YthckagkciefliaaGreatDoorShelfN
set_option linter.unusedVariables false
set_option linter.unusedSectionVars false
namespace Go.Proofs.YthckagkciefliaaGreatDoor.Vc
open Go AL Hx Dt Spl

def strAt (ps : List ByteArray) (i : Nat) : ByteArray := ps.getD i ByteArray.empty
section
variable [Globs]
abbrev strsV (ps : List ByteArray) : AV := .ro ps.length 1 fun i => str (strAt ps i)

/-- A contract of the kit's that makes new blocks at most, over a row that is read, and a text. -/
theorem strsJoin_prog (ps : List ByteArray) (sep : ByteArray) (hne : 0 < ps.length) (hN : ps.length ≤ 140737488355328) (hlen : (Lib.join (ps.map (·.data.toList)) sep.data.toList).length ≤ 140737488355328) :
    ACalls Tryz.prog 49 [strsV ps, str sep] [] (fun r h => r = str ⟨(Lib.join (ps.map (·.data.toList)) sep.data.toList).toArray⟩ ∧ h = []) := by
  refine ⟨⟨_, Tryz.func49, by decide, rfl⟩, fun S0 L w vs hh hS hn hv => ?_⟩
  obtain ⟨v0, e0, A, cap, rfl, hcap, hd⟩ := hv 0 _ rfl
  obtain ⟨v1, e1, h1⟩ := hv 1 _ rfl
  obtain rfl : v1 = .string sep := h1
  have cells : ∀ i, i < ps.length → ∃ b o, A = some ⟨b, o, none⟩ ∧ S0 b ∧ w.cell? ⟨b, o + i, none⟩ = some (.string (strAt ps i)) := fun i hi => by
    obtain ⟨u, ⟨b, o, g1, g2, g3⟩, g4⟩ := hd i (by omega)
    obtain rfl : u = .string (strAt ps i) := g4
    exact ⟨b, o, g1, g2, g3⟩
  obtain ⟨b, o, rfl, hb, _⟩ := cells 0 hne
  have hvs : vs = #[.slice (some ⟨b, o, none⟩) ps.length cap, .string sep] := by
    apply Array.ext_getElem?
    intro i
    match i with
    | 0 => exact e0
    | 1 => exact e1
    | i + 2 =>
      have : vs.size = 2 := hn
      rw [Array.getElem?_eq_none (by omega), Array.getElem?_eq_none (by simp)]
  rw [hvs]
  refine (Tryz.strings_Join b o cap ps sep w (fun j x hj => ?_) (hS b hb).1 hN hcap hlen).mono fun e w' he => ?_
  · have hjl := (List.getElem?_eq_some_iff.1 hj).1
    obtain ⟨b2, o2, q1, _, q3⟩ := cells j hjl
    cases q1
    rw [q3]
    unfold strAt
    rw [List.getD_eq_getElem?_getD, hj]
    rfl
  · obtain ⟨rfl, hb'⟩ := he
    exact ⟨_, _, [], L, rfl, ⟨rfl, rfl⟩, ⟨⟨hb'.os, hb'.tape, hb'.output, hb'.size, fun k hk _ => hb'.block k hk, hh.fr.glob⟩, hh.n, Nat.le_refl _, fun i hi => absurd hi (Nat.not_lt_zero _),
      fun i j b hi => by obtain ⟨o, ho, _⟩ := hi; simp at ho, fun i b hi => by obtain ⟨o, ho, _⟩ := hi; simp at ho, fun i o ho => by simp at ho⟩, rfl⟩

end

def txts (l : List (Int × Int)) : List ByteArray := l.map fun p => textD p.1 p.2
theorem txts_dots (l : List (Int × Int)) : (txts l).map (·.data.toList) = dots l := by
  unfold txts dots; rw [List.map_map]; rfl
theorem txts_at {l : List (Int × Int)} {k : Nat} (h : k < l.length) : strAt (txts l) k = textD (cellD l ((k : Int).toNat * 2 + 0)) (cellD l ((k : Int).toNat * 2 + 1)) := by
  rw [show ((k : Int)).toNat = k by omega, cell_fst, cell_snd]
  unfold strAt txts
  rw [List.getD_eq_getElem?_getD, List.getElem?_map, List.getElem?_eq_getElem h, List.getD_eq_getElem?_getD, List.getElem?_eq_getElem h]
  rfl
theorem may_at {l : List (Int × Int)} (hm : ∀ p ∈ l, mayD p.1 p.2) {k : Nat} (h : k < l.length) : mayD (cellD l ((k : Int).toNat * 2 + 0)) (cellD l ((k : Int).toNat * 2 + 1)) := by
  rw [show ((k : Int)).toNat = k by omega, cell_fst, cell_snd, List.getD_eq_getElem?_getD, List.getElem?_eq_getElem h]
  exact hm _ (List.getElem_mem _)
theorem may_r64 {a b : Int} (h : mayD a b) : (-9223372036854775808 ≤ a ∧ a < 9223372036854775808) ∧ -9223372036854775808 ≤ b ∧ b < 9223372036854775808 := by
  unfold mayD at h; omega
/-- The text so far. -/
def accT (l : List (Int × Int)) (k : Nat) : ByteArray := ba (joinC 44 ((dots l).take k))
theorem dots_len (l : List (Int × Int)) : (dots l).length = l.length := by simp [dots]
theorem acc_zero (l : List (Int × Int)) : accT l 0 = ByteArray.empty := rfl
theorem dots_get {l : List (Int × Int)} {k : Nat} (h : k < l.length) : (dots l).take (k + 1) = (dots l).take k ++ [(textD (cellD l ((k : Int).toNat * 2 + 0)) (cellD l ((k : Int).toNat * 2 + 1))).data.toList] := by
  rw [List.take_succ_eq_append_getElem (by rw [dots_len]; exact h)]
  congr 2
  rw [show ((k : Int)).toNat = k by omega, cell_fst, cell_snd]
  simp [dots, List.getD_eq_getElem?_getD, h]
theorem ba_app (a b : List UInt8) : ba a ++ ba b = ba (a ++ b) := by
  refine ba_ext' ?_
  simp [ba, ByteArray.data_append]
theorem acc_one {l : List (Int × Int)} (h : 0 < l.length) : accT l (0 + 1) = textD (cellD l (((0 : Nat) : Int).toNat * 2 + 0)) (cellD l (((0 : Nat) : Int).toNat * 2 + 1)) := by
  unfold accT
  rw [dots_get h]
  simp [joinC, ba_data]
theorem acc_succ {l : List (Int × Int)} {k : Nat} (hk : 0 < k) (h : k < l.length) : accT l (k + 1) = accT l k ++ ⟨#[44]⟩ ++ textD (cellD l ((k : Int).toNat * 2 + 0)) (cellD l ((k : Int).toNat * 2 + 1)) := by
  unfold accT
  rw [dots_get h, join_snoc _ _ (by
    intro e
    have := congrArg List.length e
    rw [List.length_take, dots_len, List.length_nil] at this
    omega)]
  generalize textD _ _ = T
  rw [← ba_data T, ba_list]
  show _ = ba _ ++ ba [44] ++ _
  rw [ba_app, ba_app]
  simp
theorem acc_all (l : List (Int × Int)) (h : l ≠ []) : accT l l.length = textV l := by
  unfold accT
  rw [textV_ne h, List.take_of_length_le (by rw [dots_len]; exact Nat.le_refl _)]
theorem acc_size {l : List (Int × Int)} (hm : ∀ p ∈ l, mayD p.1 p.2) : ∀ k, k ≤ l.length → (accT l k).size ≤ 44 * k
  | 0, _ => by rw [acc_zero]; exact Nat.le_refl _
  | k + 1, hk => by
    have ih := acc_size hm k (by omega)
    obtain ⟨r1, r2⟩ := may_r64 (may_at hm (k := k) (by omega))
    have ht := text_size_le r1 r2
    rcases Nat.eq_zero_or_pos k with h0 | h0
    · subst h0
      rw [acc_one (by omega)]
      omega
    · rw [acc_succ h0 (by omega), ByteArray.size_append, ByteArray.size_append]
      show (accT l k).size + 1 + _ ≤ _
      omega

section
variable [Globs]
set_option maxHeartbeats 2000000 in
set_option maxRecDepth 10000 in
theorem text_vec (hG : NumG) (l : List (Int × Int)) (hl : l.length ≤ 9223372036854775807) : ACalls Tryz.prog 35 [vecV l] [] (fun r h => r = str (textV (ofF (cntF l))) ∧ h = []) := by
  have h1 := counted_prog l hl
  have h2 := vector_prog (cntF l)
  have hk : (ofF (cntF l)).length ≤ 32 := ofK_len (cntF l) 32
  have hm : ∀ p ∈ ofF (cntF l), mayD p.1 p.2 := of_may (cnt_ok l) 32 (Nat.le_refl _)
  generalize ofF (cntF l) = V at *
  generalize cntF l = g at *
  refine rcalls Tryz.func35 rfl (by decide) ?_
  refine ⟨[], _, h1, ?_⟩
  rintro r hh ⟨rfl, rfl⟩
  refine ⟨.inl rfl, ?_⟩
  refine ⟨[], _, h2, ?_⟩
  rintro r hh ⟨rfl, rfl⟩
  refine ⟨.inl rfl, ?_⟩
  refine ⟨Nat, fun k => [(3, .own 0 0 k 1), (8, vecV V), (9, int .i64 V.length), (10, int .i64 k)], fun k => [.row (k * 1) fun i => str (strAt (txts V) i)], fun k => k ≤ V.length, fun k => V.length - k,
    ⟨0, [0], Nat.zero_le _, lehR (Nat.le_refl _) _, ⟨.nil _ _ (by decide), .same _ trivial, leI rfl, leI rfl, trivial⟩⟩, ?_⟩
  intro k hk'
  have hk' : k ≤ V.length := hk'
  refine ⟨fun c => ?_, fun c => ?_⟩
  · have f1 : (k : Int) < V.length := yes c
    have e1 : IntKind.i64.wrap ((k : Int) + 1) = ((k + 1 : Nat) : Int) := by rw [w64 (by omega) (by omega)]; omega
    obtain ⟨r1, r2⟩ := may_r64 (may_at hm (k := k) (by omega))
    have ht := text_prog hG _ _ r1 r2
    have hat := txts_at (l := V) (k := k) (by omega)
    rw [← hat] at ht
    refine ⟨⟨by omega, f1⟩, ?_⟩
    refine ⟨[], _, dfree rfl rfl, ht.args ⟨vdot rfl rfl, trivial⟩, ?_⟩
    rintro r hh ⟨rfl, rfl⟩
    refine ⟨.inl rfl, ?_⟩
    refine ⟨rfl, fun i _ => rfl, Nat.le_refl 1, by show (k + 1) * 16 ≤ _; omega, fun i hi => ?_, fun i => str (strAt (txts V) i), fun i hi => rfl, fun i hi => ?_, ?_⟩
    · obtain rfl : i = 0 := by omega
      rfl
    · obtain rfl : i = 0 := by omega
      show str (strAt (txts V) (k * 1 + 0)) = str (strAt (txts V) k)
      rw [show k * 1 + 0 = k by omega]
    · exact ⟨trivial, k + 1, [3], by show k + 1 ≤ V.length; omega, by show V.length - (k + 1) < V.length - k; omega, leh1 rfl (.row _ _ _ _ (Nat.le_refl _) fun i hi => .raw _), ⟨leOwn rfl rfl rfl, .same _ trivial, leI rfl, leI e1, trivial⟩⟩
  · have f1 : ¬ (k : Int) < V.length := no c
    obtain rfl : k = V.length := by omega
    refine ⟨fun c1 => ?_, fun c1 => ?_⟩
    · have g1 : (V.length : Int) = 0 := yes c1
      have : V = [] := List.eq_nil_of_length_eq_zero (by omega)
      exact ⟨[], [], _, lehN _, leS (by rw [this]; rfl), rfl, rfl⟩
    · have g1 : ¬ (V.length : Int) = 0 := no c1
      have hlt : (txts V).length = V.length := by simp [txts]
      have hne : V ≠ [] := fun e => g1 (by rw [e]; rfl)
      have hjoin : Lib.join ((txts V).map (·.data.toList)) [44] = joinC 44 (dots V) := by rw [txts_dots, lib_join]
      have hsz := acc_size hm V.length (Nat.le_refl _)
      rw [acc_all V hne, textV_ne hne] at hsz
      have hsz2 : (joinC 44 (dots V)).length ≤ 44 * V.length := by
        have e : (ba (joinC 44 (dots V))).size = (joinC 44 (dots V)).length := by show (joinC 44 (dots V)).toArray.size = _; simp
        omega
      have hj := strsJoin_prog (txts V) ⟨#[44]⟩ (by omega) (by omega) (by show (Lib.join ((txts V).map (·.data.toList)) [44]).length ≤ _; rw [hjoin]; omega)
      refine ⟨[], _, by omega, fun i hi => trivial, hj.args ⟨vro' hlt.symm fun i hi => by rw [Nat.zero_add], .refl _, trivial⟩, ?_⟩
      rintro r hh ⟨rfl, rfl⟩
      refine ⟨.inr ⟨trivial, fun o ho => by cases ho⟩, ?_⟩
      refine ⟨[], [], _, lehN _, leS ?_, rfl, rfl⟩
      rw [textV_ne hne]
      show ba (Lib.join ((txts V).map (·.data.toList)) [44]) = _
      rw [hjoin]

set_option maxHeartbeats 2000000 in
set_option maxRecDepth 10000 in
theorem textv_ref (l : List (Int × Int)) (hl : l.length ≤ 9223372036854775807) : ACalls Tryz.prog 52 [vecV l] [] (fun r h => r = str (textV (ofF (cntF l))) ∧ h = []) := by
  have h1 := all_ref l hl
  have h2 := of_ref (cntF l)
  have hk : (ofF (cntF l)).length ≤ 32 := ofK_len (cntF l) 32
  have hm : ∀ p ∈ ofF (cntF l), mayD p.1 p.2 := of_may (cnt_ok l) 32 (Nat.le_refl _)
  generalize ofF (cntF l) = V at *
  generalize cntF l = g at *
  refine rcalls Tryz.func52 rfl (by decide) ?_
  refine ⟨[], _, h1, ?_⟩
  rintro r hh ⟨rfl, rfl⟩
  refine ⟨.inl rfl, ?_⟩
  refine ⟨[], _, h2, ?_⟩
  rintro r hh ⟨rfl, rfl⟩
  refine ⟨.inl rfl, ?_⟩
  refine ⟨fun c1 => ?_, fun c1 => ?_⟩
  · have g1 : (V.length : Int) = 0 := yes c1
    have : V = [] := List.eq_nil_of_length_eq_zero (by omega)
    exact ⟨[], [], _, lehN _, leS (by rw [this]; rfl), rfl, rfl⟩
  have g1 : ¬ (V.length : Int) = 0 := no c1
  have hne : V ≠ [] := fun e => g1 (by rw [e]; rfl)
  refine ⟨Nat, fun k => [(3, vecV V), (4, str (accT V k)), (5, int .i64 k)], fun _ => [], fun k => k ≤ V.length, fun k => V.length - k,
    ⟨0, [], Nat.zero_le _, lehN _, ⟨.same _ trivial, leS (acc_zero V).symm, leI rfl, trivial⟩⟩, ?_⟩
  intro k hk'
  have hk' : k ≤ V.length := hk'
  refine ⟨fun c => ?_, fun c => ?_⟩
  · have f1 : (k : Int) < V.length := yes c
    have e1 : IntKind.i64.wrap ((k : Int) + 1) = ((k + 1 : Nat) : Int) := by rw [w64 (by omega) (by omega)]; omega
    obtain ⟨r1, r2⟩ := may_r64 (may_at hm (k := k) (by omega))
    have ht := text_ref _ _ r1 r2
    have hts := text_size_le r1 r2
    have hsz := acc_size hm k hk'
    refine ⟨fun c2 => ?_, fun c2 => ?_⟩
    · have f2 : 0 < (k : Int) := yes c2
      have hs := acc_succ (l := V) (k := k) (by omega) (by omega)
      refine ⟨by show (accT V k).size + 1 < _; omega, ?_⟩
      refine ⟨⟨by omega, f1⟩, ?_⟩
      refine ⟨[], _, dfree rfl rfl, ht.args ⟨vdot rfl rfl, trivial⟩, ?_⟩
      rintro r hh ⟨rfl, rfl⟩
      refine ⟨.inl rfl, ?_⟩
      refine ⟨by rw [ByteArray.size_append]; show (accT V k).size + 1 + _ < _; omega, ?_⟩
      exact ⟨trivial, k + 1, [], by show k + 1 ≤ V.length; omega, by show V.length - (k + 1) < V.length - k; omega, lehN _, ⟨.same _ trivial, leS hs.symm, leI e1, trivial⟩⟩
    · have f2 : ¬ 0 < (k : Int) := no c2
      obtain rfl : k = 0 := by omega
      have hs := acc_one (l := V) (by omega)
      have hz : accT V 0 ++ textD (cellD V (((0 : Nat) : Int).toNat * 2 + 0)) (cellD V (((0 : Nat) : Int).toNat * 2 + 1)) = accT V (0 + 1) := by
        rw [hs, acc_zero, ByteArray.empty_append]
      refine ⟨⟨by omega, f1⟩, ?_⟩
      refine ⟨[], _, dfree rfl rfl, ht.args ⟨vdot rfl rfl, trivial⟩, ?_⟩
      rintro r hh ⟨rfl, rfl⟩
      refine ⟨.inl rfl, ?_⟩
      refine ⟨by omega, ?_⟩
      exact ⟨trivial, 0 + 1, [], by show 0 + 1 ≤ V.length; omega, by show V.length - (0 + 1) < V.length - 0; omega, lehN _, ⟨.same _ trivial, leS hz, leI e1, trivial⟩⟩
  · have f1 : ¬ (k : Int) < V.length := no c
    obtain rfl : k = V.length := by omega
    exact ⟨[], [], _, lehN _, leS (acc_all V hne), rfl, rfl⟩

end
end Go.Proofs.YthckagkciefliaaGreatDoor.Vc
