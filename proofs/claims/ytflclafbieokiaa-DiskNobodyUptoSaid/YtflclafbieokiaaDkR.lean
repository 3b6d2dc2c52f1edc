/-
  The document's files: what is got, left out, and laid in.
-/
import Derived.Test.YtflclafbieokiaaDkS
set_option linter.unusedVariables false
set_option linter.unusedSectionVars false
namespace Go.Proofs.Ytflclafbieokiaa.Dk
open Go AL Us

theorem getR_none {s : ByteArray} : ∀ {L : List Fl}, (∀ i, i < L.length → (L.getD i fl0).path ≠ s) → getR s L = none
  | [], _ => rfl
  | f :: r, h => by
    have h0 : f.path ≠ s := h 0 (by simp)
    unfold getR
    rw [if_neg h0]
    exact getR_none fun i hi => h (i + 1) (by simpa using hi)
theorem getR_at {s : ByteArray} : ∀ {L : List Fl} {k : Nat}, k < L.length → (∀ i, i < k → (L.getD i fl0).path ≠ s) → (L.getD k fl0).path = s → getR s L = some (L.getD k fl0).data
  | [], k, hk, _, _ => by simp at hk
  | f :: r, 0, _, _, h => by
    have h : f.path = s := h
    unfold getR
    rw [if_pos h]; rfl
  | f :: r, k + 1, hk, h, e => by
    have h0 : f.path ≠ s := h 0 (by omega)
    unfold getR
    rw [if_neg h0]
    exact getR_at (L := r) (k := k) (by simpa using hk) (fun i hi => h (i + 1) (by omega)) e
theorem without_succ {s : ByteArray} {L : List Fl} {k : Nat} (h : k < L.length) : withoutR s (L.take (k + 1)) = if (L.getD k fl0).path = s then withoutR s (L.take k) else withoutR s (L.take k) ++ [L.getD k fl0] := by
  unfold withoutR
  rw [take_succ_fl h, List.filter_append]
  generalize L.getD k fl0 = F
  by_cases e : F.path = s
  · rw [if_pos e, List.filter_cons_of_neg (by simp [e]), List.filter_nil, List.append_nil]
  · rw [if_neg e, List.filter_cons_of_pos (by simp [e]), List.filter_nil]
theorem without_len (s : ByteArray) (L : List Fl) : (withoutR s L).length ≤ L.length := List.length_filter_le ..
theorem while_at {p : Fl → Bool} : ∀ {M : List Fl} {k : Nat}, k ≤ M.length → (∀ i, i < k → p (M.getD i fl0) = true) → (k < M.length → p (M.getD k fl0) = false) → M.takeWhile p = M.take k ∧ M.dropWhile p = M.drop k
  | [], k, hk, _, _ => by simp
  | f :: r, 0, _, _, h => by
    have := h (by simp)
    have : p f = false := this
    rw [List.takeWhile_cons_of_neg (by rw [this]; decide), List.dropWhile_cons_of_neg (by rw [this]; decide)]
    exact ⟨rfl, rfl⟩
  | f :: r, k + 1, hk, h, e => by
    have h0 : p f = true := h 0 (by omega)
    obtain ⟨a, b⟩ := while_at (M := r) (k := k) (by simpa using hk) (fun i hi => h (i + 1) (by omega)) (fun hlt => e (by simpa using hlt))
    rw [List.takeWhile_cons_of_pos h0, List.dropWhile_cons_of_pos h0, a, b]
    exact ⟨rfl, rfl⟩
section
variable [Globs]

set_option maxRecDepth 10000 in
theorem get_r (L : List Fl) (s : ByteArray) (hl : L.length ≤ 281474976710656) : ACalls Try.prog 49 [flsV L, str s] [] (fun r h => r = .tup 2 (pair (.roI .u8 ((getR s L).getD [])) (bool (getR s L).isSome)) ∧ h = []) := by
  have hn := @getR_none s L
  have ha := fun {k : Nat} (h : k < L.length) => getR_at (s := s) (L := L) (k := k) h
  generalize getR s L = G at *
  refine rcalls Try.func49 rfl (by decide) ?_
  refine ⟨Nat, fun k => [(0, flsV L), (1, str s), (6, int .i64 k)], fun _ => [], fun k => k ≤ L.length ∧ ∀ i, i < k → (L.getD i fl0).path ≠ s, fun k => L.length - k,
    ⟨0, [], ⟨Nat.zero_le _, fun i hi => by omega⟩, lehN _, ⟨.same _ trivial, leS rfl, leI rfl, trivial⟩⟩, ?_⟩
  rintro k ⟨hk, hfree⟩
  have e1 : IntKind.i64.wrap ((k : Int) + 1) = ((k + 1 : Nat) : Int) := by rw [w64 (by omega) (by omega)]; omega
  refine ⟨fun c => ?_, fun c => ?_⟩
  · have f1 : (k : Int) < L.length := yes c
    have b1 : 0 ≤ (k : Int) ∧ (k : Int) < L.length := ⟨by omega, f1⟩
    have h1 : ∀ c, c < 2 → rowF L ((k : Int).toNat * 2 + c) = flC (L.getD k fl0) c := fun c hc => by rw [Int.toNat_natCast]; exact rowF_at L hc
    have ha := ha (k := k) (by omega) hfree
    obtain ⟨F, hF⟩ : ∃ F, L.getD k fl0 = F := ⟨_, rfl⟩
    rw [hF] at h1 ha
    refine ⟨b1, flC F, fun c hc => h1 c hc, ?_⟩
    refine ⟨fun c2 => ?_, fun c2 => ?_⟩
    · have f2 : F.path = s := yes c2
      rw [ha f2]
      refine ⟨b1, flC F, fun c hc => h1 c hc, ?_⟩
      exact ⟨[], [], _, lehN _, le_pair (.same _ trivial) (leTB rfl), rfl, rfl⟩
    · have f2 : ¬ F.path = s := no c2
      refine ⟨trivial, k + 1, [], ⟨by omega, fun i hi => ?_⟩, by show L.length - (k + 1) < L.length - k; omega, lehN _, ⟨.same _ trivial, leS rfl, leI e1, trivial⟩⟩
      by_cases e : i = k
      · rw [e, hF]; exact f2
      · exact hfree i (by omega)
  · have f1 : ¬ (k : Int) < L.length := no c
    rw [hn fun i hi => hfree i (by omega)]
    exact ⟨[], [], _, lehN _, le_pair (.nilI .u8) (leFB rfl), rfl, rfl⟩

set_option maxRecDepth 10000 in
theorem without_r (L : List Fl) (s : ByteArray) (hl : L.length ≤ 1000000) : ACalls Try.prog 47 [flsV L, str s] [] (fun r h => r = flsV (withoutR s L) ∧ h = []) := by
  have hs := fun {k : Nat} (h : k < L.length) => without_succ (s := s) (L := L) (k := k) h
  have hw := fun k => without_len s (L.take k)
  refine rcalls Try.func47 rfl (by decide) ?_
  refine ⟨Nat, fun k => [(0, flsV L), (1, str s), (5, .own 0 0 (withoutR s (L.take k)).length 2), (6, int .i64 k)], fun k => [.row ((withoutR s (L.take k)).length * 2) (rowF (withoutR s (L.take k)))], fun k => k ≤ L.length, fun k => L.length - k,
    ⟨0, [0], Nat.zero_le _, lehRow0 (Nat.le_refl _) _, ⟨.same _ trivial, leS rfl, .nil _ _ (by decide), leI rfl, trivial⟩⟩, ?_⟩
  intro k hk
  have hk : k ≤ L.length := hk
  have e1 : IntKind.i64.wrap ((k : Int) + 1) = ((k + 1 : Nat) : Int) := by rw [w64 (by omega) (by omega)]; omega
  have hwk := hw k
  have hwk : (withoutR s (L.take k)).length ≤ L.length := by rw [List.length_take] at hwk; omega
  refine ⟨fun c => ?_, fun c => ?_⟩
  · have f1 : (k : Int) < L.length := yes c
    have b1 : 0 ≤ (k : Int) ∧ (k : Int) < L.length := ⟨by omega, f1⟩
    have h1 : ∀ c, c < 2 → rowF L ((k : Int).toNat * 2 + c) = flC (L.getD k fl0) c := fun c hc => by rw [Int.toNat_natCast]; exact rowF_at L hc
    have hs := hs (k := k) (by omega)
    obtain ⟨F, hF⟩ : ∃ F, L.getD k fl0 = F := ⟨_, rfl⟩
    rw [hF] at h1 hs
    refine ⟨b1, flC F, fun c hc => h1 c hc, ?_⟩
    refine ⟨fun c2 => ?_, fun c2 => ?_⟩
    · have f2 : ¬ F.path = s := yes c2
      rw [if_neg f2] at hs
      have hold := fun {i : Nat} (h : i < (withoutR s (L.take k)).length * 2) => rowF_old (withoutR s (L.take k)) F h
      have hnew := fun {i : Nat} (h : i < 2) => rowF_new (withoutR s (L.take k)) F h
      refine ⟨b1, flC F, fun c hc => h1 c hc, ?_⟩
      refine ⟨rfl, fun i _ => rowCell1 (withoutR s (L.take k)) i, Nat.le_refl 2, by show ((withoutR s (L.take k)).length + 1) * 40 ≤ _; omega, fun i hi => ?_, rowF (withoutR s (L.take k) ++ [F]), fun i hi => hold hi, fun i hi => ?_, ?_⟩
      · match i, hi with
        | 0, _ => rfl
        | 1, _ => rfl
      · show rowF (withoutR s (L.take k) ++ [F]) ((withoutR s (L.take k)).length * 2 + i) = _
        rw [hnew (by omega)]
        match i, hi with
        | 0, _ => rfl
        | 1, _ => rfl
      refine ⟨trivial, k + 1, [2], by show k + 1 ≤ L.length; omega, by show L.length - (k + 1) < L.length - k; omega, leh1 rfl ?_, ⟨.same _ trivial, leS rfl, leOwn rfl rfl ?_, leI e1, trivial⟩⟩
      · show LeO _ _ _ (.row ((withoutR s (L.take (k + 1))).length * 2) (rowF (withoutR s (L.take (k + 1)))))
        rw [hs]
        exact .row _ _ _ _ (by rw [List.length_append]; exact Nat.le_refl _) fun i hi => .same _ (rowFree _ i)
      · rw [hs, List.length_append]; rfl
    · have f2 : F.path = s := Classical.byContradiction fun x => no c2 x
      rw [if_pos f2] at hs
      refine ⟨trivial, k + 1, [0], by show k + 1 ≤ L.length; omega, by show L.length - (k + 1) < L.length - k; omega, leh1 rfl ?_, ⟨.same _ trivial, leS rfl, leOwn rfl rfl ?_, leI e1, trivial⟩⟩
      · show LeO _ _ _ (.row ((withoutR s (L.take (k + 1))).length * 2) (rowF (withoutR s (L.take (k + 1)))))
        rw [hs]
        exact .row _ _ _ _ (Nat.le_refl _) fun i hi => .same _ (rowFree _ i)
      · rw [hs]
  · have f1 : ¬ (k : Int) < L.length := no c
    have eT : L.take k = L := List.take_of_length_le (by omega)
    refine ⟨[], [], _, lehN _, .seen (.giveR (rowF (withoutR s (L.take k))) rfl (by simp) (by omega) (fun i hi => by rw [Nat.zero_add]; exact .same _ (rowFree _ i)) fun i hi => rowFree _ i) (vrsU (l := withoutR s L) (by rw [eT]) fun i hi => by rw [eT]), rfl, rfl⟩

set_option maxRecDepth 10000 in
theorem size_r (L : List Fl) (hl : L.length ≤ 1000000) (hd : dataN L ≤ 4611686018427387904) : ACalls Try.prog 26 [flsV L] [] (fun r h => r = int .i64 (dataN L : Nat) ∧ h = []) := by
  have hds := @data_succ L
  have hdl := data_le L
  refine rcalls Try.func26 rfl (by decide) ?_
  refine ⟨Nat, fun k => [(0, flsV L), (3, int .i64 (dataN (L.take k) : Nat)), (4, int .i64 k)], fun _ => [], fun k => k ≤ L.length, fun k => L.length - k,
    ⟨0, [], Nat.zero_le _, lehN _, ⟨.same _ trivial, leI rfl, leI rfl, trivial⟩⟩, ?_⟩
  intro k hk
  have hk : k ≤ L.length := hk
  have e1 : IntKind.i64.wrap ((k : Int) + 1) = ((k + 1 : Nat) : Int) := by rw [w64 (by omega) (by omega)]; omega
  refine ⟨fun c => ?_, fun c => ?_⟩
  · have f1 : (k : Int) < L.length := yes c
    have hds := hds (k := k) (by omega)
    have hle := hdl (k + 1)
    obtain ⟨F, hF⟩ : ∃ F, L.getD k fl0 = F := ⟨_, rfl⟩
    rw [hF] at hds
    refine ⟨⟨by omega, by omega⟩, flC F, fun c hc => by rw [Int.toNat_natCast, rowF_at L hc, hF], ?_⟩
    refine ⟨trivial, k + 1, [], by show k + 1 ≤ L.length; omega, by show L.length - (k + 1) < L.length - k; omega, lehN _, ⟨.same _ trivial, leI ?_, leI e1, trivial⟩⟩
    rw [w64 (by omega) (by omega)]; omega
  · have f1 : ¬ (k : Int) < L.length := no c
    obtain rfl : k = L.length := by omega
    exact ⟨[], [], _, lehN _, leI (by rw [List.take_length]), rfl, rfl⟩
end
end Go.Proofs.Ytflclafbieokiaa.Dk
