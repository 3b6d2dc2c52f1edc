/-
  The laws of matrices, walked: MatOrder.
-/
import Derived.Test.YthckagkciefliaaDoorMtO
set_option linter.unusedVariables false
set_option linter.unusedSectionVars false
namespace Go.Proofs.YthckagkciefliaaDoor.Mt
open Go AL Hx Dt Spl Vc

/-- Rows that are raised, as they may be read. -/
def cellR (L : List Rs) (i : Nat) : AV := if i % 2 = 0 then int .u8 (L.getD (i / 2) (0, [])).1 else vecV (L.getD (i / 2) (0, [])).2
abbrev rsV (L : List Rs) : AV := .rs L.length 2 (cellR L)
def two (a b : AV) (c : Nat) : AV := [a, b].getD c .top
theorem cellR_at (L : List Rs) (k c : Nat) (h : c < 2) : cellR L (k * 2 + c) = two (int .u8 (L.getD k (0, [])).1) (vecV (L.getD k (0, [])).2) c := by
  unfold cellR
  match c, h with
  | 0, _ => rw [if_pos (by omega), show (k * 2 + 0) / 2 = k by omega]; rfl
  | 1, _ => rw [if_neg (by omega), show (k * 2 + 1) / 2 = k by omega]; rfl
theorem take_rs {L : List Rs} {k : Nat} (h : k < L.length) : L.take (k + 1) = L.take k ++ [L.getD k (0, [])] := by
  rw [List.take_succ_eq_append_getElem h, List.getD_eq_getElem?_getD, List.getElem?_eq_getElem h]
  rfl
theorem rs_mem {L : List Rs} {k : Nat} (h : k < L.length) : L.getD k (0, []) ∈ L := by
  rw [List.getD_eq_getElem?_getD, List.getElem?_eq_getElem h]; exact List.getElem_mem _
/-- From the end on. -/
def backL (L : List Rs) : Nat → List Rs
  | 0 => []
  | k + 1 => backL L k ++ [L.getD (L.length - 1 - k) (0, [])]
theorem back_mem {L : List Rs} {p : Rs} : ∀ k, k ≤ L.length → (p ∈ backL L k ↔ ∃ j, j < k ∧ p = L.getD (L.length - 1 - j) (0, []))
  | 0, _ => by simp [backL]
  | k + 1, h => by
    have ih := back_mem (L := L) (p := p) k (by omega)
    show p ∈ backL L k ++ [_] ↔ _
    rw [List.mem_append, ih, List.mem_singleton]
    constructor
    · rintro (⟨j, hj, e⟩ | e)
      · exact ⟨j, by omega, e⟩
      · exact ⟨k, by omega, e⟩
    · rintro ⟨j, hj, e⟩
      rcases Nat.lt_or_ge j k with h1 | h1
      · exact .inl ⟨j, h1, e⟩
      · obtain rfl : j = k := by omega
        exact .inr e
theorem back_all {L : List Rs} (p : Rs) : p ∈ backL L L.length ↔ p ∈ L := by
  rw [back_mem _ (Nat.le_refl _)]
  constructor
  · rintro ⟨j, hj, rfl⟩
    exact rs_mem (by omega)
  · intro h
    obtain ⟨i, hi, rfl⟩ := List.getElem_of_mem h
    refine ⟨L.length - 1 - i, by omega, ?_⟩
    rw [show L.length - 1 - (L.length - 1 - i) = i by omega, List.getD_eq_getElem?_getD, List.getElem?_eq_getElem hi]
    rfl

section
variable [Globs]


set_option maxHeartbeats 8000000 in
set_option maxRecDepth 10000 in
theorem order_prog (hG : NumG) (n : Int) (L : List Rs) (at' : Int) (hn : 0 ≤ n ∧ n < 256) (hL : ∀ p ∈ L, 0 ≤ p.1 ∧ p.1 < 256) (hl : L.length ≤ 9223372036854775807) (hrows : ∀ k, k < L.length → (L.getD k (0, [])).2.length ≤ 9223372036854775807) (hat : 0 ≤ at' ∧ at' < 256) :
    ACalls Tryd.prog 5 [int .u8 n, rsV L, int .u8 at'] [] (fun r h => r = .tt ∧ h = []) := by
  obtain ⟨K, hK⟩ : ∃ K : Nat, IntKind.i64.wrap (1 + IntKind.i64.wrap (n.tmod 32)) = (K : Int) ∧ 1 ≤ K ∧ K ≤ 32 := by
    have h1 := Int.tmod_eq_emod_of_nonneg (a := n) (b := 32) hn.1
    refine ⟨(1 + n % 32).toNat, ?_, by omega, by omega⟩
    have h2 : IntKind.i64.wrap (n % 32) = n % 32 := w64 (by omega) (by omega)
    rw [h1, h2, w64 (by omega) (by omega)]; omega
  obtain ⟨hK1, hK2⟩ := hK
  have hnew := new_prog K
  have hi0 := isM_new hK2
  generalize newL (K : Int) = N at *
  -- one row more
  have raise1 : ∀ (M : List Vc1) (l : List Rs) (k : Nat), k < L.length → ((L.getD k (0, [])).2.length ≤ 9223372036854775807) → isM K M l → ∃ R, isM K R (l ++ [L.getD k (0, [])]) ∧
      ACalls Tryd.prog 13 [matV M, int .i64 ((IntKind.i64.wrap (L.getD k (0, [])).1).tmod (K : Int)), vecV (L.getD k (0, [])).2] [] (fun r h => r = matV R ∧ h = []) := fun M l k hk hv hM => by
    have hp := hL _ (rs_mem hk)
    refine ⟨_, isM_raise hK2.1 hM _ hp.1, ?_⟩
    rw [w64 (by omega) (by omega), Int.tmod_eq_emod_of_nonneg hp.1]
    exact raise_prog M _ _ (isM_sz hK2.2 hM) (by omega)
  refine rcalls Tryd.func5 rfl (by decide) ?_
  refine ⟨[], _, awake_mat hG, ?_⟩
  rintro r hh ⟨rfl, rfl⟩
  refine ⟨.inl rfl, ?_⟩
  refine ⟨by decide, ?_⟩
  refine ⟨fun _ => ?_, fun c1 => ?_⟩
  · exact ⟨[], [], .tt, lehN _, .tt, rfl, rfl⟩
  rw [hK1]
  have h60 : ¬ 60 < (L.length : Int) := no c1
  refine ⟨[], _, hnew, ?_⟩
  rintro r hh ⟨rfl, rfl⟩
  refine ⟨.inl rfl, ?_⟩
  refine ⟨[], _, hnew, ?_⟩
  rintro r hh ⟨rfl, rfl⟩
  refine ⟨.inl rfl, ?_⟩
  refine ⟨[], _, hnew, ?_⟩
  rintro r hh ⟨rfl, rfl⟩
  refine ⟨.inl rfl, ?_⟩
  refine ⟨[], _, hnew, ?_⟩
  rintro r hh ⟨rfl, rfl⟩
  refine ⟨.inl rfl, ?_⟩
  have main : True := trivial
  refine ⟨fun c2 => ?_, fun c2 => ?_⟩
  · have g2 : 0 < (L.length : Int) := yes c2
    refine ⟨by omega, ?_⟩
    obtain ⟨cut, hcut⟩ : ∃ cut : Nat, (IntKind.i64.wrap at').tmod (L.length : Int) = (cut : Int) := by
      rw [w64 (by omega) (by omega), Int.tmod_eq_emod_of_nonneg hat.1]
      exact ⟨(at' % (L.length : Int)).toNat, by have := Int.emod_nonneg at' (show (L.length : Int) ≠ 0 by omega); omega⟩
    rw [hcut]
    replace hcut : (cut : Int) = (cut : Int) := rfl
    refine ⟨Nat × List Vc1 × List Vc1 × List Vc1 × List Vc1, fun x => [(1, rsV L), (7, .tt), (8, int .i64 K), (9, matV x.2.1), (10, matV x.2.2.1), (11, matV x.2.2.2.1), (12, matV x.2.2.2.2), (13, int .i64 cut), (14, int .i64 x.1)], fun _ => [],
      fun x => x.1 ≤ L.length ∧ isM K x.2.1 (L.take x.1) ∧ isM K x.2.2.1 (backL L x.1) ∧ isM K x.2.2.2.1 (L.take (min x.1 cut)) ∧ isM K x.2.2.2.2 ((L.take x.1).drop cut) ∧ ∀ j, j < x.1 → (L.getD j (0, [])).2.length ≤ 60, fun x => L.length - x.1,
      ⟨(0, N, N, N, N), [], ⟨Nat.zero_le _, hi0, hi0, by rw [Nat.zero_min]; exact hi0, by simpa using hi0, by intro j hj; omega⟩, lehN _, ⟨.same _ trivial, .tt, leI rfl, .same _ trivial, .same _ trivial, .same _ trivial, .same _ trivial, leI hcut, leI rfl, trivial⟩⟩, ?_⟩
    rintro ⟨k, A, B, O, T⟩ ⟨hk, iA, iB, iO, iT, hlens⟩
    dsimp only at hk iA iB iO iT hlens
    refine ⟨fun d1 => ?_, fun d1 => ?_⟩
    · have f1 : (k : Int) < L.length := yes d1
      have e1 : IntKind.i64.wrap ((k : Int) + 1) = ((k + 1 : Nat) : Int) := by rw [w64 (by omega) (by omega)]; omega
      have hkn : ((k : Int)).toNat = k := by omega
      refine ⟨⟨by omega, f1⟩, two (int .u8 (L.getD k (0, [])).1) (vecV (L.getD k (0, [])).2), fun c hc => by rw [hkn]; exact cellR_at L k c hc, ?_⟩
      refine ⟨fun _ => ?_, fun d2 => ?_⟩
      · exact ⟨[], [], .tt, lehN _, .tt, rfl, rfl⟩
      have g2 : ¬ 60 < ((L.getD k (0, [])).2.length : Int) := no d2
      have e2 : (IntKind.i64.wrap (IntKind.i64.wrap ((L.length : Int) - 1) - k)) = ((L.length - 1 - k : Nat) : Int) := by
        have a1 : IntKind.i64.wrap ((L.length : Int) - 1) = (L.length : Int) - 1 := w64 (by omega) (by omega)
        rw [a1, w64 (by omega) (by omega)]; omega
      refine ⟨⟨by omega, f1⟩, two (int .u8 (L.getD k (0, [])).1) (vecV (L.getD k (0, [])).2), fun c hc => by rw [hkn]; exact cellR_at L k c hc, ?_⟩
      have hbn : (((L.length - 1 - k : Nat) : Int)).toNat = L.length - 1 - k := by omega
      refine ⟨⟨by rw [e2]; omega, by rw [e2]; omega⟩, two (int .u8 (L.getD (L.length - 1 - k) (0, [])).1) (vecV (L.getD (L.length - 1 - k) (0, [])).2), fun c hc => by rw [e2, hbn]; exact cellR_at L _ c hc, ?_⟩
      have hlenb : (L.getD (L.length - 1 - k) (0, [])).2.length ≤ 9223372036854775807 := hrows _ (by omega)
      obtain ⟨A', jA, hA⟩ := raise1 A _ k (by omega) (by omega) iA
      obtain ⟨B', jB, hB⟩ := raise1 B _ (L.length - 1 - k) (by omega) hlenb iB
      obtain ⟨O', jO, hO⟩ := raise1 O _ k (by omega) (by omega) iO
      obtain ⟨T', jT, hT⟩ := raise1 T _ k (by omega) (by omega) iT
      rw [← take_rs (by omega)] at jA
      refine .inr ⟨9, by decide +kernel, ?_⟩
      refine ⟨_, rfl, ?_⟩
      refine ⟨_, rfl, ?_⟩
      refine ⟨_, rfl, ?_⟩
      refine ⟨_, rfl, ?_⟩
      refine ⟨_, rfl, ?_⟩
      refine ⟨_, ⟨by omega, rfl⟩, ?_⟩
      refine ⟨_, rfl, ?_⟩
      refine ⟨_, rfl, ?_⟩
      refine ⟨_, ⟨[], _, hA, by rintro r h ⟨rfl, rfl⟩; exact ⟨.inl rfl, rfl, rfl⟩⟩, ?_⟩
      refine .inr ⟨9, by decide +kernel, ?_⟩
      refine ⟨_, rfl, ?_⟩
      refine ⟨_, rfl, ?_⟩
      refine ⟨_, rfl, ?_⟩
      refine ⟨_, rfl, ?_⟩
      refine ⟨_, rfl, ?_⟩
      refine ⟨_, ⟨by omega, rfl⟩, ?_⟩
      refine ⟨_, rfl, ?_⟩
      refine ⟨_, rfl, ?_⟩
      refine ⟨_, ⟨[], _, hB, by rintro r h ⟨rfl, rfl⟩; exact ⟨.inl rfl, rfl, rfl⟩⟩, ?_⟩
      have hlens' : ∀ j, j < k + 1 → (L.getD j (0, [])).2.length ≤ 60 := fun j hj => by
        rcases Nat.lt_or_ge j k with h | h
        · exact hlens j h
        · rw [show j = k by omega]; omega
      refine ⟨fun d3 => ?_, fun d3 => ?_⟩
      · have g3 : (k : Int) < cut := yes d3
        refine .inr ⟨9, by decide +kernel, ?_⟩
        refine ⟨_, rfl, ?_⟩
        refine ⟨_, rfl, ?_⟩
        refine ⟨_, rfl, ?_⟩
        refine ⟨_, rfl, ?_⟩
        refine ⟨_, rfl, ?_⟩
        refine ⟨_, ⟨by omega, rfl⟩, ?_⟩
        refine ⟨_, rfl, ?_⟩
        refine ⟨_, rfl, ?_⟩
        refine ⟨_, ⟨[], _, hO, by rintro r h ⟨rfl, rfl⟩; exact ⟨.inl rfl, rfl, rfl⟩⟩, ?_⟩
        rw [show min k cut = k by omega, ← take_rs (by omega)] at jO
        exact ⟨trivial, (k + 1, A', B', O', T), [], ⟨by show k + 1 ≤ L.length; omega, jA, jB, by show isM K O' (L.take (min (k + 1) cut)); rw [show min (k + 1) cut = k + 1 by omega]; exact jO,
          by show isM K T ((L.take (k + 1)).drop cut); rw [List.drop_eq_nil_of_le (by simp; omega)]; rw [List.drop_eq_nil_of_le (by simp; omega)] at iT; exact iT, hlens'⟩, by show L.length - (k + 1) < L.length - k; omega, lehN _,
          ⟨.same _ trivial, .tt, leI rfl, .same _ trivial, .same _ trivial, .same _ trivial, .same _ trivial, leI rfl, leI e1, trivial⟩⟩
      · have g3 : ¬ (k : Int) < cut := no d3
        refine .inr ⟨9, by decide +kernel, ?_⟩
        refine ⟨_, rfl, ?_⟩
        refine ⟨_, rfl, ?_⟩
        refine ⟨_, rfl, ?_⟩
        refine ⟨_, rfl, ?_⟩
        refine ⟨_, rfl, ?_⟩
        refine ⟨_, ⟨by omega, rfl⟩, ?_⟩
        refine ⟨_, rfl, ?_⟩
        refine ⟨_, rfl, ?_⟩
        refine ⟨_, ⟨[], _, hT, by rintro r h ⟨rfl, rfl⟩; exact ⟨.inl rfl, rfl, rfl⟩⟩, ?_⟩
        have ed : (L.take (k + 1)).drop cut = (L.take k).drop cut ++ [L.getD k (0, [])] := by rw [take_rs (by omega), List.drop_append_of_le_length (by simp; omega)]
        rw [← ed] at jT
        exact ⟨trivial, (k + 1, A', B', O, T'), [], ⟨by show k + 1 ≤ L.length; omega, jA, jB, by show isM K O (L.take (min (k + 1) cut)); rw [show min (k + 1) cut = min k cut by omega]; exact iO, jT, hlens'⟩, by show L.length - (k + 1) < L.length - k; omega, lehN _,
          ⟨.same _ trivial, .tt, leI rfl, .same _ trivial, .same _ trivial, .same _ trivial, .same _ trivial, leI rfl, leI e1, trivial⟩⟩
    · have f1 : ¬ (k : Int) < L.length := no d1
      obtain rfl : k = L.length := by omega
      rw [List.take_of_length_le (Nat.le_refl _)] at iA iT
      have same : ∀ {M' : List Vc1} {l : List Rs}, isM K M' l → (∀ p, p ∈ l ↔ p ∈ L) → A = M' := fun hM h => isM_eq iA hM fun i q => acc_same (fun p => (h p).symm) i q
      have eB : A = B := same iB back_all
      have iJ := isM_join iO iT
      have iJ2 := isM_join iT iO
      have hmem : ∀ p, p ∈ L.take (min L.length cut) ++ L.drop cut ↔ p ∈ L := fun p => by
        rcases Nat.lt_or_ge L.length cut with h | h
        · rw [show min L.length cut = L.length by omega, List.take_of_length_le (Nat.le_refl _), List.drop_eq_nil_of_le (by omega), List.append_nil]
        · rw [show min L.length cut = cut by omega, List.take_append_drop]
      have eJ := same iJ hmem
      have eJ2 := same iJ2 fun p => by rw [List.mem_append, Or.comm, ← List.mem_append]; exact hmem p
      have zA := isM_sz hK2.2 iA
      have zO := isM_sz hK2.2 iO
      have zT := isM_sz hK2.2 iT
      have c1 := (may_mat A K zA).yes (decide_eq_true (isM_may hK2 iA))
      have c2 := (same_mat A A zA zA).yes (decide_eq_true rfl)
      have c3 := join_mat O T zO zT
      have c4 := join_mat T O zT zO
      rw [← eJ] at c3
      rw [← eJ2] at c4
      subst eB
      refine ⟨Nat × List Vc1, fun x => [(1, rsV L), (7, .tt), (8, int .i64 K), (9, matV A), (10, matV A), (11, matV O), (12, matV T), (17, matV x.2), (18, int .i64 x.1)], fun _ => [],
        fun x => x.1 ≤ L.length ∧ isM K x.2 (L ++ L.take x.1), fun x => L.length - x.1,
        ⟨(0, A), [], ⟨Nat.zero_le _, by show isM K A (L ++ []); rw [List.append_nil]; exact iA⟩, lehN _, ⟨.same _ trivial, .tt, leI rfl, .same _ trivial, .same _ trivial, .same _ trivial, .same _ trivial, .same _ trivial, leI rfl, trivial⟩⟩, ?_⟩
      rintro ⟨j, G⟩ ⟨hj, iG⟩
      dsimp only at hj iG
      refine ⟨fun d2 => ?_, fun d2 => ?_⟩
      · have f2 : (j : Int) < L.length := yes d2
        have e1 : IntKind.i64.wrap ((j : Int) + 1) = ((j + 1 : Nat) : Int) := by rw [w64 (by omega) (by omega)]; omega
        have hjn : ((j : Int)).toNat = j := by omega
        obtain ⟨G', jG, hG'⟩ := raise1 G _ j (by omega) (by have := hlens j (by omega); omega) iG
        rw [List.append_assoc, ← take_rs (by omega)] at jG
        refine .inr ⟨15, by decide +kernel, ?_⟩
        refine ⟨_, rfl, ?_⟩
        refine ⟨_, rfl, ?_⟩
        refine ⟨_, rfl, ?_⟩
        refine ⟨_, ⟨⟨by omega, f2⟩, two (int .u8 (L.getD j (0, [])).1) (vecV (L.getD j (0, [])).2), fun c hc => by rw [hjn]; exact cellR_at L j c hc, rfl⟩, ?_⟩
        refine ⟨_, rfl, ?_⟩
        refine ⟨_, rfl, ?_⟩
        refine ⟨_, rfl, ?_⟩
        refine ⟨_, rfl, ?_⟩
        refine ⟨_, ⟨by omega, rfl⟩, ?_⟩
        refine ⟨_, rfl, ?_⟩
        refine ⟨_, rfl, ?_⟩
        refine ⟨_, ⟨⟨by omega, f2⟩, two (int .u8 (L.getD j (0, [])).1) (vecV (L.getD j (0, [])).2), fun c hc => by rw [hjn]; exact cellR_at L j c hc, rfl⟩, ?_⟩
        refine ⟨_, rfl, ?_⟩
        refine ⟨_, rfl, ?_⟩
        refine ⟨_, ⟨[], _, hG', by rintro r h ⟨rfl, rfl⟩; exact ⟨.inl rfl, rfl, rfl⟩⟩, ?_⟩
        exact ⟨trivial, (j + 1, G'), [], ⟨by show j + 1 ≤ L.length; omega, jG⟩, by show L.length - (j + 1) < L.length - j; omega, lehN _,
          ⟨.same _ trivial, .tt, leI rfl, .same _ trivial, .same _ trivial, .same _ trivial, .same _ trivial, .same _ trivial, leI e1, trivial⟩⟩
      · have f2 : ¬ (j : Int) < L.length := no d2
        obtain rfl : j = L.length := by omega
        rw [List.take_of_length_le (Nat.le_refl _)] at iG
        have eG : A = G := same iG fun p => by simp
        subst eG
        refine ⟨fun _ => ?_, fun e => absurd (by rw [iA.1]) (no e)⟩
        refine ⟨[], _, c1, ?_⟩
        rintro r hh ⟨rfl, rfl⟩
        refine ⟨.inl rfl, ?_⟩
        refine ⟨[], _, c2, ?_⟩
        rintro r hh ⟨rfl, rfl⟩
        refine ⟨.inl rfl, ?_⟩
        refine ⟨[], _, c2, ?_⟩
        rintro r hh ⟨rfl, rfl⟩
        refine ⟨.inl rfl, ?_⟩
        refine ⟨[], _, c3, ?_⟩
        rintro r hh ⟨rfl, rfl⟩
        refine ⟨.inl rfl, ?_⟩
        refine ⟨[], _, c2, ?_⟩
        rintro r hh ⟨rfl, rfl⟩
        refine ⟨.inl rfl, ?_⟩
        refine ⟨[], _, c4, ?_⟩
        rintro r hh ⟨rfl, rfl⟩
        refine ⟨.inl rfl, ?_⟩
        refine ⟨[], _, c2, ?_⟩
        rintro r hh ⟨rfl, rfl⟩
        refine ⟨.inl rfl, ?_⟩
        exact ⟨[], [], .tt, lehN _, .tt, rfl, rfl⟩
  · obtain ⟨cut, hcut⟩ : ∃ cut : Nat, (0 : Int) = (cut : Int) := ⟨0, rfl⟩
    refine ⟨Nat × List Vc1 × List Vc1 × List Vc1 × List Vc1, fun x => [(1, rsV L), (7, .tt), (8, int .i64 K), (9, matV x.2.1), (10, matV x.2.2.1), (11, matV x.2.2.2.1), (12, matV x.2.2.2.2), (13, int .i64 cut), (14, int .i64 x.1)], fun _ => [],
      fun x => x.1 ≤ L.length ∧ isM K x.2.1 (L.take x.1) ∧ isM K x.2.2.1 (backL L x.1) ∧ isM K x.2.2.2.1 (L.take (min x.1 cut)) ∧ isM K x.2.2.2.2 ((L.take x.1).drop cut) ∧ ∀ j, j < x.1 → (L.getD j (0, [])).2.length ≤ 60, fun x => L.length - x.1,
      ⟨(0, N, N, N, N), [], ⟨Nat.zero_le _, hi0, hi0, by rw [Nat.zero_min]; exact hi0, by simpa using hi0, by intro j hj; omega⟩, lehN _, ⟨.same _ trivial, .tt, leI rfl, .same _ trivial, .same _ trivial, .same _ trivial, .same _ trivial, leI hcut, leI rfl, trivial⟩⟩, ?_⟩
    rintro ⟨k, A, B, O, T⟩ ⟨hk, iA, iB, iO, iT, hlens⟩
    dsimp only at hk iA iB iO iT hlens
    refine ⟨fun d1 => ?_, fun d1 => ?_⟩
    · have f1 : (k : Int) < L.length := yes d1
      have e1 : IntKind.i64.wrap ((k : Int) + 1) = ((k + 1 : Nat) : Int) := by rw [w64 (by omega) (by omega)]; omega
      have hkn : ((k : Int)).toNat = k := by omega
      refine ⟨⟨by omega, f1⟩, two (int .u8 (L.getD k (0, [])).1) (vecV (L.getD k (0, [])).2), fun c hc => by rw [hkn]; exact cellR_at L k c hc, ?_⟩
      refine ⟨fun _ => ?_, fun d2 => ?_⟩
      · exact ⟨[], [], .tt, lehN _, .tt, rfl, rfl⟩
      have g2 : ¬ 60 < ((L.getD k (0, [])).2.length : Int) := no d2
      have e2 : (IntKind.i64.wrap (IntKind.i64.wrap ((L.length : Int) - 1) - k)) = ((L.length - 1 - k : Nat) : Int) := by
        have a1 : IntKind.i64.wrap ((L.length : Int) - 1) = (L.length : Int) - 1 := w64 (by omega) (by omega)
        rw [a1, w64 (by omega) (by omega)]; omega
      refine ⟨⟨by omega, f1⟩, two (int .u8 (L.getD k (0, [])).1) (vecV (L.getD k (0, [])).2), fun c hc => by rw [hkn]; exact cellR_at L k c hc, ?_⟩
      have hbn : (((L.length - 1 - k : Nat) : Int)).toNat = L.length - 1 - k := by omega
      refine ⟨⟨by rw [e2]; omega, by rw [e2]; omega⟩, two (int .u8 (L.getD (L.length - 1 - k) (0, [])).1) (vecV (L.getD (L.length - 1 - k) (0, [])).2), fun c hc => by rw [e2, hbn]; exact cellR_at L _ c hc, ?_⟩
      have hlenb : (L.getD (L.length - 1 - k) (0, [])).2.length ≤ 9223372036854775807 := hrows _ (by omega)
      obtain ⟨A', jA, hA⟩ := raise1 A _ k (by omega) (by omega) iA
      obtain ⟨B', jB, hB⟩ := raise1 B _ (L.length - 1 - k) (by omega) hlenb iB
      obtain ⟨O', jO, hO⟩ := raise1 O _ k (by omega) (by omega) iO
      obtain ⟨T', jT, hT⟩ := raise1 T _ k (by omega) (by omega) iT
      rw [← take_rs (by omega)] at jA
      refine .inr ⟨9, by decide +kernel, ?_⟩
      refine ⟨_, rfl, ?_⟩
      refine ⟨_, rfl, ?_⟩
      refine ⟨_, rfl, ?_⟩
      refine ⟨_, rfl, ?_⟩
      refine ⟨_, rfl, ?_⟩
      refine ⟨_, ⟨by omega, rfl⟩, ?_⟩
      refine ⟨_, rfl, ?_⟩
      refine ⟨_, rfl, ?_⟩
      refine ⟨_, ⟨[], _, hA, by rintro r h ⟨rfl, rfl⟩; exact ⟨.inl rfl, rfl, rfl⟩⟩, ?_⟩
      refine .inr ⟨9, by decide +kernel, ?_⟩
      refine ⟨_, rfl, ?_⟩
      refine ⟨_, rfl, ?_⟩
      refine ⟨_, rfl, ?_⟩
      refine ⟨_, rfl, ?_⟩
      refine ⟨_, rfl, ?_⟩
      refine ⟨_, ⟨by omega, rfl⟩, ?_⟩
      refine ⟨_, rfl, ?_⟩
      refine ⟨_, rfl, ?_⟩
      refine ⟨_, ⟨[], _, hB, by rintro r h ⟨rfl, rfl⟩; exact ⟨.inl rfl, rfl, rfl⟩⟩, ?_⟩
      have hlens' : ∀ j, j < k + 1 → (L.getD j (0, [])).2.length ≤ 60 := fun j hj => by
        rcases Nat.lt_or_ge j k with h | h
        · exact hlens j h
        · rw [show j = k by omega]; omega
      refine ⟨fun d3 => ?_, fun d3 => ?_⟩
      · have g3 : (k : Int) < cut := yes d3
        refine .inr ⟨9, by decide +kernel, ?_⟩
        refine ⟨_, rfl, ?_⟩
        refine ⟨_, rfl, ?_⟩
        refine ⟨_, rfl, ?_⟩
        refine ⟨_, rfl, ?_⟩
        refine ⟨_, rfl, ?_⟩
        refine ⟨_, ⟨by omega, rfl⟩, ?_⟩
        refine ⟨_, rfl, ?_⟩
        refine ⟨_, rfl, ?_⟩
        refine ⟨_, ⟨[], _, hO, by rintro r h ⟨rfl, rfl⟩; exact ⟨.inl rfl, rfl, rfl⟩⟩, ?_⟩
        rw [show min k cut = k by omega, ← take_rs (by omega)] at jO
        exact ⟨trivial, (k + 1, A', B', O', T), [], ⟨by show k + 1 ≤ L.length; omega, jA, jB, by show isM K O' (L.take (min (k + 1) cut)); rw [show min (k + 1) cut = k + 1 by omega]; exact jO,
          by show isM K T ((L.take (k + 1)).drop cut); rw [List.drop_eq_nil_of_le (by simp; omega)]; rw [List.drop_eq_nil_of_le (by simp; omega)] at iT; exact iT, hlens'⟩, by show L.length - (k + 1) < L.length - k; omega, lehN _,
          ⟨.same _ trivial, .tt, leI rfl, .same _ trivial, .same _ trivial, .same _ trivial, .same _ trivial, leI rfl, leI e1, trivial⟩⟩
      · have g3 : ¬ (k : Int) < cut := no d3
        refine .inr ⟨9, by decide +kernel, ?_⟩
        refine ⟨_, rfl, ?_⟩
        refine ⟨_, rfl, ?_⟩
        refine ⟨_, rfl, ?_⟩
        refine ⟨_, rfl, ?_⟩
        refine ⟨_, rfl, ?_⟩
        refine ⟨_, ⟨by omega, rfl⟩, ?_⟩
        refine ⟨_, rfl, ?_⟩
        refine ⟨_, rfl, ?_⟩
        refine ⟨_, ⟨[], _, hT, by rintro r h ⟨rfl, rfl⟩; exact ⟨.inl rfl, rfl, rfl⟩⟩, ?_⟩
        have ed : (L.take (k + 1)).drop cut = (L.take k).drop cut ++ [L.getD k (0, [])] := by rw [take_rs (by omega), List.drop_append_of_le_length (by simp; omega)]
        rw [← ed] at jT
        exact ⟨trivial, (k + 1, A', B', O, T'), [], ⟨by show k + 1 ≤ L.length; omega, jA, jB, by show isM K O (L.take (min (k + 1) cut)); rw [show min (k + 1) cut = min k cut by omega]; exact iO, jT, hlens'⟩, by show L.length - (k + 1) < L.length - k; omega, lehN _,
          ⟨.same _ trivial, .tt, leI rfl, .same _ trivial, .same _ trivial, .same _ trivial, .same _ trivial, leI rfl, leI e1, trivial⟩⟩
    · have f1 : ¬ (k : Int) < L.length := no d1
      obtain rfl : k = L.length := by omega
      rw [List.take_of_length_le (Nat.le_refl _)] at iA iT
      have same : ∀ {M' : List Vc1} {l : List Rs}, isM K M' l → (∀ p, p ∈ l ↔ p ∈ L) → A = M' := fun hM h => isM_eq iA hM fun i q => acc_same (fun p => (h p).symm) i q
      have eB : A = B := same iB back_all
      have iJ := isM_join iO iT
      have iJ2 := isM_join iT iO
      have hmem : ∀ p, p ∈ L.take (min L.length cut) ++ L.drop cut ↔ p ∈ L := fun p => by
        rcases Nat.lt_or_ge L.length cut with h | h
        · rw [show min L.length cut = L.length by omega, List.take_of_length_le (Nat.le_refl _), List.drop_eq_nil_of_le (by omega), List.append_nil]
        · rw [show min L.length cut = cut by omega, List.take_append_drop]
      have eJ := same iJ hmem
      have eJ2 := same iJ2 fun p => by rw [List.mem_append, Or.comm, ← List.mem_append]; exact hmem p
      have zA := isM_sz hK2.2 iA
      have zO := isM_sz hK2.2 iO
      have zT := isM_sz hK2.2 iT
      have c1 := (may_mat A K zA).yes (decide_eq_true (isM_may hK2 iA))
      have c2 := (same_mat A A zA zA).yes (decide_eq_true rfl)
      have c3 := join_mat O T zO zT
      have c4 := join_mat T O zT zO
      rw [← eJ] at c3
      rw [← eJ2] at c4
      subst eB
      refine ⟨Nat × List Vc1, fun x => [(1, rsV L), (7, .tt), (8, int .i64 K), (9, matV A), (10, matV A), (11, matV O), (12, matV T), (17, matV x.2), (18, int .i64 x.1)], fun _ => [],
        fun x => x.1 ≤ L.length ∧ isM K x.2 (L ++ L.take x.1), fun x => L.length - x.1,
        ⟨(0, A), [], ⟨Nat.zero_le _, by show isM K A (L ++ []); rw [List.append_nil]; exact iA⟩, lehN _, ⟨.same _ trivial, .tt, leI rfl, .same _ trivial, .same _ trivial, .same _ trivial, .same _ trivial, .same _ trivial, leI rfl, trivial⟩⟩, ?_⟩
      rintro ⟨j, G⟩ ⟨hj, iG⟩
      dsimp only at hj iG
      refine ⟨fun d2 => ?_, fun d2 => ?_⟩
      · have f2 : (j : Int) < L.length := yes d2
        have e1 : IntKind.i64.wrap ((j : Int) + 1) = ((j + 1 : Nat) : Int) := by rw [w64 (by omega) (by omega)]; omega
        have hjn : ((j : Int)).toNat = j := by omega
        obtain ⟨G', jG, hG'⟩ := raise1 G _ j (by omega) (by have := hlens j (by omega); omega) iG
        rw [List.append_assoc, ← take_rs (by omega)] at jG
        refine .inr ⟨15, by decide +kernel, ?_⟩
        refine ⟨_, rfl, ?_⟩
        refine ⟨_, rfl, ?_⟩
        refine ⟨_, rfl, ?_⟩
        refine ⟨_, ⟨⟨by omega, f2⟩, two (int .u8 (L.getD j (0, [])).1) (vecV (L.getD j (0, [])).2), fun c hc => by rw [hjn]; exact cellR_at L j c hc, rfl⟩, ?_⟩
        refine ⟨_, rfl, ?_⟩
        refine ⟨_, rfl, ?_⟩
        refine ⟨_, rfl, ?_⟩
        refine ⟨_, rfl, ?_⟩
        refine ⟨_, ⟨by omega, rfl⟩, ?_⟩
        refine ⟨_, rfl, ?_⟩
        refine ⟨_, rfl, ?_⟩
        refine ⟨_, ⟨⟨by omega, f2⟩, two (int .u8 (L.getD j (0, [])).1) (vecV (L.getD j (0, [])).2), fun c hc => by rw [hjn]; exact cellR_at L j c hc, rfl⟩, ?_⟩
        refine ⟨_, rfl, ?_⟩
        refine ⟨_, rfl, ?_⟩
        refine ⟨_, ⟨[], _, hG', by rintro r h ⟨rfl, rfl⟩; exact ⟨.inl rfl, rfl, rfl⟩⟩, ?_⟩
        exact ⟨trivial, (j + 1, G'), [], ⟨by show j + 1 ≤ L.length; omega, jG⟩, by show L.length - (j + 1) < L.length - j; omega, lehN _,
          ⟨.same _ trivial, .tt, leI rfl, .same _ trivial, .same _ trivial, .same _ trivial, .same _ trivial, .same _ trivial, leI e1, trivial⟩⟩
      · have f2 : ¬ (j : Int) < L.length := no d2
        obtain rfl : j = L.length := by omega
        rw [List.take_of_length_le (Nat.le_refl _)] at iG
        have eG : A = G := same iG fun p => by simp
        subst eG
        refine ⟨fun _ => ?_, fun e => absurd (by rw [iA.1]) (no e)⟩
        refine ⟨[], _, c1, ?_⟩
        rintro r hh ⟨rfl, rfl⟩
        refine ⟨.inl rfl, ?_⟩
        refine ⟨[], _, c2, ?_⟩
        rintro r hh ⟨rfl, rfl⟩
        refine ⟨.inl rfl, ?_⟩
        refine ⟨[], _, c2, ?_⟩
        rintro r hh ⟨rfl, rfl⟩
        refine ⟨.inl rfl, ?_⟩
        refine ⟨[], _, c3, ?_⟩
        rintro r hh ⟨rfl, rfl⟩
        refine ⟨.inl rfl, ?_⟩
        refine ⟨[], _, c2, ?_⟩
        rintro r hh ⟨rfl, rfl⟩
        refine ⟨.inl rfl, ?_⟩
        refine ⟨[], _, c4, ?_⟩
        rintro r hh ⟨rfl, rfl⟩
        refine ⟨.inl rfl, ?_⟩
        refine ⟨[], _, c2, ?_⟩
        rintro r hh ⟨rfl, rfl⟩
        refine ⟨.inl rfl, ?_⟩
        exact ⟨[], [], .tt, lehN _, .tt, rfl, rfl⟩


end
end Go.Proofs.YthckagkciefliaaDoor.Mt
