import Derived.Test.YthckagkciefliaaGreatDoorFwD
import Derived.Lib.Join
import Derived.Lib.Bytealg
import Derived.Test.YthckagkciefliaaGreatDoorShelfN
import Derived.Laws.RangeString
import Derived.RangeFuncNested
import Derived.RangeFuncBound
import Derived.RangeFuncCalls
import Derived.RangeFuncLeaves
import Derived.Shelf.Abstract
import Derived.Shelf.RegionOpen
import Derived.WalkKit
import Derived.OwnWalkIn
import Derived.TacticsInMore
import Derived.LoopNIn
import Derived.LoopIn
import Derived.Lib.ItoaLen
import Derived.Lib.ParseIntBTie
import GoSem.Core.Float
import Derived.Laws.ComplexArith
import Derived.Test.YthckagkciefliaaGreatDoorProg
import Derived.Below

/-
  Texts that are cut at a sign, and put together with it. No program in sight.
-/
set_option linter.unusedVariables false
namespace Go.Proofs.YthckagkciefliaaGreatDoor.Spl
open Go AL

def pieces (c : UInt8) : List UInt8 → List (List UInt8)
  | [] => [[]]
  | x :: l => if x = c then [] :: pieces c l else match pieces c l with
    | p :: ps => (x :: p) :: ps
    | [] => [[x]]
def joinC (c : UInt8) : List (List UInt8) → List UInt8
  | [] => []
  | p :: r => p ++ r.flatMap fun q => c :: q
theorem pieces_ne (c : UInt8) : ∀ l, pieces c l ≠ []
  | [] => by simp [pieces]
  | x :: l => by
    unfold pieces
    split
    · simp
    · split <;> simp
theorem pieces_one {c : UInt8} : ∀ {a : List UInt8}, (∀ x ∈ a, x ≠ c) → pieces c a = [a]
  | [], _ => rfl
  | x :: a, h => by
    unfold pieces
    rw [if_neg (h x (by simp)), pieces_one fun y hy => h y (by simp [hy])]
theorem pieces_app {c : UInt8} (b : List UInt8) : ∀ {a : List UInt8}, (∀ x ∈ a, x ≠ c) → pieces c (a ++ c :: b) = a :: pieces c b
  | [], _ => by simp [pieces]
  | x :: a, h => by
    rw [List.cons_append]
    conv => lhs; unfold pieces
    rw [if_neg (h x (by simp)), pieces_app b fun y hy => h y (by simp [hy])]
theorem pieces_free {c : UInt8} : ∀ {l : List UInt8}, ∀ p ∈ pieces c l, ∀ x ∈ p, x ≠ c
  | [], p, h, x, hx => by simp [pieces] at h; subst h; cases hx
  | y :: l, p, h, x, hx => by
    unfold pieces at h
    split at h
    · rcases List.mem_cons.1 h with rfl | h
      · cases hx
      · exact pieces_free p h x hx
    · rename_i hy
      split at h
      · rename_i q qs e
        rcases List.mem_cons.1 h with rfl | h
        · rcases List.mem_cons.1 hx with rfl | hx
          · exact hy
          · exact pieces_free q (by rw [e]; simp) x hx
        · exact pieces_free p (by rw [e]; simp [h]) x hx
      · rename_i e; exact absurd e (pieces_ne c l)
theorem join_pieces (c : UInt8) : ∀ l, joinC c (pieces c l) = l
  | [] => rfl
  | x :: l => by
    have ih := join_pieces c l
    unfold pieces
    split
    · rename_i e
      subst e
      cases h : pieces x l with
      | nil => exact absurd h (pieces_ne x l)
      | cons p ps =>
        rw [h] at ih
        simp only [joinC, List.nil_append, List.flatMap_cons] at ih ⊢
        rw [List.cons_append, ih]
    · split
      · rename_i p ps e
        rw [e] at ih
        simp only [joinC, List.cons_append] at ih ⊢
        rw [ih]
      · rename_i e; exact absurd e (pieces_ne c l)
theorem join_cons (c : UInt8) (p q : List UInt8) (r : List (List UInt8)) : joinC c (p :: q :: r) = p ++ c :: joinC c (q :: r) := by
  simp [joinC]
theorem pieces_join {c : UInt8} : ∀ {ps : List (List UInt8)}, ps ≠ [] → (∀ p ∈ ps, ∀ x ∈ p, x ≠ c) → pieces c (joinC c ps) = ps
  | [], h, _ => absurd rfl h
  | [p], _, h => by
    have : joinC c [p] = p := by simp [joinC]
    rw [this, pieces_one (h p (by simp))]
  | p :: q :: r, _, h => by
    rw [join_cons, pieces_app _ (h p (by simp)), pieces_join (by simp) fun x hx => h x (by simp [hx])]
theorem join_snoc (c : UInt8) (p : List UInt8) : ∀ {ps : List (List UInt8)}, ps ≠ [] → joinC c (ps ++ [p]) = joinC c ps ++ c :: p
  | [], h => absurd rfl h
  | q :: r, _ => by simp [joinC]
theorem lib_join (c : UInt8) : ∀ ps, Lib.join ps [c] = joinC c ps
  | [] => rfl
  | p :: r => by
    rw [Lib.join_cons]
    show p ++ (List.map (fun x => [c] ++ x) r).flatten = p ++ List.flatMap (fun q => c :: q) r
    rw [List.flatMap_def]
    rfl
theorem pieces_len (c : UInt8) : ∀ l, (pieces c l).length = l.count c + 1
  | [] => rfl
  | x :: l => by
    have ih := pieces_len c l
    unfold pieces
    split
    · rename_i e; subst e; simp [ih]
    · rename_i hne
      split
      · rename_i p ps e
        rw [e] at ih
        rw [List.count_cons_of_ne hne]
        simpa using ih
      · rename_i e; exact absurd e (pieces_ne c l)
theorem join_inj {c : UInt8} {ps qs : List (List UInt8)} (hp : ps ≠ []) (hq : qs ≠ []) (fp : ∀ p ∈ ps, ∀ x ∈ p, x ≠ c) (fq : ∀ p ∈ qs, ∀ x ∈ p, x ≠ c) (h : joinC c ps = joinC c qs) : ps = qs := by
  rw [← pieces_join hp fp, h, pieces_join hq fq]
/-- The place of the first sign. -/
theorem pieces_cut {c : UInt8} {l : List UInt8} {k : Nat} (hk : k < l.length) (hc : l[k] = c) (hn : ∀ i (hi : i < k), l[i]'(by omega) ≠ c) : pieces c l = l.take k :: pieces c (l.drop (k + 1)) := by
  have e : l = l.take k ++ c :: l.drop (k + 1) := by
    conv => lhs; rw [← List.take_append_drop k l, List.drop_eq_getElem_cons hk, hc]
  conv => lhs; rw [e]
  rw [pieces_app]
  intro x hx
  obtain ⟨i, hi, rfl⟩ := List.getElem_of_mem hx
  have : i < k := by simp at hi; omega
  rw [List.getElem_take]
  exact hn i this

theorem rest_last {c : UInt8} {ps : List (List UInt8)} {k : Nat} (h : k + 1 = ps.length) : joinC c (ps.drop k) = ps.getD k [] := by
  have hk : k < ps.length := by omega
  rw [List.drop_eq_getElem_cons hk, List.drop_eq_nil_of_le (by omega), List.getD_eq_getElem?_getD, List.getElem?_eq_getElem hk]
  simp [joinC]
theorem rest_more {c : UInt8} {ps : List (List UInt8)} {k : Nat} (h : k + 1 < ps.length) : joinC c (ps.drop k) = ps.getD k [] ++ c :: joinC c (ps.drop (k + 1)) := by
  have hk : k < ps.length := by omega
  rw [List.drop_eq_getElem_cons hk, List.drop_eq_getElem_cons h, join_cons, List.getD_eq_getElem?_getD, List.getElem?_eq_getElem hk]
  rfl
/-- Where a piece begins. -/
def pre (ps : List (List UInt8)) : Nat → Nat
  | 0 => 0
  | k + 1 => pre ps k + (ps.getD k []).length + 1
theorem pre_drop (c : UInt8) (ps : List (List UInt8)) : ∀ k, k < ps.length → (joinC c ps).drop (pre ps k) = joinC c (ps.drop k)
  | 0, _ => rfl
  | k + 1, h => by
    have ih := pre_drop c ps k (by omega)
    rw [rest_more (by omega)] at ih
    show (joinC c ps).drop (pre ps k + (ps.getD k []).length + 1) = _
    rw [Nat.add_assoc, ← List.drop_drop, ih, List.drop_append, List.drop_eq_nil_of_le (by omega)]
    simp
theorem pre_end (c : UInt8) {ps : List (List UInt8)} {k : Nat} (h : k + 1 = ps.length) (hp : pre ps k ≤ (joinC c ps).length) : pre ps k + (ps.getD k []).length = (joinC c ps).length := by
  have h1 := pre_drop c ps k (by omega)
  rw [rest_last h] at h1
  have := congrArg List.length h1
  rw [List.length_drop] at this
  omega
theorem pre_le (c : UInt8) (ps : List (List UInt8)) : ∀ k, k < ps.length → pre ps k ≤ (joinC c ps).length
  | 0, _ => Nat.zero_le _
  | k + 1, h => by
    have h0 := pre_le c ps k (by omega)
    have h1 := pre_drop c ps k (by omega)
    rw [rest_more (by omega)] at h1
    have := congrArg List.length h1
    rw [List.length_drop, List.length_append, List.length_cons] at this
    show pre ps k + (ps.getD k []).length + 1 ≤ _
    omega
theorem pre_get {c : UInt8} {ps : List (List UInt8)} {k j : Nat} (hk : k < ps.length) (hj : j < (ps.getD k []).length) : (joinC c ps)[pre ps k + j]? = (ps.getD k [])[j]? := by
  have h1 := pre_drop c ps k hk
  have : ((joinC c ps).drop (pre ps k))[j]? = (ps.getD k [])[j]? := by
    rw [h1]
    rcases Nat.lt_or_ge (k + 1) ps.length with h | h
    · rw [rest_more h, List.getElem?_append_left hj]
    · rw [rest_last (by omega)]
  rwa [List.getElem?_drop] at this
theorem pre_sep {c : UInt8} {ps : List (List UInt8)} {k : Nat} (hk : k + 1 < ps.length) : (joinC c ps)[pre ps k + (ps.getD k []).length]? = some c := by
  have h1 := pre_drop c ps k (by omega)
  have : ((joinC c ps).drop (pre ps k))[(ps.getD k []).length]? = some c := by
    rw [h1, rest_more hk, List.getElem?_append_right (Nat.le_refl _)]
    simp
  rwa [List.getElem?_drop] at this
theorem pre_piece {c : UInt8} {ps : List (List UInt8)} {k : Nat} (hk : k < ps.length) : ((joinC c ps).take (pre ps k + (ps.getD k []).length)).drop (pre ps k) = ps.getD k [] := by
  have h1 := pre_drop c ps k hk
  rw [List.drop_take, h1, show pre ps k + (ps.getD k []).length - pre ps k = (ps.getD k []).length by omega]
  rcases Nat.lt_or_ge (k + 1) ps.length with h | h
  · rw [rest_more h, List.take_append_of_le_length (Nat.le_refl _), List.take_of_length_le (Nat.le_refl _)]
  · rw [rest_last (by omega), List.take_of_length_le (Nat.le_refl _)]
theorem piece_len {c : UInt8} {ps : List (List UInt8)} {k : Nat} (hk : k < ps.length) : (ps.getD k []).length ≤ (joinC c ps).length := by
  have := congrArg List.length (pre_piece (c := c) hk)
  rw [List.length_drop, List.length_take] at this
  omega
theorem rest_len (c : UInt8) (ps : List (List UInt8)) (k : Nat) (hk : k < ps.length) : (joinC c (ps.drop k)).length ≤ (joinC c ps).length := by
  have := congrArg List.length (pre_drop c ps k hk)
  rw [List.length_drop] at this
  omega
/-- The first sign of a text. -/
theorem index_app {c : UInt8} (b : List UInt8) : ∀ {a : List UInt8}, (∀ x ∈ a, x ≠ c) → Lib.indexByte (a ++ c :: b) c = (a.length : Int)
  | [], _ => by simp [Lib.indexByte]
  | x :: a, h => by
    have ih := index_app b (a := a) fun y hy => h y (by simp [hy])
    rw [List.cons_append]
    unfold Lib.indexByte
    have hx : (x == c) = false := by simpa using h x (by simp)
    have h2 : (Lib.indexByte (a ++ c :: b) c == -1) = false := by rw [ih]; simp
    rw [if_neg (by rw [hx]; decide), h2, ih]
    simp

end Go.Proofs.YthckagkciefliaaGreatDoor.Spl

/-
  The contract of strings.Split at a text of one sign.
-/
set_option linter.unusedVariables false
set_option linter.unusedSectionVars false
namespace Go.Proofs.YthckagkciefliaaGreatDoor.Spl
open Go AL

def bA (p : List UInt8) : ByteArray := ⟨p.toArray⟩
theorem bA_data (s : ByteArray) : bA s.data.toList = s := by unfold bA; cases s; simp
theorem bA_list (p : List UInt8) : (bA p).data.toList = p := by simp [bA]
theorem bA_size (p : List UInt8) : (bA p).size = p.length := by show p.toArray.size = _; simp
def sAt (ps : List ByteArray) (i : Nat) : ByteArray := ps.getD i ByteArray.empty
def pcs (c : UInt8) (s : ByteArray) : List ByteArray := (pieces c s.data.toList).map bA
theorem pcs_at {c : UInt8} {s : ByteArray} {k : Nat} (h : k < (pieces c s.data.toList).length) : sAt (pcs c s) k = bA ((pieces c s.data.toList).getD k []) := by
  unfold sAt pcs
  rw [List.getD_eq_getElem?_getD, List.getElem?_map, List.getElem?_eq_getElem h, List.getD_eq_getElem?_getD, List.getElem?_eq_getElem h]
  rfl
/-- The cells of the row of pieces, the first k of them filled. -/
def cellS (ps : List ByteArray) (k i : Nat) : ByteArray := if i < k then sAt ps i else ByteArray.empty
theorem cellS_new (P : List ByteArray) (k : Nat) : cellS P (k + 1) k = sAt P k := if_pos (Nat.lt_succ_self k)
theorem cellS_old (P : List ByteArray) {k i : Nat} (h : i ≠ k) : cellS P (k + 1) i = cellS P k i := by
  unfold cellS
  by_cases h2 : i < k
  · rw [if_pos h2, if_pos (by omega)]
  · rw [if_neg h2, if_neg (by omega)]
theorem bA_ext {s t : ByteArray} (h : s.data.toList = t.data.toList) : s = t := by rw [← bA_data s, h, bA_data]
theorem ext_list (s : ByteArray) (a b : Nat) : (s.extract a b).data.toList = (s.data.toList.take b).drop a := by
  rw [ByteArray.data_extract, Array.toList_extract]
  simp [List.drop_take]
theorem cut_left (p b : List UInt8) (c : UInt8) : (bA (p ++ c :: b)).extract 0 p.length = bA p := by
  refine bA_ext ?_
  rw [ext_list, bA_list, bA_list, List.drop_zero, List.take_append_of_le_length (Nat.le_refl _), List.take_of_length_le (Nat.le_refl _)]
theorem cut_right (p b : List UInt8) (c : UInt8) : (bA (p ++ c :: b)).extract (p.length + 1) (bA (p ++ c :: b)).size = bA b := by
  refine bA_ext ?_
  rw [ext_list, bA_list, bA_list, bA_size, List.take_of_length_le (Nat.le_refl _), List.drop_append, List.drop_eq_nil_of_le (by omega)]
  simp

section
variable [Globs]
abbrev textsV (ps : List ByteArray) : AV := .ro ps.length 1 fun i => str (sAt ps i)

theorem giveTexts {h : List AO} {l : List Nat} {id off len n : Nat} {f : Nat → AV} {ps : List ByteArray} (e : h[id]? = some (.row n f)) (hl : id ∉ l) (ho : off = 0) (he : len = ps.length) (hb : ps.length ≤ n) (hf : ∀ i, i < ps.length → f i = str (sAt ps i)) :
    LeV h l (.own id off len 1) (textsV ps) := by
  subst ho he
  exact .giveR _ e hl (by omega) (fun i hi => by rw [Nat.zero_add, hf i (by omega)]; exact .raw _) fun i hi => trivial

theorem countOne_prog (s : ByteArray) (c : UInt8) : ACalls Tryz.prog 117 [str s, str ⟨#[c]⟩] [] (fun r h => r = int .i64 (Lib.countByte s.data.toList c) ∧ h = []) :=
  acalls_same (args := [.string s, .string ⟨#[c]⟩]) ⟨_, Tryz.func117, by decide, rfl⟩ fun w => Tryz.strings_Count_one s c w

theorem indexOne_prog (s : ByteArray) (c : UInt8) : ACalls Tryz.prog 118 [str s, str ⟨#[c]⟩] [] (fun r h => r = int .i64 (Lib.indexByte s.data.toList c) ∧ h = []) :=
  acalls_same (args := [.string s, .string ⟨#[c]⟩]) ⟨_, Tryz.func118, by decide, rfl⟩ fun w => Tryz.strings_Index_one s c w

set_option maxHeartbeats 2000000 in
set_option maxRecDepth 10000 in
theorem genSplit_prog (s : ByteArray) (c : UInt8) (hs : s.size ≤ 1099511627776) : ACalls Tryz.prog 90 [str s, str ⟨#[c]⟩, int .i64 0, int .i64 (-1)] [] (fun r h => r = textsV (pcs c s) ∧ h = []) := by
  have hl : s.data.toList.length = s.size := rfl
  obtain ⟨ps, hps⟩ : ∃ ps, pieces c s.data.toList = ps := ⟨_, rfl⟩
  have hne : 0 < ps.length := by rw [← hps, pieces_len]; omega
  have hcnt : (Lib.countByte s.data.toList c : Int) = ps.length - 1 := by
    rw [← hps, pieces_len]; unfold Lib.countByte; omega
  have hcle : ps.length ≤ s.size + 1 := by
    rw [← hps, pieces_len, ← hl]
    have := List.count_le_length (a := c) (l := s.data.toList)
    omega
  have hjoin : joinC c ps = s.data.toList := by rw [← hps, join_pieces]
  have hfree : ∀ p ∈ ps, ∀ x ∈ p, x ≠ c := by rw [← hps]; exact pieces_free
  have hP : ∀ k, k < ps.length → sAt (pcs c s) k = bA (ps.getD k []) := fun k hk => by rw [← hps]; exact pcs_at (by rw [hps]; exact hk)
  have hPl : (pcs c s).length = ps.length := by unfold pcs; rw [hps]; simp
  have h0 : bA (joinC c (ps.drop 0)) = s := by rw [List.drop_zero, hjoin, bA_data]
  have hrl := rest_len c ps
  rw [hjoin, hl] at hrl
  have hC := countOne_prog s c
  rw [hcnt] at hC
  clear hps hcnt
  generalize pcs c s = P at *
  have m1 : IntKind.i64.wrap ((ps.length : Int) - 1 + 1) = ps.length := by rw [w64 (by omega) (by omega)]; omega
  have m2 : min (IntKind.i64.wrap ((ps.length : Int) - 1 + 1)) (IntKind.i64.wrap ((s.size : Int) + 1)) = ps.length := by rw [m1, w64 (by omega) (by omega)]; omega
  have m3 : IntKind.i64.wrap (min (IntKind.i64.wrap ((ps.length : Int) - 1 + 1)) (IntKind.i64.wrap ((s.size : Int) + 1)) - 1) = ps.length - 1 := by rw [m2, w64 (by omega) (by omega)]
  have m4 : (min (IntKind.i64.wrap ((ps.length : Int) - 1 + 1)) (IntKind.i64.wrap ((s.size : Int) + 1))).toNat = ps.length := by rw [m2]; omega
  refine rcalls Tryz.func90 rfl (by decide) ?_
  refine ⟨fun g => absurd (yes g) (by decide), fun _ => ?_⟩
  refine ⟨fun g => absurd (congrArg ByteArray.size (yes g)) (by show ¬ (1 : Nat) = 0; omega), fun _ => ?_⟩
  refine ⟨fun _ => ?_, fun g => absurd (by decide) (no g)⟩
  refine ⟨[], _, hC, ?_⟩
  rintro r hh ⟨rfl, rfl⟩
  refine ⟨.inl rfl, ?_⟩
  refine ⟨⟨by rw [m2]; omega, Int.le_refl _, by rw [m2]; omega, by rw [m2]; show (ps.length : Int) * 16 ≤ _; omega⟩, ?_⟩
  refine ⟨Nat, fun k => [(0, str (bA (joinC c (ps.drop k)))), (1, str ⟨#[c]⟩), (2, int .i64 0), (3, int .i64 (ps.length - 1)), (9, .own 0 0 ps.length 1), (10, int .i64 k)], fun k => [.row (ps.length * 1) fun i => str (cellS P k i)], fun k => k + 1 ≤ ps.length, fun k => ps.length - k,
    ⟨0, [0], by omega, leh1 rfl (.row _ _ _ _ (by rw [m4]; exact Nat.le_refl _) fun i hi => ?_), ⟨leS h0.symm, leS rfl, leI rfl, leI m3, leOwn rfl rfl m4, leI rfl, trivial⟩⟩, ?_⟩
  · rw [Nat.mod_one]
    exact leS (by unfold cellS; rw [if_neg (Nat.not_lt_zero _)]; rfl)
  intro k hk
  have hk : k + 1 ≤ ps.length := hk
  have hin : (0 : Int) ≤ k ∧ (k : Int) < ps.length := ⟨by omega, by omega⟩
  have hoff : addOff 0 (k : Int).toNat 1 = k := by simp [addOff]
  refine ⟨fun g => ?_, fun g => ?_⟩
  · have g1 : (k : Int) < ps.length - 1 := yes g
    have hm := rest_more (c := c) (ps := ps) (k := k) (by omega)
    have hrk := hrl k (by omega)
    have hpk : ∀ x ∈ ps.getD k [], x ≠ c := by
      rw [List.getD_eq_getElem?_getD, List.getElem?_eq_getElem (by omega)]
      exact hfree _ (List.getElem_mem _)
    have hI := indexOne_prog (bA (joinC c (ps.drop k))) c
    rw [bA_list, hm, index_app _ hpk] at hI
    have hPk := hP k (by omega)
    rw [hm] at hrk
    rw [hm]
    obtain ⟨B, hB⟩ : ∃ B, joinC c (ps.drop (k + 1)) = B := ⟨_, rfl⟩
    rw [hB] at hI hm hrk ⊢
    generalize ps.getD k [] = p at *
    have hsz : (bA (p ++ c :: B)).size = p.length + 1 + B.length := by rw [bA_size, List.length_append, List.length_cons]; omega
    rw [List.length_append, List.length_cons] at hrk
    have e1 : IntKind.i64.wrap ((k : Int) + 1) = ((k + 1 : Nat) : Int) := by rw [w64 (by omega) (by omega)]; omega
    have e2 : IntKind.i64.wrap ((p.length : Int) + 0) = p.length := by rw [w64 (by omega) (by omega)]; omega
    have e3 : IntKind.i64.wrap ((p.length : Int) + ((⟨#[c]⟩ : ByteArray).size : Int)) = (p.length : Int) + 1 := by show IntKind.i64.wrap ((p.length : Int) + 1) = _; rw [w64 (by omega) (by omega)]
    have q2 : (IntKind.i64.wrap ((p.length : Int) + 0)).toNat = p.length := by rw [e2]; omega
    have q3 : (IntKind.i64.wrap ((p.length : Int) + ((⟨#[c]⟩ : ByteArray).size : Int))).toNat = p.length + 1 := by rw [e3]; omega
    refine ⟨[], _, hI, ?_⟩
    rintro r hh ⟨rfl, rfl⟩
    refine ⟨.inl rfl, ?_⟩
    refine ⟨fun g => absurd (yes g) (by omega), fun _ => ?_⟩
    refine ⟨⟨by rw [e2]; omega, by rw [e2, hsz]; omega⟩, ?_⟩
    refine ⟨hin, ?_⟩
    refine ⟨by rw [hoff]; omega, fun i => str (cellS P (k + 1) i), fun i hi => ?_, ?_⟩
    · rw [hoff]
      by_cases h : i = k
      · rw [if_pos h, h, q2, cut_left]
        show str (cellS P (k + 1) k) = _
        rw [cellS_new, hPk]
      · rw [if_neg h]
        show str (cellS P (k + 1) i) = str (cellS P k i)
        rw [cellS_old P h]
    refine ⟨⟨by rw [e3]; omega, by rw [e3, hsz]; omega⟩, ?_⟩
    refine ⟨trivial, k + 1, [0], by show k + 1 + 1 ≤ ps.length; omega, by show ps.length - (k + 1) < ps.length - k; omega, leh1 rfl (.row _ _ _ _ (Nat.le_refl _) fun i hi => .raw _), ⟨leS ?_, leS rfl, leI rfl, leI rfl, leOwn rfl rfl rfl, leI e1, trivial⟩⟩
    rw [hB]
    show (bA (p ++ c :: B)).extract (IntKind.i64.wrap ((p.length : Int) + ((⟨#[c]⟩ : ByteArray).size : Int))).toNat (bA (p ++ c :: B)).size = bA B
    rw [q3, cut_right]
  · have g1 : ¬ (k : Int) < ps.length - 1 := no g
    have hlast : k + 1 = ps.length := by omega
    have hm := rest_last (c := c) hlast
    have hPk := hP k (by omega)
    have e1 : (IntKind.i64.wrap ((k : Int) + 1)).toNat = ps.length := by rw [w64 (by omega) (by omega)]; omega
    have e2 : 0 ≤ IntKind.i64.wrap ((k : Int) + 1) ∧ IntKind.i64.wrap ((k : Int) + 1) ≤ (ps.length : Int) := by rw [w64 (by omega) (by omega)]; omega
    rw [hm]
    refine ⟨hin, ?_⟩
    refine ⟨by rw [hoff]; omega, fun i => str (cellS P ps.length i), fun i hi => ?_, ?_⟩
    · rw [hoff, ← hlast]
      by_cases h : i = k
      · rw [if_pos h, h]
        show str (cellS P (k + 1) k) = _
        rw [cellS_new, hPk]
      · rw [if_neg h]
        show str (cellS P (k + 1) i) = str (cellS P k i)
        rw [cellS_old P h]
    refine ⟨e2, ?_⟩
    refine ⟨[], [], _, lehN _, ?_, rfl, rfl⟩
    refine giveTexts rfl (by simp) (by simp [addOff]) (by rw [hPl, Nat.sub_zero]; exact e1) (by rw [hPl]; omega) fun i hi => ?_
    show str (cellS P ps.length i) = str (sAt P i)
    unfold cellS
    rw [if_pos (by omega)]

set_option maxHeartbeats 2000000 in
set_option maxRecDepth 10000 in
theorem split_prog (s : ByteArray) (c : UInt8) (hs : s.size ≤ 1099511627776) : ACalls Tryz.prog 39 [str s, str ⟨#[c]⟩] [] (fun r h => r = textsV (pcs c s) ∧ h = []) := by
  have h1 := genSplit_prog s c hs
  generalize pcs c s = P at *
  refine rcalls Tryz.func39 rfl (by decide) ?_
  refine ⟨[], _, h1, ?_⟩
  rintro r hh ⟨rfl, rfl⟩
  refine ⟨.inl rfl, ?_⟩
  exact ⟨[], [], _, lehN _, .same _ trivial, rfl, rfl⟩

end
end Go.Proofs.YthckagkciefliaaGreatDoor.Spl

/-
  Parts of paths: what they are, and what the document's own functions say of them.
-/
set_option linter.unusedVariables false
set_option linter.unusedSectionVars false
namespace Go.Proofs.YthckagkciefliaaGreatDoor.Pa
open Go AL Spl

/-- May a byte stand in a part? -/
def letN (c : Int) : Bool := decide (97 ≤ c ∧ c ≤ 122 ∨ 65 ≤ c ∧ c ≤ 90 ∨ 48 ≤ c ∧ c ≤ 57 ∨ c = 45 ∨ c = 46 ∨ c = 95 ∨ c = 43 ∨ c = 126)
def allL (xs : List Int) : Bool := xs.all letN
def letters : ByteArray := ⟨#[97, 98, 99, 100, 101, 102, 103, 104, 105, 106, 107, 108, 109, 110, 111, 112, 113, 114, 115, 116, 117, 118, 119, 120, 121, 122, 65, 66, 67, 68, 69, 70, 71, 72, 73, 74, 75, 76, 77, 78, 79, 80, 81, 82, 83, 84, 85, 86, 87, 88, 89, 90, 48, 49, 50, 51, 52, 53, 54, 55, 56, 57, 45, 46, 95, 43, 126]⟩
def one : ByteArray := ⟨#[46]⟩
def two : ByteArray := ⟨#[46, 46]⟩
def okPart (p : ByteArray) : Prop := 1 ≤ p.size ∧ p.size ≤ 100 ∧ p ≠ one ∧ p ≠ two ∧ ∀ k, k < p.size → letN ((intsOf p).getD k 0) = true
instance (p : ByteArray) : Decidable (okPart p) := by unfold okPart; infer_instance

section
variable [Globs]

set_option maxHeartbeats 2000000 in
set_option maxRecDepth 10000 in
theorem letter_ref (c : Int) : ACalls Tryz.prog 176 [int .u8 c] [] (fun r h => r = bool (letN c) ∧ h = []) := by
  obtain ⟨B, hB⟩ : ∃ B, letN c = B := ⟨_, rfl⟩
  have hB' := hB
  unfold letN at hB'
  rw [hB]
  refine rcalls Tryz.func176 rfl (by decide) ?_
  repeat' (first | (refine ⟨fun h => ?_, fun h => ?_⟩ <;> first | replace h := yes h | replace h := no h) | fail)
  all_goals first
    | exact ⟨[], [], _, lehN _, leTB (by rw [← hB']; exact decide_eq_true (by omega)), rfl, rfl⟩
    | exact ⟨[], [], _, lehN _, leB (by rw [← hB']; exact decide_eq_decide.2 (by omega)), rfl, rfl⟩

set_option maxHeartbeats 2000000 in
set_option maxRecDepth 10000 in
theorem part_ref (s : ByteArray) (hs : s.size ≤ 9223372036854775806) : ACalls Tryz.prog 165 [str s] [] (fun r h => r = bool (decide (okPart s)) ∧ h = []) := by
  have hP : okPart s ↔ _ := Iff.rfl
  obtain ⟨B, hB⟩ : ∃ B, decide (okPart s) = B := ⟨_, rfl⟩
  rw [hB]
  have hf : ¬ okPart s → B = false := fun h => by rw [← hB]; exact decide_eq_false h
  have hl := letter_ref
  refine rcalls Tryz.func165 rfl (by decide) ?_
  refine ⟨Nat, fun k => [(0, str s), (3, int .i64 k)], fun _ => [], fun k => k ≤ s.size ∧ ∀ i, i < k → letN ((intsOf s).getD i 0) = true, fun k => s.size - k,
    ⟨0, [], ⟨Nat.zero_le _, by simp⟩, lehN _, ⟨leS rfl, leI rfl, trivial⟩⟩, ?_⟩
  rintro k ⟨hk, hj⟩
  refine ⟨fun c => ?_, fun c => ?_⟩
  · have f1 : (k : Int) < s.size := yes c
    have e1 : IntKind.i64.wrap ((k : Int) + 1) = ((k + 1 : Nat) : Int) := by rw [w64 (by omega) (by omega)]; omega
    have hlk := hl ((intsOf s).getD k 0)
    refine ⟨⟨by omega, f1⟩, ?_⟩
    refine ⟨[], _, hlk, ?_⟩
    rintro r hh ⟨rfl, rfl⟩
    refine ⟨.inl rfl, ?_⟩
    refine ⟨fun c2 => ?_, fun c2 => ?_⟩
    · exact ⟨[], [], _, lehN _, leFB (hf fun h => by have := h.2.2.2.2 k (by omega); rw [this] at c2; cases c2), rfl, rfl⟩
    · refine ⟨trivial, k + 1, [], ⟨by show k + 1 ≤ _; omega, fun i hi => ?_⟩, by show s.size - (k + 1) < s.size - k; omega, lehN _, ⟨leS rfl, leI e1, trivial⟩⟩
      rcases Nat.lt_or_ge i k with h | h
      · exact hj i h
      · rw [show i = k by omega]; exact unnot c2
  · have f1 : ¬ (k : Int) < s.size := no c
    obtain rfl : k = s.size := by omega
    refine ⟨fun c1 => ⟨fun c2 => ⟨fun c3 => ?_, fun c3 => ?_⟩, fun c2 => ?_⟩, fun c1 => ?_⟩
    · refine ⟨[], [], _, lehN _, leB ?_, rfl, rfl⟩
      rw [← hB]
      exact decide_eq_decide.2 ⟨fun h => ⟨by have := yes c1; omega, by have := yes c2; omega, yes c3, h, hj⟩, fun h => h.2.2.2.1⟩
    · exact ⟨[], [], _, lehN _, leFB (hf fun h => no c3 h.2.2.1), rfl, rfl⟩
    · exact ⟨[], [], _, lehN _, leFB (hf fun h => no c2 (by have := h.2.1; omega)), rfl, rfl⟩
    · exact ⟨[], [], _, lehN _, leFB (hf fun h => no c1 (by have := h.1; omega)), rfl, rfl⟩

end
end Go.Proofs.YthckagkciefliaaGreatDoor.Pa

/-
  The library's Trim at the letters of a part.
-/
set_option linter.unusedVariables false
set_option linter.unusedSectionVars false
namespace Go.Proofs.YthckagkciefliaaGreatDoor.Pa
open Go AL Spl

/-- Is i one of the first k letters? -/
def hasK (k i : Nat) : Bool := (List.range k).any fun j => decide ((intsOf letters).getD j 0 = i)
theorem has_all : ∀ i, i < 256 → hasK 67 i = letN i := by decide +kernel
theorem has_zero (i : Nat) : hasK 0 i = false := rfl
theorem has_succ (k i : Nat) : hasK (k + 1) i = (hasK k i || decide ((intsOf letters).getD k 0 = i)) := by
  unfold hasK
  rw [List.range_succ, List.any_append]
  simp
theorem letters_small : ∀ k, k < 67 → 0 ≤ (intsOf letters).getD k 0 ∧ (intsOf letters).getD k 0 < 128 := by decide +kernel
theorem letters_size : letters.size = 67 := rfl

section
variable [Globs]
abbrev setV : Nat → AV := fun i => bool (letN i)

set_option maxHeartbeats 2000000 in
set_option maxRecDepth 10000 in
theorem makeSet_prog : ACalls Tryz.prog 180 [str letters] [] (fun r h => r = .tup 2 (pair (.agg 256 setV) .tt) ∧ h = []) := by
  have hall := has_all
  have h0 := has_zero
  have hsu := has_succ
  have hsm := letters_small
  have hsz := letters_size
  generalize letters = s at *
  refine rcalls Tryz.func180 rfl (by decide) ?_
  refine ⟨rfl, ?_⟩
  refine ⟨Nat, fun k => [(0, str s), (2, .ptr 0 0), (4, int .i64 k)], fun k => [.row 256 fun i => bool (hasK k i)], fun k => k ≤ 67, fun k => 67 - k,
    ⟨0, [0], by omega, leh1 rfl (.row _ _ _ _ (Nat.le_refl _) fun i hi => leB (h0 i).symm), ⟨leS rfl, .ptr _ rfl, leI rfl, trivial⟩⟩, ?_⟩
  intro k hk
  have hk : k ≤ 67 := hk
  refine ⟨fun c => ?_, fun c => ?_⟩
  · have f1 : (k : Int) < s.size := yes c
    have hk' : k < 67 := by omega
    have e1 : IntKind.i64.wrap ((k : Int) + 1) = ((k + 1 : Nat) : Int) := by rw [w64 (by omega) (by omega)]; omega
    obtain ⟨b1, b2⟩ := hsm k hk'
    have hs1 := hsu k
    have hto : ((k : Int)).toNat = k := by omega
    refine ⟨⟨by omega, f1⟩, ?_⟩
    refine ⟨fun c2 => ?_, fun c2 => ?_⟩
    · have := yes c2; rw [hto] at this; omega
    have f2 : (0 : Int) ≤ (intsOf s).getD ((k : Int)).toNat 0 ∧ (intsOf s).getD ((k : Int)).toNat 0 < 128 := by rw [hto]; exact ⟨b1, b2⟩
    have ho : addOff 0 ((intsOf s).getD ((k : Int)).toNat 0).toNat 1 = ((intsOf s).getD k 0).toNat := by
      rw [hto]; unfold addOff; omega
    refine ⟨⟨f2.1, by show (intsOf s).getD ((k : Int)).toNat 0 < 256; omega⟩, ?_⟩
    refine ⟨by show addOff 0 ((intsOf s).getD ((k : Int)).toNat 0).toNat 1 < 256; rw [ho]; omega, fun i => if i = ((intsOf s).getD k 0).toNat then .tt else bool (hasK k i), fun i hi => ?_, ?_⟩
    · show _ = if i = addOff 0 ((intsOf s).getD ((k : Int)).toNat 0).toNat 1 then _ else _
      rw [ho]
    exact ⟨trivial, k + 1, [0], by show k + 1 ≤ 67; omega, by show 67 - (k + 1) < 67 - k; omega, leh1 rfl (.row _ _ _ _ (Nat.le_refl _) fun i hi => by
      rw [hs1 i]
      by_cases e : i = ((intsOf s).getD k 0).toNat
      · rw [if_pos e]
        have : (intsOf s).getD k 0 = (i : Int) := by omega
        exact leTB (by rw [decide_eq_true this]; exact Bool.or_true _)
      · rw [if_neg e]
        have : ¬ (intsOf s).getD k 0 = (i : Int) := by omega
        exact leB (by rw [decide_eq_false this, Bool.or_false])), ⟨leS rfl, .ptr _ rfl, leI e1, trivial⟩⟩
  · have f1 : ¬ (k : Int) < s.size := no c
    obtain rfl : k = 67 := by omega
    refine ⟨Nat.le_refl _, ?_⟩
    refine ⟨Nat.le_refl _, fun i hi => rfl, fun i => bool (hasK 67 i), fun i hi => ?_, ?_⟩
    · rw [if_pos ⟨Nat.zero_le _, by rw [Nat.zero_add]; exact hi⟩]
      show AL.bool _ = AL.bool (hasK 67 (0 + (i - 0)))
      rw [Nat.sub_zero, Nat.zero_add]
    refine ⟨Nat.le_refl _, [], [], _, lehN _, ?_, rfl, rfl⟩
    refine le_pair (a := .agg 256 setV) (b := .tt) (.agg _ _ _ fun i hi => ?_) .tt
    show LeV _ _ (AL.bool (hasK 67 (0 + i))) (AL.bool (letN i))
    rw [Nat.zero_add]
    exact leB (hall i hi)

theorem leS1 : LeH 1 [.row 256 setV] [0] [.row 256 setV] :=
  ⟨rfl, Nat.le_refl 1, fun i hi => by obtain rfl : i = 0 := by omega
                                      rfl, by simp, fun i j o' hl ho => by
    match i, hl, ho with
    | 0, hl, ho =>
      cases hl; cases ho
      exact .inl ⟨_, rfl, .row _ _ _ _ (Nat.le_refl _) fun i hi => .same _ trivial⟩⟩

set_option maxRecDepth 10000 in
theorem has_prog (c : Int) (h0 : 0 ≤ c) (h1 : c < 256) : ACalls Tryz.prog 188 [.ptr 0 0, int .u8 c] [.row 256 setV] (fun r h => r = bool (letN c) ∧ h = [.row 256 setV]) := by
  have e : ((c.toNat : Nat) : Int) = c := by omega
  refine rcalls Tryz.func188 rfl (by decide) ?_
  refine ⟨⟨h0, h1⟩, ?_⟩
  have ho : addOff 0 c.toNat 1 = c.toNat := by unfold addOff; omega
  refine ⟨by show addOff 0 c.toNat 1 < 256; rw [ho]; omega, ?_⟩
  refine ⟨[0], [.row 256 setV], _, leS1, leB ?_, rfl, rfl⟩
  show letN ((addOff 0 c.toNat 1 : Nat) : Int) = letN c
  rw [ho, e]

theorem ints_lt (s : ByteArray) (i : Nat) : 0 ≤ (intsOf s).getD i 0 ∧ (intsOf s).getD i 0 < 256 := by
  rcases Nat.lt_or_ge i (intsOf s).length with h | h
  · rw [List.getD_eq_getElem?_getD, List.getElem?_eq_getElem h]
    exact intsOf_range s _ (List.getElem_mem _)
  · rw [List.getD_eq_getElem?_getD, List.getElem?_eq_none h]
    exact ⟨by simp, by simp⟩
theorem ints_ext (s : ByteArray) {a b i : Nat} (hb : b ≤ s.size) (hi : a + i < b) : (intsOf (s.extract a b)).getD i 0 = (intsOf s).getD (a + i) 0 := by
  unfold intsOf
  rw [List.getD_eq_getElem?_getD, List.getD_eq_getElem?_getD, List.getElem?_map, List.getElem?_map]
  congr 2
  rw [ext_list, List.getElem?_drop, List.getElem?_take_of_lt hi]
def TrimRR (s : ByteArray) (r : AV) (h : List AO) : Prop :=
  ∃ k, k ≤ s.size ∧ r = str (s.extract 0 k) ∧ (k = 0 ∨ letN ((intsOf s).getD (k - 1) 0) = false) ∧ (∀ i, k ≤ i → i < s.size → letN ((intsOf s).getD i 0) = true) ∧ h = [.row 256 setV]

set_option maxHeartbeats 2000000 in
set_option maxRecDepth 10000 in
theorem trimR_prog (s : ByteArray) (hs : s.size ≤ 9223372036854775806) : ACalls Tryz.prog 182 [str s, .ptr 0 0] [.row 256 setV] (TrimRR s) := by
  refine rcalls Tryz.func182 rfl (by decide) ?_
  refine ⟨Nat, fun k => [(0, str (s.extract 0 k)), (1, .ptr 0 0)], fun k => [.row 256 setV], fun k => k ≤ s.size ∧ ∀ i, k ≤ i → i < s.size → letN ((intsOf s).getD i 0) = true, fun k => k,
    ⟨s.size, [0], ⟨Nat.le_refl _, fun i _ _ => by omega⟩, leS1, ⟨leS (by simp), .ptr _ rfl, trivial⟩⟩, ?_⟩
  rintro k ⟨hk, hj⟩
  have hX : (s.extract 0 k).size = k := by rw [ByteArray.size_extract]; omega
  have hc : 0 < k → (intsOf (s.extract 0 k)).getD (k - 1) 0 = (intsOf s).getD (k - 1) 0 := fun h => by rw [ints_ext s hk (by omega), Nat.zero_add]
  have hY : 0 < k → (s.extract 0 k).extract 0 (k - 1) = s.extract 0 (k - 1) := fun h => by
    rw [ByteArray.extract_extract]; congr 1; omega
  have leave : ∀ {t : List AV}, (k = 0 ∨ letN ((intsOf s).getD (k - 1) 0) = false) → True := fun _ => trivial
  refine ⟨fun c => ?_, fun c => ?_⟩
  · have f1 : 0 < ((s.extract 0 k).size : Int) := yes c
    have h0 : 0 < k := by omega
    have e1 : IntKind.i64.wrap (((s.extract 0 k).size : Int) - 1) = ((k - 1 : Nat) : Int) := by rw [w64 (by omega) (by omega)]; omega
    obtain ⟨b1, b2⟩ := ints_lt (s.extract 0 k) (k - 1)
    have hh := has_prog ((intsOf (s.extract 0 k)).getD (k - 1) 0) b1 b2
    have hto : (IntKind.i64.wrap (((s.extract 0 k).size : Int) - 1)).toNat = k - 1 := by rw [e1]; omega
    refine ⟨⟨by rw [e1]; omega, by rw [e1]; omega⟩, ?_⟩
    rw [← hto] at hh
    refine ⟨[0], _, fun i hi => trivial, hh, ?_⟩
    rintro r h' ⟨rfl, rfl⟩
    refine ⟨.inl rfl, ?_⟩
    have hX' := hX
    have hcc : (intsOf (s.extract 0 k)).getD (IntKind.i64.wrap (((s.extract 0 k).size : Int) - 1)).toNat 0 = (intsOf s).getD (k - 1) 0 := by rw [hto]; exact hc h0
    refine ⟨fun c2 => ?_, fun c2 => ?_⟩
    · refine ⟨[0], [.row 256 setV], _, leS1, leS rfl, k, hk, rfl, .inr ?_, hj, rfl⟩
      rw [hcc] at c2
      revert c2; cases letN ((intsOf s).getD (k - 1) 0) <;> simp
    · rw [hcc] at c2
      refine ⟨⟨by rw [e1]; omega, by rw [e1]; omega⟩, ?_⟩
      refine ⟨trivial, k - 1, [0], ⟨by show k - 1 ≤ s.size; omega, fun i h1 h2 => ?_⟩, by show k - 1 < k; omega, leS1, ⟨leS ?_, .ptr _ rfl, trivial⟩⟩
      · rcases Nat.lt_or_ge i k with h | h
        · rw [show i = k - 1 by have h1 : k - 1 ≤ i := h1; omega]; exact unnot c2
        · exact hj i h h2
      · show (s.extract 0 k).extract 0 _ = _
        rw [hto]; exact hY h0
  · have f1 : ¬ 0 < ((s.extract 0 k).size : Int) := no c
    obtain rfl : k = 0 := by omega
    exact ⟨[0], [.row 256 setV], _, leS1, leS rfl, 0, Nat.zero_le _, rfl, .inl rfl, hj, rfl⟩

def TrimLR (s : ByteArray) (r : AV) (h : List AO) : Prop :=
  ∃ k, k ≤ s.size ∧ r = str (s.extract k s.size) ∧ (k = s.size ∨ letN ((intsOf s).getD k 0) = false) ∧ (∀ i, i < k → letN ((intsOf s).getD i 0) = true) ∧ h = [.row 256 setV]

set_option maxHeartbeats 2000000 in
set_option maxRecDepth 10000 in
theorem trimL_prog (s : ByteArray) (hs : s.size ≤ 9223372036854775806) : ACalls Tryz.prog 181 [str s, .ptr 0 0] [.row 256 setV] (TrimLR s) := by
  refine rcalls Tryz.func181 rfl (by decide) ?_
  refine ⟨Nat, fun k => [(0, str (s.extract k s.size)), (1, .ptr 0 0)], fun k => [.row 256 setV], fun k => k ≤ s.size ∧ ∀ i, i < k → letN ((intsOf s).getD i 0) = true, fun k => s.size - k,
    ⟨0, [0], ⟨Nat.zero_le _, fun i hi => by omega⟩, leS1, ⟨leS (by simp), .ptr _ rfl, trivial⟩⟩, ?_⟩
  rintro k ⟨hk, hj⟩
  have hX : (s.extract k s.size).size = s.size - k := by rw [ByteArray.size_extract]; omega
  have hc : k < s.size → (intsOf (s.extract k s.size)).getD 0 0 = (intsOf s).getD k 0 := fun h => by rw [ints_ext s (Nat.le_refl _) (by omega), Nat.add_zero]
  have hY : k < s.size → (s.extract k s.size).extract 1 (s.extract k s.size).size = s.extract (k + 1) s.size := fun h => by
    rw [hX, ByteArray.extract_extract]; congr 1; omega
  refine ⟨fun c => ?_, fun c => ?_⟩
  · have f1 : 0 < ((s.extract k s.size).size : Int) := yes c
    have h0 : k < s.size := by omega
    obtain ⟨b1, b2⟩ := ints_lt (s.extract k s.size) 0
    have hh := has_prog ((intsOf (s.extract k s.size)).getD 0 0) b1 b2
    refine ⟨⟨by omega, by omega⟩, ?_⟩
    refine ⟨[0], _, fun i hi => trivial, hh, ?_⟩
    rintro r h' ⟨rfl, rfl⟩
    refine ⟨.inl rfl, ?_⟩
    have hcc := hc h0
    refine ⟨fun c2 => ?_, fun c2 => ?_⟩
    · refine ⟨[0], [.row 256 setV], _, leS1, leS rfl, k, hk, rfl, .inr ?_, hj, rfl⟩
      rw [hcc] at c2
      revert c2; cases letN ((intsOf s).getD k 0) <;> simp
    · refine ⟨⟨by omega, by omega⟩, ?_⟩
      refine ⟨trivial, k + 1, [0], ⟨by show k + 1 ≤ s.size; omega, fun i hi => ?_⟩, by show s.size - (k + 1) < s.size - k; omega, leS1, ⟨leS (hY h0), .ptr _ rfl, trivial⟩⟩
      rcases Nat.lt_or_ge i k with h | h
      · exact hj i h
      · rw [show i = k by have hi : i < k + 1 := hi; omega, ← hcc]; exact unnot c2
  · have f1 : ¬ 0 < ((s.extract k s.size).size : Int) := no c
    obtain rfl : k = s.size := by omega
    exact ⟨[0], [.row 256 setV], _, leS1, leS rfl, s.size, Nat.le_refl _, rfl, .inl rfl, hj, rfl⟩

/-- What is trimmed away wholly is letters alone. -/
def allLet (s : ByteArray) : Prop := ∀ i, i < s.size → letN ((intsOf s).getD i 0) = true

set_option maxHeartbeats 2000000 in
set_option maxRecDepth 10000 in
theorem trim_prog (s : ByteArray) (h0 : s ≠ ByteArray.empty) (hs : s.size ≤ 9223372036854775806) : ACalls Tryz.prog 172 [str s, str letters] [] (fun r h => (∃ t, r = str t ∧ (t = ByteArray.empty ↔ allLet s)) ∧ h = []) := by
  have hl : letters.size = 67 := rfl
  have hne : letters ≠ ByteArray.empty := by intro e; rw [e] at hl; cases hl
  have hm := makeSet_prog
  generalize letters = T at *
  refine rcalls Tryz.func172 rfl (by decide) ?_
  refine ⟨fun c => absurd (yes c) h0, fun _ => ⟨fun c => absurd (yes c) hne, fun _ => ?_⟩⟩
  refine ⟨fun c => absurd (yes c) (by omega), fun _ => ?_⟩
  refine ⟨[], _, hm, ?_⟩
  rintro r hh ⟨rfl, rfl⟩
  refine ⟨.inl rfl, ?_⟩
  refine ⟨rfl, ?_⟩
  refine ⟨Nat.le_refl _, fun i hi => rfl, setV, fun i hi => ?_, ?_⟩
  · rw [if_pos ⟨Nat.zero_le _, by rw [Nat.zero_add]; exact hi⟩]
    rfl
  refine ⟨[0], _, fun i hi => trivial, trimR_prog s hs, ?_⟩
  rintro r h' ⟨k, hk, rfl, h1, h2, rfl⟩
  refine ⟨.inl rfl, ?_⟩
  have hX : (s.extract 0 k).size = k := by rw [ByteArray.size_extract]; omega
  refine ⟨[0], _, fun i hi => trivial, trimL_prog (s.extract 0 k) (by omega), ?_⟩
  rintro r h' ⟨q, hq, rfl, h3, h4, rfl⟩
  refine ⟨.inl rfl, ?_⟩
  refine ⟨[], [], _, lehN _, leS rfl, ⟨_, rfl, ?_⟩, rfl⟩
  rw [hX] at hq h3 ⊢
  have hsz : ((s.extract 0 k).extract q k).size = k - q := by rw [ByteArray.size_extract, hX]; omega
  have hget : ∀ i, i < k → (intsOf (s.extract 0 k)).getD i 0 = (intsOf s).getD i 0 := fun i hi => by rw [ints_ext s hk (by omega), Nat.zero_add]
  constructor
  · intro e
    rw [e] at hsz
    have hsz : 0 = k - q := hsz
    obtain rfl : q = k := by omega
    rcases h1 with rfl | h1
    · exact fun i hi => h2 i (Nat.zero_le _) hi
    · rcases Nat.eq_zero_or_pos q with h0' | h0'
      · subst h0'; exact fun i hi => h2 i (Nat.zero_le _) hi
      · have := h4 (q - 1) (by omega)
        rw [hget _ (by omega), h1] at this; cases this
  · intro hall
    rcases h1 with rfl | h1
    · refine ByteArray.size_eq_zero_iff.1 ?_
      rw [hsz]; omega
    · rw [hall (k - 1) ?_] at h1
      · cases h1
      · rcases Nat.eq_zero_or_pos k with h0' | h0'
        · subst h0'
          exact Nat.pos_of_ne_zero fun e => h0 (ByteArray.size_eq_zero_iff.1 e)
        · omega

/-! Runes. -/
theorem letters_has : ∀ r : Nat, r < 128 → decide (0 ≤ Lib.indexByte letters.data.toList r.toUInt8) = letN (r : Int) := by decide +kernel

theorem containsRune_prog (r : Nat) (h : r < 128) : ACalls Tryz.prog 175 [str letters, int .i32 r] [] (fun x h => x = bool (letN (r : Int)) ∧ h = []) := by
  have := letters_has r h
  rw [← this]
  exact acalls_same (args := [.string letters, .int .i32 r]) ⟨_, Tryz.func175, by decide, rfl⟩ fun w => Tryz.strings_ContainsRune_ascii letters (r : Int) w (by omega) (by omega)

set_option maxRecDepth 10000 in
theorem partFn_prog (r : Nat) (h : r < 128) : ACalls Tryz.prog 174 [int .i32 r] [] (fun x h => x = bool (!letN (r : Int)) ∧ h = []) := by
  have hc := containsRune_prog r h
  refine rcalls Tryz.func174 rfl (by decide) ?_
  refine ⟨[], _, hc, ?_⟩
  rintro r hh ⟨rfl, rfl⟩
  refine ⟨.inl rfl, ?_⟩
  exact ⟨[], [], _, lehN _, leB rfl, rfl, rfl⟩

set_option maxHeartbeats 2000000 in
set_option maxRecDepth 10000 in
theorem indexFunc_prog (s : ByteArray) (hs : s.size ≤ 9223372036854775806) (hall : allLet s) : ACalls Tryz.prog 190 [str s, .raw (.func (.func 174) ⟨[]⟩ ⟨[]⟩), .tt] [] (fun x h => x = int .i64 (-1) ∧ h = []) := by
  have hdec : ∀ k, k < s.size → ∀ c q : Nat, Utf8.decode s k = (c, q) → (c : Int) = (intsOf s).getD k 0 ∧ c < 128 ∧ q = 1 ∧ letN (c : Int) = true := fun k hk c q e => by
    obtain ⟨b, hb, hi⟩ := intsOf_get hk
    have hl := hall k hk
    have hlt : (intsOf s).getD k 0 < 128 := by
      unfold letN at hl
      have := of_decide_eq_true hl
      omega
    have hbk : s[k]'hk = b := by
      rw [getElem?_pos s k hk] at hb
      exact Option.some.inj hb
    have hd := decode_ascii s k hk (by rw [hbk]; omega)
    rw [e, hbk] at hd
    obtain ⟨rfl, rfl⟩ := Prod.mk.inj hd
    exact ⟨hi.symm, by omega, rfl, by rw [← hi]; exact hl⟩
  refine rcalls Tryz.func190 rfl (by decide) ?_
  refine ⟨Nat, fun k => [(0, str s), (1, .raw (.func (.func 174) ⟨[]⟩ ⟨[]⟩)), (2, bool true), (10, .ptr 0 0)], fun k => [.siter s k], fun k => k ≤ s.size, fun k => s.size - k,
    ⟨0, [0], Nat.zero_le _, leh1 rfl (.siter _ _), ⟨leS rfl, .raw _, .ttr, .ptr _ rfl, trivial⟩⟩, ?_⟩
  intro k hk
  have hk : k ≤ s.size := hk
  refine ⟨fun h c q e => ?_, fun h => ?_⟩
  · obtain ⟨e1, e2, rfl, e4⟩ := hdec k h c q e
    have hp : ACalls Tryz.prog 174 [int .i32 c] [] (fun x h => x = bool false ∧ h = []) := by
      have := partFn_prog c e2
      rw [e4] at this
      exact this
    refine ⟨[], _, hp, ?_⟩
    rintro r hh ⟨rfl, rfl⟩
    refine ⟨.inl rfl, ?_⟩
    refine ⟨fun c2 => ?_, fun c2 => ?_⟩
    · cases c2
    · exact ⟨trivial, k + 1, [0], by show k + 1 ≤ s.size; omega, by show s.size - (k + 1) < s.size - k; omega, leh1 rfl (.siter _ _), ⟨leS rfl, .raw _, leB rfl, .ptr _ rfl, trivial⟩⟩
  · exact ⟨[], [], _, lehN _, leI rfl, rfl, rfl⟩

set_option maxRecDepth 10000 in
theorem containsFunc_prog (s : ByteArray) (hs : s.size ≤ 9223372036854775806) (hall : allLet s) : ACalls Tryz.prog 173 [str s, .raw (.func (.func 174) ⟨[]⟩ ⟨[]⟩)] [] (fun x h => x = bool false ∧ h = []) := by
  have h1 := indexFunc_prog s hs hall
  have h2 : ACalls Tryz.prog 185 [str s, .raw (.func (.func 174) ⟨[]⟩ ⟨[]⟩)] [] (fun x h => x = int .i64 (-1) ∧ h = []) := by
    refine rcalls Tryz.func185 rfl (by decide) ?_
    refine ⟨[], _, h1, ?_⟩
    rintro r hh ⟨rfl, rfl⟩
    refine ⟨.inl rfl, ?_⟩
    exact ⟨[], [], _, lehN _, leI rfl, rfl, rfl⟩
  refine rcalls Tryz.func173 rfl (by decide) ?_
  refine ⟨[], _, h2, ?_⟩
  rintro r hh ⟨rfl, rfl⟩
  refine ⟨.inl rfl, ?_⟩
  exact ⟨[], [], _, lehN _, leB rfl, rfl, rfl⟩

set_option maxHeartbeats 2000000 in
set_option maxRecDepth 10000 in
theorem part_prog (s : ByteArray) (hs : s.size ≤ 9223372036854775806) : ACalls Tryz.prog 164 [str s] [] (fun x h => x = bool (decide (okPart s)) ∧ h = []) := by
  have hP : okPart s ↔ _ := Iff.rfl
  obtain ⟨B, hB⟩ : ∃ B, decide (okPart s) = B := ⟨_, rfl⟩
  rw [hB]
  have hf : ¬ okPart s → B = false := fun h => by rw [← hB]; exact decide_eq_false h
  have ht := fun h => trim_prog s h hs
  have hc := containsFunc_prog s hs
  refine rcalls Tryz.func164 rfl (by decide) ?_
  have emp : ∀ {h : List AO} {l : List Nat}, s = ByteArray.empty → LeV h l .ff (bool B) := fun e => leFB (hf fun h => by have := h.1; rw [e] at this; cases this)
  refine ⟨fun c1 => ⟨fun c2 => ⟨fun c3 => ⟨fun c4 => ?_, fun c4 => ?_⟩, fun c3 => ?_⟩, fun c2 => ?_⟩, fun c1 => ?_⟩
  · have c1 := yes c1
    refine ⟨[], _, ht c1, ?_⟩
    rintro r h ⟨⟨t, rfl, hall⟩, rfl⟩
    refine ⟨.inl rfl, ?_⟩
    refine ⟨fun c5 => ?_, fun c5 => ?_⟩
    · have hl := hall.1 (yes c5)
      refine ⟨[], _, hc hl, ?_⟩
      rintro r hh ⟨rfl, rfl⟩
      refine ⟨.inl rfl, ?_⟩
      refine ⟨[], [], _, lehN _, leB ?_, rfl, rfl⟩
      rw [← hB]
      refine (decide_eq_true ?_).symm
      exact ⟨Nat.pos_of_ne_zero fun e => c1 (ByteArray.size_eq_zero_iff.1 e), by have := yes c2; omega, yes c3, yes c4, hl⟩
    · exact ⟨[], [], _, lehN _, leFB (hf fun h => no c5 (hall.2 h.2.2.2.2)), rfl, rfl⟩
  · exact ⟨[], [], _, lehN _, leFB (hf fun h => no c4 h.2.2.2.1), rfl, rfl⟩
  · exact ⟨[], [], _, lehN _, leFB (hf fun h => no c3 h.2.2.1), rfl, rfl⟩
  · exact ⟨[], [], _, lehN _, leFB (hf fun h => no c2 (by have := h.2.1; omega)), rfl, rfl⟩
  · exact ⟨[], [], _, lehN _, emp (Classical.not_not.1 (no c1)), rfl, rfl⟩

end
end Go.Proofs.YthckagkciefliaaGreatDoor.Pa

/-
  The closure of strings.SplitSeq at a sign of one byte, walked over whatever rounds.
-/
set_option linter.unusedVariables false
set_option linter.unusedSectionVars false
namespace Go.Proofs.YthckagkciefliaaGreatDoor.Pa
open Go Go.RowKit Go.Shelf AL Spl

/-- The rest of a text from its piece k on. -/
def restS (ps : List (List UInt8)) (k : Nat) : ByteArray := bA (joinC 47 (ps.drop k))
def pieceS (ps : List (List UInt8)) (k : Nat) : ByteArray := bA (ps.getD k [])
/-- The three captured variables, before piece k. -/
structure Boxes (ps : List (List UInt8)) (bs bp bv k : Nat) (W : World) : Prop where
  s : W.cell? ⟨bs, 0, none⟩ = some (.string (restS ps k))
  f : W.frozen? ⟨bs, 0, none⟩ = false
  p : W.cell? ⟨bp, 0, none⟩ = some (.string ⟨#[47]⟩)
  v : W.cell? ⟨bv, 0, none⟩ = some (.int .i64 0)
def leftAt (b : Nat) (W : World) : Nat := match W.cell? ⟨b, 0, none⟩ with | some (.string x) => x.size | _ => 0
/-- All but one block lies as it lay. -/
structure But (bs : Nat) (W W' : World) : Prop where
  os : W'.os = W.os
  tape : W'.tape = W.tape
  output : W'.output = W.output
  size : W'.heap.size = W.heap.size
  block : ∀ j, j ≠ bs → W'.heap[j]? = W.heap[j]?

theorem index_none {c : UInt8} : ∀ {a : List UInt8}, (∀ x ∈ a, x ≠ c) → Lib.indexByte a c = -1
  | [], _ => rfl
  | x :: a, h => by
    have ih := index_none fun y hy => h y (List.mem_cons_of_mem x hy)
    have h1 : (x == c) = false := by simpa using h x (by simp)
    unfold Lib.indexByte
    simp [h1, ih]

set_option maxHeartbeats 2000000 in
theorem seq_calls (n : Nat) (l bs bp bv : Nat) (ps : List (List UInt8)) (hps : 0 < ps.length) (hfree : ∀ p ∈ ps, ∀ x ∈ p, x ≠ 47) (hsm : ∀ k, k < ps.length → (joinC 47 (ps.drop k)).length ≤ 9223372036854775806) (hp : bp ≠ bs) (hv : bv ≠ bs) (J : Nat → World → Prop) (Jx : World → Prop)
    (hJ : ∀ k W W', J k W → But bs W W' → J k W')
    (hY : ∀ k W, k < ps.length → J k W → Boxes ps bs bp bv k W → YieldAt Fence.wide (n - 1) Tryz.prog l #[.string (pieceS ps k)] W fun e W' =>
      (e = .returned (.bool true) ∧ J (k + 1) W' ∧ Boxes ps bs bp bv k W') ∨ (e = .returned (.bool false) ∧ Jx W'))
    (W : World) (h0 : J 0 W) (hB : Boxes ps bs bp bv 0 W) :
    CallsIn Fence.wide n Tryz.prog 187 #[.func (.yield l) #[] #[], .pointer (some ⟨bp, 0, none⟩), .pointer (some ⟨bs, 0, none⟩), .pointer (some ⟨bv, 0, none⟩)] W fun e W' =>
      (∃ v, e = .returned v) ∧ (J ps.length W' ∨ Jx W') := by
  refine callsIn_of_wp Tryz.func187 rfl trivial ?_ rfl
  simp only [Tryz.ntmps187, List.size_toArray, List.length_cons, List.length_nil, Nat.reduceAdd, Nat.reduceSub, Array.replicate_succ, Array.replicate_zero, List.push_toArray, List.append_toArray, List.nil_append, List.cons_append]
  have hc1 := hB.p
  gi_wp2
  gi_loopw [] (fun wr => ∃ k, k < ps.length ∧ J k wr ∧ Boxes ps bs bp bv k wr) (fun wr => leftAt bs wr)
  case atStart => exact ⟨0, hps, h0, hB⟩
  case round =>
    obtain ⟨k, hk, hj, hb⟩ := hrel
    have c1 := hb.s
    have c2 := hb.p
    have c3 := hb.v
    have f1 := hb.f
    have hpk : ∀ x ∈ ps.getD k [], x ≠ 47 := by
      rw [List.getD_eq_getElem?_getD, List.getElem?_eq_getElem hk]
      exact hfree _ (List.getElem_mem _)
    obtain ⟨fn, tmps, assign, body, hy, hR⟩ := hY k wr hk hj hb
    have hI := Tryz.strings_Index_one (restS ps k) 47 wr
    unfold restS at hI c1
    rw [bA_list] at hI
    unfold pieceS at hy
    rcases Nat.lt_or_ge (k + 1) ps.length with hlt | hge
    · rw [rest_more hlt, index_app _ hpk] at hI
      rw [rest_more hlt] at c1
      have hnext : restS ps (k + 1) = bA (joinC 47 (ps.drop (k + 1))) := rfl
      have hrk : restS ps k = bA (ps.getD k [] ++ 47 :: joinC 47 (ps.drop (k + 1))) := by unfold restS; rw [rest_more hlt]
      obtain ⟨p, hpE⟩ : ∃ p, ps.getD k [] = p := ⟨_, rfl⟩
      obtain ⟨B, hBE⟩ : ∃ B, joinC 47 (ps.drop (k + 1)) = B := ⟨_, rfl⟩
      rw [hpE] at hI hy c1 hrk
      rw [hBE] at hI c1 hnext hrk
      have hsz : (bA (p ++ 47 :: B)).size = p.length + 1 + B.length := by rw [bA_size, List.length_append, List.length_cons]; omega
      have hcl : (bA (p ++ 47 :: B)).extract 0 p.length = bA p := cut_left _ _ _
      have hcr : (bA (p ++ 47 :: B)).extract (p.length + 1) (bA (p ++ 47 :: B)).size = bA B := cut_right _ _ _
      obtain ⟨X, hX⟩ : ∃ X, bA (p ++ 47 :: B) = X := ⟨_, rfl⟩
      obtain ⟨Y, hY'⟩ : ∃ Y, bA p = Y := ⟨_, rfl⟩
      obtain ⟨N, hN⟩ : ∃ N, p.length = N := ⟨_, rfl⟩
      rw [hX] at hI c1 hsz hcl hcr hrk
      rw [hY'] at hy hcl
      rw [hN] at hI hsz hcl hcr
      have hle := hsm k hk
      rw [rest_more hlt, List.length_append, List.length_cons, hpE, hBE, hN] at hle
      have hw1 : wrap64 (N : Int) = (N : Int) := by unfold wrap64; omega
      have hw2 : wrap64 ((N : Int) + 1) = (N : Int) + 1 := by unfold wrap64; omega
      have ht : ((N : Int) + 1).toNat = N + 1 := by omega
      have hbd : ¬ (N : Int) < 0 := by omega
      have hcr2 : X.extract (N + 1) (N + 1 + B.length) = bA B := by rw [← hsz]; exact hcr
      clear hpk hpE hBE
      gi_wp2_with (refine ⟨trivial, fun h => (by cases h), ?_⟩; refine (callsIn_wide.2 hI).mono ?_; rintro e w' ⟨rfl, rfl⟩)
      refine ⟨fun h => (by cases h), ?_⟩
      refine hR.mono ?_
      rintro e W1 (⟨rfl, hj1, hb1⟩ | ⟨rfl, hx1⟩)
      · have d1 := hb1.s
        rw [hrk] at d1
        have d2 := hb1.p
        have d4 := hb1.f
        gi_wp2
        go_roundw
        case rel =>
          refine ⟨k + 1, hlt, hJ _ _ _ hj1 ⟨rfl, rfl, rfl, Array.size_modify, fun j hj => Below.heap_setCell _ _ _ j hj⟩, ⟨?_, ?_, ?_, ?_⟩⟩
          · rw [hnext]; exact World.cell?_setCell_same' _ _ _ (by rw [d1]; rfl)
          · rw [World.frozen?_setCell]; exact hb1.f
          · exact (World.cell?_of_block (Below.heap_setCell _ _ _ _ hp)).trans hb1.p
          · exact (World.cell?_of_block (Below.heap_setCell _ _ _ _ hv)).trans hb1.v
        case measure =>
          have e1 := World.cell?_setCell_same' W1 ⟨bs, 0, none⟩ (.string (bA B)) (by rw [d1]; rfl)
          unfold leftAt
          rw [e1, c1]
          show (bA B).size < X.size
          rw [bA_size, hsz]
          omega
      · gi_wp2
        refine bodyPost_ret (results_none rfl _ _ _) rfl ?_
        exact ⟨⟨_, rfl⟩, .inr hx1⟩
    · have hkl : k + 1 = ps.length := by omega
      rw [rest_last hkl, index_none hpk] at hI
      rw [rest_last hkl] at c1
      obtain ⟨X, hX⟩ : ∃ X, bA (ps.getD k []) = X := ⟨_, rfl⟩
      rw [hX] at hI c1 hy
      clear hpk
      gi_wp2_with (refine ⟨trivial, fun h => (by cases h), ?_⟩; refine (callsIn_wide.2 hI).mono ?_; rintro e w' ⟨rfl, rfl⟩)
      refine ⟨fun h => (by cases h), ?_⟩
      refine hR.mono ?_
      rintro e W1 (⟨rfl, hj1, hb1⟩ | ⟨rfl, hx1⟩)
      · gi_wp2
        first | go_end0 | go_ret
        exact ⟨⟨_, rfl⟩, .inl (by rw [← hkl]; exact hj1)⟩
      · gi_wp2
        first | go_end0 | go_ret
        exact ⟨⟨_, rfl⟩, .inr hx1⟩

end Go.Proofs.YthckagkciefliaaGreatDoor.Pa

/-
  A range over strings.SplitSeq: whether all parts of a text may be.
-/
set_option linter.unusedVariables false
set_option linter.unusedSectionVars false
namespace Go.Proofs.YthckagkciefliaaGreatDoor.Pa
open Go Go.RowKit Go.Shelf AL Spl

abbrev box3 (s : ByteArray) (w : World) : World := ((w.alloc (.cells #[.string s] 9)).alloc (.cells #[.string ⟨#[47]⟩] 9)).alloc (.cells #[.int .i64 0] 3)
abbrev seqV (B : Nat) : Value := .func (.func 187) #[] #[.pointer (some ⟨B + 1, 0, none⟩), .pointer (some ⟨B, 0, none⟩), .pointer (some ⟨B + 2, 0, none⟩)]

theorem splitSeq_calls (n : Nat) (s : ByteArray) (w : World) : CallsIn Fence.wide n Tryz.prog 177 #[.string s, .string ⟨#[47]⟩, .int .i64 0] w fun e w' => e = .returned (seqV w.heap.size) ∧ w' = box3 s w := by
  refine callsIn_of_wp Tryz.func177 rfl trivial ?_ rfl
  simp only [Tryz.ntmps177, List.size_toArray, List.length_cons, List.length_nil, Nat.reduceAdd, Nat.reduceSub, Array.replicate_succ, Array.replicate_zero, List.push_toArray, List.append_toArray, List.nil_append, List.cons_append]
  gi_wp2
  first | go_end0 | go_ret
  exact ⟨rfl, rfl⟩

theorem SplitSeq_calls (n : Nat) (s : ByteArray) (w : World) : CallsIn Fence.wide n Tryz.prog 171 #[.string s, .string ⟨#[47]⟩] w fun e w' => e = .returned (seqV w.heap.size) ∧ w' = box3 s w := by
  refine callsIn_of_wp Tryz.func171 rfl trivial ?_ rfl
  simp only [Tryz.ntmps171, List.size_toArray, List.length_cons, List.length_nil, Nat.reduceAdd, Nat.reduceSub, Array.replicate_succ, Array.replicate_zero, List.push_toArray, List.append_toArray, List.nil_append, List.cons_append]
  gi_wp2_with (refine ⟨trivial, fun h => (by cases h), ?_⟩; refine (splitSeq_calls _ s w).mono ?_; rintro e w' ⟨rfl, rfl⟩)
  first | go_end0 | go_ret
  exact ⟨rfl, rfl⟩

theorem parts_calls (n : Nat) (s : ByteArray) (w : World) : CallsIn Fence.wide n Tryz.prog 163 #[.string s] w fun e w' => e = .returned (seqV w.heap.size) ∧ w' = box3 s w := by
  refine callsIn_of_wp Tryz.func163 rfl trivial ?_ rfl
  simp only [Tryz.ntmps163, List.size_toArray, List.length_cons, List.length_nil, Nat.reduceAdd, Nat.reduceSub, Array.replicate_succ, Array.replicate_zero, List.push_toArray, List.append_toArray, List.nil_append, List.cons_append]
  gi_wp2_with (refine ⟨trivial, fun h => (by cases h), ?_⟩; refine (SplitSeq_calls _ s w).mono ?_; rintro e w' ⟨rfl, rfl⟩)
  first | go_end0 | go_ret
  exact ⟨rfl, rfl⟩

/-- The loop's own code. -/
def rfOf : Code → Code × Code
  | .seq _ (.seq (.seq _ (.block _ (.rangeFunc _ _ a b))) _) => (a, b)
  | _ => (.skip, .skip)
def wholeRec (a b : Code) (s : ByteArray) (fn : FuncId) (A D : Nat) (q : Value) (st : LoopState) (pend : Option Code) : Loop :=
  { state := st, pending := pend, fn, tmps := #[.string s, undef, .pointer (some ⟨A, 0, none⟩), undef, .string s, q, undef, undef, undef, undef, undef, undef, undef], params := #[6], assign := a, body := b, defers := D }

structure Rec (r : LoopState → Option Code → Loop) : Prop where
  st : ∀ a b, (r a b).state = a
  pe : ∀ a b, (r a b).pending = b
  one : ∀ a b c, { r a b with state := c } = r c b
  two : ∀ a b c d, { r a b with state := c, pending := d } = r c d
theorem wholeRec_rec (a b : Code) (s : ByteArray) (fn : FuncId) (A D : Nat) (q : Value) : Rec (wholeRec a b s fn A D q) := ⟨fun _ _ => rfl, fun _ _ => rfl, fun _ _ _ => rfl, fun _ _ _ _ => rfl⟩

structure At (r : LoopState → Option Code → Loop) (n₀ : Nat) (w : World) (A l D : Nat) (st : LoopState) (pend : Option Code) (W : World) : Prop where
  c : W.cell? ⟨A, 0, none⟩ = some (.bool false)
  f : W.frozen? ⟨A, 0, none⟩ = false
  L : W.heap[l]? = some (.loop (r st pend))
  K : W.heap[D]? = some (.deferred (some []))
  B : Below n₀ w W

section
variable [Globs]
theorem glob_later {S : Nat → Prop} {n₀ : Nat} {w W : World} (hSn : ∀ b, S b → b < n₀) (hn : n₀ ≤ w.heap.size) (hg : Glob S w) (hb : Below n₀ w W) : Glob (fun b => b < W.heap.size) W :=
  hg.mono (fun b h => hb.block b (hSn b h)) (fun b h => Nat.lt_of_lt_of_le (hSn b h) (Nat.le_trans hn hb.size))
theorem part_calls (p : ByteArray) (hp : p.size ≤ 9223372036854775806) (W : World) (hg : Glob (fun b => b < W.heap.size) W) :
    Calls Tryz.prog 164 #[.string p] W fun e W' => e = .returned (.bool (decide (okPart p))) ∧ Below W.heap.size W W' :=
  (calls_of_acalls (part_prog p hp) (vs := #[.string p]) rfl (fun i x hx => by
    match i, hx with
    | 0, hx => cases hx; exact ⟨_, rfl, rfl⟩) hg).mono fun e W' ⟨v, r, h', L', S', h1, ⟨h2, _⟩, h3, h4⟩ => by
      subst h2
      have h3 : v = .bool (decide (okPart p)) := h3
      subst h3
      exact ⟨h1, h4⟩

set_option maxHeartbeats 2000000 in
theorem whole_round (m : Nat) (a b : Code) (hab : rfOf (Tryz.f146.body.getD .skip) = (a, b)) (r : LoopState → Option Code → Loop) (hr : Rec r) (n₀ : Nat) (w : World) (s p : ByteArray) (fn : FuncId) (A l D : Nat) (q : Value) (hn : n₀ ≤ w.heap.size) (hA : n₀ ≤ A) (hl : n₀ ≤ l) (hD : n₀ ≤ D) (hAl : A ≠ l) (hDl : D ≠ l) (hDA : D ≠ A) (hp : p.size ≤ 9223372036854775806)
    (S : Nat → Prop) (hSn : ∀ b, S b → b < n₀) (hg : Glob S w) (W : World) (h : At r n₀ w A l D .ready none W) (R : Ending → World → Prop)
    (hT : okPart p → ∀ W', At r n₀ w A l D .ready none W' → Below l W W' → R (.returned (.bool true)) W')
    (hF : ¬ okPart p → ∀ W', At r n₀ w A l D .done (some .ret) W' → R (.returned (.bool false)) W') :
    RoundIn Fence.wide m Tryz.prog l fn #[.string s, undef, .pointer (some ⟨A, 0, none⟩), undef, .string s, q, .string p, undef, undef, undef, undef, undef, undef] a b W R := by
  refine roundIn_of_wpIn trivial ?_
  have hll : l < W.heap.size := (Array.getElem?_eq_some_iff.1 h.L).1
  have hbr := run_beginRound (P := Tryz.prog) h.L (hr.st _ _)
  rw [hr.one] at hbr
  obtain ⟨W2, hW2⟩ : ∃ W2, W.putObj l (.loop (r .busy none)) = W2 := ⟨_, rfl⟩
  rw [hW2] at hbr
  have hc2 : W2.cell? ⟨A, 0, none⟩ = some (.bool false) := by rw [← hW2]; exact (World.cell?_of_block (World.putObj_heap_other hAl)).trans h.c
  have hf2 : W2.frozen? ⟨A, 0, none⟩ = false := by rw [← hW2]; exact (World.frozen?_of_block (World.putObj_heap_other hAl)).trans h.f
  have hK2 : W2.heap[D]? = some (.deferred (some [])) := by rw [← hW2]; exact (World.putObj_heap_other hDl).trans h.K
  have hL2 : W2.heap[l]? = some (.loop (r .busy none)) := by rw [← hW2]; exact World.putObj_heap_same hll
  have hb2 : Below l W W2 := by rw [← hW2]; exact ⟨rfl, rfl, rfl, by simp, fun k hk => World.putObj_heap_other (by omega)⟩
  have hA2 : A < W2.heap.size := by
    rcases Nat.lt_or_ge A W2.heap.size with h' | h'
    · exact h'
    · simp [World.cell?, h'] at hc2
  have hD2 : D < W2.heap.size := (Array.getElem?_eq_some_iff.1 hK2).1
  have hl2 : l < W2.heap.size := (Array.getElem?_eq_some_iff.1 hL2).1
  have hbn2 : Below n₀ w W2 := h.B.trans (hb2.mono hl)
  have hpc := part_calls p hp W2 (glob_later hSn hn hg hbn2)
  have hab' : (Code.region 2 _ false, Code.block 1 _) = (a, b) := hab
  cases hab'
  clear hab hW2
  have last : ∀ (W3 : World) (jump : Option Code), W3.heap[l]? = some (.loop (r .busy none)) → ∃ W4, (Instr.endRound l jump).run Tryz.prog W3 = .ok (.bool jump.isNone) W4 ∧ W4 = W3.putObj l (.loop (r (if jump.isNone then .ready else .done) jump)) := fun W3 jump h3 => by
    have := run_endRound (P := Tryz.prog) jump h3
    rw [hr.two] at this
    exact ⟨_, this, rfl⟩
  by_cases hok : okPart p
  · rw [decide_eq_true hok] at hpc
    gi_wp2_with (rw [Oper.semAt_eq _ _ _ (fun c h => by cases h)]; go_simp; try go_bits)
    refine ⟨_, hbr, ?_⟩
    gi_wp2_with (first
      | (rw [Oper.semAt_eq _ _ _ (fun c h => by cases h)]; go_simp; try go_bits)
      | (refine ⟨trivial, fun h => (by cases h), ?_⟩; refine (CallsIn.inRound l (callsIn_wide.2 hpc)).mono ?_; rintro e W3 ⟨rfl, hb3⟩))
    obtain ⟨W4, g1, rfl⟩ := last W3 none ((hb3.block _ hl2).trans hL2)
    have hl3 : l < W3.heap.size := Nat.lt_of_lt_of_le hl2 hb3.size
    have hb4 : Below l W3 (W3.putObj l (.loop (r .ready none))) := ⟨rfl, rfl, rfl, by simp, fun k hk => World.putObj_heap_other (by omega)⟩
    refine ⟨_, _, g1, hT hok _ ⟨?_, ?_, World.putObj_heap_same hl3, ?_, ?_⟩ ?_⟩
    · exact (World.cell?_of_block (World.putObj_heap_other hAl)).trans ((World.cell?_of_block (hb3.block _ hA2)).trans hc2)
    · exact (World.frozen?_of_block (World.putObj_heap_other hAl)).trans ((World.frozen?_of_block (hb3.block _ hA2)).trans hf2)
    · exact (World.putObj_heap_other hDl).trans ((hb3.block _ hD2).trans hK2)
    · exact (hbn2.trans (hb3.mono (by omega))).trans (hb4.mono hl)
    · exact (hb2.trans (hb3.mono (by omega))).trans hb4
  · rw [decide_eq_false hok] at hpc
    gi_wp2_with (rw [Oper.semAt_eq _ _ _ (fun c h => by cases h)]; go_simp; try go_bits)
    refine ⟨_, hbr, ?_⟩
    gi_wp2_with (first
      | (rw [Oper.semAt_eq _ _ _ (fun c h => by cases h)]; go_simp; try go_bits)
      | (refine ⟨trivial, fun h => (by cases h), ?_⟩; refine (CallsIn.inRound l (callsIn_wide.2 hpc)).mono ?_; rintro e W3 ⟨rfl, hb3⟩; have hc3 : W3.cell? ⟨A, 0, none⟩ = some (.bool false) := (World.cell?_of_block (hb3.block _ hA2)).trans hc2; have hf3 : W3.frozen? ⟨A, 0, none⟩ = false := (World.frozen?_of_block (hb3.block _ hA2)).trans hf2))
    have hL3 : (W3.setCell ⟨A, 0, none⟩ (.bool false)).heap[l]? = some (.loop (r .busy none)) := (Below.heap_setCell W3 _ _ l (Ne.symm hAl)).trans ((hb3.block _ hl2).trans hL2)
    obtain ⟨W4, g1, rfl⟩ := last _ (some .ret) hL3
    have hc3 : W3.cell? ⟨A, 0, none⟩ = some (.bool false) := (World.cell?_of_block (hb3.block _ hA2)).trans hc2
    have hf3 : W3.frozen? ⟨A, 0, none⟩ = false := (World.frozen?_of_block (hb3.block _ hA2)).trans hf2
    have hb4 : Below n₀ W3 (W3.setCell ⟨A, 0, none⟩ (.bool false)) := (Below.refl n₀ W3).setCell (p := ⟨A, 0, none⟩) hA _
    refine ⟨_, _, g1, hF hok _ ⟨?_, ?_, World.putObj_heap_same (Array.getElem?_eq_some_iff.1 hL3).1, ?_, ?_⟩⟩
    · exact (World.cell?_of_block (World.putObj_heap_other hAl)).trans (World.cell?_setCell_same' _ _ _ (by rw [hc3]; rfl))
    · exact (World.frozen?_of_block (World.putObj_heap_other hAl)).trans (by rw [World.frozen?_setCell]; exact hf3)
    · exact (World.putObj_heap_other hDl).trans ((Below.heap_setCell W3 _ _ D hDA).trans ((hb3.block _ hD2).trans hK2))
    · exact ((hbn2.trans (hb3.mono (by omega))).trans hb4).trans ⟨rfl, rfl, rfl, by simp, fun k hk => World.putObj_heap_other (by omega)⟩

def okWhole (s : ByteArray) : Prop := (∀ p ∈ pieces 47 s.data.toList, okPart (bA p)) ∧ s.size ≤ 254
instance (s : ByteArray) : Decidable (okWhole s) := by unfold okWhole; infer_instance

theorem okWhole_iff {s : ByteArray} {ps : List (List UInt8)} (h : pieces 47 s.data.toList = ps) : (∀ p ∈ pieces 47 s.data.toList, okPart (bA p)) ↔ ∀ k, k < ps.length → okPart (pieceS ps k) := by
  rw [h]
  constructor
  · intro ha k hk
    unfold pieceS
    rw [List.getD_eq_getElem?_getD, List.getElem?_eq_getElem hk]
    exact ha _ (List.getElem_mem _)
  · intro ha p hp
    obtain ⟨k, hk, rfl⟩ := List.getElem_of_mem hp
    have := ha k hk
    unfold pieceS at this
    rw [List.getD_eq_getElem?_getD, List.getElem?_eq_getElem hk] at this
    exact this

theorem six (h : Array Obj) (a b c d e f : Obj) : (((((h.push a).push b).push c).push d).push e).push f = h ++ #[a, b, c, d, e, f] := by
  apply Array.ext'
  simp
theorem six_at {h : Array Obj} {a b c d e f : Obj} {H : Array Obj} (hH : H = (((((h.push a).push b).push c).push d).push e).push f) (i : Nat) : H[h.size + i]? = #[a, b, c, d, e, f][i]? := by
  rw [hH, six, Array.getElem?_append_right (Nat.le_add_right _ _), Nat.add_sub_cancel_left]
theorem six_lt {h : Array Obj} {a b c d e f : Obj} {H : Array Obj} (hH : H = (((((h.push a).push b).push c).push d).push e).push f) {i : Nat} (hi : i < h.size) : H[i]? = h[i]? := by
  rw [hH, six, Array.getElem?_append_left hi]

abbrev loopW (a b : Code) (s : ByteArray) (fn : FuncId) (w : World) : World :=
  ((box3 s (w.alloc (.cells #[.bool false] 4))).alloc (.deferred (some []))).alloc (.loop (wholeRec a b s fn w.heap.size (w.heap.size + 4) (seqV (w.heap.size + 1)) .ready none))

set_option maxHeartbeats 2000000 in
theorem whole_loop (a b : Code) (hab : rfOf (Tryz.f146.body.getD .skip) = (a, b)) (s : ByteArray) (hs : s.size ≤ 9223372036854775806) (fn : FuncId) (w : World) (S : Nat → Prop) (hSn : ∀ b, S b → b < w.heap.size) (hg : Glob S w) :
    CallsIn Fence.wide 4 Tryz.prog 187 #[.func (.yield (w.heap.size + 5)) #[] #[], .pointer (some ⟨w.heap.size + 2, 0, none⟩), .pointer (some ⟨w.heap.size + 1, 0, none⟩), .pointer (some ⟨w.heap.size + 3, 0, none⟩)] (loopW a b s fn w) fun e W2 =>
      (∃ v, e = .returned v) ∧ ((At (wholeRec a b s fn w.heap.size (w.heap.size + 4) (seqV (w.heap.size + 1))) w.heap.size w w.heap.size (w.heap.size + 5) (w.heap.size + 4) .ready none W2 ∧ ∀ p ∈ pieces 47 s.data.toList, okPart (bA p)) ∨
        (At (wholeRec a b s fn w.heap.size (w.heap.size + 4) (seqV (w.heap.size + 1))) w.heap.size w w.heap.size (w.heap.size + 5) (w.heap.size + 4) .done (some .ret) W2 ∧ ¬ ∀ p ∈ pieces 47 s.data.toList, okPart (bA p))) := by
  have hl : s.data.toList.length = s.size := rfl
  have hfree := @pieces_free 47 s.data.toList
  have hjoin := join_pieces 47 s.data.toList
  have hpos : 0 < (pieces 47 s.data.toList).length := by rw [pieces_len]; omega
  obtain ⟨ps, hps⟩ : ∃ ps, pieces 47 s.data.toList = ps := ⟨_, rfl⟩
  rw [okWhole_iff hps]
  rw [hps] at hfree hjoin hpos
  have hsm : ∀ k, k < ps.length → (joinC 47 (ps.drop k)).length ≤ 9223372036854775806 := fun k hk => by
    have := rest_len 47 ps k hk
    rw [hjoin, hl] at this; omega
  have hpm : ∀ k, k < ps.length → (pieceS ps k).size ≤ 9223372036854775806 := fun k hk => by
    have := hsm k hk
    unfold pieceS
    rw [bA_size]
    rcases Nat.lt_or_ge (k + 1) ps.length with h | h
    · rw [rest_more h, List.length_append] at this; omega
    · rw [rest_last (by omega)] at this; omega
  have hr := wholeRec_rec a b s fn w.heap.size (w.heap.size + 4) (seqV (w.heap.size + 1))
  have hh : (loopW a b s fn w).heap = (((((w.heap.push (.cells #[.bool false] 4)).push (.cells #[.string s] 9)).push (.cells #[.string ⟨#[47]⟩] 9)).push (.cells #[.int .i64 0] 3)).push (.deferred (some []))).push (.loop (wholeRec a b s fn w.heap.size (w.heap.size + 4) (seqV (w.heap.size + 1)) .ready none)) := rfl
  have q0 : (loopW a b s fn w).heap[w.heap.size]? = some (.cells #[.bool false] 4) := six_at hh 0
  have q1 : (loopW a b s fn w).heap[w.heap.size + 1]? = some (.cells #[.string s] 9) := six_at hh 1
  have q2 : (loopW a b s fn w).heap[w.heap.size + 2]? = some (.cells #[.string ⟨#[47]⟩] 9) := six_at hh 2
  have q3 : (loopW a b s fn w).heap[w.heap.size + 3]? = some (.cells #[.int .i64 0] 3) := six_at hh 3
  have q4 : (loopW a b s fn w).heap[w.heap.size + 4]? = some (.deferred (some [])) := six_at hh 4
  have q5 : (loopW a b s fn w).heap[w.heap.size + 5]? = some (.loop (wholeRec a b s fn w.heap.size (w.heap.size + 4) (seqV (w.heap.size + 1)) .ready none)) := six_at hh 5
  have h0 : At (wholeRec a b s fn w.heap.size (w.heap.size + 4) (seqV (w.heap.size + 1))) w.heap.size w w.heap.size (w.heap.size + 5) (w.heap.size + 4) .ready none (loopW a b s fn w) := by
    exact ⟨by simp only [World.cell?, q0]; rfl, by simp only [World.frozen?, q0]; rfl, q5, q4, ⟨rfl, rfl, rfl, by rw [hh, six, Array.size_append]; omega, fun k hk => six_lt hh hk⟩⟩
  have hB : Boxes ps (w.heap.size + 1) (w.heap.size + 2) (w.heap.size + 3) 0 (loopW a b s fn w) := by
    refine ⟨?_, by simp only [World.frozen?, q1]; rfl, by simp only [World.cell?, q2]; rfl, by simp only [World.cell?, q3]; rfl⟩
    have : restS ps 0 = s := by unfold restS; rw [List.drop_zero, hjoin, bA_data]
    rw [this]
    simp only [World.cell?, q1]
    rfl
  generalize loopW a b s fn w = W1 at *
  clear hh q0 q1 q2 q3 q4 q5
  obtain ⟨r, hrE⟩ : ∃ r, wholeRec a b s fn w.heap.size (w.heap.size + 4) (seqV (w.heap.size + 1)) = r := ⟨_, rfl⟩
  refine (seq_calls 4 (w.heap.size + 5) (w.heap.size + 1) (w.heap.size + 2) (w.heap.size + 3) ps hpos hfree hsm (by omega) (by omega)
    (fun k W => At r w.heap.size w w.heap.size (w.heap.size + 5) (w.heap.size + 4) .ready none W ∧ ∀ i, i < k → okPart (pieceS ps i))
    (fun W => At r w.heap.size w w.heap.size (w.heap.size + 5) (w.heap.size + 4) .done (some .ret) W ∧ ¬ ∀ k, k < ps.length → okPart (pieceS ps k))
    ?_ ?_ W1 ⟨by rw [← hrE]; exact h0, by simp⟩ hB).mono ?_
  · rintro k W W' ⟨hat, hj⟩ hbut
    exact ⟨⟨(World.cell?_of_block (hbut.block _ (by show w.heap.size ≠ w.heap.size + 1; omega))).trans hat.c, (World.frozen?_of_block (hbut.block _ (by show w.heap.size ≠ w.heap.size + 1; omega))).trans hat.f, (hbut.block _ (by omega)).trans hat.L, (hbut.block _ (by omega)).trans hat.K,
      ⟨hbut.os.trans hat.B.os, hbut.tape.trans hat.B.tape, hbut.output.trans hat.B.output, by rw [hbut.size]; exact hat.B.size, fun j hj' => (hbut.block _ (by omega)).trans (hat.B.block j hj')⟩⟩, hj⟩
  · rintro k W hk ⟨hat, hj⟩ hb
    have hy : (Instr.yield (w.heap.size + 5) #[.string (pieceS ps k)]).run Tryz.prog W = .ok (.round (w.heap.size + 5) fn #[.string s, undef, .pointer (some ⟨w.heap.size, 0, none⟩), undef, .string s, seqV (w.heap.size + 1), .string (pieceS ps k), undef, undef, undef, undef, undef, undef] a b) W := by
      have hL := hat.L
      rw [← hrE] at hL
      simpa [wholeRec] using run_yield (P := Tryz.prog) (args := #[.string (pieceS ps k)]) hL rfl
    refine ⟨fn, _, a, b, hy, ?_⟩
    rw [hrE] at hr
    refine whole_round _ a b hab r hr w.heap.size w s (pieceS ps k) fn w.heap.size (w.heap.size + 5) (w.heap.size + 4) _ (Nat.le_refl _) (Nat.le_refl _) (by omega) (by omega) (by omega) (by omega) (by omega) (hpm k hk) S hSn hg W hat _ (fun hok W' h1 h2 => .inl ⟨rfl, ⟨h1, fun i hi => ?_⟩, ?_⟩) (fun hok W' h1 => .inr ⟨rfl, h1, fun hall => hok (hall k hk)⟩)
    · rcases Nat.lt_or_ge i k with h | h
      · exact hj i h
      · rw [show i = k by omega]; exact hok
    · exact ⟨(World.cell?_of_block (h2.block (w.heap.size + 1) (by omega))).trans hb.s, (World.frozen?_of_block (h2.block (w.heap.size + 1) (by omega))).trans hb.f, (World.cell?_of_block (h2.block (w.heap.size + 2) (by omega))).trans hb.p, (World.cell?_of_block (h2.block (w.heap.size + 3) (by omega))).trans hb.v⟩
  · rintro e W2 ⟨hv, h | h⟩
    · exact ⟨hv, .inl ⟨by rw [hrE]; exact h.1, h.2⟩⟩
    · exact ⟨hv, .inr ⟨by rw [hrE]; exact h.1, h.2⟩⟩

/-- What is known behind the loop. -/
structure Mid (w W : World) : Prop where
  c : W.cell? ⟨w.heap.size, 0, none⟩ = some (.bool false)
  f : W.frozen? ⟨w.heap.size, 0, none⟩ = false
  K : W.heap[w.heap.size + 4]? = some (.deferred (some []))
  B : Below w.heap.size w W
abbrev wholeT (s : ByteArray) (w : World) : Array Value := #[.string s, undef, .pointer (some ⟨w.heap.size, 0, none⟩), undef, .string s, seqV (w.heap.size + 1), undef, undef, undef, undef, undef, undef, undef]
abbrev wholeD (w : World) : Deferred := { target := .collected (w.heap.size + 4), args := #[] }

set_option maxHeartbeats 2000000 in
theorem whole_stmt (a b : Code) (hab : rfOf (Tryz.f146.body.getD .skip) = (a, b)) (s : ByteArray) (hs : s.size ≤ 9223372036854775806) (w : World) (S : Nat → Prop) (hSn : ∀ b, S b → b < w.heap.size) (hg : Glob S w) (Q : Exit → Act → World → Prop)
    (hT : (∀ p ∈ pieces 47 s.data.toList, okPart (bA p)) → ∀ W, Mid w W → Q .normal { tmps := wholeT s w, defers := [wholeD w] } W)
    (hF : ¬ (∀ p ∈ pieces 47 s.data.toList, okPart (bA p)) → ∀ W, Mid w W → Code.ret.wpIn Fence.wide 5 Tryz.prog Q { tmps := wholeT s w, defers := [wholeD w] } W) :
    (Code.rangeFunc (.tmp 5) #[6] a b).wpIn Fence.wide 5 Tryz.prog Q { tmps := wholeT s w, defers := [] } (box3 s (w.alloc (.cells #[.bool false] 4))) := by
  refine wpIn_rangeFunc ?_
  intro fn hfn
  have hsz : (box3 s (w.alloc (.cells #[.bool false] 4))).heap.size = w.heap.size + 4 := by simp
  have he := run_enterLoop_outer (P := Tryz.prog) (w := box3 s (w.alloc (.cells #[.bool false] 4))) fn (wholeT s w) #[6] a b
  rw [hsz] at he
  refine ⟨w.heap.size + 5, [wholeD w], loopW a b s fn w, { target := .fn (.func 187) #[.pointer (some ⟨w.heap.size + 2, 0, none⟩), .pointer (some ⟨w.heap.size + 1, 0, none⟩), .pointer (some ⟨w.heap.size + 3, 0, none⟩)], args := #[.func (.yield (w.heap.size + 5)) #[] #[]] }, loopW a b s fn w, 187,
    #[.func (.yield (w.heap.size + 5)) #[] #[], .pointer (some ⟨w.heap.size + 2, 0, none⟩), .pointer (some ⟨w.heap.size + 1, 0, none⟩), .pointer (some ⟨w.heap.size + 3, 0, none⟩)], loopW a b s fn w, he, ?_, ?_, ?_, fun _ => by omega, ?_⟩
  · simp [resolve, go_sem]
  · intro f' hf'; trivial
  · simp [invoke, go_sem]
  · have hr := wholeRec_rec a b s fn w.heap.size (w.heap.size + 4) (seqV (w.heap.size + 1))
    refine (whole_loop a b hab s hs fn w S hSn hg).mono ?_
    generalize wholeRec a b s fn w.heap.size (w.heap.size + 4) (seqV (w.heap.size + 1)) = r at *
    have fin : ∀ {W2 : World} {st : LoopState} {pe : Option Code}, At r w.heap.size w w.heap.size (w.heap.size + 5) (w.heap.size + 4) st pe W2 → st ≠ .busy → ∃ W3, (Instr.endLoop (w.heap.size + 5)).run Tryz.prog W2 = .ok pe W3 ∧ Mid w W3 := fun {W2 st pe} h2 hst => by
      have hend := run_endLoop (P := Tryz.prog) h2.L (by rw [hr.st]; exact hst)
      rw [hr.pe] at hend
      refine ⟨_, hend, ?_, ?_, ?_, ?_⟩
      · exact (World.cell?_of_block (World.putObj_heap_other (k := w.heap.size) (by omega))).trans h2.c
      · exact (World.frozen?_of_block (World.putObj_heap_other (k := w.heap.size) (by omega))).trans h2.f
      · exact (World.putObj_heap_other (by omega)).trans h2.K
      · exact h2.B.trans ⟨rfl, rfl, rfl, by simp, fun k hk => World.putObj_heap_other (by omega)⟩
    rintro e W2 ⟨⟨v, rfl⟩, ⟨h2, hall⟩ | ⟨h2, hall⟩⟩
    · obtain ⟨W3, g1, g2⟩ := fin h2 (by simp)
      exact ⟨none, W3, g1, hT hall W3 g2⟩
    · obtain ⟨W3, g1, g2⟩ := fin h2 (by simp)
      exact ⟨some .ret, W3, g1, hF hall W3 g2⟩

set_option maxHeartbeats 2000000 in
theorem whole_calls (s : ByteArray) (hs : s.size ≤ 9223372036854775806) (S0 : Nat → Prop) (w : World) (hg0 : Glob S0 w) :
    Calls Tryz.prog 146 #[.string s] w fun e w' => e = .returned (.bool (decide (okWhole s))) ∧ Below w.heap.size w w' := by
  obtain ⟨S, hSn, hg⟩ : ∃ S : Nat → Prop, (∀ b, S b → b < w.heap.size) ∧ Glob S w := by
    refine ⟨fun b => ∃ g ∈ Globs.l, g.1 = b, fun b hb => ?_, fun g hg => ⟨⟨g, hg, rfl⟩, (hg0 g hg).2⟩⟩
    obtain ⟨g, hg, rfl⟩ := hb
    obtain ⟨_, cs, el, fr, h, _⟩ := hg0 g hg
    exact (Array.getElem?_eq_some_iff.1 h).1
  refine (callsIn_wide (n := 5)).1 ?_
  refine callsIn_of_wp_marks Tryz.func146 rfl trivial ?_ rfl
  simp only [Tryz.ntmps146, List.size_toArray, List.length_cons, List.length_nil, Nat.reduceAdd, Nat.reduceSub, Array.replicate_succ, Array.replicate_zero, List.push_toArray, List.append_toArray, List.nil_append, List.cons_append]
  gi_wp2_with (refine ⟨trivial, ?_⟩; refine (parts_calls _ s _).mono ?_; rintro e w' ⟨rfl, rfl⟩)
  refine whole_stmt _ _ rfl s hs w S hSn hg _ (fun hall W hM => ?_) (fun hall W hM => ?_)
  · have hc := hM.c
    have hf := hM.f
    have hK := hM.K
    gi_wp2
    have hV : decide (okWhole s) = decide ((s.size : Int) ≤ 254) := decide_eq_decide.2 ⟨fun h => by have := h.2; omega, fun h => ⟨hall, by omega⟩⟩
    rw [hV]
    obtain ⟨V, hVE⟩ : ∃ V, Value.bool (decide ((s.size : Int) ≤ 254)) = V := ⟨_, rfl⟩
    have hK3 : (W.setCell ⟨w.heap.size, 0, none⟩ V).heap[w.heap.size + 4]? = some (.deferred (some [])) := (Below.heap_setCell W _ _ _ (by show w.heap.size + 4 ≠ w.heap.size; omega)).trans hK
    have hc4 : ((W.setCell ⟨w.heap.size, 0, none⟩ V).putObj (w.heap.size + 4) (.deferred none)).cell? ⟨w.heap.size, 0, none⟩ = some V :=
      (World.cell?_of_block (World.putObj_heap_other (k := w.heap.size) (by omega))).trans (World.cell?_setCell_same' _ _ _ (by rw [hc]; rfl))
    rw [hVE]
    refine ⟨by simp, .inl ⟨_, _, rfl, run_takeDeferred hK3, ?_⟩⟩
    refine ⟨V, ?_, rfl, ?_⟩
    · simp [results, Tryz.f146, go_sem, hc4]
    · exact (hM.B.trans ((Below.refl w.heap.size W).setCell (p := ⟨w.heap.size, 0, none⟩) (Nat.le_refl _) _)).trans ⟨rfl, rfl, rfl, by simp, fun k hk => World.putObj_heap_other (by omega)⟩
  · have hc := hM.c
    have hf := hM.f
    have hK := hM.K
    gi_wp2
    have hV : decide (okWhole s) = false := decide_eq_false fun h => hall h.1
    rw [hV]
    have hc4 : (W.putObj (w.heap.size + 4) (.deferred none)).cell? ⟨w.heap.size, 0, none⟩ = some (.bool false) := (World.cell?_of_block (World.putObj_heap_other (k := w.heap.size) (by omega))).trans hc
    refine ⟨by simp, .inl ⟨_, _, rfl, run_takeDeferred hK, ?_⟩⟩
    refine ⟨.bool false, ?_, rfl, ?_⟩
    · simp [results, Tryz.f146, go_sem, hc4]
    · exact hM.B.trans ⟨rfl, rfl, rfl, by simp, fun k hk => World.putObj_heap_other (by omega)⟩

/-- path.whole, as the walks take it. -/
theorem whole_prog (s : ByteArray) (hs : s.size ≤ 9223372036854775806) : ACalls Tryz.prog 146 [str s] [] (fun r h => r = bool (decide (okWhole s)) ∧ h = []) :=
  acalls_below (args := [.string s]) ⟨_, Tryz.func146, by decide, rfl⟩ trivial trivial fun S w hg =>
    (whole_calls s hs S w hg).mono fun e w' ⟨h1, h2⟩ => ⟨_, h1, rfl, h2⟩

end
end Go.Proofs.YthckagkciefliaaGreatDoor.Pa

/-
  The document's own functions of paths.
-/
set_option linter.unusedVariables false
set_option linter.unusedSectionVars false
namespace Go.Proofs.YthckagkciefliaaGreatDoor.Pa
open Go AL Spl

theorem byte_is {b c : UInt8} {n : Int} (h : n = (b.toNat : Int)) : n = (c.toNat : Int) ↔ b = c := by
  rw [h]
  constructor
  · intro e; exact UInt8.toNat_inj.1 (by omega)
  · intro e; rw [e]
def okParts (s : ByteArray) : Prop := ∀ p ∈ pieces 47 s.data.toList, okPart (bA p)
instance (s : ByteArray) : Decidable (okParts s) := by unfold okParts; infer_instance

section
variable [Globs]
theorem byte_get {s : ByteArray} {i : Nat} (h : i < s.size) : ∃ b, s.data.toList[i]? = some b ∧ (intsOf s).getD i 0 = (b.toNat : Int) := by
  obtain ⟨b, h1, h2⟩ := intsOf_get h
  refine ⟨b, ?_, h2⟩
  rw [getElem?_pos s i h] at h1
  have h3 : i < s.data.toList.length := h
  rw [List.getElem?_eq_getElem h3]
  exact h1

set_option maxHeartbeats 4000000 in
set_option maxRecDepth 10000 in
theorem parts_ref (s : ByteArray) (hs : s.size ≤ 9223372036854775805) : ACalls Tryz.prog 147 [str s] [] (fun r h => r = bool (decide (okParts s)) ∧ h = []) := by
  have hl : s.data.toList.length = s.size := rfl
  obtain ⟨ps, hps⟩ : ∃ ps, pieces 47 s.data.toList = ps := ⟨_, rfl⟩
  have hok : okParts s ↔ ∀ k, k < ps.length → okPart (pieceS ps k) := okWhole_iff hps
  obtain ⟨Z, hZ⟩ : ∃ Z, decide (okParts s) = Z := ⟨_, rfl⟩
  rw [hZ]
  have hno : ¬ okParts s → Z = false := fun h => by rw [← hZ]; exact decide_eq_false h
  have hyes : okParts s → Z = true := fun h => by rw [← hZ]; exact decide_eq_true h
  have hpos : 0 < ps.length := by rw [← hps, pieces_len]; omega
  have hjoin : joinC 47 ps = s.data.toList := by rw [← hps, join_pieces]
  have hfree : ∀ p ∈ ps, ∀ x ∈ p, x ≠ 47 := by rw [← hps]; exact pieces_free
  have hcnt : ps.length ≤ s.size + 1 := by
    have := List.count_le_length (a := (47 : UInt8)) (l := s.data.toList)
    rw [← hps, pieces_len]; omega
  have hle : ∀ k, k < ps.length → pre ps k + (ps.getD k []).length ≤ s.size := fun k hk => by
    rcases Nat.lt_or_ge (k + 1) ps.length with h | h
    · have := pre_le 47 ps (k + 1) h
      rw [hjoin, hl] at this
      have : pre ps (k + 1) = pre ps k + (ps.getD k []).length + 1 := rfl
      omega
    · have := pre_end 47 (ps := ps) (k := k) (by omega) (pre_le 47 ps k hk)
      rw [hjoin, hl] at this
      omega
  have hend : ∀ k, k + 1 = ps.length → pre ps k + (ps.getD k []).length = s.size := fun k hk => by
    have := pre_end 47 (ps := ps) (k := k) hk (pre_le 47 ps k (by omega))
    rwa [hjoin, hl] at this
  have hin : ∀ k j, k < ps.length → j < (ps.getD k []).length → ¬ (intsOf s).getD (pre ps k + j) 0 = 47 := fun k j hk hj h => by
    have h1 := hle k hk
    obtain ⟨b, e1, e2⟩ := byte_get (s := s) (i := pre ps k + j) (by omega)
    have e3 := (byte_is (c := 47) e2).1 h
    have e4 := pre_get (c := 47) hk hj
    rw [hjoin, e1, e3] at e4
    have hm : (47 : UInt8) ∈ ps.getD k [] := List.mem_of_getElem? e4.symm
    refine hfree (ps.getD k []) ?_ _ hm rfl
    rw [List.getD_eq_getElem?_getD, List.getElem?_eq_getElem hk]
    exact List.getElem_mem _
  have hout : ∀ k, k + 1 < ps.length → (intsOf s).getD (pre ps k + (ps.getD k []).length) 0 = 47 := fun k hk => by
    have h1 := pre_le 47 ps (k + 1) hk
    rw [hjoin, hl] at h1
    have h2 : pre ps (k + 1) = pre ps k + (ps.getD k []).length + 1 := rfl
    obtain ⟨b, e1, e2⟩ := byte_get (s := s) (i := pre ps k + (ps.getD k []).length) (by omega)
    have e4 := pre_sep (c := 47) hk
    rw [hjoin, e1] at e4
    cases e4
    exact e2
  have hcut : ∀ k, k < ps.length → s.extract (pre ps k) (pre ps k + (ps.getD k []).length) = pieceS ps k := fun k hk => by
    refine bA_ext ?_
    unfold pieceS
    rw [ext_list, bA_list, ← hjoin]
    exact pre_piece hk
  refine rcalls Tryz.func147 rfl (by decide) ?_
  refine ⟨Nat × Nat, fun x => [(0, str s), (3, int .i64 (pre ps x.1)), (4, int .i64 x.2)], fun x => [],
    fun x => x.1 ≤ ps.length ∧ (x.1 < ps.length → pre ps x.1 ≤ x.2 ∧ x.2 ≤ pre ps x.1 + (ps.getD x.1 []).length) ∧ (x.1 = ps.length → x.2 = s.size + 1) ∧ ∀ j, j < x.1 → okPart (pieceS ps j), fun x => s.size + 1 - x.2,
    ⟨(0, 0), [], ⟨by omega, fun _ => ⟨Nat.le_refl _, Nat.zero_le _⟩, fun h => by simp at h; omega, by simp⟩, lehN _, ⟨leS rfl, leI rfl, leI rfl, trivial⟩⟩, ?_⟩
  rintro ⟨k, i⟩ ⟨hk, hki, hke, hj⟩
  dsimp only at hk hki hke hj ⊢
  refine ⟨fun c1 => ?_, fun c1 => ?_⟩
  · have f1 : (i : Int) ≤ s.size := yes c1
    have hkl : k < ps.length := by
      rcases Nat.lt_or_ge k ps.length with h | h
      · exact h
      · have := hke (by omega); omega
    obtain ⟨hi1, hi2⟩ := hki hkl
    have e1 : IntKind.i64.wrap ((i : Int) + 1) = ((i + 1 : Nat) : Int) := by rw [w64 (by omega) (by omega)]; omega
    have hto : ((i : Int)).toNat = i := by omega
    have hpl := hle k hkl
    refine ⟨fun c2 => ?_, fun c2 => ⟨⟨by omega, by have := no c2; omega⟩, fun c3 => ?_, fun c3 => ?_⟩⟩
    case refine_3 =>
      have g2 := no c2
      have g3 : ¬ (intsOf s).getD ((i : Int)).toNat 0 = 47 := no c3
      rw [hto] at g3
      have hlt : ¬ i = pre ps k + (ps.getD k []).length := fun h => by
        rcases Nat.lt_or_ge (k + 1) ps.length with h1 | h1
        · exact g3 (by rw [h]; exact hout k h1)
        · exact g2 (by rw [h, hend k (by omega)])
      exact ⟨trivial, (k, i + 1), [], ⟨by omega, fun _ => ⟨by show pre ps k ≤ i + 1; omega, by show i + 1 ≤ pre ps k + (ps.getD k []).length; omega⟩, fun h => by have h : k = ps.length := h; omega, hj⟩, by show s.size + 1 - (i + 1) < s.size + 1 - i; omega, lehN _, ⟨leS rfl, leI rfl, leI e1, trivial⟩⟩
    all_goals
      have hlast : i = pre ps k + (ps.getD k []).length := by
        first
          | (have g2 := yes c2
             rcases Nat.lt_or_ge (k + 1) ps.length with h1 | h1
             · have := hle (k + 1) h1
               have : pre ps (k + 1) = pre ps k + (ps.getD k []).length + 1 := rfl
               omega
             · have := hend k (by omega); omega)
          | (have g3 : (intsOf s).getD ((i : Int)).toNat 0 = 47 := yes c3
             rw [hto] at g3
             rcases Nat.lt_or_ge i (pre ps k + (ps.getD k []).length) with h | h
             · refine absurd ?_ (hin k (i - pre ps k) hkl (by omega))
               rw [show pre ps k + (i - pre ps k) = i by omega]; exact g3
             · omega)
      have e2 : pre ps (k + 1) = i + 1 := by show pre ps k + (ps.getD k []).length + 1 = _; omega
      have hpi : s.extract (pre ps k) i = pieceS ps k := by rw [hlast]; exact hcut k hkl
      have hsz : (s.extract (pre ps k) i).size ≤ s.size := by rw [ByteArray.size_extract]; omega
      have hp := part_ref (s.extract (pre ps k) i) (by omega)
      refine ⟨⟨by omega, f1⟩, ⟨by omega, by omega⟩, ?_⟩
      refine ⟨[], _, hp, ?_⟩
      rintro r hh ⟨rfl, rfl⟩
      refine ⟨.inl rfl, ?_⟩
      refine ⟨fun c4 => ?_, fun c4 => ?_⟩
      · exact ⟨[], [], _, lehN _, leFB (hno fun h => notT c4 (by rw [hpi]; exact hok.1 h k hkl)), rfl, rfl⟩
      · refine ⟨trivial, (k + 1, i + 1), [], ⟨by show k + 1 ≤ _; omega, fun h => ⟨by show pre ps (k + 1) ≤ i + 1; omega, by show i + 1 ≤ pre ps (k + 1) + _; omega⟩, fun h => ?_, fun j hj' => ?_⟩, by show s.size + 1 - (i + 1) < s.size + 1 - i; omega, lehN _, ⟨leS rfl, leI ?_, leI e1, trivial⟩⟩
        · have h : k + 1 = ps.length := h
          have := hend k h
          show i + 1 = s.size + 1
          omega
        · have hj' : j < k + 1 := hj'
          rcases Nat.lt_or_ge j k with h | h
          · exact hj j h
          · rw [show j = k by omega, ← hpi]; exact notF c4
        · show IntKind.i64.wrap ((i : Int) + 1) = ((pre ps (k + 1) : Nat) : Int)
          rw [e1, e2]
  · have f1 : ¬ (i : Int) ≤ s.size := no c1
    have hkl : k = ps.length := by
      rcases Nat.lt_or_ge k ps.length with h | h
      · have := (hki h).2; have := hle k h; omega
      · omega
    subst hkl
    exact ⟨[], [], _, lehN _, leTB (hyes (hok.2 hj)), rfl, rfl⟩

end
end Go.Proofs.YthckagkciefliaaGreatDoor.Pa

/-
  A path's two fields, of both.
-/
set_option linter.unusedVariables false
set_option linter.unusedSectionVars false
namespace Go.Proofs.YthckagkciefliaaGreatDoor.Pa
open Go AL Spl

/-- The place of the first sign. -/
def firstC (c : UInt8) : List UInt8 → Nat
  | [] => 0
  | x :: l => if x = c then 0 else firstC c l + 1
theorem firstC_le (c : UInt8) : ∀ l, firstC c l ≤ l.length
  | [] => Nat.le_refl _
  | x :: l => by
    have := firstC_le c l
    unfold firstC
    split
    · omega
    · rw [List.length_cons]; omega
theorem firstC_at {c : UInt8} : ∀ {l : List UInt8}, firstC c l < l.length → l[firstC c l]? = some c
  | [], h => by cases h
  | x :: l, h => by
    unfold firstC at h ⊢
    split at h
    · rename_i e
      rw [if_pos e, e]; rfl
    · rename_i e
      rw [if_neg e, List.getElem?_cons_succ]
      exact firstC_at (by rw [List.length_cons] at h; omega)
theorem firstC_not {c : UInt8} : ∀ {l : List UInt8} {j : Nat}, j < firstC c l → l[j]? ≠ some c
  | [], j, h => by cases h
  | x :: l, j, h => by
    unfold firstC at h
    split at h
    · cases h
    · rename_i e
      cases j with
      | zero => simpa using e
      | succ j => rw [List.getElem?_cons_succ]; exact firstC_not (by omega)
theorem firstC_eq {c : UInt8} {l : List UInt8} {k : Nat} (hk : k ≤ l.length) (hn : ∀ j, j < k → l[j]? ≠ some c) (hc : k = l.length ∨ l[k]? = some c) : firstC c l = k := by
  rcases Nat.lt_trichotomy (firstC c l) k with h | h | h
  · exact absurd (firstC_at (by omega)) (hn _ h)
  · exact h
  · rcases hc with hc | hc
    · have := firstC_le c l; omega
    · exact absurd hc (firstC_not h)
theorem index_first (c : UInt8) : ∀ l : List UInt8, Lib.indexByte l c = if firstC c l < l.length then (firstC c l : Int) else -1
  | [] => rfl
  | x :: l => by
    have ih := index_first c l
    unfold Lib.indexByte firstC
    by_cases e : x = c
    · have : (x == c) = true := by simpa using e
      simp [e]
    · have h1 : (x == c) = false := by simpa using e
      rw [if_neg (by rw [h1]; decide), ih]
      rw [if_neg e]
      by_cases h2 : firstC c l < l.length
      · have h3 : ((firstC c l : Int) == -1) = false := by simp
        simp [h2, h3]
      · simp [h2]

/-- Where a long path is cut: the first slash that leaves a name short enough. -/
def cutS (s : ByteArray) : Nat := (s.size - 101) + firstC 47 (s.data.toList.drop (s.size - 101))
theorem cutS_le (s : ByteArray) : cutS s ≤ s.size := by
  have := firstC_le 47 (s.data.toList.drop (s.size - 101))
  rw [List.length_drop] at this
  have hl : s.data.toList.length = s.size := rfl
  unfold cutS; omega
def okSplit (s : ByteArray) : Prop := okParts s ∧ s.size ≤ 254 ∧ (s.size ≤ 100 ∨ cutS s < s.size ∧ cutS s ≤ 155)
instance (s : ByteArray) : Decidable (okSplit s) := by unfold okSplit; infer_instance
def preS (s : ByteArray) : ByteArray := if okSplit s ∧ ¬ s.size ≤ 100 then s.extract 0 (cutS s) else ByteArray.empty
def nameS (s : ByteArray) : ByteArray := if okSplit s then (if s.size ≤ 100 then s else s.extract (cutS s + 1) s.size) else ByteArray.empty
def errS (s : ByteArray) : Int := if okSplit s then 0 else 9

theorem split_bad {s : ByteArray} (h : ¬ okSplit s) : preS s = ByteArray.empty ∧ nameS s = ByteArray.empty ∧ errS s = 9 :=
  ⟨if_neg fun e => h e.1, if_neg h, if_neg h⟩

section
variable [Globs]
def SplitR (s : ByteArray) (r : AV) (h : List AO) : Prop := r = .tup 3 (triple (str (preS s)) (str (nameS s)) (int .i64 (errS s))) ∧ h = []

set_option maxHeartbeats 2000000 in
set_option maxRecDepth 10000 in
theorem split_path (s : ByteArray) (hs : s.size ≤ 9223372036854775805) : ACalls Tryz.prog 125 [str s] [] (SplitR s) := by
  have hl : s.data.toList.length = s.size := rfl
  have hbad := @split_bad s
  have hok : okSplit s ↔ okParts s ∧ s.size ≤ 254 ∧ (s.size ≤ 100 ∨ cutS s < s.size ∧ cutS s ≤ 155) := Iff.rfl
  have hcl := cutS_le s
  have hcut : cutS s = (s.size - 101) + firstC 47 (s.data.toList.drop (s.size - 101)) := rfl
  have hw := whole_prog s (by omega)
  have hwh : okWhole s ↔ okParts s ∧ s.size ≤ 254 := Iff.rfl
  unfold SplitR
  have hgood1 : okSplit s → s.size ≤ 100 → preS s = ByteArray.empty ∧ nameS s = s ∧ errS s = 0 := fun h h1 =>
    ⟨if_neg fun e => e.2 h1, by unfold nameS; rw [if_pos h, if_pos h1], if_pos h⟩
  have hgood2 : okSplit s → ¬ s.size ≤ 100 → preS s = s.extract 0 (cutS s) ∧ nameS s = s.extract (cutS s + 1) s.size ∧ errS s = 0 := fun h h1 =>
    ⟨if_pos ⟨h, h1⟩, by unfold nameS; rw [if_pos h, if_neg h1], if_pos h⟩
  generalize preS s = Pr at *
  generalize nameS s = Na at *
  generalize errS s = Er at *
  generalize cutS s = C at *
  refine rcalls Tryz.func125 rfl (by decide) ?_
  refine ⟨[], _, hw, ?_⟩
  rintro r hh ⟨rfl, rfl⟩
  refine ⟨.inl rfl, ?_⟩
  refine ⟨fun c1 => ?_, fun c1 => ⟨fun c2 => ?_, fun c2 => ?_⟩⟩
  · obtain ⟨rfl, rfl, rfl⟩ := hbad fun h => notT c1 (hwh.2 ⟨h.1, h.2.1⟩)
    exact ⟨[], [], _, lehN _, le_triple (leS rfl) (leS rfl) (leI rfl), rfl, rfl⟩
  · have h1 : s.size ≤ 100 := by have := yes c2; omega
    obtain ⟨rfl, e2, rfl⟩ := hgood1 ⟨(hwh.1 (notF c1)).1, (hwh.1 (notF c1)).2, .inl h1⟩ h1
    exact ⟨[], [], _, lehN _, le_triple (leS rfl) (leS e2.symm) (leI rfl), rfl, rfl⟩
  · have h1 : ¬ s.size ≤ 100 := by have := no c2; omega
    obtain ⟨g1, g2⟩ := hwh.1 (notF c1)
    have w1 : IntKind.i64.wrap ((s.size : Int) - 100) = (s.size : Int) - 100 := w64 (by omega) (by omega)
    have w2 : IntKind.i64.wrap (IntKind.i64.wrap ((s.size : Int) - 100) - 1) = ((s.size - 101 : Nat) : Int) := by rw [w1, w64 (by omega) (by omega)]; omega
    have w3 : (IntKind.i64.wrap (IntKind.i64.wrap ((s.size : Int) - 100) - 1)).toNat = s.size - 101 := by rw [w2]; omega
    have hI := indexOne_prog (s.extract (IntKind.i64.wrap (IntKind.i64.wrap ((s.size : Int) - 100) - 1)).toNat s.size) 47
    have hlist : (s.extract (IntKind.i64.wrap (IntKind.i64.wrap ((s.size : Int) - 100) - 1)).toNat s.size).data.toList = s.data.toList.drop (s.size - 101) := by
      rw [w3, ext_list, List.take_of_length_le (Nat.le_of_eq hl)]
    rw [hlist, index_first, List.length_drop, hl] at hI
    have hF := firstC_le 47 (s.data.toList.drop (s.size - 101))
    rw [List.length_drop, hl] at hF
    generalize firstC 47 (s.data.toList.drop (s.size - 101)) = F at *
    refine ⟨⟨by rw [w2]; omega, by rw [w2]; omega⟩, ?_⟩
    by_cases hlt : F < s.size - (s.size - 101)
    · rw [if_pos hlt] at hI
      refine ⟨[], _, hI, ?_⟩
      rintro r hh ⟨rfl, rfl⟩
      refine ⟨.inl rfl, ?_⟩
      have w4 : IntKind.i64.wrap (IntKind.i64.wrap (IntKind.i64.wrap ((s.size : Int) - 100) - 1) + (F : Int)) = (C : Int) := by rw [w2, w64 (by omega) (by omega)]; omega
      have w5 : (IntKind.i64.wrap (IntKind.i64.wrap (IntKind.i64.wrap ((s.size : Int) - 100) - 1) + (F : Int))).toNat = C := by rw [w4]; omega
      have w6 : IntKind.i64.wrap (IntKind.i64.wrap (IntKind.i64.wrap (IntKind.i64.wrap ((s.size : Int) - 100) - 1) + (F : Int)) + 1) = ((C + 1 : Nat) : Int) := by rw [w4, w64 (by omega) (by omega)]; omega
      have w7 : (IntKind.i64.wrap (IntKind.i64.wrap (IntKind.i64.wrap (IntKind.i64.wrap ((s.size : Int) - 100) - 1) + (F : Int)) + 1)).toNat = C + 1 := by rw [w6]; omega
      refine ⟨fun c3 => absurd (yes c3) (by omega), fun _ => ?_⟩
      refine ⟨fun c4 => ?_, fun c4 => ?_⟩
      · have c4 := yes c4
        obtain ⟨rfl, rfl, rfl⟩ := hbad fun h => by have := (hok.1 h).2.2; omega
        exact ⟨[], [], _, lehN _, le_triple (leS rfl) (leS rfl) (leI rfl), rfl, rfl⟩
      · have c4 := no c4
        obtain ⟨e1, e2, rfl⟩ := hgood2 (hok.2 ⟨g1, g2, .inr ⟨by omega, by omega⟩⟩) h1
        refine .inl ⟨⟨by decide +kernel, by decide +kernel⟩, ?_⟩
        refine ⟨⟨by rw [w4]; omega, by rw [w4]; omega⟩, ?_⟩
        refine ⟨⟨by rw [w6]; omega, by rw [w6]; omega⟩, ?_⟩
        exact ⟨[], [], _, lehN _, le_triple (leS (by rw [e1, w5])) (leS (by rw [e2, w7])) (leI rfl), rfl, rfl⟩
    · rw [if_neg hlt] at hI
      refine ⟨[], _, hI, ?_⟩
      rintro r hh ⟨rfl, rfl⟩
      refine ⟨.inl rfl, ?_⟩
      refine ⟨fun _ => ?_, fun c3 => absurd (by decide) (no c3)⟩
      obtain ⟨rfl, rfl, rfl⟩ := hbad fun h => by have := (hok.1 h).2.2; omega
      exact ⟨[], [], _, lehN _, le_triple (leS rfl) (leS rfl) (leI rfl), rfl, rfl⟩

end
end Go.Proofs.YthckagkciefliaaGreatDoor.Pa

/-
  Numbers and digests as text, in plain Lean. No program in sight.
-/
set_option linter.unusedVariables false
namespace Go.Proofs.YthckagkciefliaaGreatDoor.Hx
open Go AL

/-- A number's text. -/
def numS (n : Int) : ByteArray := ⟨(Lib.itoa n).toArray⟩
theorem numS_inj_list {n m : Int} (h : numS n = numS m) : Lib.itoa n = Lib.itoa m := by
  have := congrArg (fun s : ByteArray => s.data.toList) h
  simpa [numS] using this
theorem numS_list (n : Int) : (numS n).data.toList = Lib.itoa n := by simp [numS]
theorem ba_ext {s : ByteArray} {l : List UInt8} (h : s.data.toList = l) : s = ⟨l.toArray⟩ := by
  cases s with
  | mk d => simp at h; subst h; simp
theorem ba_append (a b : List UInt8) : (⟨a.toArray⟩ : ByteArray) ++ ⟨b.toArray⟩ = ⟨(a ++ b).toArray⟩ := by
  refine ba_ext ?_
  simp [ByteArray.data_append]

theorem dec_big {u : Nat} (h : ¬ u < 10) : Lib.decDigits u = Lib.decDigits (u / 10) ++ [UInt8.ofNat (48 + u % 10)] := by
  rw [Lib.decDigits, dif_neg h]
theorem digit_toNat {d : Nat} (h : d < 10) : (UInt8.ofNat (48 + d)).toNat = 48 + d := by
  simp; omega
theorem dec_digit : ∀ (u : Nat) (c : UInt8), c ∈ Lib.decDigits u → 48 ≤ c.toNat ∧ c.toNat ≤ 57 := by
  intro u
  induction u using Nat.strongRecOn with
  | _ u ih =>
    intro c hc
    by_cases h : u < 10
    · rw [Lib.decDigits_one h] at hc
      simp only [List.mem_singleton] at hc
      subst hc
      rw [digit_toNat h]; omega
    · rw [dec_big h] at hc
      rcases List.mem_append.1 hc with hc | hc
      · exact ih (u / 10) (by omega) c hc
      · simp only [List.mem_singleton] at hc
        subst hc
        rw [digit_toNat (by omega)]; omega
theorem parse_dec {M : Nat} (hM : M ≤ 18446744073709551615) : ∀ (u : Nat) (r : List UInt8), u ≤ M → Lib.parseUintM M 0 (Lib.decDigits u ++ r) = Lib.parseUintM M u r := by
  intro u
  induction u using Nat.strongRecOn with
  | _ u ih =>
    intro r hu
    by_cases h : u < 10
    · rw [Lib.decDigits_one h, List.singleton_append, Lib.parseUintM]
      have e := digit_toNat h
      rw [if_pos (by omega), if_neg (by omega), if_neg (by omega), e]
      congr 1
      omega
    · rw [dec_big h, List.append_assoc, ih (u / 10) (by omega) _ (by omega), List.singleton_append, Lib.parseUintM]
      have e := digit_toNat (show u % 10 < 10 by omega)
      rw [if_pos (by omega), if_neg (by omega), if_neg (by omega), e]
      congr 1
      omega
theorem dec_ne (u : Nat) : Lib.decDigits u ≠ [] := fun h => by
  have := Lib.decDigits_length u
  rw [h] at this
  have := Lib.nDigits_pos u
  simp at *
  omega
/-- A number's text is parsed as it. -/
theorem parse_itoa {v : Int} (h0 : 0 ≤ v) (h1 : v < 9223372036854775808) : Lib.parseIntB 64 (Lib.itoa v) = .ok v := by
  have e : Lib.itoa v = Lib.decDigits v.toNat := by unfold Lib.itoa; rw [if_neg (by omega)]
  rw [e]
  cases hl : Lib.decDigits v.toNat with
  | nil => exact absurd hl (dec_ne _)
  | cons c r =>
    have hc := dec_digit v.toNat c (by rw [hl]; simp)
    have hp := parse_dec (M := 2 ^ 64 - 1) (by decide) v.toNat [] (by omega)
    rw [List.append_nil, hl] at hp
    unfold Lib.parseIntB
    simp only []
    rw [if_neg (by omega)]
    unfold Lib.parseUintB
    rw [if_neg (by simp), hp]
    simp only [Lib.parseUintM]
    have h3 : ¬ c.toNat = 45 := by omega
    rw [if_neg (by simp only [h3, not_false_eq_true, true_and]; omega), if_neg (by simp [h3]), if_neg h3]
    congr 1
    omega
theorem numS_inj {v u : Int} (h0 : 0 ≤ v) (h1 : v < 9223372036854775808) (g0 : 0 ≤ u) (g1 : u < 9223372036854775808) (h : numS v = numS u) : v = u := by
  have e := numS_inj_list h
  have a := parse_itoa h0 h1
  have b := parse_itoa g0 g1
  rw [e, b] at a
  injection a with a
  exact a.symm

/-- Is it a number's text, of that number? -/
def isNum (s : ByteArray) (v : Int) : Prop := 0 ≤ v ∧ v < 9223372036854775808 ∧ s = numS v
theorem isNum_inj {s : ByteArray} {v u : Int} (h : isNum s v) (g : isNum s u) : v = u := numS_inj h.1 h.2.1 g.1 g.2.1 (h.2.2.symm.trans g.2.2)
open Classical in
noncomputable def readE (s : ByteArray) (most : Int) : Int := if h : ∃ v, isNum s v then (if Classical.choose h > most then 8 else 0) else 2
open Classical in
noncomputable def readV (s : ByteArray) (most : Int) : Int := if h : ∃ v, isNum s v then (if Classical.choose h > most then 0 else Classical.choose h) else 0
theorem read_ok {s : ByteArray} {v most : Int} (h : isNum s v) (hm : ¬ v > most) : readE s most = 0 ∧ readV s most = v := by
  have hx : ∃ v, isNum s v := ⟨v, h⟩
  have e : Classical.choose hx = v := isNum_inj (Classical.choose_spec hx) h
  unfold readE readV
  rw [dif_pos hx, dif_pos hx, e, if_neg hm, if_neg hm]
  exact ⟨rfl, rfl⟩
theorem read_over {s : ByteArray} {v most : Int} (h : isNum s v) (hm : v > most) : readE s most = 8 ∧ readV s most = 0 := by
  have hx : ∃ v, isNum s v := ⟨v, h⟩
  have e : Classical.choose hx = v := isNum_inj (Classical.choose_spec hx) h
  unfold readE readV
  rw [dif_pos hx, dif_pos hx, e, if_pos hm, if_pos hm]
  exact ⟨rfl, rfl⟩
theorem read_none {s : ByteArray} {most : Int} (h : ∀ v, ¬ isNum s v) : readE s most = 2 ∧ readV s most = 0 := by
  have hx : ¬ ∃ v, isNum s v := fun ⟨v, hv⟩ => h v hv
  unfold readE readV
  rw [dif_neg hx, dif_neg hx]
  exact ⟨rfl, rfl⟩

/-- How long a number's text is. -/
theorem nDigits_le : ∀ (k u : Nat), u < 10 ^ (k + 1) → Lib.nDigits u ≤ k + 1
  | 0, u, h => by rw [Lib.nDigits_small (by simpa using h)]; omega
  | k + 1, u, h => by
    by_cases h10 : u < 10
    · rw [Lib.nDigits_small h10]; omega
    · rw [Lib.nDigits_big h10]
      have := nDigits_le k (u / 10) (by rw [Nat.pow_succ] at h; omega)
      omega
theorem num_size {v : Int} (h0 : 0 ≤ v) (h1 : v < 9223372036854775808) : 1 ≤ (numS v).size ∧ (numS v).size ≤ 19 := by
  have e : (numS v).size = (Lib.decDigits v.toNat).length := by
    have : (numS v).size = (Lib.itoa v).length := by show (Lib.itoa v).toArray.size = _; simp
    rw [this]; unfold Lib.itoa; rw [if_neg (by omega)]
  rw [e, Lib.decDigits_length]
  exact ⟨Lib.nDigits_pos _, nDigits_le 18 _ (by omega)⟩
theorem num_size_le {v : Int} (h0 : -9223372036854775808 ≤ v) (h1 : v < 9223372036854775808) : (numS v).size ≤ 21 := by
  have e : (numS v).size = (Lib.itoa v).length := by show (Lib.itoa v).toArray.size = _; simp
  rw [e]
  exact Lib.itoa_length_le v h0 (by omega)
theorem num_digits {v : Int} (h0 : 0 ≤ v) : ∀ c ∈ (numS v).data.toList, 48 ≤ c.toNat ∧ c.toNat ≤ 57 := by
  intro c hc
  rw [numS_list] at hc
  unfold Lib.itoa at hc
  rw [if_neg (by omega)] at hc
  exact dec_digit _ c hc
theorem num_neg {v : Int} (h : v < 0) : ∃ r, (numS v).data.toList = 45 :: r := by
  rw [numS_list]
  unfold Lib.itoa
  rw [if_pos h]
  exact ⟨_, rfl⟩

/-- What digits spell, as an int64 reckons it. -/
def stepN (a c : Int) : Int := IntKind.i64.wrap (IntKind.i64.wrap (10 * a) + (c - 48))
def foldN (xs : List Int) (a : Int) : Int := xs.foldl stepN a
theorem foldN_dec : ∀ (u : Nat) (r : List Int), u < 9223372036854775808 → foldN ((Lib.decDigits u).map (fun b => (b.toNat : Int)) ++ r) 0 = foldN r u := by
  intro u
  induction u using Nat.strongRecOn with
  | _ u ih =>
    intro r hu
    by_cases h : u < 10
    · rw [Lib.decDigits_one h]
      have e := digit_toNat h
      simp only [List.map_cons, List.map_nil, List.singleton_append, foldN, List.foldl_cons]
      congr 1
      unfold stepN
      rw [e, w64 (n := 10 * 0) (by omega) (by omega), w64 (by omega) (by omega)]
      omega
    · rw [dec_big h, List.map_append, List.append_assoc, ih (u / 10) (by omega) _ (by omega)]
      have e := digit_toNat (show u % 10 < 10 by omega)
      simp only [List.map_cons, List.map_nil, List.singleton_append, foldN, List.foldl_cons]
      congr 1
      unfold stepN
      rw [e, w64 (n := 10 * ((u / 10 : Nat) : Int)) (by omega) (by omega), w64 (by omega) (by omega)]
      omega
theorem foldN_num {v : Int} (h0 : 0 ≤ v) (h1 : v < 9223372036854775808) : foldN (intsOf (numS v)) 0 = v := by
  have e : intsOf (numS v) = (Lib.decDigits v.toNat).map (fun b => (b.toNat : Int)) := by
    unfold intsOf
    rw [numS_list]
    unfold Lib.itoa
    rw [if_neg (by omega)]
  rw [e]
  have := foldN_dec v.toNat [] (by omega)
  rw [List.append_nil] at this
  rw [this]
  simp [foldN]
  omega
theorem foldN_range (xs : List Int) : -9223372036854775808 ≤ foldN xs 0 ∧ foldN xs 0 < 9223372036854775808 := by
  have go : ∀ (xs : List Int) (a : Int), (-9223372036854775808 ≤ a ∧ a < 9223372036854775808) → -9223372036854775808 ≤ foldN xs a ∧ foldN xs a < 9223372036854775808 := by
    intro xs
    induction xs with
    | nil => intro a h; exact h
    | cons x xs ih =>
      intro a _
      refine ih (stepN a x) ?_
      unfold stepN
      rw [IntKind.wrap_i64]
      omega
  exact go xs 0 (by omega)
theorem foldN_snoc (xs : List Int) (c : Int) : foldN (xs ++ [c]) 0 = stepN (foldN xs 0) c := by simp [foldN]

/-- The number's text, figure by figure. -/
theorem numS_small {n : Int} (h0 : 0 ≤ n) (h1 : n < 10) : numS n = bytesOf [48 + n] := by
  unfold numS Lib.itoa bytesOf
  rw [if_neg (by omega), Lib.decDigits_one (by omega)]
  simp only [List.map_cons, List.map_nil]
  rw [show (48 + n).toNat = 48 + n.toNat by omega]
theorem numS_big {n : Int} (h : 10 ≤ n) : numS n = numS (n / 10) ++ bytesOf [48 + n % 10] := by
  unfold numS Lib.itoa bytesOf
  rw [if_neg (by omega), if_neg (by omega), dec_big (by omega), ba_append]
  simp only [List.map_cons, List.map_nil]
  rw [show (n / 10).toNat = n.toNat / 10 by omega, show (48 + n % 10).toNat = 48 + n.toNat % 10 by omega]
theorem numS_nsmall {n : Int} (h0 : n < 0) (h1 : -10 < n) : numS n = ⟨#[45]⟩ ++ bytesOf [48 - n] := by
  unfold numS Lib.itoa bytesOf
  rw [if_pos h0, Lib.decDigits_one (by omega)]
  have := ba_append [45] [UInt8.ofNat (48 - n).toNat]
  simp only [List.map_cons, List.map_nil]
  rw [show (48 - n).toNat = 48 + n.natAbs by omega] at *
  exact this.symm
theorem numS_nbig {n : Int} (h : n ≤ -10) : numS n = numS (-(-n / 10)) ++ bytesOf [48 + -n % 10] := by
  unfold numS Lib.itoa bytesOf
  rw [if_pos (by omega), if_pos (by omega), dec_big (by omega), ba_append]
  simp only [List.map_cons, List.map_nil]
  rw [show (-(-n / 10)).natAbs = n.natAbs / 10 by omega, show (48 + -n % 10).toNat = 48 + n.natAbs % 10 by omega]
  rfl

end Go.Proofs.YthckagkciefliaaGreatDoor.Hx

/-
  Dots and their texts, in plain Lean. No program in sight.
-/
set_option linter.unusedVariables false
namespace Go.Proofs.YthckagkciefliaaGreatDoor.Dt
open Go AL Hx

/-- May a dot be? -/
def mayD (r q : Int) : Prop := 0 ≤ r ∧ r ≤ 31 ∧ 1 ≤ q ∧ q ≤ 1099511627776
instance (r q : Int) : Decidable (mayD r q) := by unfold mayD; exact inferInstance
/-- The order of two dots. -/
def cmpD (a b c d : Int) : Int := if a < c then -1 else if c < a then 1 else if b < d then -1 else if d < b then 1 else 0
/-- A dot's text. -/
def textD (r q : Int) : ByteArray := numS r ++ ⟨#[58]⟩ ++ numS q

/-- The place of the first colon. -/
def atL (l : List UInt8) : Nat := l.idxOf 58
def atS (s : ByteArray) : Nat := atL s.data.toList
def leftS (s : ByteArray) : ByteArray := s.extract 0 (atS s)
def rightS (s : ByteArray) : ByteArray := s.extract (atS s + 1) s.size

theorem at_first {l : List UInt8} {k : Nat} (hk : k < l.length) (hc : l[k] = 58) (hn : ∀ i (hi : i < k), l[i]'(by omega) ≠ 58) : atL l = k := by
  induction l generalizing k with
  | nil => simp at hk
  | cons c l ih =>
    unfold atL
    cases k with
    | zero => simp at hc; subst hc; simp
    | succ k =>
      have h0 := hn 0 (by omega)
      simp only [List.getElem_cons_zero] at h0
      rw [List.idxOf_cons, show (c == 58) = false by simpa using h0, cond_false]
      have := ih (k := k) (by simpa using hk) (by simpa using hc) (fun i hi => by have := hn (i + 1) (by omega); simpa using this)
      unfold atL at this
      rw [this]
theorem at_none {l : List UInt8} (hn : ∀ c ∈ l, c ≠ 58) : atL l = l.length := by
  unfold atL
  rw [List.idxOf_eq_length]
  exact fun h => hn 58 h rfl
theorem at_le (l : List UInt8) : atL l ≤ l.length := List.idxOf_le_length
theorem at_get {l : List UInt8} (h : atL l < l.length) : l[atL l] = 58 := by
  unfold atL
  exact List.getElem_idxOf h

theorem extract_list (s : ByteArray) (a b : Nat) : (s.extract a b).data.toList = (s.data.toList.take b).drop a := by
  rw [ByteArray.data_extract, Array.toList_extract]
  simp [List.drop_take]
theorem ba_ext' {s t : ByteArray} (h : s.data.toList = t.data.toList) : s = t := by
  cases s; cases t; simp at h; congr

/-- A text with a colon, put together. -/
theorem cut_join {s : ByteArray} (h : atS s < s.size) : leftS s ++ ⟨#[58]⟩ ++ rightS s = s := by
  refine ba_ext' ?_
  have hl : s.data.toList.length = s.size := rfl
  have h' : atL s.data.toList < s.data.toList.length := by rw [hl]; exact h
  simp only [ByteArray.data_append, Array.toList_append, leftS, rightS, extract_list, List.drop_zero]
  have h1 : s.data.toList.take s.size = s.data.toList := List.take_of_length_le (by omega)
  rw [h1]
  have h2 : s.data.toList.drop (atS s) = 58 :: s.data.toList.drop (atS s + 1) := by
    unfold atS
    rw [List.drop_eq_getElem_cons h']
    congr 1
    exact at_get h'
  have h3 := List.take_append_drop (atS s) s.data.toList
  rw [h2] at h3
  rw [List.append_assoc]
  exact h3

theorem num_no58 {n : Int} : ∀ c ∈ (numS n).data.toList, c ≠ 58 := by
  intro c hc
  by_cases h : 0 ≤ n
  · have := num_digits h c hc
    rintro rfl
    exact absurd this.2 (by decide)
  · rw [numS_list] at hc
    unfold Lib.itoa at hc
    rw [if_pos (by omega)] at hc
    rcases List.mem_cons.1 hc with rfl | hc
    · decide
    · have := dec_digit _ c hc
      rintro rfl
      exact absurd this.2 (by decide)

theorem text_list (r q : Int) : (textD r q).data.toList = (numS r).data.toList ++ 58 :: (numS q).data.toList := by
  unfold textD
  simp [ByteArray.data_append]
theorem text_at (r q : Int) : atS (textD r q) = (numS r).size := by
  have hl : (numS r).data.toList.length = (numS r).size := rfl
  unfold atS
  refine at_first (k := (numS r).size) ?_ ?_ ?_
  · rw [text_list]; simp
  · simp only [text_list]
    rw [List.getElem_append_right (by omega)]
    simp
  · intro i hi
    simp only [text_list]
    rw [List.getElem_append_left (by omega)]
    exact num_no58 _ (List.getElem_mem _)
theorem text_size (r q : Int) : (textD r q).size = (numS r).size + 1 + (numS q).size := by
  unfold textD
  rw [ByteArray.size_append, ByteArray.size_append]
  rfl
theorem text_left (r q : Int) : leftS (textD r q) = numS r := by
  refine ba_ext' ?_
  have hl : (numS r).data.toList.length = (numS r).size := rfl
  unfold leftS
  rw [extract_list, text_at, text_list, List.drop_zero, List.take_append_of_le_length (by omega), List.take_of_length_le (by omega)]
theorem text_right (r q : Int) : rightS (textD r q) = numS q := by
  refine ba_ext' ?_
  have hl : (numS r).data.toList.length = (numS r).size := rfl
  have hs : (textD r q).data.toList.length = (textD r q).size := rfl
  unfold rightS
  rw [extract_list, text_at, List.take_of_length_le (by omega), text_list, ← hl, List.drop_append, List.drop_eq_nil_of_le (by omega)]
  simp

/-- Is a text a dot's? Then of which. -/
def okP (s : ByteArray) : Prop := atS s < s.size ∧ readE (leftS s) 31 = 0 ∧ readE (rightS s) 1099511627776 = 0 ∧ mayD (readV (leftS s) 31) (readV (rightS s) 1099511627776)
open Classical in
noncomputable def parseE (s : ByteArray) : Int := if okP s then 0 else 2
open Classical in
noncomputable def parseR (s : ByteArray) : Int := if okP s then readV (leftS s) 31 else 0
open Classical in
noncomputable def parseQ (s : ByteArray) : Int := if okP s then readV (rightS s) 1099511627776 else 0

theorem parse_ok {s : ByteArray} (h : okP s) : parseE s = 0 ∧ parseR s = readV (leftS s) 31 ∧ parseQ s = readV (rightS s) 1099511627776 := by
  unfold parseE parseR parseQ
  rw [if_pos h, if_pos h, if_pos h]
  exact ⟨rfl, rfl, rfl⟩
theorem parse_bad {s : ByteArray} (h : ¬ okP s) : parseE s = 2 ∧ parseR s = 0 ∧ parseQ s = 0 := by
  unfold parseE parseR parseQ
  rw [if_neg h, if_neg h, if_neg h]
  exact ⟨rfl, rfl, rfl⟩
theorem read_num {s : ByteArray} {m : Int} (h : readE s m = 0) : isNum s (readV s m) ∧ readV s m ≤ m := by
  by_cases hx : ∃ v, isNum s v
  · obtain ⟨v, hv⟩ := hx
    by_cases hm : v > m
    · rw [(read_over hv hm).1] at h; omega
    · rw [(read_ok hv hm).2]; exact ⟨hv, by omega⟩
  · rw [(read_none (most := m) fun v hv => hx ⟨v, hv⟩).1] at h; omega
theorem neg_not' {n : Int} (h : n < 0) (v : Int) : ¬ isNum (numS n) v := fun hn => by
  obtain ⟨r, e⟩ := num_neg h
  have := num_digits hn.1 45 (by rw [← hn.2.2, e]; simp)
  exact absurd this.1 (by decide)
/-- What is parsed may be, and has the very text. -/
theorem parse_back {s : ByteArray} (h : okP s) : mayD (parseR s) (parseQ s) ∧ textD (parseR s) (parseQ s) = s := by
  obtain ⟨_, e2, e3⟩ := parse_ok h
  obtain ⟨h1, h2, h3, h4⟩ := h
  rw [e2, e3]
  refine ⟨h4, ?_⟩
  have g1 := (read_num h2).1.2.2
  have g2 := (read_num h3).1.2.2
  unfold textD
  rw [← g1, ← g2]
  exact cut_join h1
/-- A dot's text is parsed as it, if it may be, and else as none. -/
theorem parse_text {r q : Int} (hr : -9223372036854775808 ≤ r ∧ r < 9223372036854775808) (hq : -9223372036854775808 ≤ q ∧ q < 9223372036854775808) :
    (mayD r q → okP (textD r q) ∧ parseR (textD r q) = r ∧ parseQ (textD r q) = q) ∧ (¬ mayD r q → ¬ okP (textD r q)) := by
  have hat : atS (textD r q) < (textD r q).size := by rw [text_at, text_size]; omega
  refine ⟨fun h => ?_, fun h hok => ?_⟩
  · obtain ⟨h1, h2, h3, h4⟩ := h
    have a := read_ok (s := numS r) (v := r) (most := 31) ⟨h1, hr.2, rfl⟩ (by omega)
    have b := read_ok (s := numS q) (v := q) (most := 1099511627776) ⟨by omega, hq.2, rfl⟩ (by omega)
    have hok : okP (textD r q) := by
      unfold okP
      rw [text_left, text_right, a.1, a.2, b.1, b.2]
      exact ⟨hat, rfl, rfl, h1, h2, h3, h4⟩
    obtain ⟨_, e2, e3⟩ := parse_ok hok
    rw [e2, e3, text_left, text_right]
    exact ⟨hok, a.2, b.2⟩
  · obtain ⟨_, h2, h3, h4⟩ := hok
    rw [text_left] at h2 h4
    rw [text_right] at h3 h4
    have g1 := (read_num h2).1
    have g2 := (read_num h3).1
    have e1 : r = readV (numS r) 31 := by
      rcases Int.lt_or_le r 0 with hlt | hge
      · exact absurd g1 (neg_not' hlt _)
      · exact numS_inj hge hr.2 g1.1 g1.2.1 g1.2.2
    have e2 : q = readV (numS q) 1099511627776 := by
      rcases Int.lt_or_le q 0 with hlt | hge
      · exact absurd g2 (neg_not' hlt _)
      · exact numS_inj hge hq.2 g2.1 g2.2.1 g2.2.2
    rw [← e1, ← e2] at h4
    exact h h4

theorem text_inj {r q r' q' : Int} (hr : 0 ≤ r ∧ r < 9223372036854775808) (hq : 0 ≤ q ∧ q < 9223372036854775808) (hr' : 0 ≤ r' ∧ r' < 9223372036854775808) (hq' : 0 ≤ q' ∧ q' < 9223372036854775808)
    (h : textD r q = textD r' q') : r = r' ∧ q = q' := by
  have h1 : numS r = numS r' := by rw [← text_left r q, ← text_left r' q', h]
  have h2 : numS q = numS q' := by rw [← text_right r q, ← text_right r' q', h]
  exact ⟨numS_inj hr.1 hr.2 hr'.1 hr'.2 h1, numS_inj hq.1 hq.2 hq'.1 hq'.2 h2⟩
theorem text_size_le {r q : Int} (hr : -9223372036854775808 ≤ r ∧ r < 9223372036854775808) (hq : -9223372036854775808 ≤ q ∧ q < 9223372036854775808) : (textD r q).size ≤ 43 := by
  rw [text_size]
  have := num_size_le hr.1 hr.2
  have := num_size_le hq.1 hq.2
  omega
theorem text_ne (r q : Int) : textD r q ≠ ByteArray.empty := fun h => by
  have := text_size r q
  rw [h] at this
  have : ByteArray.empty.size = 0 := rfl
  omega

end Go.Proofs.YthckagkciefliaaGreatDoor.Dt

/-
  Integers as floats, and the sign of a difference. No program in sight.
-/
set_option linter.unusedVariables false
set_option linter.unusedSimpArgs false
namespace Go.Proofs.YthckagkciefliaaGreatDoor.Flt
open Ieee

theorem dbl : double.fractionBits = 52 ∧ double.exponentBits = 11 ∧ double.leastPlace = -1074 ∧ double.binade = 4503599627370496 ∧ double.signWeight = 9223372036854775808 ∧ double.infRung = 9218868437227405312 := by
  refine ⟨rfl, rfl, by decide, by decide, by decide, by decide⟩

theorem cut0 (neg : Bool) (n : Nat) : Toward.even.cut neg n 0 = n := by
  unfold Toward.cut
  simp [Nat.mod_one]

/-- A word that is read: its sign, its rung. -/
theorem read_word (neg : Bool) (rung : Nat) (h : rung ≤ 9218868437227405312) :
    double.read (double.word neg rung) = if rung < 4503599627370496 then .number neg rung (-1074) else if rung < 9218868437227405312 then .number neg (4503599627370496 + rung % 4503599627370496) (-1074 + (rung / 4503599627370496 - 1 : Nat)) else .infinity neg := by
  obtain ⟨_, _, e3, e4, e5, e6⟩ := dbl
  have h1 : double.word neg rung / 9223372036854775808 % 2 == 1 ↔ neg = true := by
    unfold Format.word
    rw [e5]
    cases neg
    · simp; omega
    · simp; omega
  have h2 : double.word neg rung % 9223372036854775808 = rung := by
    unfold Format.word
    rw [e5]
    cases neg
    · simp; omega
    · simp; omega
  have h3 : (double.word neg rung / 9223372036854775808 % 2 == 1) = neg := by
    cases neg
    · have : ¬ ((double.word false rung / 9223372036854775808 % 2 == 1) = true) := fun h => Bool.false_ne_true (h1.1 h)
      simpa using this
    · exact h1.2 rfl
  unfold Format.read
  simp only [e3, e4, e5, e6, h2, h3]
  split
  · rfl
  · split
    · rfl
    · rw [if_pos (by omega)]

theorem log2_bounds {n : Nat} (h : n ≠ 0) : 2 ^ n.log2 ≤ n ∧ n < 2 ^ (n.log2 + 1) := ⟨Nat.log2_self_le h, Nat.lt_log2_self⟩

/-- An integer as a float, read again. -/
theorem read_int (neg : Bool) (m : Nat) (h0 : m ≠ 0) (h : m < 9007199254740992) :
    double.read (double.nearest neg m 0) = .number neg (m * 2 ^ (52 - m.log2)) ((m.log2 : Int) - 52) := by
  obtain ⟨e1, _, e3, e4, e5, e6⟩ := dbl
  obtain ⟨hl, hu⟩ := log2_bounds h0
  have hL : m.log2 ≤ 52 := by
    have : m.log2 < 53 := (Nat.log2_lt h0).2 (by simpa using h)
    omega
  unfold Format.nearest
  rw [if_neg h0]
  simp only [e1, e3, e4, e6]
  have hlast : max ((0 : Int) + (m.log2 : Int) - (52 : Nat)) (-1074) = (m.log2 : Int) - 52 := by omega
  rw [hlast]
  have d1 : ((0 : Int) - ((m.log2 : Int) - 52)).toNat = 52 - m.log2 := by omega
  have d2 : (((m.log2 : Int) - 52) - 0).toNat = 0 := by omega
  rw [d1, d2, cut0, Nat.shiftLeft_eq]
  have hk : 4503599627370496 ≤ m * 2 ^ (52 - m.log2) ∧ m * 2 ^ (52 - m.log2) < 9007199254740992 := by
    have p1 : 2 ^ m.log2 * 2 ^ (52 - m.log2) = 4503599627370496 := by rw [← Nat.pow_add, show m.log2 + (52 - m.log2) = 52 by omega]
    have p2 : 2 ^ (m.log2 + 1) * 2 ^ (52 - m.log2) = 9007199254740992 := by rw [← Nat.pow_add, show m.log2 + 1 + (52 - m.log2) = 53 by omega]
    have hp : 0 < 2 ^ (52 - m.log2) := Nat.two_pow_pos _
    constructor
    · rw [← p1]; exact Nat.mul_le_mul_right _ hl
    · rw [← p2]; exact (Nat.mul_lt_mul_right hp).2 hu
  generalize hK : m * 2 ^ (52 - m.log2) = K at *
  have d3 : ((m.log2 : Int) - 52 - -1074).toNat = m.log2 + 1022 := by omega
  rw [d3, Nat.min_eq_left (by omega), read_word neg _ (by omega), if_neg (by omega), if_pos (by omega)]
  congr 1
  · omega
  · omega

/-- The sign of a number that is written and read again. -/
theorem read_sign (neg : Bool) (m : Nat) (p : Int) (h0 : m ≠ 0) (hp : -1074 ≤ p + m.log2 - 52) :
    (∃ k q, k ≠ 0 ∧ double.read (double.nearest neg m p) = .number neg k q) ∨ double.read (double.nearest neg m p) = .infinity neg := by
  obtain ⟨e1, _, e3, e4, e5, e6⟩ := dbl
  obtain ⟨hl, hu⟩ := log2_bounds h0
  unfold Format.nearest
  rw [if_neg h0]
  simp only [e1, e3, e4, e6]
  have hlast : max (p + (m.log2 : Int) - (52 : Nat)) (-1074) = p + (m.log2 : Int) - 52 := by omega
  rw [hlast]
  -- what is kept has 53 digits at least
  have hkept : 4503599627370496 ≤ Toward.even.cut neg (m <<< (p - (p + (m.log2 : Int) - 52)).toNat) ((p + (m.log2 : Int) - 52) - p).toNat := by
    by_cases h : m.log2 ≤ 52
    · have d1 : (p - (p + (m.log2 : Int) - 52)).toNat = 52 - m.log2 := by omega
      have d2 : ((p + (m.log2 : Int) - 52) - p).toNat = 0 := by omega
      rw [d1, d2, cut0, Nat.shiftLeft_eq]
      have p1 : 2 ^ m.log2 * 2 ^ (52 - m.log2) = 4503599627370496 := by rw [← Nat.pow_add, show m.log2 + (52 - m.log2) = 52 by omega]
      rw [← p1]; exact Nat.mul_le_mul_right _ hl
    · have d1 : (p - (p + (m.log2 : Int) - 52)).toNat = 0 := by omega
      have d2 : ((p + (m.log2 : Int) - 52) - p).toNat = m.log2 - 52 := by omega
      rw [d1, d2, Nat.shiftLeft_zero]
      unfold Toward.cut
      simp only []
      have : 4503599627370496 ≤ m / 1 <<< min (m.log2 - 52) (m.log2 + 2) := by
        rw [Nat.min_eq_left (by omega), Nat.shiftLeft_eq, Nat.one_mul, Nat.le_div_iff_mul_le (Nat.two_pow_pos _)]
        have p1 : 4503599627370496 * 2 ^ (m.log2 - 52) = 2 ^ m.log2 := by
          rw [show (4503599627370496 : Nat) = 2 ^ 52 by decide, ← Nat.pow_add, show 52 + (m.log2 - 52) = m.log2 by omega]
        omega
      omega
  generalize Toward.even.cut neg (m <<< (p - (p + (m.log2 : Int) - 52)).toNat) ((p + (m.log2 : Int) - 52) - p).toNat = K at *
  generalize (p + (m.log2 : Int) - 52 - -1074).toNat = E
  have hr : 4503599627370496 ≤ min (E * 4503599627370496 + K) 9218868437227405312 := Nat.le_min.2 ⟨Nat.le_trans hkept (Nat.le_add_left _ _), by omega⟩
  have hr2 : min (E * 4503599627370496 + K) 9218868437227405312 ≤ 9218868437227405312 := Nat.min_le_right _ _
  generalize min (E * 4503599627370496 + K) 9218868437227405312 = R at *
  rw [read_word neg R hr2, if_neg (by omega)]
  split
  · exact .inl ⟨_, _, by omega, rfl⟩
  · exact .inr rfl

/-- An int64 as a float. -/
def ofInt (x : Int) : Nat := double.nearest (decide (x < 0)) x.natAbs 0

theorem signed_neg (s : Bool) (m up : Nat) : signed (!s) m up = - signed s m up := by
  unfold signed
  cases s <;> simp
theorem read_ofInt {x : Int} (h : x.natAbs < 9007199254740992) : ∃ m i, double.read (ofInt x) = .number (decide (x < 0)) m i ∧ -1074 ≤ i ∧ i ≤ 0 ∧
    ∀ b : Int, b ≤ i → signed (decide (x < 0)) m (i - b).toNat = x * 2 ^ (-b).toNat := by
  by_cases h0 : x = 0
  · subst h0
    refine ⟨0, -1074, ?_, by decide, by decide, fun b hb => by simp [signed]⟩
    unfold ofInt Format.nearest
    rw [if_pos (by decide), read_word _ _ (by decide), if_pos (by decide)]
  · have hm : x.natAbs ≠ 0 := by omega
    have hL : x.natAbs.log2 ≤ 52 := by
      have : x.natAbs.log2 < 53 := (Nat.log2_lt hm).2 (by simpa using h)
      omega
    refine ⟨_, _, read_int _ _ hm h, by omega, by omega, fun b hb => ?_⟩
    have e : (52 - x.natAbs.log2) + (((x.natAbs.log2 : Int) - 52) - b).toNat = (-b).toNat := by omega
    have h1 : (x.natAbs * 2 ^ (52 - x.natAbs.log2)) <<< (((x.natAbs.log2 : Int) - 52) - b).toNat = x.natAbs * 2 ^ (-b).toNat := by
      rw [Nat.shiftLeft_eq, Nat.mul_assoc, ← Nat.pow_add, e]
    unfold signed
    rw [h1]
    by_cases hn : x < 0
    · simp only [hn, decide_true, if_true]
      have : (x.natAbs : Int) = -x := by omega
      push_cast
      rw [this, Int.neg_mul, Int.neg_neg]
    · simp only [hn, decide_false, Bool.false_eq_true, if_false]
      have : (x.natAbs : Int) = x := by omega
      push_cast
      rw [this]

theorem read_zero : double.read 0 = .number false 0 (-1074) := by decide

/-- The sign of a float. -/
def sgn (r : Nat) (c : Ordering) : Prop := double.order r 0 = some c ∧ double.order r r = some .eq

theorem sgn_zero (neg : Bool) (p : Int) : sgn (double.nearest neg 0 p) .eq := by
  have : double.read (double.nearest neg 0 p) = .number neg 0 (-1074) := by
    unfold Format.nearest
    rw [if_pos rfl, read_word _ _ (by decide), if_pos (by decide)]
  unfold sgn Format.order
  rw [this, read_zero]
  cases neg <;> decide
theorem compare_self (a : Int) : compare a a = .eq := by simp [compare, compareOfLessAndEq]
theorem sgn_read {r k : Nat} {q : Int} {neg : Bool} (hk : k ≠ 0) (h : double.read r = .number neg k q) : sgn r (if neg then .lt else .gt) := by
  unfold sgn Format.order
  rw [h, read_zero]
  refine ⟨?_, ?_⟩
  · simp only [Datum.order]
    have h0 : ∀ up, signed false 0 up = 0 := fun up => by simp [signed]
    rw [h0]
    have hp : ∀ up, (0 : Int) < ((k <<< up : Nat) : Int) := fun up => by
      rw [Nat.shiftLeft_eq]
      have : 0 < k * 2 ^ up := Nat.mul_pos (by omega) (Nat.two_pow_pos _)
      exact_mod_cast this
    have := hp (q - min q (-1074)).toNat
    cases neg
    · simp only [signed, Bool.false_eq_true, if_false, compare, compareOfLessAndEq]
      rw [if_neg (by omega), if_neg (by omega)]
    · simp only [signed, if_true, compare, compareOfLessAndEq]
      rw [if_pos (by omega)]
  · simp only [Datum.order, compare_self]
theorem sgn_inf {r : Nat} {neg : Bool} (h : double.read r = .infinity neg) : sgn r (if neg then .lt else .gt) := by
  unfold sgn Format.order
  rw [h, read_zero]
  cases neg <;> decide

/-- The difference of two integers that are small, as floats. -/
theorem sub_sgn {x y : Int} (hx : x.natAbs < 9007199254740992) (hy : y.natAbs < 9007199254740992) :
    ∃ r, double.sub (ofInt x) (ofInt y) = some r ∧ sgn r (if x < y then .lt else if x = y then .eq else .gt) := by
  obtain ⟨m, i, e1, i1, i2, hm⟩ := read_ofInt hx
  obtain ⟨n, j, e2, j1, j2, hn⟩ := read_ofInt hy
  unfold Format.sub
  rw [e1, e2]
  simp only [Datum.opposite, Datum.sum, Option.map_some]
  rw [signed_neg, hm _ (by omega), hn _ (by omega)]
  have hb : (-(min i j)).toNat ≤ 1074 := by omega
  have hb2 : min i j = -(((-(min i j)).toNat : Nat) : Int) := by omega
  generalize hB : (-(min i j)).toNat = B at *
  have ht : x * 2 ^ B + -(y * 2 ^ B) = (x - y) * 2 ^ B := by rw [Int.sub_mul]; omega
  rw [ht, hb2]
  have hpos : (0 : Int) < 2 ^ B := Int.pow_pos (by decide)
  refine ⟨_, rfl, ?_⟩
  unfold Format.write
  simp only []
  by_cases hxy : x = y
  · subst hxy
    have h0 : (x - x) * 2 ^ B = 0 := by rw [Int.sub_self, Int.zero_mul]
    have e : (if x < x then Ordering.lt else if x = x then .eq else .gt) = .eq := by rw [if_neg (Int.lt_irrefl x), if_pos rfl]
    rw [e, h0, if_pos rfl]
    exact sgn_zero _ _
  · have hne : (x - y) * 2 ^ B ≠ 0 := Int.mul_ne_zero (by omega) (Int.ne_of_gt hpos)
    rw [if_neg hne]
    have hmag : ((x - y) * 2 ^ B).natAbs ≠ 0 := by omega
    have hlog : B ≤ ((x - y) * 2 ^ B).natAbs.log2 := by
      rw [Nat.le_log2 hmag, Int.natAbs_mul]
      have h1 : ((2 : Int) ^ B).natAbs = 2 ^ B := by rw [Int.natAbs_pow]; rfl
      rw [h1]
      have h2 : 1 ≤ (x - y).natAbs := by omega
      calc 2 ^ B = 1 * 2 ^ B := by rw [Nat.one_mul]
        _ ≤ (x - y).natAbs * 2 ^ B := Nat.mul_le_mul_right _ h2
    have hsign : decide ((x - y) * 2 ^ B < 0) = decide (x < y) := by
      have : (x - y) * 2 ^ B < 0 ↔ x < y := by
        constructor
        · intro h
          rcases Int.lt_or_le x y with h' | h'
          · exact h'
          · have := Int.mul_nonneg (show 0 ≤ x - y by omega) (Int.le_of_lt hpos)
            omega
        · intro h
          have := Int.mul_pos (show 0 < y - x by omega) hpos
          have e : (x - y) * 2 ^ B = -((y - x) * 2 ^ B) := by rw [← Int.neg_mul]; congr 1; omega
          omega
      simp only [this]
    rw [hsign]
    have hres : sgn (double.nearest (decide (x < y)) ((x - y) * 2 ^ B).natAbs (-(B : Int))) (if (decide (x < y)) = true then .lt else .gt) := by
      rcases read_sign (decide (x < y)) ((x - y) * 2 ^ B).natAbs (-(B : Int)) hmag (by omega) with ⟨k, q, hk, e⟩ | e
      · exact sgn_read hk e
      · exact sgn_inf e
    by_cases hlt : x < y
    · simp only [hlt, decide_true, if_true] at hres ⊢; exact hres
    · simp only [hlt, decide_false, Bool.false_eq_true, if_false, hxy] at hres ⊢; exact hres

end Go.Proofs.YthckagkciefliaaGreatDoor.Flt

/-
  The contracts of dots' order, and of whether one may be: the program's and the document's.
-/
set_option linter.unusedVariables false
set_option linter.unusedSectionVars false
namespace Go.Proofs.YthckagkciefliaaGreatDoor.Dt
open Go AL Hx

def ordI : Ordering → Int
  | .lt => -1
  | .eq => 0
  | .gt => 1
def cmpI (a b : Int) : Int := if a < b then -1 else if b < a then 1 else 0
def ord (a b : Int) : Ordering := if a < b then .lt else if a = b then .eq else .gt
theorem ord_cmp (a b : Int) : ordI (ord a b) = cmpI a b := by
  unfold ord cmpI
  split
  · rfl
  · split
    · rw [if_neg (by omega)]; rfl
    · rw [if_pos (by omega)]; rfl
theorem cmp_two (a b c d : Int) : (if cmpI a c = 0 then cmpI b d else cmpI a c) = cmpD a b c d := by
  unfold cmpI cmpD
  by_cases h1 : a < c
  · simp [h1]
  · by_cases h2 : c < a
    · simp [h1, h2]
    · simp [h1, h2]

section
variable {P : Program}
theorem sgn0 : Flt.sgn 0 .eq := by
  refine ⟨?_, ?_⟩ <;>
  · unfold Ieee.Format.order
    rw [Flt.read_zero]
    decide
theorem run_neq {x : Nat} {c : Ordering} (h : Flt.sgn x c) (T : TypeId) (w : World) : (binOp .neq T (.float .f64 x) (.float .f64 x)).run P w = .ok (.bool false) w := by
  have : FloatKind.f64.format.order x x = some .eq := h.2
  simp [binOp, Op.floatCmp, this]
theorem run_lss {x : Nat} {c : Ordering} (h : Flt.sgn x c) (T : TypeId) (w : World) : (binOp .lss T (.float .f64 x) (.float .f64 0)).run P w = .ok (.bool (c == .lt)) w := by
  have : FloatKind.f64.format.order x 0 = some c := h.1
  simp [binOp, Op.floatCmp, this]
theorem run_gtr {x : Nat} {c : Ordering} (h : Flt.sgn x c) (T : TypeId) (w : World) : (binOp .gtr T (.float .f64 x) (.float .f64 0)).run P w = .ok (.bool (c == .gt)) w := by
  have : FloatKind.f64.format.order x 0 = some c := h.1
  simp [binOp, Op.floatCmp, this]
theorem run_conv (src dst : TypeId) (q : IntKind) (n : Int) (hs : (P.underlying src).isSome = true) (hd : P.underlying dst = some (.float .f64)) (w : World) :
    (convert src dst (.int q n)).run P w = .ok (.float .f64 (Flt.ofInt n)) w := run_convert_int_float w src dst q .f64 n hs hd
theorem run_csub (T : TypeId) {a b c d re im : Nat} (h1 : Ieee.double.sub a c = some re) (h2 : Ieee.double.sub b d = some im) (w : World) :
    (binOp .sub T (.complex .f64 a b) (.complex .f64 c d)).run P w = .ok (.complex .f64 re im) w := by
  refine run_complex_sum w .sub (.inr rfl) T .f64 a b c d re im ?_
  have e1 : floatBits .sub .f64 a c = some re := h1
  have e2 : floatBits .sub .f64 b d = some im := h2
  unfold cSumBits
  rw [e1, e2]
  rfl
end

section
variable [Globs]

set_option maxRecDepth 10000 in
theorem isNaNF_prog (x : Nat) (c : Ordering) (h : Flt.sgn x c) : ACalls Tryz.prog 126 [.raw (.float .f64 x)] [] (fun r h => r = .ff ∧ h = []) := by
  refine rcalls Tryz.func126 rfl (by decide) ?_
  refine ⟨_, fun w => run_neq h _ w, ?_⟩
  exact ⟨[], [], .ff, leh0, .rff, rfl, rfl⟩
set_option maxRecDepth 10000 in
theorem isNaNI_prog (x : Int) : ACalls Tryz.prog 127 [int .i64 x] [] (fun r h => r = .ff ∧ h = []) := by
  refine rcalls Tryz.func127 rfl (by decide) ?_
  refine ⟨[], [], .ff, leh0, ?_, rfl, rfl⟩
  have : decide (¬ x = x) = false := by simp
  show LeV _ _ (bool (decide (¬ x = x))) _
  rw [this]; exact .rff
set_option maxRecDepth 10000 in
theorem isNaNL_prog (x : Int) : ACalls Tryz.prog 128 [int .i64 x] [] (fun r h => r = .ff ∧ h = []) := by
  refine rcalls Tryz.func128 rfl (by decide) ?_
  refine ⟨[], [], .ff, leh0, ?_, rfl, rfl⟩
  have : decide (¬ x = x) = false := by simp
  show LeV _ _ (bool (decide (¬ x = x))) _
  rw [this]; exact .rff

set_option maxRecDepth 10000 in
theorem compareF_prog (x : Nat) (c : Ordering) (h : Flt.sgn x c) : ACalls Tryz.prog 109 [.raw (.float .f64 x), .raw (.float .f64 0)] [] (fun r h => r = int .i64 (ordI c) ∧ h = []) := by
  refine rcalls Tryz.func109 rfl (by decide) ?_
  refine ⟨[], _, isNaNF_prog x c h, ?_⟩
  rintro r h ⟨rfl, rfl⟩
  refine ⟨.inl rfl, ?_⟩
  refine ⟨[], _, isNaNF_prog 0 .eq sgn0, ?_⟩
  rintro r h ⟨rfl, rfl⟩
  refine ⟨.inl rfl, ?_⟩
  refine ⟨_, fun w => run_lss (by assumption) _ w, ?_⟩
  refine ⟨fun e => ?_, fun e => ?_⟩
  · have : c = .lt := by revert e; cases c <;> decide
    subst this
    exact ⟨[], [], _, leh0, leI rfl, rfl, rfl⟩
  refine ⟨_, fun w => run_gtr (by assumption) _ w, ?_⟩
  refine ⟨fun g => ?_, fun g => ?_⟩
  · have : c = .gt := by revert g; cases c <;> decide
    subst this
    exact ⟨[], [], _, leh0, leI rfl, rfl, rfl⟩
  · have : c = .eq := by revert e g; cases c <;> decide
    subst this
    exact ⟨[], [], _, leh0, leI rfl, rfl, rfl⟩

set_option maxRecDepth 10000 in
theorem compareI_prog (x y : Int) : ACalls Tryz.prog 110 [int .i64 x, int .i64 y] [] (fun r h => r = int .i64 (cmpI x y) ∧ h = []) := by
  refine rcalls Tryz.func110 rfl (by decide) ?_
  refine ⟨[], _, isNaNI_prog x, ?_⟩
  rintro r h ⟨rfl, rfl⟩
  refine ⟨.inl rfl, ?_⟩
  refine ⟨[], _, isNaNI_prog y, ?_⟩
  rintro r h ⟨rfl, rfl⟩
  refine ⟨.inl rfl, ?_⟩
  refine ⟨fun e => ?_, fun e => ⟨fun g => ?_, fun g => ?_⟩⟩
  · have := yes e
    exact ⟨[], [], _, leh0, leI (by unfold cmpI; rw [if_pos this]), rfl, rfl⟩
  · have h1 := no e
    have h2 := yes g
    exact ⟨[], [], _, leh0, leI (by unfold cmpI; rw [if_neg h1, if_pos h2]), rfl, rfl⟩
  · have h1 := no e
    have h2 := no g
    exact ⟨[], [], _, leh0, leI (by unfold cmpI; rw [if_neg h1, if_neg h2]), rfl, rfl⟩
set_option maxRecDepth 10000 in
theorem compareL_prog (x y : Int) : ACalls Tryz.prog 111 [int .i64 x, int .i64 y] [] (fun r h => r = int .i64 (cmpI x y) ∧ h = []) := by
  refine rcalls Tryz.func111 rfl (by decide) ?_
  refine ⟨[], _, isNaNL_prog x, ?_⟩
  rintro r h ⟨rfl, rfl⟩
  refine ⟨.inl rfl, ?_⟩
  refine ⟨[], _, isNaNL_prog y, ?_⟩
  rintro r h ⟨rfl, rfl⟩
  refine ⟨.inl rfl, ?_⟩
  refine ⟨fun e => ?_, fun e => ⟨fun g => ?_, fun g => ?_⟩⟩
  · have := yes e
    exact ⟨[], [], _, leh0, leI (by unfold cmpI; rw [if_pos this]), rfl, rfl⟩
  · have h1 := no e
    have h2 := yes g
    exact ⟨[], [], _, leh0, leI (by unfold cmpI; rw [if_neg h1, if_pos h2]), rfl, rfl⟩
  · have h1 := no e
    have h2 := no g
    exact ⟨[], [], _, leh0, leI (by unfold cmpI; rw [if_neg h1, if_neg h2]), rfl, rfl⟩

set_option maxRecDepth 10000 in
theorem or_prog (a b : Int) : ACalls Tryz.prog 76 [.roI .i64 [a, b]] [] (fun r h => r = int .i64 (if a = 0 then b else a) ∧ h = []) := by
  refine rcalls Tryz.func76 rfl (by decide) ?_
  refine ⟨Nat, fun k => [(3, int .i64 0), (6, .roI .i64 [a, b]), (7, int .i64 2), (8, int .i64 k)], fun _ => [], fun k => k ≤ 2 ∧ (1 ≤ k → a = 0) ∧ (2 ≤ k → b = 0), fun k => 2 - k,
    ⟨0, [], ⟨by omega, by omega, by omega⟩, leh0, ⟨leI rfl, leRo rfl, leI rfl, leI rfl, trivial⟩⟩, ?_⟩
  rintro k ⟨hk, ha, hb⟩
  refine ⟨fun c => ?_, fun c => ?_⟩
  · have f1 : (k : Int) < 2 := yes c
    refine ⟨⟨by omega, f1⟩, ?_⟩
    have hcase : k = 0 ∨ k = 1 := by omega
    refine ⟨fun g => ?_, fun g => ?_⟩
    · have g1 := yes g
      refine ⟨[], [], _, leh0, leI ?_, rfl, rfl⟩
      rcases hcase with rfl | rfl
      · have g2 : ¬ a = 0 := g1
        rw [if_neg g2]; rfl
      · rw [if_pos (ha (by omega))]; rfl
    · have g1 := no g
      have e1 : IntKind.i64.wrap ((k : Int) + 1) = ((k + 1 : Nat) : Int) := by rw [w64 (by omega) (by omega)]; omega
      refine ⟨trivial, k + 1, [], ⟨by omega, fun _ => ?_, fun h2 => ?_⟩, by show 2 - (k + 1) < 2 - k; omega, leh0, ⟨leI rfl, leRo rfl, leI rfl, leI e1, trivial⟩⟩
      · rcases hcase with rfl | rfl
        · have g2 : ¬ ¬ a = 0 := g1
          exact Classical.not_not.1 g2
        · exact ha (by omega)
      · obtain rfl : k = 1 := by omega
        have g2 : ¬ ¬ b = 0 := g1
        exact Classical.not_not.1 g2
  · have f1 : ¬ (k : Int) < 2 := no c
    refine ⟨[], [], _, leh0, leI ?_, rfl, rfl⟩
    rw [if_pos (ha (by omega)), hb (by omega)]

/-- A number that fits into a float's 50 bits. -/
def fit (a b : Int) : Prop := -1125899906842624 < a ∧ a < 1125899906842624 ∧ -1125899906842624 < b ∧ b < 1125899906842624
instance (a b : Int) : Decidable (fit a b) := by unfold fit; exact inferInstance

set_option maxHeartbeats 1000000 in
set_option maxRecDepth 10000 in
theorem point_prog (a b : Int) : ACalls Tryz.prog 108 [dotV a b] [] (fun r h => r = .tup 2 (pair (.raw (.complex .f64 (Flt.ofInt a) (Flt.ofInt b))) (bool (decide (fit a b)))) ∧ h = []) := by
  refine rcalls Tryz.func108 rfl (by decide) ?_
  refine ⟨fun c1 => ⟨fun c2 => ⟨fun c3 => ?_, fun c3 => ?_⟩, fun c2 => ?_⟩, fun c1 => ?_⟩
  all_goals
    refine ⟨_, fun w => run_conv _ _ _ _ rfl rfl w, ?_⟩
    refine ⟨_, fun w => run_conv _ _ _ _ rfl rfl w, ?_⟩
    refine ⟨[], [], _, lehN _, le_pair (.raw _) ?_, rfl, rfl⟩
  · have := yes c1; have := yes c2; have := yes c3
    exact leP (by unfold fit; omega)
  · have := no c3
    exact leFP (by unfold fit; omega)
  · have := no c2
    exact leFP (by unfold fit; omega)
  · have := no c1
    exact leFP (by unfold fit; omega)

set_option maxHeartbeats 1000000 in
set_option maxRecDepth 10000 in
theorem compare_prog (a b c d : Int) : ACalls Tryz.prog 78 [dotV a b, dotV c d] [] (fun r h => r = int .i64 (cmpD a b c d) ∧ h = []) := by
  have hF : fit a b → fit c d → ∃ r, ∃ i, Ieee.double.sub (Flt.ofInt a) (Flt.ofInt c) = some r ∧ Ieee.double.sub (Flt.ofInt b) (Flt.ofInt d) = some i ∧ Flt.sgn r (ord a c) ∧ Flt.sgn i (ord b d) := fun hh gg => by
    obtain ⟨h1, h2, h3, h4⟩ := hh
    obtain ⟨g1, g2, g3, g4⟩ := gg
    obtain ⟨r, e1, e2⟩ := Flt.sub_sgn (x := a) (y := c) (by omega) (by omega)
    obtain ⟨i, e3, e4⟩ := Flt.sub_sgn (x := b) (y := d) (by omega) (by omega)
    exact ⟨r, i, e1, e3, e2, e4⟩
  have hc := cmp_two a b c d
  refine rcalls Tryz.func78 rfl (by decide) ?_
  refine ⟨[], _, dfree rfl rfl, (point_prog a b).args ⟨vdot rfl rfl, trivial⟩, ?_⟩
  rintro r h ⟨rfl, rfl⟩
  refine ⟨.inl rfl, ?_⟩
  refine ⟨[], _, dfree rfl rfl, (point_prog c d).args ⟨vdot rfl rfl, trivial⟩, ?_⟩
  rintro r h ⟨rfl, rfl⟩
  refine ⟨.inl rfl, ?_⟩
  have rest : True := trivial
  refine ⟨fun c1 => ⟨fun c2 => ?_, fun c2 => ?_⟩, fun c1 => ?_⟩
  · obtain ⟨r, i, e1, e2, s1, s2⟩ := hF (yes c1) (yes c2)
    refine ⟨_, fun w => run_csub _ e1 e2 w, ?_⟩
    refine ⟨[], _, compareF_prog r _ s1, ?_⟩
    rintro r h ⟨rfl, rfl⟩
    refine ⟨.inl rfl, ?_⟩
    refine ⟨[], _, compareF_prog i _ s2, ?_⟩
    rintro r h ⟨rfl, rfl⟩
    refine ⟨.inl rfl, ?_⟩
    rw [ord_cmp, ord_cmp]
    refine ⟨[], _, Nat.le_refl _, or_prog (cmpI a c) (cmpI b d), ?_⟩
    rintro r h ⟨rfl, rfl⟩
    refine ⟨.inr ⟨trivial, fun o ho => by cases ho⟩, ?_⟩
    exact ⟨[], [], _, lehN _, leI hc, rfl, rfl⟩
  all_goals
    refine .inr ⟨12, by decide +kernel, ?_⟩
    refine ⟨_, rfl, ?_⟩
    refine ⟨_, rfl, ?_⟩
    refine ⟨_, rfl, ?_⟩
    refine ⟨_, rfl, ?_⟩
    refine ⟨_, ⟨[], _, compareI_prog a c, by rintro r h ⟨rfl, rfl⟩; exact ⟨.inl rfl, rfl, rfl⟩⟩, ?_⟩
    refine ⟨_, rfl, ?_⟩
    refine ⟨_, rfl, ?_⟩
    refine ⟨_, rfl, ?_⟩
    refine ⟨_, rfl, ?_⟩
    refine ⟨_, ⟨[], _, compareL_prog b d, by rintro r h ⟨rfl, rfl⟩; exact ⟨.inl rfl, rfl, rfl⟩⟩, ?_⟩
    refine ⟨_, rfl, ?_⟩
    refine ⟨_, ⟨[], _, or_prog (cmpI a c) (cmpI b d), by rintro r h ⟨rfl, rfl⟩; exact ⟨.inl rfl, rfl, rfl⟩⟩, ?_⟩
    exact ⟨[], [], _, lehN _, leI hc, rfl, rfl⟩

set_option maxHeartbeats 1000000 in
set_option maxRecDepth 10000 in
theorem compare_ref (a b c d : Int) : ACalls Tryz.prog 83 [dotV a b, dotV c d] [] (fun r h => r = int .i64 (cmpD a b c d) ∧ h = []) := by
  refine rcalls Tryz.func83 rfl (by decide) ?_
  refine ⟨⟨by decide +kernel, by decide +kernel, by decide +kernel⟩, ?_⟩
  refine ⟨fun c1 => ?_, fun c1 => ?_⟩
  · have h1 : a = c ∧ b = d := by simpa [leafEq] using c1
    exact ⟨[], [], _, lehN _, leI (by unfold cmpD; rw [h1.1, h1.2]; simp), rfl, rfl⟩
  have h1 : ¬ (a = c ∧ b = d) := by simpa [leafEq] using c1
  refine ⟨fun c2 => ?_, fun c2 => ⟨fun c3 => ⟨fun c4 => ?_, fun c4 => ?_⟩, fun c3 => ?_⟩⟩
  · have := yes c2
    exact ⟨[], [], _, lehN _, leI (by unfold cmpD; rw [if_pos this]), rfl, rfl⟩
  · have g1 := no c2; have g2 := yes c3; have g3 := yes c4
    exact ⟨[], [], _, lehN _, leI (by unfold cmpD; rw [if_neg g1, if_neg (by omega), if_pos g3]), rfl, rfl⟩
  · have g1 := no c2; have g2 := yes c3; have g3 := no c4
    exact ⟨[], [], _, lehN _, leI (by unfold cmpD; rw [if_neg g1, if_neg (by omega), if_neg g3, if_pos (by omega)]), rfl, rfl⟩
  · have g1 := no c2; have g2 := no c3
    exact ⟨[], [], _, lehN _, leI (by unfold cmpD; rw [if_neg g1, if_pos (by omega)]), rfl, rfl⟩

set_option maxHeartbeats 1000000 in
set_option maxRecDepth 10000 in
theorem replica_prog (n : Int) : ACalls Tryz.prog 103 [int .i64 n] [] (fun r h => r = bool (decide (0 ≤ n ∧ n ≤ 31)) ∧ h = []) := by
  refine rcalls Tryz.func103 rfl (by decide) ?_
  refine ⟨fun c1 => ?_, fun c1 => ?_⟩
  · have := yes c1
    exact ⟨[], [], _, leh0, leP (by omega), rfl, rfl⟩
  · have := no c1
    exact ⟨[], [], _, leh0, leFP (by omega), rfl, rfl⟩

set_option maxHeartbeats 1000000 in
set_option maxRecDepth 10000 in
theorem may_prog (a b : Int) : ACalls Tryz.prog 67 [dotV a b] [] (fun r h => r = bool (decide (mayD a b)) ∧ h = []) := by
  refine rcalls Tryz.func67 rfl (by decide) ?_
  refine ⟨[], _, replica_prog a, ?_⟩
  rintro r h ⟨rfl, rfl⟩
  refine ⟨.inl rfl, ?_⟩
  refine ⟨fun c1 => ⟨fun c2 => ?_, fun c2 => ?_⟩, fun c1 => ?_⟩
  · have := yes c1; have := yes c2
    exact ⟨[], [], _, lehN _, leP (by unfold mayD; omega), rfl, rfl⟩
  · have := no c2
    exact ⟨[], [], _, lehN _, leFP (by unfold mayD; omega), rfl, rfl⟩
  · have := no c1
    exact ⟨[], [], _, lehN _, leFP (by unfold mayD; omega), rfl, rfl⟩

set_option maxHeartbeats 1000000 in
set_option maxRecDepth 10000 in
theorem may_ref (a b : Int) : ACalls Tryz.prog 79 [dotV a b] [] (fun r h => r = bool (decide (mayD a b)) ∧ h = []) := by
  refine rcalls Tryz.func79 rfl (by decide) ?_
  refine ⟨fun c1 => ⟨fun c2 => ⟨fun c3 => ?_, fun c3 => ?_⟩, fun c2 => ?_⟩, fun c1 => ?_⟩
  · have := yes c1; have := yes c2; have := yes c3
    exact ⟨[], [], _, lehN _, leP (by unfold mayD; omega), rfl, rfl⟩
  · have := no c3
    exact ⟨[], [], _, lehN _, leFP (by unfold mayD; omega), rfl, rfl⟩
  · have := no c2
    exact ⟨[], [], _, lehN _, leFP (by unfold mayD; omega), rfl, rfl⟩
  · have := no c1
    exact ⟨[], [], _, lehN _, leFP (by unfold mayD; omega), rfl, rfl⟩

end
end Go.Proofs.YthckagkciefliaaGreatDoor.Dt

/-
  The contracts of the numbers' texts: strconv's, hexa.Number, hexa.Read, and the document's own.
-/
set_option linter.unusedVariables false
set_option linter.unusedSectionVars false
namespace Go.Proofs.YthckagkciefliaaGreatDoor.Hx
open Go AL
section
variable [Globs]

def isIfc (cs : Array Value) : Prop := ∃ T u, cs = #[.iface T u]
def isTab (cs : Array Value) : Prop := cs = (Lib.pow10Tab.map (Value.int .u64)).toArray
/-- What strconv reads is known. -/
structure NumG : Prop where
  syn : (2, isIfc) ∈ Globs.l
  rng : (3, isIfc) ∈ Globs.l
  tab : (1, isTab) ∈ Globs.l

theorem below_grow {w : World} {k : Nat} {os : Array Obj} : RowKit.Below w.heap.size w (Sort.grow (w.drewN k) os) :=
  ⟨rfl, rfl, rfl, by simp [Sort.grow], fun i hi => by simp [Sort.grow]; exact Array.getElem?_append_left hi⟩

theorem format_prog (hG : NumG) (n : Int) (h0 : -9223372036854775808 ≤ n) (h1 : n < 9223372036854775808) : ACalls Tryz.prog 99 [int .i64 n, int .i64 10] [] (fun r h => r = str (numS n) ∧ h = []) := by
  refine acalls_below (args := [.int .i64 n, .int .i64 10]) ⟨_, Tryz.func99, by decide, rfl⟩ trivial trivial fun S w hg => ?_
  obtain ⟨cs, hv, hc⟩ := hg.var (P := Tryz.prog) (n := "internal/strconv.uint64pow10") (by kernel_rfl) hG.tab
  refine (Tryz.strconv_FormatInt_10 n h0 (by omega) w (by unfold Lib.TabIs; rw [hv]; exact congrArg some hc)).mono fun e w' he => ?_
  obtain ⟨rfl, k, os, rfl⟩ := he
  exact ⟨_, rfl, rfl, below_grow⟩

/-- What ParseInt hands back. -/
def parseT (s : ByteArray) : AV := match Lib.parseIntB 64 s.data.toList with
  | .ok v => .tup 2 (pair (int .i64 v) (.raw .nilIface))
  | .range => .tup 2 (pair (int .i64 (Lib.intSat 64 s.data.toList)) .ifc)
  | _ => .tup 2 (pair (int .i64 0) .ifc)
theorem den_pair {w : World} {S : Nat → Prop} {L : AL.Loc} {a b : AV} {u v : Value} (h1 : den w S L a u) (h2 : den w S L b v) : den w S L (.tup 2 (pair a b)) (.tuple #[u, v]) :=
  ⟨_, rfl, rfl, fun i hi => by
    match i, hi with
    | 0, _ => exact ⟨u, rfl, h1⟩
    | 1, _ => exact ⟨v, rfl, h2⟩⟩
theorem parseInt_prog (hG : NumG) (s : ByteArray) (hs : s.size ≤ 281474976710656) : ACalls Tryz.prog 101 [str s, int .i64 10, int .i64 64] [] (fun r h => r = parseT s ∧ h = []) := by
  have free : ∀ a b : AV, a.free → b.free → (AV.tup 2 (pair a b)).free := fun a b ha hb i hi => by
    match i, hi with
    | 0, _ => exact ha
    | 1, _ => exact hb
  have flat : ∀ a b : AV, a.flat → b.flat → (AV.tup 2 (pair a b)).flat := fun a b ha hb i hi => by
    match i, hi with
    | 0, _ => exact ha
    | 1, _ => exact hb
  refine acalls_below (args := [.string s, .int .i64 10, .int .i64 64]) ⟨_, Tryz.func101, by decide, rfl⟩ ?_ ?_ fun S w hg => ?_
  · unfold parseT; split
    · exact free _ _ trivial trivial
    · exact free _ _ trivial trivial
    · exact free _ _ trivial trivial
  · unfold parseT; split
    · exact flat _ _ trivial trivial
    · exact flat _ _ trivial trivial
    · exact flat _ _ trivial trivial
  unfold parseT
  cases hp : Lib.parseIntB 64 s.data.toList
  · rename_i v
    refine (Tryz.strconv_ParseInt_10_at64_ok s (by omega) v hp w).mono fun e w' he => ?_
    obtain ⟨rfl, hw⟩ := he
    refine ⟨_, rfl, den_pair rfl rfl, ?_⟩
    rcases hw with rfl | ⟨t, rfl⟩
    · exact .refl _ _
    · exact Lib.bytesWorld_below _ _ _
  · obtain ⟨cs, hv, tp, u, rfl⟩ := hg.var (P := Tryz.prog) (n := "strconv.ErrSyntax") (by kernel_rfl) hG.syn
    refine (Go.Proofs.Any.strconv_ParseInt_10_at64_syntax_var Tryz.laysC174 s hs hp tp u w hv).mono fun e w' he => ?_
    obtain ⟨N, rfl, _, _, hb⟩ := he
    exact ⟨_, rfl, den_pair rfl ⟨_, _, rfl⟩, hb⟩
  · obtain ⟨cs, hv, tp, u, rfl⟩ := hg.var (P := Tryz.prog) (n := "strconv.ErrRange") (by kernel_rfl) hG.rng
    refine (Tryz.strconv_ParseInt_10_at64_range_var s hs hp tp u w hv).mono fun e w' he => ?_
    obtain ⟨N, rfl, _, _, hb⟩ := he
    exact ⟨_, rfl, den_pair rfl ⟨_, _, rfl⟩, hb⟩

set_option maxHeartbeats 1000000 in
set_option maxRecDepth 10000 in
theorem number_prog (hG : NumG) (n : Int) (h0 : -9223372036854775808 ≤ n) (h1 : n < 9223372036854775808) : ACalls Tryz.prog 56 [int .i64 n] [] (fun r h => r = str (numS n) ∧ h = []) := by
  have hf := format_prog hG n h0 h1
  generalize numS n = S at *
  refine rcalls Tryz.func56 rfl (by decide) ?_
  refine ⟨[], _, hf, ?_⟩
  rintro r h ⟨rfl, rfl⟩
  refine ⟨.inl rfl, ?_⟩
  exact ⟨[], [], _, leh0, leS rfl, rfl, rfl⟩

/-- What Read hands back. -/
def ReadR (s : ByteArray) (most : Int) (r : AV) (h : List AO) : Prop := r = .tup 2 (pair (int .i64 (readV s most)) (int .i64 (readE s most))) ∧ h = []

set_option maxHeartbeats 1000000 in
set_option maxRecDepth 10000 in
theorem read_prog (hG : NumG) (s : ByteArray) (most : Int) (hs : s.size ≤ 281474976710656) : ACalls Tryz.prog 62 [str s, int .i64 most] [] (ReadR s most) := by
  have hp := parseInt_prog hG s hs
  have bad : (∀ v, ¬ isNum s v) → ∀ h, ∃ l h1 b, LeH 0 h l h1 ∧ LeV h l (.tup 2 fun i => [int .i64 0, int .i64 2].getD i .top) b ∧ ReadR s most b h1 := fun hn h => by
    obtain ⟨e1, e2⟩ := read_none (most := most) hn
    exact ⟨[], [], _, lehN _, le_pair (leI e2.symm) (leI e1.symm), rfl, rfl⟩
  refine rcalls Tryz.func62 rfl (by decide) ?_
  unfold parseT at hp
  cases hv : Lib.parseIntB 64 s.data.toList
  · rename_i v
    rw [hv] at hp
    have hb := Lib.parseIntB_bounds hv
    have hb1 : v < 9223372036854775808 := by have := hb.2; omega
    have hb0 : -9223372036854775808 ≤ v := by have := hb.1; omega
    refine ⟨[], _, hp, ?_⟩
    rintro r h ⟨rfl, rfl⟩
    refine ⟨.inl rfl, ?_⟩
    have uniq : ∀ u, isNum s u → u = v := fun u hn => by
      rw [hn.2.2, numS_list, parse_itoa hn.1 hn.2.1] at hv
      injection hv
    refine ⟨fun c1 => ?_, fun c1 => ?_⟩
    · refine ⟨fun _ => bad (fun u hn => ?_) _, fun e => by rw [c1] at e; cases e⟩
      have := uniq u hn
      have := hn.1
      have := yes c1
      omega
    · have c2 : 0 ≤ v := by have := no c1; omega
      have hf := number_prog hG v hb0 hb1
      obtain ⟨S, hS⟩ : ∃ S, numS v = S := ⟨_, rfl⟩
      rw [hS] at hf
      refine ⟨[], _, hf, ?_⟩
      rintro r h ⟨rfl, rfl⟩
      refine ⟨.inl rfl, ?_⟩
      refine ⟨fun d1 => ?_, fun d1 => ?_⟩
      · have d2 : ¬ S = s := of_decide_eq_true d1
        refine bad (fun u hn => ?_) _
        have e := uniq u hn
        subst e
        exact d2 (hS.symm.trans hn.2.2.symm)
      · have d2 : S = s := Classical.byContradiction fun hne => of_decide_eq_false d1 hne
        have hn : isNum s v := ⟨c2, hb1, by rw [hS, d2]⟩
        refine ⟨fun e1 => ?_, fun e1 => ?_⟩
        · obtain ⟨g1, g2⟩ := read_over hn (yes e1)
          exact ⟨[], [], _, lehN _, le_pair (leI g2.symm) (leI g1.symm), rfl, rfl⟩
        · obtain ⟨g1, g2⟩ := read_ok hn (no e1)
          exact ⟨[], [], _, lehN _, le_pair (leI g2.symm) (leI g1.symm), rfl, rfl⟩
  all_goals
    rw [hv] at hp
    refine ⟨[], _, hp, ?_⟩
    rintro r h ⟨rfl, rfl⟩
    refine ⟨.inl rfl, ?_⟩
    refine bad (fun v hn => ?_) _
    rw [hn.2.2, numS_list, parse_itoa hn.1 hn.2.1] at hv
    cases hv

set_option maxHeartbeats 2000000 in
set_option maxRecDepth 10000 in
theorem number_ref : ∀ (m : Nat) (n : Int), n.natAbs ≤ m → -9223372036854775808 ≤ n → n < 9223372036854775808 → ACalls Tryz.prog 59 [int .i64 n] [] (fun r h => r = str (numS n) ∧ h = []) := by
  intro m
  induction m with
  | zero =>
    intro n hm h0 h1
    obtain rfl : n = 0 := by omega
    have e := numS_small (n := 0) (by omega) (by omega)
    generalize numS 0 = S at *
    refine rcalls Tryz.func59 rfl (by decide) ?_
    refine ⟨fun c => absurd (yes c) (by omega), fun _ => ⟨fun c => absurd (yes c) (by omega), fun _ => ⟨fun _ => ?_, fun c => absurd (by omega) (no c)⟩⟩⟩
    refine ⟨by decide, ?_⟩
    exact ⟨[], [], _, lehN _, leS (by rw [e]; rfl), rfl, rfl⟩
  | succ m ih =>
    intro n hm h0 h1
    refine rcalls Tryz.func59 rfl (by decide) ?_
    refine ⟨fun c1 => ⟨fun c2 => ?_, fun c2 => ⟨fun c3 => ?_, fun c3 => absurd (yes c1) (no c3)⟩⟩, fun c1 => ⟨fun c3 => absurd (yes c3) (no c1), fun c3 => ⟨fun c4 => ?_, fun c4 => ?_⟩⟩⟩
    · have f1 := yes c1
      have f2 := yes c2
      have e := numS_nsmall f1 f2
      generalize numS n = S at *
      have e1 : IntKind.u8.wrap (IntKind.i64.wrap (48 - n)) = 48 - n := by rw [w64 (by omega) (by omega), w8 (by omega) (by omega)]
      refine ⟨Nat.le_refl _, ?_⟩
      refine ⟨by show 1 + 1 < _; omega, ?_⟩
      exact ⟨[], [], _, lehN _, leS (by rw [e, e1]; rfl), rfl, rfl⟩
    · have f3 := yes c3
      have f2 : n ≤ -10 := by have := no c2; omega
      have e := numS_nbig f2
      have d1 : n.tdiv 10 = -(-n / 10) := by
        have h2 : (-n).tdiv 10 = -n / 10 := Int.tdiv_eq_ediv_of_nonneg (by omega)
        have h3 : n.tdiv 10 = -((-n).tdiv 10) := by rw [Int.neg_tdiv]; simp
        rw [h3, h2]
      have d2 : n.tmod 10 = -(-n % 10) := by
        have h2 : (-n).tmod 10 = -n % 10 := Int.tmod_eq_emod_of_nonneg (by omega)
        have h3 : n.tmod 10 = -((-n).tmod 10) := by rw [Int.neg_tmod]; simp
        rw [h3, h2]
      have q1 : IntKind.i64.wrap (n.tdiv 10) = -(-n / 10) := by rw [d1, w64 (by omega) (by omega)]
      have hc := ih (IntKind.i64.wrap (n.tdiv 10)) (by rw [q1]; omega) (by rw [q1]; omega) (by rw [q1]; omega)
      have hz : (numS (IntKind.i64.wrap (n.tdiv 10))).size ≤ 21 := num_size_le (by rw [q1]; omega) (by rw [q1]; omega)
      rw [← q1] at e
      have e1 : IntKind.u8.wrap (IntKind.i64.wrap (48 - n.tmod 10)) = 48 + -n % 10 := by rw [d2, w64 (by omega) (by omega), w8 (by omega) (by omega)]; omega
      generalize numS n = S at *
      generalize numS (IntKind.i64.wrap (n.tdiv 10)) = S' at *
      refine .inr ⟨10, by decide +kernel, ?_⟩
      refine ⟨_, rfl, ?_⟩
      refine ⟨_, ⟨by decide, rfl⟩, ?_⟩
      refine ⟨_, ⟨[], _, hc, by rintro r h ⟨rfl, rfl⟩; exact ⟨.inl rfl, rfl, rfl⟩⟩, ?_⟩
      refine ⟨_, rfl, ?_⟩
      refine ⟨_, ⟨by decide, rfl⟩, ?_⟩
      refine ⟨_, rfl, ?_⟩
      refine ⟨_, rfl, ?_⟩
      refine ⟨_, rfl, ?_⟩
      refine ⟨_, rfl, ?_⟩
      refine ⟨_, ⟨by show S'.size + 1 < _; omega, rfl⟩, ?_⟩
      exact ⟨[], [], _, lehN _, leS (by rw [e, ← e1]), rfl, rfl⟩
    · have f1 := no c1
      have f4 := yes c4
      have e := numS_small (n := n) (by omega) (by omega)
      generalize numS n = S at *
      have e1 : IntKind.u8.wrap (IntKind.i64.wrap (48 + n)) = 48 + n := by rw [w64 (by omega) (by omega), w8 (by omega) (by omega)]
      refine ⟨Nat.le_refl _, ?_⟩
      exact ⟨[], [], _, lehN _, leS (by rw [e, e1]; rfl), rfl, rfl⟩
    · have f1 := no c1
      have f2 : 10 ≤ n := by have := no c4; omega
      have e := numS_big f2
      have d1 : n.tdiv 10 = n / 10 := Int.tdiv_eq_ediv_of_nonneg (by omega)
      have d2 : n.tmod 10 = n % 10 := Int.tmod_eq_emod_of_nonneg (by omega)
      have q1 : IntKind.i64.wrap (n.tdiv 10) = n / 10 := by rw [d1, w64 (by omega) (by omega)]
      have hc := ih (IntKind.i64.wrap (n.tdiv 10)) (by rw [q1]; omega) (by rw [q1]; omega) (by rw [q1]; omega)
      have hz : (numS (IntKind.i64.wrap (n.tdiv 10))).size ≤ 21 := num_size_le (by rw [q1]; omega) (by rw [q1]; omega)
      rw [← q1] at e
      have e1 : IntKind.u8.wrap (IntKind.i64.wrap (48 + n.tmod 10)) = 48 + n % 10 := by rw [d2, w64 (by omega) (by omega), w8 (by omega) (by omega)]
      generalize numS n = S at *
      generalize numS (IntKind.i64.wrap (n.tdiv 10)) = S' at *
      refine .inr ⟨10, by decide +kernel, ?_⟩
      refine ⟨_, rfl, ?_⟩
      refine ⟨_, ⟨by decide, rfl⟩, ?_⟩
      refine ⟨_, ⟨[], _, hc, by rintro r h ⟨rfl, rfl⟩; exact ⟨.inl rfl, rfl, rfl⟩⟩, ?_⟩
      refine ⟨_, rfl, ?_⟩
      refine ⟨_, ⟨by decide, rfl⟩, ?_⟩
      refine ⟨_, rfl, ?_⟩
      refine ⟨_, rfl, ?_⟩
      refine ⟨_, rfl, ?_⟩
      refine ⟨_, rfl, ?_⟩
      refine ⟨_, ⟨by show S'.size + 1 < _; omega, rfl⟩, ?_⟩
      exact ⟨[], [], _, lehN _, leS (by rw [e, ← e1]), rfl, rfl⟩

end
end Go.Proofs.YthckagkciefliaaGreatDoor.Hx

/-
  The contracts of the dot behind one, and of a dot's text: the program's and the document's.
-/
set_option linter.unusedVariables false
set_option linter.unusedSectionVars false
namespace Go.Proofs.YthckagkciefliaaGreatDoor.Dt
open Go AL Hx

def nextE (a b : Int) : Int := if a < 0 ∨ 31 < a ∨ b < 0 ∨ 1099511627776 < b then 1 else if b = 1099511627776 then 8 else 0
def nextR (a b : Int) : Int := if nextE a b = 0 then a else 0
def nextQ (a b : Int) : Int := if nextE a b = 0 then b + 1 else 0
def NextR (a b : Int) (r : AV) (h : List AO) : Prop := r = .tup 2 (pair (dotV (nextR a b) (nextQ a b)) (int .i64 (nextE a b))) ∧ h = []
theorem next_bad {a b e : Int} (h : nextE a b = e) (he : e ≠ 0) : nextR a b = 0 ∧ nextQ a b = 0 := by
  unfold nextR nextQ
  rw [h, if_neg he, if_neg he]
  exact ⟨rfl, rfl⟩
theorem next_ok {a b : Int} (h : nextE a b = 0) : nextR a b = a ∧ nextQ a b = b + 1 ∧ 0 ≤ a ∧ a ≤ 31 ∧ 0 ≤ b ∧ b < 1099511627776 := by
  unfold nextR nextQ
  rw [h]
  refine ⟨rfl, rfl, ?_⟩
  unfold nextE at h
  split at h
  · omega
  · split at h <;> omega
theorem next_cases (a b : Int) : nextE a b = 0 ∨ nextE a b ≠ 0 ∧ (b < 0 ∨ b ≥ 1099511627776 ∨ a < 0 ∨ a > 31) := by
  unfold nextE
  split
  · right; omega
  · split
    · right; omega
    · left; rfl

section
variable [Globs]

set_option maxHeartbeats 1000000 in
set_option maxRecDepth 10000 in
theorem text_prog (hG : NumG) (a b : Int) (ha : -9223372036854775808 ≤ a ∧ a < 9223372036854775808) (hb : -9223372036854775808 ≤ b ∧ b < 9223372036854775808) :
    ACalls Tryz.prog 53 [dotV a b] [] (fun r h => r = str (textD a b) ∧ h = []) := by
  have h1 := number_prog hG a ha.1 ha.2
  have h2 := number_prog hG b hb.1 hb.2
  have z1 := num_size_le ha.1 ha.2
  have z2 := num_size_le hb.1 hb.2
  have e : textD a b = numS a ++ ⟨#[58]⟩ ++ numS b := rfl
  generalize textD a b = T at *
  generalize numS a = A at *
  generalize numS b = B at *
  refine rcalls Tryz.func53 rfl (by decide) ?_
  refine .inl ⟨⟨by decide +kernel, by decide +kernel⟩, ?_⟩
  refine ⟨.string A, h1.mono fun r h ⟨e1, e2⟩ => ⟨.inl e1, e2⟩, ?_⟩
  refine ⟨by show A.size + 1 < _; omega, ?_⟩
  refine ⟨.string B, h2.mono fun r h ⟨e1, e2⟩ => ⟨.inl e1, e2⟩, ?_⟩
  refine ⟨by rw [ByteArray.size_append]; show A.size + 1 + B.size < _; omega, ?_⟩
  exact ⟨[], [], _, lehN _, leS e.symm, rfl, rfl⟩

set_option maxHeartbeats 1000000 in
set_option maxRecDepth 10000 in
theorem text_ref (a b : Int) (ha : -9223372036854775808 ≤ a ∧ a < 9223372036854775808) (hb : -9223372036854775808 ≤ b ∧ b < 9223372036854775808) :
    ACalls Tryz.prog 57 [dotV a b] [] (fun r h => r = str (textD a b) ∧ h = []) := by
  have h1 := number_ref _ a (Nat.le_refl _) ha.1 ha.2
  have h2 := number_ref _ b (Nat.le_refl _) hb.1 hb.2
  have z1 := num_size_le ha.1 ha.2
  have z2 := num_size_le hb.1 hb.2
  have e : textD a b = numS a ++ ⟨#[58]⟩ ++ numS b := rfl
  generalize textD a b = T at *
  generalize numS a = A at *
  generalize numS b = B at *
  refine rcalls Tryz.func57 rfl (by decide) ?_
  refine .inl ⟨⟨by decide +kernel, by decide +kernel⟩, ?_⟩
  refine ⟨.string A, h1.mono fun r h ⟨e1, e2⟩ => ⟨.inl e1, e2⟩, ?_⟩
  refine ⟨by show A.size + 1 < _; omega, ?_⟩
  refine ⟨.string B, h2.mono fun r h ⟨e1, e2⟩ => ⟨.inl e1, e2⟩, ?_⟩
  refine ⟨by rw [ByteArray.size_append]; show A.size + 1 + B.size < _; omega, ?_⟩
  exact ⟨[], [], _, lehN _, leS e.symm, rfl, rfl⟩

end
end Go.Proofs.YthckagkciefliaaGreatDoor.Dt

/-
  Whether a text may be a path, a user's own one.
-/
set_option linter.unusedVariables false
set_option linter.unusedSectionVars false
namespace Go.Proofs.YthckagkciefliaaGreatDoor.Pa
open Go AL Spl Hx

section
variable [Globs]

theorem cut_eq {s : ByteArray} {i : Nat} (h100 : ¬ s.size ≤ 100) (hi : i ≤ s.size) (hlo : s.size - 101 ≤ i) (hn : ∀ j, j < i → s.size - 101 ≤ j → ¬ (intsOf s).getD j 0 = 47) (hc : i = s.size ∨ i < s.size ∧ (intsOf s).getD i 0 = 47) : cutS s = i := by
  have hl : s.data.toList.length = s.size := rfl
  have : firstC 47 (s.data.toList.drop (s.size - 101)) = i - (s.size - 101) := by
    refine firstC_eq (by rw [List.length_drop, hl]; omega) (fun j hj e => ?_) ?_
    · rw [List.getElem?_drop] at e
      obtain ⟨b, e1, e2⟩ := byte_get (s := s) (i := s.size - 101 + j) (by omega)
      rw [e1] at e
      cases e
      exact hn (s.size - 101 + j) (by omega) (by omega) e2
    · rw [List.length_drop, hl]
      rcases hc with hc | ⟨h1, h2⟩
      · left; omega
      · right
        rw [List.getElem?_drop, show s.size - 101 + (i - (s.size - 101)) = i by omega]
        obtain ⟨b, e1, e2⟩ := byte_get (s := s) (i := i) h1
        rw [e1, (byte_is (c := 47) e2).1 h2]
  unfold cutS
  omega

set_option maxHeartbeats 2000000 in
set_option maxRecDepth 10000 in
theorem split_ref (s : ByteArray) (hs : s.size ≤ 9223372036854775805) : ACalls Tryz.prog 129 [str s] [] (SplitR s) := by
  have hl : s.data.toList.length = s.size := rfl
  have hbad := @split_bad s
  have hok : okSplit s ↔ okParts s ∧ s.size ≤ 254 ∧ (s.size ≤ 100 ∨ cutS s < s.size ∧ cutS s ≤ 155) := Iff.rfl
  have hce := @cut_eq _ s
  have hw := parts_ref s (by omega)
  unfold SplitR
  have hgood1 : okSplit s → s.size ≤ 100 → preS s = ByteArray.empty ∧ nameS s = s ∧ errS s = 0 := fun h h1 =>
    ⟨if_neg fun e => e.2 h1, by unfold nameS; rw [if_pos h, if_pos h1], if_pos h⟩
  have hgood2 : okSplit s → ¬ s.size ≤ 100 → preS s = s.extract 0 (cutS s) ∧ nameS s = s.extract (cutS s + 1) s.size ∧ errS s = 0 := fun h h1 =>
    ⟨if_pos ⟨h, h1⟩, by unfold nameS; rw [if_pos h, if_neg h1], if_pos h⟩
  generalize preS s = Pr at *
  generalize nameS s = Na at *
  generalize errS s = Er at *
  generalize cutS s = C at *
  refine rcalls Tryz.func129 rfl (by decide) ?_
  refine ⟨[], _, hw, ?_⟩
  rintro r hh ⟨rfl, rfl⟩
  refine ⟨.inl rfl, ?_⟩
  have bad : ∀ {h : List AO} {l : List Nat} {f : Nat → AV}, ¬ okSplit s → f 0 = str ByteArray.empty → f 1 = str ByteArray.empty → f 2 = int .i64 9 → LeV h l (.tup 3 f) (.tup 3 (triple (str Pr) (str Na) (int .i64 Er))) := fun h h0 h1 h2 => by
    obtain ⟨e1, e2, e3⟩ := hbad h
    exact le_triple (by rw [h0]; exact leS e1.symm) (by rw [h1]; exact leS e2.symm) (by rw [h2]; exact leI e3.symm)
  refine ⟨fun c1 => ?_, fun c1 => ⟨fun c2 => ?_, fun c2 => ?_⟩⟩
  · exact ⟨[], [], _, lehN _, bad (fun h => notT c1 h.1) rfl rfl rfl, rfl, rfl⟩
  · exact ⟨[], [], _, lehN _, bad (fun h => by have := h.2.1; have := yes c2; omega) rfl rfl rfl, rfl, rfl⟩
  · have g1 := notF c1
    have g2 : s.size ≤ 254 := by have := no c2; omega
    refine ⟨fun c3 => ?_, fun c3 => ?_⟩
    · have h1 : s.size ≤ 100 := by have := yes c3; omega
      obtain ⟨e1, e2, e3⟩ := hgood1 ⟨g1, g2, .inl h1⟩ h1
      exact ⟨[], [], _, lehN _, le_triple (leS e1.symm) (leS e2.symm) (leI e3.symm), rfl, rfl⟩
    · have h1 : ¬ s.size ≤ 100 := by have := no c3; omega
      refine ⟨Nat, fun k => [(0, str s), (5, int .i64 k)], fun _ => [], fun k => k ≤ s.size ∧ ∀ j, j < k → s.size - 101 ≤ j → ¬ (intsOf s).getD j 0 = 47, fun k => s.size - k,
        ⟨0, [], ⟨Nat.zero_le _, fun j hj => by omega⟩, lehN _, ⟨leS rfl, leI rfl, trivial⟩⟩, ?_⟩
      rintro k ⟨hk, hj⟩
      refine ⟨fun c => ?_, fun c => ?_⟩
      · have f1 : (k : Int) < s.size := yes c
        have e1 : IntKind.i64.wrap ((k : Int) + 1) = ((k + 1 : Nat) : Int) := by rw [w64 (by omega) (by omega)]; omega
        have e2 : IntKind.i64.wrap (IntKind.i64.wrap ((s.size : Int) - k) - 1) = (s.size : Int) - k - 1 := by rw [w64 (n := (s.size : Int) - k) (by omega) (by omega), w64 (by omega) (by omega)]
        have hto : ((k : Int)).toNat = k := by omega
        have q1 : (IntKind.i64.wrap ((k : Int) + 1)).toNat = k + 1 := by rw [e1]; omega
        have next : (s.size - 101 ≤ k → ¬ (intsOf s).getD k 0 = 47) → ∀ j, j < k + 1 → s.size - 101 ≤ j → ¬ (intsOf s).getD j 0 = 47 := fun h j h1 h2 => by
          rcases Nat.lt_or_ge j k with h3 | h3
          · exact hj j h3 h2
          · rw [show j = k by omega] at h2 ⊢; exact h h2
        refine ⟨⟨by omega, f1⟩, fun c4 => ⟨fun c5 => ?_, fun c5 => ?_⟩, fun c4 => ?_⟩
        · have c4 : (intsOf s).getD ((k : Int)).toNat 0 = 47 := yes c4
          have c5 := yes c5
          rw [hto] at c4
          rw [e2] at c5
          obtain rfl := hce h1 hk (by omega) hj (.inr ⟨by omega, c4⟩)
          refine ⟨fun c6 => ?_, fun c6 => ?_⟩
          · exact ⟨[], [], _, lehN _, bad (fun h => by have := (hok.1 h).2.2; have := yes c6; omega) rfl rfl rfl, rfl, rfl⟩
          · obtain ⟨d1, d2, d3⟩ := hgood2 (hok.2 ⟨g1, g2, .inr ⟨by omega, by have := no c6; omega⟩⟩) h1
            refine .inl ⟨⟨by decide +kernel, by decide +kernel⟩, ?_⟩
            refine ⟨⟨by omega, by omega⟩, ?_⟩
            refine ⟨⟨by rw [e1]; omega, by rw [e1]; omega⟩, ?_⟩
            exact ⟨[], [], _, lehN _, le_triple (leS (by rw [d1, hto])) (leS (by rw [d2, q1])) (leI d3.symm), rfl, rfl⟩
        · have c5 := no c5
          rw [e2] at c5
          exact ⟨trivial, k + 1, [], ⟨by show k + 1 ≤ _; omega, next fun h => by omega⟩, by show s.size - (k + 1) < s.size - k; omega, lehN _, ⟨leS rfl, leI e1, trivial⟩⟩
        · have c4 : ¬ (intsOf s).getD ((k : Int)).toNat 0 = 47 := no c4
          rw [hto] at c4
          exact ⟨trivial, k + 1, [], ⟨by show k + 1 ≤ _; omega, next fun h => c4⟩, by show s.size - (k + 1) < s.size - k; omega, lehN _, ⟨leS rfl, leI e1, trivial⟩⟩
      · have f1 : ¬ (k : Int) < s.size := no c
        obtain rfl : k = s.size := by omega
        have hC := hce h1 hk (by omega) hj (.inl rfl)
        exact ⟨[], [], _, lehN _, bad (fun h => by have := (hok.1 h).2.2; omega) rfl rfl rfl, rfl, rfl⟩

theorem err_iff (s : ByteArray) : decide (errS s = 0) = decide (okSplit s) := decide_eq_decide.2 ⟨fun h => Classical.byContradiction fun hn => (by rw [(split_bad hn).2.2] at h; cases h), fun h => if_pos h⟩

set_option maxRecDepth 10000 in
theorem may_path (s : ByteArray) (hs : s.size ≤ 9223372036854775805) : ACalls Tryz.prog 105 [str s] [] (fun r h => r = bool (decide (okSplit s)) ∧ h = []) := by
  have hp := split_path s hs
  have he := err_iff s
  unfold SplitR at hp
  generalize preS s = Pr at *
  generalize nameS s = Na at *
  generalize errS s = Er at *
  refine rcalls Tryz.func105 rfl (by decide) ?_
  refine ⟨[], _, hp, ?_⟩
  rintro r hh ⟨rfl, rfl⟩
  refine ⟨.inl rfl, ?_⟩
  exact ⟨[], [], _, lehN _, leB he, rfl, rfl⟩

set_option maxRecDepth 10000 in
theorem may_pref (s : ByteArray) (hs : s.size ≤ 9223372036854775805) : ACalls Tryz.prog 112 [str s] [] (fun r h => r = bool (decide (okSplit s)) ∧ h = []) := by
  have hp := split_ref s hs
  have he := err_iff s
  unfold SplitR at hp
  generalize preS s = Pr at *
  generalize nameS s = Na at *
  generalize errS s = Er at *
  refine rcalls Tryz.func112 rfl (by decide) ?_
  refine ⟨[], _, hp, ?_⟩
  rintro r hh ⟨rfl, rfl⟩
  refine ⟨.inl rfl, ?_⟩
  exact ⟨[], [], _, lehN _, leB he, rfl, rfl⟩

def copyS (s : ByteArray) (r q : Int) : ByteArray := s ++ ⟨#[126]⟩ ++ numS r ++ ⟨#[45]⟩ ++ numS q

set_option maxHeartbeats 2000000 in
set_option maxRecDepth 10000 in
theorem copy_prog (hG : NumG) (s : ByteArray) (a b : Int) (hs : s.size ≤ 281474976710656) (ha : -9223372036854775808 ≤ a ∧ a < 9223372036854775808) (hb : -9223372036854775808 ≤ b ∧ b < 9223372036854775808) :
    ACalls Tryz.prog 104 [str s, dotV a b] [] (fun r h => r = str (copyS s a b) ∧ h = []) := by
  have n1 := number_prog hG a ha.1 ha.2
  have n2 := number_prog hG b hb.1 hb.2
  have z1 := num_size_le ha.1 ha.2
  have z2 := num_size_le hb.1 hb.2
  unfold copyS
  generalize numS a = A at *
  generalize numS b = B at *
  refine rcalls Tryz.func104 rfl (by decide) ?_
  refine .inl ⟨⟨by decide +kernel, by decide +kernel⟩, ?_⟩
  refine ⟨by show s.size + 1 < _; omega, ?_⟩
  refine ⟨.string A, n1.mono fun r h ⟨e1, e2⟩ => ⟨.inl e1, e2⟩, ?_⟩
  refine ⟨by rw [ByteArray.size_append]; show s.size + 1 + A.size < _; omega, ?_⟩
  refine ⟨by rw [ByteArray.size_append, ByteArray.size_append]; show s.size + 1 + A.size + 1 < _; omega, ?_⟩
  refine ⟨.string B, n2.mono fun r h ⟨e1, e2⟩ => ⟨.inl e1, e2⟩, ?_⟩
  refine ⟨by rw [ByteArray.size_append, ByteArray.size_append, ByteArray.size_append]; show s.size + 1 + A.size + 1 + B.size < _; omega, ?_⟩
  exact ⟨[], [], _, lehN _, leS rfl, rfl, rfl⟩

/-- The longest copy of a path. -/
def longS (s : ByteArray) : ByteArray := s ++ ⟨#[126, 51, 49, 45, 49, 48, 57, 57, 53, 49, 49, 54, 50, 55, 55, 55, 54]⟩
theorem copy_long (s : ByteArray) : copyS s 31 1099511627776 = longS s := by
  have h1 : numS 31 = ⟨#[51, 49]⟩ := by decide +kernel
  have h2 : numS 1099511627776 = ⟨#[49, 48, 57, 57, 53, 49, 49, 54, 50, 55, 55, 55, 54]⟩ := by decide +kernel
  unfold copyS longS
  rw [h1, h2]
  refine bA_ext ?_
  simp
theorem long_size (s : ByteArray) : (longS s).size = s.size + 17 := by
  unfold longS
  rw [ByteArray.size_append]
  rfl
def hasT (s : ByteArray) : Prop := (126 : UInt8) ∈ s.data.toList
instance (s : ByteArray) : Decidable (hasT s) := by unfold hasT; infer_instance
theorem has_at (s : ByteArray) : hasT s ↔ ∃ i, i < s.size ∧ (intsOf s).getD i 0 = 126 := by
  constructor
  · intro h
    obtain ⟨i, hi, e⟩ := List.getElem_of_mem h
    obtain ⟨b, e1, e2⟩ := byte_get (s := s) (i := i) hi
    rw [List.getElem?_eq_getElem hi, e] at e1
    cases e1
    exact ⟨i, hi, e2⟩
  · rintro ⟨i, hi, e⟩
    obtain ⟨b, e1, e2⟩ := byte_get (s := s) (i := i) hi
    rw [(byte_is (c := 126) e2).1 e] at e1
    exact List.mem_of_getElem? e1
def okOwn (s : ByteArray) : Prop := okSplit s ∧ s.size ≤ 200 ∧ ¬ hasT s ∧ okSplit (longS s)
instance (s : ByteArray) : Decidable (okOwn s) := by unfold okOwn; infer_instance

set_option maxHeartbeats 2000000 in
set_option maxRecDepth 10000 in
theorem own_ref (s : ByteArray) (hs : s.size ≤ 281474976710656) : ACalls Tryz.prog 81 [str s] [] (fun r h => r = bool (decide (okOwn s)) ∧ h = []) := by
  have m1 := may_pref s (by omega)
  have m2 := may_pref (longS s) (by rw [long_size]; omega)
  have hok : okOwn s ↔ okSplit s ∧ s.size ≤ 200 ∧ ¬ hasT s ∧ okSplit (longS s) := Iff.rfl
  have hT := has_at s
  obtain ⟨Z, hZ⟩ : ∃ Z, decide (okOwn s) = Z := ⟨_, rfl⟩
  rw [hZ]
  have hno : ¬ okOwn s → Z = false := fun h => by rw [← hZ]; exact decide_eq_false h
  refine rcalls Tryz.func81 rfl (by decide) ?_
  refine ⟨Nat, fun k => [(0, str s), (3, int .i64 k)], fun _ => [], fun k => k ≤ s.size ∧ ∀ i, i < k → ¬ (intsOf s).getD i 0 = 126, fun k => s.size - k,
    ⟨0, [], ⟨Nat.zero_le _, by simp⟩, lehN _, ⟨leS rfl, leI rfl, trivial⟩⟩, ?_⟩
  rintro k ⟨hk, hj⟩
  refine ⟨fun c => ?_, fun c => ?_⟩
  · have f1 : (k : Int) < s.size := yes c
    have e1 : IntKind.i64.wrap ((k : Int) + 1) = ((k + 1 : Nat) : Int) := by rw [w64 (by omega) (by omega)]; omega
    refine ⟨⟨by omega, f1⟩, fun c2 => ?_, fun c2 => ?_⟩
    · exact ⟨[], [], _, lehN _, leFB (hno fun h => h.2.2.1 (hT.2 ⟨k, by omega, yes c2⟩)), rfl, rfl⟩
    · refine ⟨trivial, k + 1, [], ⟨by show k + 1 ≤ _; omega, fun i hi => ?_⟩, by show s.size - (k + 1) < s.size - k; omega, lehN _, ⟨leS rfl, leI e1, trivial⟩⟩
      rcases Nat.lt_or_ge i k with h | h
      · exact hj i h
      · rw [show i = k by omega]; exact no c2
  · have f1 : ¬ (k : Int) < s.size := no c
    obtain rfl : k = s.size := by omega
    have hnT : ¬ hasT s := fun h => let ⟨i, h1, h2⟩ := hT.1 h; hj i h1 h2
    refine ⟨[], _, m1, ?_⟩
    rintro r hh ⟨rfl, rfl⟩
    refine ⟨.inl rfl, ?_⟩
    refine ⟨fun c1 => ⟨fun c2 => ?_, fun c2 => ?_⟩, fun c1 => ?_⟩
    · refine ⟨by show s.size + 17 < _; omega, ?_⟩
      refine ⟨[], _, m2, ?_⟩
      rintro r hh ⟨rfl, rfl⟩
      refine ⟨.inl rfl, ?_⟩
      refine ⟨[], [], _, lehN _, leB ?_, rfl, rfl⟩
      rw [← hZ]
      exact decide_eq_decide.2 ⟨fun h => ⟨yes c1, by have := yes c2; omega, hnT, h⟩, fun h => h.2.2.2⟩
    · exact ⟨[], [], _, lehN _, leFB (hno fun h => no c2 (by have := h.2.1; omega)), rfl, rfl⟩
    · exact ⟨[], [], _, lehN _, leFB (hno fun h => no c1 h.1), rfl, rfl⟩

theorem has_index (s : ByteArray) : decide (0 ≤ Lib.indexByte s.data.toList 126) = true ↔ hasT s := by
  have hl : s.data.toList.length = s.size := rfl
  rw [decide_eq_true_eq, index_first, has_at]
  by_cases h : firstC 126 s.data.toList < s.data.toList.length
  · rw [if_pos h]
    refine ⟨fun _ => ⟨firstC 126 s.data.toList, h, ?_⟩, fun _ => by omega⟩
    obtain ⟨b, e1, e2⟩ := byte_get (s := s) h
    have := firstC_at h
    rw [e1] at this
    cases this
    exact e2
  · rw [if_neg h]
    refine ⟨fun e => by omega, fun ⟨i, h1, h2⟩ => ?_⟩
    obtain ⟨b, e1, e2⟩ := byte_get (s := s) h1
    rw [(byte_is (c := 126) e2).1 h2] at e1
    have := firstC_le 126 s.data.toList
    exact absurd e1 (firstC_not (by omega))

set_option maxHeartbeats 2000000 in
set_option maxRecDepth 10000 in
theorem own_path (hG : NumG) (s : ByteArray) (hs : s.size ≤ 281474976710656) : ACalls Tryz.prog 70 [str s] [] (fun r h => r = bool (decide (okOwn s)) ∧ h = []) := by
  have m1 := may_path s (by omega)
  have m2 := may_path (longS s) (by rw [long_size]; omega)
  have hcp := copy_prog hG s 31 1099511627776 hs (by omega) (by omega)
  rw [copy_long] at hcp
  have hI := indexOne_prog s 126
  have hx := has_index s
  obtain ⟨I, hIE⟩ : ∃ I, Lib.indexByte s.data.toList 126 = I := ⟨_, rfl⟩
  rw [hIE] at hI hx
  have hcont : ACalls Tryz.prog 106 [str s, str ⟨#[126]⟩] [] (fun r h => r = bool (decide (0 ≤ I)) ∧ h = []) := by
    refine rcalls Tryz.func106 rfl (by decide) ?_
    refine ⟨[], _, hI, ?_⟩
    rintro r hh ⟨rfl, rfl⟩
    refine ⟨.inl rfl, ?_⟩
    exact ⟨[], [], _, lehN _, leB rfl, rfl, rfl⟩
  obtain ⟨Z, hZ⟩ : ∃ Z, decide (okOwn s) = Z := ⟨_, rfl⟩
  rw [hZ]
  have hno : ¬ okOwn s → Z = false := fun h => by rw [← hZ]; exact decide_eq_false h
  obtain ⟨Lg, hL⟩ : ∃ Lg, longS s = Lg := ⟨_, rfl⟩
  rw [hL] at m2 hcp
  refine rcalls Tryz.func70 rfl (by decide) ?_
  refine ⟨[], _, dfree rfl rfl, hcp.args ⟨.refl _, vdot rfl rfl, trivial⟩, ?_⟩
  rintro r hh ⟨rfl, rfl⟩
  refine ⟨.inl rfl, ?_⟩
  refine ⟨[], _, m1, ?_⟩
  rintro r hh ⟨rfl, rfl⟩
  refine ⟨.inl rfl, ?_⟩
  have hok : okOwn s ↔ okSplit s ∧ s.size ≤ 200 ∧ ¬ hasT s ∧ okSplit (longS s) := Iff.rfl
  rw [hL] at hok
  refine ⟨fun c1 => ⟨fun c2 => ?_, fun c2 => ?_⟩, fun c1 => ?_⟩
  · refine ⟨[], _, hcont, ?_⟩
    rintro r hh ⟨rfl, rfl⟩
    refine ⟨.inl rfl, ?_⟩
    refine ⟨fun c3 => ?_, fun c3 => ?_⟩
    · refine ⟨[], _, m2, ?_⟩
      rintro r hh ⟨rfl, rfl⟩
      refine ⟨.inl rfl, ?_⟩
      refine ⟨[], [], _, lehN _, leB ?_, rfl, rfl⟩
      rw [← hZ]
      exact decide_eq_decide.2 ⟨fun h => hok.2 ⟨yes c1, by have := yes c2; omega, fun ht => (by rw [hx.2 ht] at c3; cases c3), h⟩, fun h => (hok.1 h).2.2.2⟩
    · exact ⟨[], [], _, lehN _, leFB (hno fun h => (hok.1 h).2.2.1 (hx.1 (unnot c3))), rfl, rfl⟩
  · exact ⟨[], [], _, lehN _, leFB (hno fun h => no c2 (by have := (hok.1 h).2.1; omega)), rfl, rfl⟩
  · exact ⟨[], [], _, lehN _, leFB (hno fun h => no c1 (hok.1 h).1), rfl, rfl⟩

end
end Go.Proofs.YthckagkciefliaaGreatDoor.Pa

/-
  Vectors, in plain Lean: lists of dots, and of each replica how many. No program in sight.
-/
set_option linter.unusedVariables false
namespace Go.Proofs.YthckagkciefliaaGreatDoor.Vc
open Go AL Hx Dt

/-- The cells of a list of dots. -/
def cellD (l : List (Int × Int)) (i : Nat) : Int := if i % 2 = 0 then (l.getD (i / 2) (0, 0)).1 else (l.getD (i / 2) (0, 0)).2
theorem cell_fst (l : List (Int × Int)) (k : Nat) : cellD l (k * 2 + 0) = (l.getD k (0, 0)).1 := by
  unfold cellD; rw [if_pos (by omega), show (k * 2 + 0) / 2 = k by omega]
theorem cell_snd (l : List (Int × Int)) (k : Nat) : cellD l (k * 2 + 1) = (l.getD k (0, 0)).2 := by
  unfold cellD; rw [if_neg (by omega), show (k * 2 + 1) / 2 = k by omega]
theorem cell_old (l : List (Int × Int)) (p : Int × Int) {i : Nat} (h : i < l.length * 2) : cellD (l ++ [p]) i = cellD l i := by
  unfold cellD
  have : (l ++ [p]).getD (i / 2) (0, 0) = l.getD (i / 2) (0, 0) := by
    rw [List.getD_eq_getElem?_getD, List.getElem?_append_left (by omega), List.getD_eq_getElem?_getD]
  rw [this]
theorem cell_new0 (l : List (Int × Int)) (p : Int × Int) : cellD (l ++ [p]) (l.length * 2 + 0) = p.1 := by
  rw [cell_fst, List.getD_eq_getElem?_getD, List.getElem?_append_right (Nat.le_refl _)]; simp
theorem cell_new1 (l : List (Int × Int)) (p : Int × Int) : cellD (l ++ [p]) (l.length * 2 + 1) = p.2 := by
  rw [cell_snd, List.getD_eq_getElem?_getD, List.getElem?_append_right (Nat.le_refl _)]; simp

/-- Of each replica how many. -/
def updF (g : Nat → Int) (p : Int × Int) : Nat → Int := fun i => if mayD p.1 p.2 ∧ i = p.1.toNat then max (g i) p.2 else g i
def cntF (l : List (Int × Int)) : Nat → Int := l.foldl updF fun _ => 0
theorem cnt_nil : cntF [] = fun _ => 0 := rfl
theorem cnt_snoc (l : List (Int × Int)) (p : Int × Int) : cntF (l ++ [p]) = updF (cntF l) p := by
  unfold cntF; rw [List.foldl_append]; rfl
def tab (g : Nat → Int) : List Int := (List.range 32).map g
theorem tab_len (g : Nat → Int) : (tab g).length = 32 := by simp [tab]
theorem tab_get (g : Nat → Int) {r : Nat} (h : r < 32) : (tab g).getD r 0 = g r := by
  unfold tab
  rw [List.getD_eq_getElem?_getD, List.getElem?_map, List.getElem?_range h]
  rfl
theorem tab_ext {g g' : Nat → Int} : tab g = tab g' ↔ ∀ r, r < 32 → g r = g' r := by
  constructor
  · intro h r hr
    rw [← tab_get g hr, h, tab_get g' hr]
  · intro h
    unfold tab
    apply List.map_congr_left
    intro r hr
    exact h r (List.mem_range.1 hr)
theorem tab_set (g : Nat → Int) {r : Nat} {v : Int} (h : r < 32) : (tab g).set r v = tab fun i => if i = r then v else g i := by
  unfold tab
  apply List.ext_getElem?
  intro i
  rw [List.getElem?_set]
  by_cases hi : i < 32
  · rw [List.getElem?_map, List.getElem?_map, List.getElem?_range hi]
    by_cases hr : r = i
    · subst hr; simp [hi]
    · simp [hr, Ne.symm hr]
  · rw [List.getElem?_eq_none (by simpa using hi), List.getElem?_eq_none (by simpa using hi)]
    split <;> simp_all
theorem tab_zero : tab (fun _ => 0) = List.replicate 32 0 := by decide

def okF (g : Nat → Int) : Prop := ∀ r, 0 ≤ g r ∧ g r ≤ 1099511627776 ∧ (32 ≤ r → g r = 0)
theorem upd_ok {g : Nat → Int} (h : okF g) (p : Int × Int) : okF (updF g p) := by
  intro r
  have := h r
  unfold updF
  split
  · rename_i hc
    obtain ⟨⟨h1, h2, h3, h4⟩, h5⟩ := hc
    refine ⟨by omega, by omega, fun hr => by omega⟩
  · exact this
theorem cnt_ok (l : List (Int × Int)) : okF (cntF l) := by
  have go : ∀ (l : List (Int × Int)) (g : Nat → Int), okF g → okF (l.foldl updF g) := by
    intro l
    induction l with
    | nil => intro g h; exact h
    | cons p l ih => intro g h; exact ih _ (upd_ok h p)
  exact go l _ fun r => ⟨Int.le_refl _, by decide, fun _ => rfl⟩

/-- The vector of how many. -/
def ofK (g : Nat → Int) (k : Nat) : List (Int × Int) := (List.range k).filterMap fun r => if 0 < g r then some ((r : Int), g r) else none
abbrev ofF (g : Nat → Int) : List (Int × Int) := ofK g 32
theorem ofK_succ (g : Nat → Int) (k : Nat) : ofK g (k + 1) = if 0 < g k then ofK g k ++ [((k : Int), g k)] else ofK g k := by
  unfold ofK
  rw [List.range_succ, List.filterMap_append]
  split
  · rename_i h; simp [h]
  · rename_i h; simp [h]
theorem ofK_len (g : Nat → Int) : ∀ k, (ofK g k).length ≤ k
  | 0 => Nat.le_refl _
  | k + 1 => by
    have := ofK_len g k
    rw [ofK_succ]
    split
    · simp; omega
    · omega
theorem ofK_congr {g g' : Nat → Int} : ∀ {k : Nat}, (∀ r, r < k → g r = g' r) → ofK g k = ofK g' k
  | 0, _ => rfl
  | k + 1, h => by rw [ofK_succ, ofK_succ, h k (by omega), ofK_congr (k := k) fun r hr => h r (by omega)]
theorem cnt_ofK {g : Nat → Int} (hg : okF g) : ∀ k, k ≤ 32 → ∀ r, cntF (ofK g k) r = if r < k then g r else 0
  | 0, _, r => by simp [ofK, cnt_nil]
  | k + 1, hk, r => by
    have ih := cnt_ofK hg k (by omega) r
    have hgk := hg k
    rw [ofK_succ]
    split
    · rename_i hpos
      rw [cnt_snoc]
      unfold updF
      by_cases hr : r = k
      · subst hr
        rw [if_pos ⟨⟨by simp, by simp; omega, by simp; omega, by simp; omega⟩, by simp⟩, ih, if_neg (by omega), if_pos (by omega)]
        simp; omega
      · rw [if_neg (by simp; omega), ih]
        by_cases h : r < k
        · rw [if_pos h, if_pos (by omega)]
        · rw [if_neg h, if_neg (by omega)]
    · rw [ih]
      by_cases hr : r = k
      · subst hr; rw [if_neg (by omega), if_pos (by omega)]; omega
      · by_cases h : r < k
        · rw [if_pos h, if_pos (by omega)]
        · rw [if_neg h, if_neg (by omega)]
/-- What a vector says is what it was made of. -/
theorem cnt_of {g : Nat → Int} (hg : okF g) : cntF (ofF g) = g := funext fun r => by
  rw [cnt_ofK hg 32 (Nat.le_refl _)]
  split
  · rfl
  · exact ((hg r).2.2 (by omega)).symm
theorem of_may {g : Nat → Int} (hg : okF g) : ∀ k, k ≤ 32 → ∀ p ∈ ofK g k, mayD p.1 p.2
  | 0, _, p, h => by simp [ofK] at h
  | k + 1, hk, p, h => by
    rw [ofK_succ] at h
    split at h
    · rename_i hpos
      rcases List.mem_append.1 h with h | h
      · exact of_may hg k (by omega) p h
      · have := hg k
        simp at h
        subst h
        unfold mayD
        simp; omega
    · exact of_may hg k (by omega) p h

def maxF (g h : Nat → Int) : Nat → Int := fun r => max (g r) (h r)
def minF (g h : Nat → Int) : Nat → Int := fun r => min (g r) (h r)
theorem max_ok {g h : Nat → Int} (hg : okF g) (hh : okF h) : okF (maxF g h) := fun r => by
  have := hg r; have := hh r; unfold maxF; refine ⟨by omega, by omega, fun hr => ?_⟩; have := (hg r).2.2 hr; have := (hh r).2.2 hr; omega
theorem min_ok {g h : Nat → Int} (hg : okF g) (hh : okF h) : okF (minF g h) := fun r => by
  have := hg r; have := hh r; unfold minF; refine ⟨by omega, by omega, fun hr => ?_⟩; have := (hg r).2.2 hr; have := (hh r).2.2 hr; omega
theorem ok_ext {g h : Nat → Int} (hg : okF g) (hh : okF h) : tab g = tab h ↔ g = h := by
  rw [tab_ext]
  constructor
  · intro e
    funext r
    rcases Nat.lt_or_ge r 32 with hr | hr
    · exact e r hr
    · rw [(hg r).2.2 hr, (hh r).2.2 hr]
  · rintro rfl r _; rfl
theorem cnt_one (p : Int × Int) : cntF [p] = updF (fun _ => 0) p := rfl
/-- A vector that knows one more. -/
theorem max_one {g : Nat → Int} (hg : okF g) (p : Int × Int) : maxF g (cntF [p]) = updF g p := funext fun r => by
  have := hg r
  rw [cnt_one]
  show max (g r) (if mayD p.1 p.2 ∧ r = p.1.toNat then max 0 p.2 else 0) = if mayD p.1 p.2 ∧ r = p.1.toNat then max (g r) p.2 else g r
  split
  · rename_i hc; have := hc.1.2.2.1; omega
  · omega

end Go.Proofs.YthckagkciefliaaGreatDoor.Vc

/-
  Vectors, as they are known of in a walk. No program in sight.
-/
set_option linter.unusedVariables false
set_option linter.unusedSectionVars false
namespace Go.Proofs.YthckagkciefliaaGreatDoor.Vc
open Go AL Hx Dt

/-- A list of dots, as it may be read. -/
abbrev vecV (l : List (Int × Int)) : AV := .ro l.length 2 fun i => int .i64 (cellD l i)
abbrev cntV (g : Nat → Int) : AV := .aggI .i64 (tab g)

theorem take_dot {l : List (Int × Int)} {k : Nat} (h : k < l.length) : l.take (k + 1) = l.take k ++ [l.getD k (0, 0)] := by
  rw [List.take_succ_eq_append_getElem h, List.getD_eq_getElem?_getD, List.getElem?_eq_getElem h]
  rfl
theorem upd_set {g : Nat → Int} {a b : Int} (hm : mayD a b) : (tab g).set (addOff 0 a.toNat 1) (max ((tab g).getD (addOff 0 a.toNat 1) 0) b) = tab (updF g (a, b)) := by
  have h1 : addOff 0 a.toNat 1 = a.toNat := by simp [addOff]
  have h2 : a.toNat < 32 := by have := hm.2.1; have := hm.1; omega
  rw [h1, tab_get g h2, tab_set g h2, tab_ext]
  intro r hr
  unfold updF
  by_cases h : r = a.toNat
  · rw [if_pos h, if_pos ⟨hm, h⟩, h]
  · rw [if_neg h, if_neg fun c => h c.2]
theorem upd_not {g : Nat → Int} {a b : Int} (hm : ¬ mayD a b) : updF g (a, b) = g := funext fun r => if_neg fun c => hm c.1
theorem upd_low {g : Nat → Int} {a b : Int} (h : ¬ b > g a.toNat) : updF g (a, b) = g := funext fun r => by
  unfold updF
  split
  · rename_i c
    have : r = a.toNat := c.2
    subst this
    show max (g a.toNat) b = _
    omega
  · rfl
/-- One block is kept, and a place for a row that is not yet made. -/
theorem leh1R [Globs] {h : List AO} {j j' : Nat} {o o' : AO} (ho : h[j]? = some o) (hle : LeO h [j, j'] o o') (hj : h.length ≤ j') (g : Nat → AV) : LeH 0 h [j, j'] [o', .row 0 g] :=
  ⟨rfl, Nat.zero_le _, fun i hi => absurd hi (Nat.not_lt_zero _), List.nodup_cons.2 ⟨by
    have := (List.getElem?_eq_some_iff.1 ho).1
    simp; omega, List.nodup_cons.2 ⟨by simp, .nil⟩⟩, fun i m p hi hp => by
    match i with
    | 0 => simp at hi hp; subst hi hp; exact .inl ⟨o, ho, hle⟩
    | 1 => simp at hi hp; subst hi hp; exact .inr ⟨Nat.zero_le _, hj, .inr (.inr ⟨g, rfl⟩)⟩
    | i + 2 => simp at hi⟩
/-- A dot more at a list's end, cell by cell. -/
theorem snoc_old {l m : List (Int × Int)} {p : Int × Int} (h : m = l ++ [p]) {i : Nat} (hi : i < l.length * 2) : int .i64 (cellD m i) = int .i64 (cellD l i) := by rw [h, cell_old l p hi]
theorem snoc_new {l m : List (Int × Int)} {a b : Int} (h : m = l ++ [(a, b)]) {f : Nat → AV} (h0 : f 0 = int .i64 a) (h1 : f 1 = int .i64 b) {i : Nat} (hi : i < 1 * 2) : int .i64 (cellD m (l.length * 2 + i)) = f i := by
  match i, hi with
  | 0, _ => rw [h, cell_new0, h0]
  | 1, _ => rw [h, cell_new1, h1]
theorem two_cells {f : Nat → AV} {a b : Int} (h0 : f 0 = int .i64 a) (h1 : f 1 = int .i64 b) {i : Nat} (hi : i < 1 * 2) : cell1 (f i) = true := by
  match i, hi with
  | 0, _ => rw [h0]; rfl
  | 1, _ => rw [h1]; rfl
theorem off_lt (g : Nat → Int) {a b : Int} (hm : mayD a b) : addOff 0 a.toNat 1 < (tab g).length := by
  rw [tab_len]
  have := hm.1; have := hm.2.1
  simp [addOff]; omega
theorem cnt_take {l : List (Int × Int)} {k : Nat} (h : k < l.length) : cntF (l.take (k + 1)) = updF (cntF (l.take k)) (cellD l ((k : Int).toNat * 2 + 0), cellD l ((k : Int).toNat * 2 + 1)) := by
  rw [take_dot h, cnt_snoc, show ((k : Int)).toNat = k by omega, cell_fst, cell_snd]
theorem tab_part (g : Nat → Int) : List.take 32 (List.drop 0 (tab g)) = tab g := by rw [List.drop_zero, List.take_of_length_le (by rw [tab_len]; decide)]
theorem tab_blk (g : Nat → Int) (zs : List Int) (hz : zs.length = 32) : List.take 32 (List.drop 0 (List.take 0 zs ++ List.take 32 (List.drop 0 (tab g)) ++ List.drop (0 + (List.take 32 (List.drop 0 (tab g))).length) zs)) = tab g := by
  rw [tab_part, List.take_zero, List.nil_append, List.drop_zero, List.drop_eq_nil_of_le (by rw [tab_len, hz]; decide), List.append_nil, List.take_of_length_le (by rw [tab_len]; decide)]
section
variable [Globs]
theorem leAggI {h : List AO} {l : List Nat} {k : IntKind} {x y : List Int} (e : x = y) : LeV h l (.aggI k x) (.aggI k y) := by subst e; exact .aggI _ _
/-- A place for a row that is not yet made. -/
theorem lehR {h : List AO} {j : Nat} (hj : h.length ≤ j) (g : Nat → AV) : LeH 0 h [j] [.row 0 g] :=
  ⟨rfl, Nat.zero_le _, fun i hi => absurd hi (Nat.not_lt_zero _), List.nodup_cons.2 ⟨by simp, .nil⟩, fun i m p hi hp => by
    cases i with
    | zero => simp at hi hp; subst hi hp; exact .inr ⟨Nat.zero_le _, hj, .inr (.inr ⟨g, rfl⟩)⟩
    | succ i => simp at hi⟩
theorem leVec {h : List AO} {l : List Nat} {a b : List (Int × Int)} (e : a = b) : LeO h l (.row (a.length * 2) fun i => int .i64 (cellD a i)) (.row (b.length * 2) fun i => int .i64 (cellD b i)) := by subst e; exact .row _ _ _ _ (Nat.le_refl _) fun i hi => leI rfl
theorem giveVec {h : List AO} {l : List Nat} {id : Nat} {a b : List (Int × Int)} (e : h[id]? = some (.row (a.length * 2) fun i => int .i64 (cellD a i))) (hl : id ∉ l) (eq : a = b) : LeV h l (.own id 0 a.length 2) (vecV b) := by
  subst eq
  exact .giveR _ e hl (by omega) (fun i hi => leI (by rw [Nat.zero_add])) fun i hi => trivial
theorem leRow {h : List AO} {l : List Nat} {n m : Nat} {f g : Nat → Int} (hm : m ≤ n) (e : ∀ i, i < m → f i = g i) : LeO h l (.row n fun i => int .i64 (f i)) (.row m fun i => int .i64 (g i)) :=
  .row n m _ _ hm fun i hi => leI (e i hi)

end
end Go.Proofs.YthckagkciefliaaGreatDoor.Vc

/-
  The contracts of a vector's counts, and of the counts' vector: the program's and the document's.
-/
set_option linter.unusedVariables false
set_option linter.unusedSectionVars false
namespace Go.Proofs.YthckagkciefliaaGreatDoor.Vc
open Go AL Hx Dt

section
variable [Globs]
set_option maxHeartbeats 2000000 in
set_option maxRecDepth 10000 in
theorem counted_prog (l : List (Int × Int)) (hl : l.length ≤ 9223372036854775807) : ACalls Tryz.prog 85 [vecV l] [] (fun r h => r = cntV (cntF l) ∧ h = []) := by
  refine rcalls Tryz.func85 rfl (by decide) ?_
  refine ⟨rfl, ?_⟩
  refine ⟨rfl, ?_⟩
  refine ⟨Nat, fun k => [(2, .ptr 0 0), (3, .ptr 1 0), (6, vecV l), (7, int .i64 l.length), (8, int .i64 k)], fun k => [.ints .i64 (List.replicate 32 0), .ints .i64 (tab (cntF (l.take k)))], fun k => k ≤ l.length, fun k => l.length - k,
    ⟨0, [0, 1], Nat.zero_le _, leh2 (by decide) rfl rfl (leOint rfl) (leOint tab_zero.symm), ⟨.ptr _ rfl, .ptr _ rfl, .same _ trivial, leI rfl, leI rfl, trivial⟩⟩, ?_⟩
  intro k hk
  have hk : k ≤ l.length := hk
  refine ⟨fun c => ?_, fun c => ?_⟩
  · have f1 : (k : Int) < l.length := yes c
    refine ⟨⟨by omega, f1⟩, ?_⟩
    have hm := may_prog (cellD l ((k : Int).toNat * 2 + 0)) (cellD l ((k : Int).toNat * 2 + 1))
    have ht := cnt_take (l := l) (k := k) (by omega)
    have e1 : IntKind.i64.wrap ((k : Int) + 1) = ((k + 1 : Nat) : Int) := by rw [w64 (by omega) (by omega)]; omega
    refine ⟨[], _, dfree rfl rfl, hm.args ⟨vdot rfl rfl, trivial⟩, ?_⟩
    rintro r h ⟨rfl, rfl⟩
    refine ⟨.inl rfl, ?_⟩
    refine ⟨fun c1 => ?_, fun c1 => ?_⟩
    · have hmay := yes c1
      have hr : 0 ≤ cellD l ((k : Int).toNat * 2 + 0) ∧ cellD l ((k : Int).toNat * 2 + 0) < 32 := by have := hmay.1; have := hmay.2.1; omega
      refine .inr ⟨10, by decide +kernel, ?_⟩
      refine ⟨_, rfl, ?_⟩
      refine ⟨_, rfl, ?_⟩
      refine ⟨_, rfl, ?_⟩
      refine ⟨_, rfl, ?_⟩
      refine ⟨_, ⟨hr, rfl⟩, ?_⟩
      refine ⟨_, ⟨off_lt _ hmay, rfl⟩, ?_⟩
      refine ⟨_, rfl, ?_⟩
      refine ⟨_, rfl, ?_⟩
      refine ⟨_, rfl, ?_⟩
      refine ⟨_, ⟨hr, rfl⟩, ?_⟩
      refine ⟨off_lt _ hmay, ?_⟩
      exact ⟨trivial, k + 1, [0, 1], by show k + 1 ≤ l.length; omega, by show l.length - (k + 1) < l.length - k; omega, leh2 (by decide) rfl rfl (leOint rfl) (leOint (by rw [ht]; exact upd_set hmay)),
        ⟨.ptr _ rfl, .ptr _ rfl, .same _ trivial, leI rfl, leI e1, trivial⟩⟩
    · have hmay := no c1
      exact ⟨trivial, k + 1, [0, 1], by show k + 1 ≤ l.length; omega, by show l.length - (k + 1) < l.length - k; omega, leh2 (by decide) rfl rfl (leOint rfl) (leOint (by rw [ht, upd_not hmay])),
        ⟨.ptr _ rfl, .ptr _ rfl, .same _ trivial, leI rfl, leI e1, trivial⟩⟩
  · have f1 : ¬ (k : Int) < l.length := no c
    obtain rfl : k = l.length := by omega
    have ht : l.take l.length = l := List.take_of_length_le (Nat.le_refl _)
    refine ⟨by rw [tab_len]; decide, ?_⟩
    refine ⟨by simp [tab_len], by decide, ?_⟩
    refine ⟨by simp [tab_len], ?_⟩
    exact ⟨[], [], _, lehN _, leAggI (by rw [tab_blk _ _ (by simp), ht]), rfl, rfl⟩

set_option maxHeartbeats 2000000 in
set_option maxRecDepth 10000 in
theorem all_ref (l : List (Int × Int)) (hl : l.length ≤ 9223372036854775807) : ACalls Tryz.prog 94 [vecV l] [] (fun r h => r = cntV (cntF l) ∧ h = []) := by
  refine rcalls Tryz.func94 rfl (by decide) ?_
  refine ⟨rfl, ?_⟩
  refine ⟨rfl, ?_⟩
  refine ⟨Nat, fun k => [(0, vecV l), (2, .ptr 0 0), (3, .ptr 1 0), (4, int .i64 k)], fun k => [.ints .i64 (List.replicate 32 0), .ints .i64 (tab (cntF (l.take k)))], fun k => k ≤ l.length, fun k => l.length - k,
    ⟨0, [0, 1], Nat.zero_le _, leh2 (by decide) rfl rfl (leOint rfl) (leOint tab_zero.symm), ⟨.same _ trivial, .ptr _ rfl, .ptr _ rfl, leI rfl, trivial⟩⟩, ?_⟩
  intro k hk
  have hk : k ≤ l.length := hk
  refine ⟨fun c => ?_, fun c => ?_⟩
  · have f1 : (k : Int) < l.length := yes c
    have hin : (0 : Int) ≤ k ∧ (k : Int) < l.length := ⟨by omega, f1⟩
    have hm := may_ref (cellD l ((k : Int).toNat * 2 + 0)) (cellD l ((k : Int).toNat * 2 + 1))
    have ht := cnt_take (l := l) (k := k) (by omega)
    have e1 : IntKind.i64.wrap ((k : Int) + 1) = ((k + 1 : Nat) : Int) := by rw [w64 (by omega) (by omega)]; omega
    have stay : updF (cntF (l.take k)) (cellD l ((k : Int).toNat * 2 + 0), cellD l ((k : Int).toNat * 2 + 1)) = cntF (l.take k) → ∀ {h : List AO}, h[1]? = some (.ints .i64 (tab (cntF (l.take k)))) → h[0]? = some (.ints .i64 (List.replicate 32 0)) →
        LeH 0 h [0, 1] [.ints .i64 (List.replicate 32 0), .ints .i64 (tab (cntF (l.take (k + 1))))] := fun e h g1 g0 => leh2 (by decide) g0 g1 (leOint rfl) (leOint (by rw [ht, e]))
    refine .inl ⟨⟨by decide +kernel, by decide +kernel⟩, ?_⟩
    refine ⟨hin, ?_⟩
    refine ⟨.bool (decide (mayD (cellD l ((k : Int).toNat * 2 + 0)) (cellD l ((k : Int).toNat * 2 + 1)))), dfree rfl rfl, ACalls.args (hm.mono fun r h ⟨e1, e2⟩ => ⟨.inl e1, e2⟩) ⟨vdot rfl rfl, trivial⟩, ?_⟩
    refine ⟨fun c1 => ?_, fun c1 => ?_⟩
    · have hmay := yes c1
      have hr : 0 ≤ cellD l ((k : Int).toNat * 2 + 0) ∧ cellD l ((k : Int).toNat * 2 + 0) < 32 := by have := hmay.1; have := hmay.2.1; omega
      refine ⟨hin, ?_⟩
      refine ⟨hin, ?_⟩
      refine ⟨hr, ?_⟩
      refine ⟨off_lt _ hmay, ?_⟩
      refine ⟨fun c2 => ?_, fun c2 => ?_⟩
      · have hgt : (tab (cntF (l.take k))).getD (addOff 0 (cellD l ((k : Int).toNat * 2 + 0)).toNat 1) 0 < cellD l ((k : Int).toNat * 2 + 1) := yes c2
        refine .inr ⟨11, by decide +kernel, ?_⟩
        refine ⟨_, rfl, ?_⟩
        refine ⟨_, rfl, ?_⟩
        refine ⟨_, ⟨hin, rfl⟩, ?_⟩
        refine ⟨_, rfl, ?_⟩
        refine ⟨_, rfl, ?_⟩
        refine ⟨_, rfl, ?_⟩
        refine ⟨_, rfl, ?_⟩
        refine ⟨_, ⟨hin, rfl⟩, ?_⟩
        refine ⟨_, rfl, ?_⟩
        refine ⟨_, rfl, ?_⟩
        refine ⟨_, ⟨hr, rfl⟩, ?_⟩
        refine ⟨off_lt _ hmay, ?_⟩
        refine ⟨trivial, k + 1, [0, 1], by show k + 1 ≤ l.length; omega, by show l.length - (k + 1) < l.length - k; omega, leh2 (by decide) rfl rfl (leOint rfl) (leOint ?_),
          ⟨.same _ trivial, .ptr _ rfl, .ptr _ rfl, leI e1, trivial⟩⟩
        rw [ht, ← upd_set hmay, Int.max_eq_right (Int.le_of_lt hgt)]
      · have hgt : ¬ (tab (cntF (l.take k))).getD (addOff 0 (cellD l ((k : Int).toNat * 2 + 0)).toNat 1) 0 < cellD l ((k : Int).toNat * 2 + 1) := no c2
        have hr' : (cellD l ((k : Int).toNat * 2 + 0)).toNat < 32 := by omega
        rw [show addOff 0 (cellD l ((k : Int).toNat * 2 + 0)).toNat 1 = (cellD l ((k : Int).toNat * 2 + 0)).toNat by simp [addOff], tab_get _ hr'] at hgt
        exact ⟨trivial, k + 1, [0, 1], by show k + 1 ≤ l.length; omega, by show l.length - (k + 1) < l.length - k; omega, stay (upd_low (by omega)) rfl rfl,
          ⟨.same _ trivial, .ptr _ rfl, .ptr _ rfl, leI e1, trivial⟩⟩
    · have hmay := no c1
      exact ⟨trivial, k + 1, [0, 1], by show k + 1 ≤ l.length; omega, by show l.length - (k + 1) < l.length - k; omega, stay (upd_not hmay) rfl rfl,
        ⟨.same _ trivial, .ptr _ rfl, .ptr _ rfl, leI e1, trivial⟩⟩
  · have f1 : ¬ (k : Int) < l.length := no c
    obtain rfl : k = l.length := by omega
    have ht : l.take l.length = l := List.take_of_length_le (Nat.le_refl _)
    refine ⟨by rw [tab_len]; decide, ?_⟩
    refine ⟨by simp [tab_len], by decide, ?_⟩
    refine ⟨by simp [tab_len], ?_⟩
    exact ⟨[], [], _, lehN _, leAggI (by rw [tab_blk _ _ (by simp), ht]), rfl, rfl⟩

set_option maxHeartbeats 2000000 in
set_option maxRecDepth 10000 in
theorem vector_prog (g : Nat → Int) : ACalls Tryz.prog 86 [cntV g] [] (fun r h => r = vecV (ofF g) ∧ h = []) := by
  refine rcalls Tryz.func86 rfl (by decide) ?_
  refine ⟨(tab_len g).symm, ?_⟩
  refine ⟨by rw [tab_len]; decide, ?_⟩
  refine ⟨Nat, fun k => [(3, .own 0 0 (ofK g k).length 2), (6, cntV g), (7, int .i64 k)], fun k => [.row ((ofK g k).length * 2) fun i => int .i64 (cellD (ofK g k) i)], fun k => k ≤ 32, fun k => 32 - k,
    ⟨0, [1], by omega, lehR (Nat.le_refl _) _, ⟨.nil _ _ (by decide), leAggI (tab_part g), leI rfl, trivial⟩⟩, ?_⟩
  intro k hk
  have hk : k ≤ 32 := hk
  refine ⟨fun c => ?_, fun c => ?_⟩
  · have f1 : (k : Int) < 32 := yes c
    have e1 : IntKind.i64.wrap ((k : Int) + 1) = ((k + 1 : Nat) : Int) := by rw [w64 (by omega) (by omega)]; omega
    have hv : (tab g).getD (k : Int).toNat 0 = g k := by rw [show ((k : Int)).toNat = k by omega, tab_get g (by omega)]
    have hs := ofK_succ g k
    have hln := ofK_len g k
    refine ⟨⟨by omega, f1⟩, by rw [tab_len]; decide, ?_⟩
    refine ⟨fun c1 => ?_, fun c1 => ?_⟩
    · have g1 : 0 < g k := by have := yes c1; rw [hv] at this; exact this
      rw [if_pos g1, ← hv] at hs
      refine ⟨rfl, fun i _ => rfl, Nat.le_refl 2, by show ((ofK g k).length + 1) * 16 ≤ _; omega, fun i hi => two_cells (f := fun i => [int .i64 k, int .i64 ((tab g).getD (k : Int).toNat 0)].getD (0 + i) .top) rfl rfl hi, fun i => int .i64 (cellD (ofK g (k + 1)) i),
        fun i hi => snoc_old hs hi, fun i hi => snoc_new (f := fun i => [int .i64 k, int .i64 ((tab g).getD (k : Int).toNat 0)].getD (0 + i) .top) hs rfl rfl hi, ?_⟩
      have hlen : (ofK g k).length + 1 = (ofK g (k + 1)).length := by rw [hs]; simp
      refine ⟨trivial, k + 1, [2], by show k + 1 ≤ 32; omega, by show 32 - (k + 1) < 32 - k; omega, leh1 rfl ?_, ⟨leOwn rfl rfl hlen, .aggI _ _, leI e1, trivial⟩⟩
      rw [← hlen]; exact .row _ _ _ _ (Nat.le_refl _) fun i hi => leI rfl
    · have g1 : ¬ 0 < g k := by have := no c1; rw [hv] at this; exact this
      rw [if_neg g1] at hs
      exact ⟨trivial, k + 1, [0], by show k + 1 ≤ 32; omega, by show 32 - (k + 1) < 32 - k; omega, leh1 rfl (leVec hs.symm), ⟨leOwn rfl rfl (by rw [hs]), .aggI _ _, leI e1, trivial⟩⟩
  · have f1 : ¬ (k : Int) < 32 := no c
    obtain rfl : k = 32 := by omega
    exact ⟨[], [], _, lehN _, giveVec rfl (by simp) rfl, rfl, rfl⟩

set_option maxHeartbeats 2000000 in
set_option maxRecDepth 10000 in
theorem of_ref (g : Nat → Int) : ACalls Tryz.prog 95 [cntV g] [] (fun r h => r = vecV (ofF g) ∧ h = []) := by
  refine rcalls Tryz.func95 rfl (by decide) ?_
  refine ⟨(tab_len g).symm, ?_⟩
  refine ⟨Nat, fun k => [(1, .ptr 0 0), (3, .own 1 0 (ofK g k).length 2), (4, int .i64 k)], fun k => [.ints .i64 (tab g), .row ((ofK g k).length * 2) fun i => int .i64 (cellD (ofK g k) i)], fun k => k ≤ 32, fun k => 32 - k,
    ⟨0, [0, 1], by omega, leh1R rfl (leOint rfl) (Nat.le_refl _) _, ⟨.ptr _ rfl, .nil _ _ (by decide), leI rfl, trivial⟩⟩, ?_⟩
  intro k hk
  have hk : k ≤ 32 := hk
  refine ⟨fun c => ?_, fun c => ?_⟩
  · have f1 : (k : Int) < 32 := yes c
    have e1 : IntKind.i64.wrap ((k : Int) + 1) = ((k + 1 : Nat) : Int) := by rw [w64 (by omega) (by omega)]; omega
    have hoff : addOff 0 (k : Int).toNat 1 = k := by simp [addOff]
    have hv : (tab g).getD (addOff 0 (k : Int).toNat 1) 0 = g k := by rw [hoff, tab_get g (by omega)]
    have hlt : addOff 0 (k : Int).toNat 1 < (tab g).length := by rw [hoff, tab_len]; omega
    have hs := ofK_succ g k
    have hln := ofK_len g k
    refine ⟨⟨by omega, f1⟩, hlt, ?_⟩
    refine ⟨fun c1 => ?_, fun c1 => ?_⟩
    · have g1 : 0 < g k := by have := yes c1; rw [hv] at this; exact this
      rw [if_pos g1, ← hv] at hs
      refine ⟨⟨by omega, f1⟩, hlt, ?_⟩
      refine ⟨rfl, fun i _ => rfl, Nat.le_refl 2, by show ((ofK g k).length + 1) * 16 ≤ _; omega, fun i hi => two_cells (f := fun i => [int .i64 k, int .i64 ((tab g).getD (addOff 0 (k : Int).toNat 1) 0)].getD (0 + i) .top) rfl rfl hi, fun i => int .i64 (cellD (ofK g (k + 1)) i),
        fun i hi => snoc_old hs hi, fun i hi => snoc_new (f := fun i => [int .i64 k, int .i64 ((tab g).getD (addOff 0 (k : Int).toNat 1) 0)].getD (0 + i) .top) hs rfl rfl hi, ?_⟩
      have hlen : (ofK g k).length + 1 = (ofK g (k + 1)).length := by rw [hs]; simp
      refine ⟨trivial, k + 1, [0, 3], by show k + 1 ≤ 32; omega, by show 32 - (k + 1) < 32 - k; omega, leh2 (by decide) rfl rfl (leOint rfl) ?_, ⟨.ptr _ rfl, leOwn rfl rfl hlen, leI e1, trivial⟩⟩
      rw [← hlen]; exact .row _ _ _ _ (Nat.le_refl _) fun i hi => leI rfl
    · have g1 : ¬ 0 < g k := by have := no c1; rw [hv] at this; exact this
      rw [if_neg g1] at hs
      exact ⟨trivial, k + 1, [0, 1], by show k + 1 ≤ 32; omega, by show 32 - (k + 1) < 32 - k; omega, leh2 (by decide) rfl rfl (leOint rfl) (leVec hs.symm), ⟨.ptr _ rfl, leOwn rfl rfl (by rw [hs]), leI e1, trivial⟩⟩
  · have f1 : ¬ (k : Int) < 32 := no c
    obtain rfl : k = 32 := by omega
    exact ⟨[], [], _, lehN _, giveVec rfl (by simp) rfl, rfl, rfl⟩

end
end Go.Proofs.YthckagkciefliaaGreatDoor.Vc

/-
  The contracts of vectors' join and meet, of what a vector knows, and whether two are the same: the program's and the document's.
-/
set_option linter.unusedVariables false
set_option linter.unusedSectionVars false
namespace Go.Proofs.YthckagkciefliaaGreatDoor.Vc
open Go AL Hx Dt

/-- A rule for two numbers, as a function value. -/
def Rule [Globs] (F : FuncId) (m : Int → Int → Int) : Prop := ∀ x y : Int, ACalls Tryz.prog F [int .i64 x, int .i64 y] [] (fun r h => r = int .i64 (m x y) ∧ h = [])
def zipF (m : Int → Int → Int) (g h : Nat → Int) : Nat → Int := fun r => m (g r) (h r)
def partF (m : Int → Int → Int) (g h : Nat → Int) (k : Nat) : Nat → Int := fun r => if r < k then m (g r) (h r) else g r
theorem part_zero (m : Int → Int → Int) (g h : Nat → Int) : partF m g h 0 = g := funext fun r => if_neg (Nat.not_lt_zero _)
theorem part_all (m : Int → Int → Int) (g h : Nat → Int) : tab (partF m g h 32) = tab (zipF m g h) := tab_ext.2 fun r hr => if_pos hr
theorem part_set {m : Int → Int → Int} {g h : Nat → Int} {k : Nat} (hk : k < 32) :
    (tab (partF m g h k)).set (addOff 0 (k : Int).toNat 1) (m ((tab (partF m g h k)).getD (addOff 0 (k : Int).toNat 1) 0) ((tab h).getD (addOff 0 (k : Int).toNat 1) 0)) = tab (partF m g h (k + 1)) := by
  have hoff : addOff 0 (k : Int).toNat 1 = k := by simp [addOff]
  rw [hoff, tab_get _ hk, tab_get _ hk, tab_set _ hk, tab_ext]
  intro r hr
  unfold partF
  by_cases h1 : r = k
  · subst h1; rw [if_pos rfl, if_neg (by omega), if_pos (by omega)]
  · rw [if_neg h1]
    by_cases h2 : r < k
    · rw [if_pos h2, if_pos (by omega)]
    · rw [if_neg h2, if_neg (by omega)]
/-- Does the one know no more? -/
def leqV (g h : Nat → Int) : Prop := tab (maxF g h) = tab h
instance (g h : Nat → Int) : Decidable (leqV g h) := by unfold leqV; exact inferInstance
theorem leq_iff {g h : Nat → Int} : leqV g h ↔ ∀ r, r < 32 → g r ≤ h r := tab_ext.trans (by
  constructor
  · intro e r hr
    have := e r hr; unfold maxF at this; omega
  · intro e r hr
    have := e r hr; unfold maxF; omega)
theorem off_lt' (g : Nat → Int) {k : Nat} (h : k < 32) : addOff 0 (k : Int).toNat 1 < (tab g).length := by rw [tab_len]; simp [addOff]; omega
section
variable [Globs]
theorem vcnt {xs : List Int} {g : Nat → Int} (e : xs = tab g) : VLe (.aggI .i64 xs) (cntV g) := by subst e; exact .refl _
theorem tab_blk2 (g : Nat → Int) (zs : List Int) (hz : zs.length = 32) : List.take 0 zs ++ tab g ++ List.drop (0 + (tab g).length) zs = tab g := by
  rw [List.take_zero, List.nil_append, List.drop_eq_nil_of_le (by rw [tab_len, hz]; decide), List.append_nil]
theorem zip_max (g h : Nat → Int) : zipF max g h = maxF g h := rfl
theorem zip_min (g h : Nat → Int) : zipF min g h = minF g h := rfl
theorem vro {n sz : Nat} {f g : Nat → AV} (h : ∀ i, i < n * sz → f i = g i) : VLe (.ro n sz f) (.ro n sz g) := fun w S L v hv => by
  obtain ⟨A, cap, e, hc, hd⟩ := hv
  refine ⟨A, cap, e, hc, fun i hi => ?_⟩
  obtain ⟨u, h1, h2⟩ := hd i hi
  exact ⟨u, h1, by rw [← h i hi]; exact h2⟩
theorem vro' {n m sz : Nat} {f g : Nat → AV} (e : n = m) (h : ∀ i, i < n * sz → f i = g i) : VLe (.ro n sz f) (.ro m sz g) := by subst e; exact vro h
theorem vvec1 {f : Nat → AV} {a b : Int} (h0 : f 0 = int .i64 a) (h1 : f 1 = int .i64 b) : VLe (.ro 1 2 f) (vecV [(a, b)]) := vro fun i hi => by
  match i, hi with
  | 0, _ => rw [h0]; rfl
  | 1, _ => rw [h1]; rfl

set_option maxRecDepth 10000 in
theorem joinRule : Rule 93 max := fun x y => by
  refine rcalls Tryz.func93 rfl (by decide) ?_
  exact ⟨[], [], _, leh0, leI rfl, rfl, rfl⟩

set_option maxRecDepth 10000 in
theorem meetRule : Rule 114 min := fun x y => by
  refine rcalls Tryz.func114 rfl (by decide) ?_
  exact ⟨[], [], _, leh0, leI rfl, rfl, rfl⟩

set_option maxHeartbeats 2000000 in
set_option maxRecDepth 10000 in
theorem both_prog (a b : List (Int × Int)) (F : FuncId) (m : Int → Int → Int) (hF : Rule F m) (ha : a.length ≤ 9223372036854775807) (hb : b.length ≤ 9223372036854775807) :
    ACalls Tryz.prog 92 [vecV a, vecV b, .raw (.func (.func F) #[] #[])] [] (fun r h => r = vecV (ofF (zipF m (cntF a) (cntF b))) ∧ h = []) := by
  have h1 := counted_prog a ha
  have h2 := counted_prog b hb
  generalize cntF a = g at *
  generalize cntF b = h at *
  refine rcalls Tryz.func92 rfl (by decide) ?_
  refine ⟨[], _, h1, ?_⟩
  rintro r hh ⟨rfl, rfl⟩
  refine ⟨.inl rfl, ?_⟩
  refine ⟨[], _, h2, ?_⟩
  rintro r hh ⟨rfl, rfl⟩
  refine ⟨.inl rfl, ?_⟩
  refine ⟨rfl, ?_⟩
  refine ⟨rfl, ?_⟩
  refine ⟨(tab_len g).symm, by simp, ?_⟩
  refine ⟨(tab_len h).symm, by simp, ?_⟩
  refine ⟨Nat, fun k => [(2, .raw (.func (.func F) #[] #[])), (7, .ptr 0 0), (8, .ptr 1 0), (14, int .i64 k)], fun k => [.ints .i64 (tab (partF m g h k)), .ints .i64 (tab h)], fun k => k ≤ 32, fun k => 32 - k,
    ⟨0, [0, 1], by omega, leh2 (by decide) rfl rfl (leOint (by rw [part_zero]; exact tab_blk2 g _ (by simp))) (leOint (tab_blk2 h _ (by simp))), ⟨.raw _, .ptr _ rfl, .ptr _ rfl, leI rfl, trivial⟩⟩, ?_⟩
  intro k hk
  have hk : k ≤ 32 := hk
  refine ⟨fun c => ?_, fun c => ?_⟩
  · have f1 : (k : Int) < 32 := yes c
    have hin : (0 : Int) ≤ k ∧ (k : Int) < 32 := ⟨by omega, f1⟩
    have e1 : IntKind.i64.wrap ((k : Int) + 1) = ((k + 1 : Nat) : Int) := by rw [w64 (by omega) (by omega)]; omega
    refine .inr ⟨10, by decide +kernel, ?_⟩
    refine ⟨_, rfl, ?_⟩
    refine ⟨_, rfl, ?_⟩
    refine ⟨_, rfl, ?_⟩
    refine ⟨_, ⟨hin, rfl⟩, ?_⟩
    refine ⟨_, ⟨off_lt' _ (by omega), rfl⟩, ?_⟩
    refine ⟨_, rfl, ?_⟩
    refine ⟨_, ⟨hin, rfl⟩, ?_⟩
    refine ⟨_, ⟨off_lt' _ (by omega), rfl⟩, ?_⟩
    refine ⟨_, ⟨[], _, hF _ _, by rintro r h ⟨rfl, rfl⟩; exact ⟨.inl rfl, rfl, rfl⟩⟩, ?_⟩
    refine ⟨_, ⟨hin, rfl⟩, ?_⟩
    refine ⟨off_lt' _ (by omega), ?_⟩
    exact ⟨trivial, k + 1, [0, 1], by show k + 1 ≤ 32; omega, by show 32 - (k + 1) < 32 - k; omega, leh2 (by decide) rfl rfl (leOint (part_set (by omega))) (leOint rfl), ⟨.raw _, .ptr _ rfl, .ptr _ rfl, leI e1, trivial⟩⟩
  · have f1 : ¬ (k : Int) < 32 := no c
    obtain rfl : k = 32 := by omega
    refine ⟨by rw [tab_len]; decide, ?_⟩
    refine ⟨[], _, (vector_prog (zipF m g h)).args ⟨vcnt ((tab_part _).trans (part_all m g h)), trivial⟩, ?_⟩
    rintro r hh ⟨rfl, rfl⟩
    refine ⟨.inl rfl, ?_⟩
    exact ⟨[], [], _, lehN _, .same _ trivial, rfl, rfl⟩

set_option maxHeartbeats 2000000 in
set_option maxRecDepth 10000 in
theorem join_prog (a b : List (Int × Int)) (ha : a.length ≤ 9223372036854775807) (hb : b.length ≤ 9223372036854775807) : ACalls Tryz.prog 47 [vecV a, vecV b] [] (fun r h => r = vecV (ofF (maxF (cntF a) (cntF b))) ∧ h = []) := by
  have hb := both_prog a b _ _ joinRule ha hb
  rw [zip_max] at hb
  generalize ofF (maxF (cntF a) (cntF b)) = V at *
  refine rcalls Tryz.func47 rfl (by decide) ?_
  refine ⟨[], _, hb, ?_⟩
  rintro r hh ⟨rfl, rfl⟩
  refine ⟨.inl rfl, ?_⟩
  exact ⟨[], [], _, lehN _, .same _ trivial, rfl, rfl⟩

set_option maxHeartbeats 2000000 in
set_option maxRecDepth 10000 in
theorem meet_prog (a b : List (Int × Int)) (ha : a.length ≤ 9223372036854775807) (hb : b.length ≤ 9223372036854775807) : ACalls Tryz.prog 87 [vecV a, vecV b] [] (fun r h => r = vecV (ofF (minF (cntF a) (cntF b))) ∧ h = []) := by
  have hb := both_prog a b _ _ meetRule ha hb
  rw [zip_min] at hb
  generalize ofF (minF (cntF a) (cntF b)) = V at *
  refine rcalls Tryz.func87 rfl (by decide) ?_
  refine ⟨[], _, hb, ?_⟩
  rintro r hh ⟨rfl, rfl⟩
  refine ⟨.inl rfl, ?_⟩
  exact ⟨[], [], _, lehN _, .same _ trivial, rfl, rfl⟩

/-- How many of a replica are known. -/
def getV (l : List (Int × Int)) (r : Int) : Int := if r < 0 ∨ r > 31 then 0 else cntF l r.toNat
set_option maxHeartbeats 2000000 in
set_option maxRecDepth 10000 in
theorem get_prog (l : List (Int × Int)) (n : Int) (hl : l.length ≤ 9223372036854775807) : ACalls Tryz.prog 69 [vecV l, int .i64 n] [] (fun r h => r = int .i64 (getV l n) ∧ h = []) := by
  have h1 := counted_prog l hl
  have hg : getV l n = if n < 0 ∨ n > 31 then 0 else cntF l n.toNat := rfl
  generalize getV l n = V at *
  generalize cntF l = g at *
  refine rcalls Tryz.func69 rfl (by decide) ?_
  refine ⟨fun c1 => ?_, fun c1 => ⟨fun c2 => ?_, fun c2 => ?_⟩⟩
  · have := yes c1
    exact ⟨[], [], _, lehN _, leI (by rw [hg, if_pos (by omega)]), rfl, rfl⟩
  · have := yes c2
    exact ⟨[], [], _, lehN _, leI (by rw [hg, if_pos (by omega)]), rfl, rfl⟩
  · have f1 := no c1
    have f2 := no c2
    refine ⟨[], _, h1, ?_⟩
    rintro r hh ⟨rfl, rfl⟩
    refine ⟨.inl rfl, ?_⟩
    refine ⟨⟨by omega, by show n < 32; omega⟩, by rw [tab_len]; decide, ?_⟩
    exact ⟨[], [], _, lehN _, leI (by rw [hg, if_neg (by omega), tab_get g (by omega)]), rfl, rfl⟩

set_option maxHeartbeats 2000000 in
set_option maxRecDepth 10000 in
theorem get_ref (l : List (Int × Int)) (n : Int) (hl : l.length ≤ 9223372036854775807) : ACalls Tryz.prog 71 [vecV l, int .i64 n] [] (fun r h => r = int .i64 (getV l n) ∧ h = []) := by
  have h1 := all_ref l hl
  have hg : getV l n = if n < 0 ∨ n > 31 then 0 else cntF l n.toNat := rfl
  generalize getV l n = V at *
  generalize cntF l = g at *
  refine rcalls Tryz.func71 rfl (by decide) ?_
  refine ⟨fun c1 => ?_, fun c1 => ⟨fun c2 => ?_, fun c2 => ?_⟩⟩
  · have := yes c1
    exact ⟨[], [], _, lehN _, leI (by rw [hg, if_pos (by omega)]), rfl, rfl⟩
  · have := yes c2
    exact ⟨[], [], _, lehN _, leI (by rw [hg, if_pos (by omega)]), rfl, rfl⟩
  · have f1 := no c1
    have f2 := no c2
    refine ⟨[], _, h1, ?_⟩
    rintro r hh ⟨rfl, rfl⟩
    refine ⟨.inl rfl, ?_⟩
    refine ⟨⟨by omega, by show n < 32; omega⟩, by rw [tab_len]; decide, ?_⟩
    exact ⟨[], [], _, lehN _, leI (by rw [hg, if_neg (by omega), tab_get g (by omega)]), rfl, rfl⟩

set_option maxHeartbeats 2000000 in
set_option maxRecDepth 10000 in
theorem has_prog (l : List (Int × Int)) (a b : Int) (hl : l.length ≤ 9223372036854775807) : ACalls Tryz.prog 73 [vecV l, dotV a b] [] (fun r h => r = bool (decide (mayD a b ∧ b ≤ getV l a)) ∧ h = []) := by
  have h1 := may_prog a b
  have h2 := get_prog l a hl
  generalize getV l a = V at *
  refine rcalls Tryz.func73 rfl (by decide) ?_
  refine .inl ⟨⟨by decide +kernel, by decide +kernel⟩, ?_⟩
  refine ⟨.bool (decide (mayD a b)), dfree rfl rfl, ACalls.args (h1.mono fun r h ⟨e1, e2⟩ => ⟨.inl e1, e2⟩) ⟨vdot rfl rfl, trivial⟩, ?_⟩
  refine ⟨fun c1 => ?_, fun c1 => ?_⟩
  · have := yes c1
    refine ⟨.int .i64 V, h2.mono fun r h ⟨e1, e2⟩ => ⟨.inl e1, e2⟩, ?_⟩
    exact ⟨[], [], _, lehN _, leP ⟨fun h => ⟨this, h⟩, fun h => h.2⟩, rfl, rfl⟩
  · have := no c1
    exact ⟨[], [], _, lehN _, leFP fun h => this h.1, rfl, rfl⟩

set_option maxHeartbeats 2000000 in
set_option maxRecDepth 10000 in
theorem has_ref (l : List (Int × Int)) (a b : Int) (hl : l.length ≤ 9223372036854775807) : ACalls Tryz.prog 82 [vecV l, dotV a b] [] (fun r h => r = bool (decide (mayD a b ∧ b ≤ getV l a)) ∧ h = []) := by
  have h1 := may_ref a b
  have h2 := get_ref l a hl
  generalize getV l a = V at *
  refine rcalls Tryz.func82 rfl (by decide) ?_
  refine .inl ⟨⟨by decide +kernel, by decide +kernel⟩, ?_⟩
  refine ⟨.bool (decide (mayD a b)), dfree rfl rfl, ACalls.args (h1.mono fun r h ⟨e1, e2⟩ => ⟨.inl e1, e2⟩) ⟨vdot rfl rfl, trivial⟩, ?_⟩
  refine ⟨fun c1 => ?_, fun c1 => ?_⟩
  · have := yes c1
    refine ⟨.int .i64 V, h2.mono fun r h ⟨e1, e2⟩ => ⟨.inl e1, e2⟩, ?_⟩
    exact ⟨[], [], _, lehN _, leP ⟨fun h => ⟨this, h⟩, fun h => h.2⟩, rfl, rfl⟩
  · have := no c1
    exact ⟨[], [], _, lehN _, leFP fun h => this h.1, rfl, rfl⟩

theorem list_eq {l m : List (Int × Int)} (hl : l.length = m.length) (h : ∀ i, i < l.length → cellD l (i * 2 + 0) = cellD m (i * 2 + 0) ∧ cellD l (i * 2 + 1) = cellD m (i * 2 + 1)) : l = m := by
  apply List.ext_getElem hl
  intro i h1 h2
  have := h i h1
  rw [cell_fst, cell_snd, cell_fst, cell_snd] at this
  rw [List.getD_eq_getElem?_getD, List.getD_eq_getElem?_getD, List.getElem?_eq_getElem h1, List.getElem?_eq_getElem h2] at this
  exact Prod.ext this.1 this.2

set_option maxHeartbeats 2000000 in
set_option maxRecDepth 10000 in
theorem equal_prog (l m : List (Int × Int)) (hl : l.length ≤ 9223372036854775807) (hm : m.length ≤ 9223372036854775807) : ACalls Tryz.prog 75 [vecV l, vecV m] [] (fun r h => r = bool (decide (l = m)) ∧ h = []) := by
  refine rcalls Tryz.func75 rfl (by decide) ?_
  refine ⟨fun c => ?_, fun c => ?_⟩
  · have f1 : ¬ (l.length : Int) = m.length := yes c
    exact ⟨[], [], _, lehN _, leFP fun e => f1 (by rw [e]), rfl, rfl⟩
  have f1 : (l.length : Int) = m.length := Classical.not_not.1 (no c)
  refine ⟨Nat, fun k => [(0, vecV l), (1, vecV m), (12, int .i64 l.length), (13, int .i64 k)], fun _ => [], fun k => k ≤ l.length ∧ ∀ i, i < k → cellD l (i * 2 + 0) = cellD m (i * 2 + 0) ∧ cellD l (i * 2 + 1) = cellD m (i * 2 + 1), fun k => l.length - k,
    ⟨0, [], ⟨by omega, by omega⟩, leh0, ⟨.same _ trivial, .same _ trivial, leI rfl, leI rfl, trivial⟩⟩, ?_⟩
  rintro k ⟨hk, hs⟩
  refine ⟨fun c1 => ?_, fun c1 => ?_⟩
  · have f2 : (k : Int) < l.length := yes c1
    have hin : ((k : Int)).toNat = k := by omega
    have e1 : IntKind.i64.wrap ((k : Int) + 1) = ((k + 1 : Nat) : Int) := by rw [w64 (by omega) (by omega)]; omega
    refine .inl ⟨⟨by decide +kernel, by decide +kernel⟩, ?_⟩
    refine ⟨⟨by omega, f2⟩, ?_⟩
    refine ⟨⟨by omega, by omega⟩, ?_⟩
    refine ⟨⟨by decide +kernel, by decide +kernel, by decide +kernel⟩, ?_⟩
    refine ⟨fun c2 => ?_, fun c2 => ?_⟩
    · have g2 : (!(leafEq (.int .i64 (cellD l ((k : Int).toNat * 2 + 0))) (.int .i64 (cellD m ((k : Int).toNat * 2 + 0))) && (leafEq (.int .i64 (cellD l ((k : Int).toNat * 2 + 1))) (.int .i64 (cellD m ((k : Int).toNat * 2 + 1))) && true))) = true := c2
      refine ⟨[], [], _, lehN _, leFP fun e => ?_, rfl, rfl⟩
      subst e
      rw [eq2.2 ⟨rfl, rfl⟩] at g2
      cases g2
    · have g2 : (!(leafEq (.int .i64 (cellD l ((k : Int).toNat * 2 + 0))) (.int .i64 (cellD m ((k : Int).toNat * 2 + 0))) && (leafEq (.int .i64 (cellD l ((k : Int).toNat * 2 + 1))) (.int .i64 (cellD m ((k : Int).toNat * 2 + 1))) && true))) = false := c2
      have g3 := eq2.1 (unnot g2)
      rw [hin] at g3
      refine ⟨trivial, k + 1, [], ⟨by omega, fun i hi => ?_⟩, by show l.length - (k + 1) < l.length - k; omega, lehN _, ⟨.same _ trivial, .same _ trivial, leI rfl, leI e1, trivial⟩⟩
      rcases Nat.lt_or_ge i k with h | h
      · exact hs i h
      · rw [show i = k by omega]; exact g3
  · have f2 : ¬ (k : Int) < l.length := no c1
    exact ⟨[], [], _, lehN _, leTP (list_eq (by omega) fun i hi => hs i (by omega)), rfl, rfl⟩

set_option maxHeartbeats 2000000 in
set_option maxRecDepth 10000 in
theorem may_vec (l : List (Int × Int)) (hl : l.length ≤ 9223372036854775807) : ACalls Tryz.prog 68 [vecV l] [] (fun r h => r = bool (decide (l = ofF (cntF l))) ∧ h = []) := by
  have h1 := counted_prog l hl
  have h2 := vector_prog (cntF l)
  have hk : (ofF (cntF l)).length ≤ 32 := ofK_len _ 32
  have h3 := equal_prog l (ofF (cntF l)) hl (by omega)
  generalize ofF (cntF l) = V at *
  generalize cntF l = g at *
  refine rcalls Tryz.func68 rfl (by decide) ?_
  refine ⟨[], _, h1, ?_⟩
  rintro r hh ⟨rfl, rfl⟩
  refine ⟨.inl rfl, ?_⟩
  refine ⟨[], _, h2, ?_⟩
  rintro r hh ⟨rfl, rfl⟩
  refine ⟨.inl rfl, ?_⟩
  refine ⟨[], _, h3, ?_⟩
  rintro r hh ⟨rfl, rfl⟩
  refine ⟨.inl rfl, ?_⟩
  exact ⟨[], [], _, lehN _, leB rfl, rfl, rfl⟩

end
end Go.Proofs.YthckagkciefliaaGreatDoor.Vc

/-
  The contracts of the document's vectors: equal, may, same, join, meet, leq, with.
-/
set_option linter.unusedVariables false
set_option linter.unusedSectionVars false
namespace Go.Proofs.YthckagkciefliaaGreatDoor.Vc
open Go AL Hx Dt

section
variable [Globs]

set_option maxHeartbeats 2000000 in
set_option maxRecDepth 10000 in
theorem equal_ref (l m : List (Int × Int)) (hl : l.length ≤ 9223372036854775807) (hm : m.length ≤ 9223372036854775807) : ACalls Tryz.prog 43 [vecV l, vecV m] [] (fun r h => r = bool (decide (l = m)) ∧ h = []) := by
  refine rcalls Tryz.func43 rfl (by decide) ?_
  refine ⟨fun c => ?_, fun c => ?_⟩
  · have f1 : ¬ (l.length : Int) = m.length := yes c
    exact ⟨[], [], _, lehN _, leFP fun e => f1 (by rw [e]), rfl, rfl⟩
  have f1 : (l.length : Int) = m.length := Classical.not_not.1 (no c)
  refine ⟨Nat, fun k => [(0, vecV l), (1, vecV m), (5, int .i64 k)], fun _ => [], fun k => k ≤ l.length ∧ ∀ i, i < k → cellD l (i * 2 + 0) = cellD m (i * 2 + 0) ∧ cellD l (i * 2 + 1) = cellD m (i * 2 + 1), fun k => l.length - k,
    ⟨0, [], ⟨by omega, by omega⟩, leh0, ⟨.same _ trivial, .same _ trivial, leI rfl, trivial⟩⟩, ?_⟩
  rintro k ⟨hk, hs⟩
  refine ⟨fun c1 => ?_, fun c1 => ?_⟩
  · have f2 : (k : Int) < l.length := yes c1
    have hin : ((k : Int)).toNat = k := by omega
    have e1 : IntKind.i64.wrap ((k : Int) + 1) = ((k + 1 : Nat) : Int) := by rw [w64 (by omega) (by omega)]; omega
    refine .inl ⟨⟨by decide +kernel, by decide +kernel⟩, ?_⟩
    refine ⟨⟨by omega, f2⟩, ?_⟩
    refine ⟨⟨by omega, by omega⟩, ?_⟩
    refine ⟨⟨by decide +kernel, by decide +kernel, by decide +kernel⟩, ?_⟩
    refine ⟨fun c2 => ?_, fun c2 => ?_⟩
    · have g2 : (!(leafEq (.int .i64 (cellD l ((k : Int).toNat * 2 + 0))) (.int .i64 (cellD m ((k : Int).toNat * 2 + 0))) && (leafEq (.int .i64 (cellD l ((k : Int).toNat * 2 + 1))) (.int .i64 (cellD m ((k : Int).toNat * 2 + 1))) && true))) = true := c2
      refine ⟨[], [], _, lehN _, leFP fun e => ?_, rfl, rfl⟩
      subst e
      rw [eq2.2 ⟨rfl, rfl⟩] at g2
      cases g2
    · have g2 : (!(leafEq (.int .i64 (cellD l ((k : Int).toNat * 2 + 0))) (.int .i64 (cellD m ((k : Int).toNat * 2 + 0))) && (leafEq (.int .i64 (cellD l ((k : Int).toNat * 2 + 1))) (.int .i64 (cellD m ((k : Int).toNat * 2 + 1))) && true))) = false := c2
      have g3 := eq2.1 (unnot g2)
      rw [hin] at g3
      refine ⟨trivial, k + 1, [], ⟨by omega, fun i hi => ?_⟩, by show l.length - (k + 1) < l.length - k; omega, lehN _, ⟨.same _ trivial, .same _ trivial, leI e1, trivial⟩⟩
      rcases Nat.lt_or_ge i k with h | h
      · exact hs i h
      · rw [show i = k by omega]; exact g3
  · have f2 : ¬ (k : Int) < l.length := no c1
    exact ⟨[], [], _, lehN _, leTP (list_eq (by omega) fun i hi => hs i (by omega)), rfl, rfl⟩

set_option maxHeartbeats 2000000 in
set_option maxRecDepth 10000 in
theorem may_vref (l : List (Int × Int)) (hl : l.length ≤ 9223372036854775807) : ACalls Tryz.prog 80 [vecV l] [] (fun r h => r = bool (decide (l = ofF (cntF l))) ∧ h = []) := by
  have h1 := all_ref l hl
  have h2 := of_ref (cntF l)
  have hk : (ofF (cntF l)).length ≤ 32 := ofK_len _ 32
  have h3 := equal_ref l (ofF (cntF l)) hl (by omega)
  generalize ofF (cntF l) = V at *
  generalize cntF l = g at *
  refine rcalls Tryz.func80 rfl (by decide) ?_
  refine ⟨[], _, h1, ?_⟩
  rintro r hh ⟨rfl, rfl⟩
  refine ⟨.inl rfl, ?_⟩
  refine ⟨[], _, h2, ?_⟩
  rintro r hh ⟨rfl, rfl⟩
  refine ⟨.inl rfl, ?_⟩
  refine ⟨[], _, h3, ?_⟩
  rintro r hh ⟨rfl, rfl⟩
  refine ⟨.inl rfl, ?_⟩
  exact ⟨[], [], _, lehN _, leB rfl, rfl, rfl⟩

set_option maxHeartbeats 2000000 in
set_option maxRecDepth 10000 in
theorem join_ref (a b : List (Int × Int)) (ha : a.length ≤ 9223372036854775807) (hb : b.length ≤ 9223372036854775807) : ACalls Tryz.prog 48 [vecV a, vecV b] [] (fun r h => r = vecV (ofF (maxF (cntF a) (cntF b))) ∧ h = []) := by
  have h1 := all_ref a ha
  have h2 := all_ref b hb
  rw [← zip_max]
  generalize cntF a = g at *
  generalize cntF b = h at *
  refine rcalls Tryz.func48 rfl (by decide) ?_
  refine ⟨[], _, h1, ?_⟩
  rintro r hh ⟨rfl, rfl⟩
  refine ⟨.inl rfl, ?_⟩
  refine ⟨rfl, ?_⟩
  refine ⟨(tab_len g).symm, by simp, ?_⟩
  refine ⟨[], _, h2, ?_⟩
  rintro r hh ⟨rfl, rfl⟩
  refine ⟨.inl rfl, ?_⟩
  refine ⟨rfl, ?_⟩
  refine ⟨(tab_len h).symm, by simp, ?_⟩
  refine ⟨Nat, fun k => [(5, .ptr 0 0), (6, .ptr 1 0), (7, int .i64 k)], fun k => [.ints .i64 (tab (partF max g h k)), .ints .i64 (tab h)], fun k => k ≤ 32, fun k => 32 - k,
    ⟨0, [0, 1], by omega, leh2 (by decide) rfl rfl (leOint (by rw [part_zero]; exact tab_blk2 g _ (by simp))) (leOint (tab_blk2 h _ (by simp))), ⟨.ptr _ rfl, .ptr _ rfl, leI rfl, trivial⟩⟩, ?_⟩
  intro k hk
  have hk : k ≤ 32 := hk
  refine ⟨fun c => ?_, fun c => ?_⟩
  · have f1 : (k : Int) < 32 := yes c
    have hin : (0 : Int) ≤ k ∧ (k : Int) < 32 := ⟨by omega, f1⟩
    have e1 : IntKind.i64.wrap ((k : Int) + 1) = ((k + 1 : Nat) : Int) := by rw [w64 (by omega) (by omega)]; omega
    refine .inr ⟨9, by decide +kernel, ?_⟩
    refine ⟨_, rfl, ?_⟩
    refine ⟨_, rfl, ?_⟩
    refine ⟨_, ⟨hin, rfl⟩, ?_⟩
    refine ⟨_, ⟨off_lt' _ (by omega), rfl⟩, ?_⟩
    refine ⟨_, rfl, ?_⟩
    refine ⟨_, ⟨hin, rfl⟩, ?_⟩
    refine ⟨_, ⟨off_lt' _ (by omega), rfl⟩, ?_⟩
    refine ⟨_, rfl, ?_⟩
    refine ⟨_, ⟨hin, rfl⟩, ?_⟩
    refine ⟨off_lt' _ (by omega), ?_⟩
    exact ⟨trivial, k + 1, [0, 1], by show k + 1 ≤ 32; omega, by show 32 - (k + 1) < 32 - k; omega, leh2 (by decide) rfl rfl (leOint (part_set (by omega))) (leOint rfl), ⟨.ptr _ rfl, .ptr _ rfl, leI e1, trivial⟩⟩
  · have f1 : ¬ (k : Int) < 32 := no c
    obtain rfl : k = 32 := by omega
    refine ⟨by rw [tab_len]; decide, ?_⟩
    refine ⟨[], _, (of_ref (zipF max g h)).args ⟨vcnt ((tab_part _).trans (part_all max g h)), trivial⟩, ?_⟩
    rintro r hh ⟨rfl, rfl⟩
    refine ⟨.inl rfl, ?_⟩
    exact ⟨[], [], _, lehN _, .same _ trivial, rfl, rfl⟩

set_option maxHeartbeats 2000000 in
set_option maxRecDepth 10000 in
theorem leq_ref (a b : List (Int × Int)) (ha : a.length ≤ 9223372036854775807) (hb : b.length ≤ 9223372036854775807) : ACalls Tryz.prog 74 [vecV a, vecV b] [] (fun r h => r = bool (decide (leqV (cntF a) (cntF b))) ∧ h = []) := by
  have h1 := all_ref a ha
  have h2 := all_ref b hb
  generalize cntF a = g at *
  generalize cntF b = h at *
  refine rcalls Tryz.func74 rfl (by decide) ?_
  refine ⟨[], _, h1, ?_⟩
  rintro r hh ⟨rfl, rfl⟩
  refine ⟨.inl rfl, ?_⟩
  refine ⟨rfl, ?_⟩
  refine ⟨(tab_len g).symm, by simp, ?_⟩
  refine ⟨[], _, h2, ?_⟩
  rintro r hh ⟨rfl, rfl⟩
  refine ⟨.inl rfl, ?_⟩
  refine ⟨rfl, ?_⟩
  refine ⟨(tab_len h).symm, by simp, ?_⟩
  refine ⟨Nat, fun k => [(5, .ptr 0 0), (6, .ptr 1 0), (7, int .i64 k)], fun k => [.ints .i64 (tab g), .ints .i64 (tab h)], fun k => k ≤ 32 ∧ ∀ r, r < k → g r ≤ h r, fun k => 32 - k,
    ⟨0, [0, 1], ⟨by omega, by omega⟩, leh2 (by decide) rfl rfl (leOint (tab_blk2 g _ (by simp))) (leOint (tab_blk2 h _ (by simp))), ⟨.ptr _ rfl, .ptr _ rfl, leI rfl, trivial⟩⟩, ?_⟩
  rintro k ⟨hk, hs⟩
  refine ⟨fun c => ?_, fun c => ?_⟩
  · have f1 : (k : Int) < 32 := yes c
    have hin : (0 : Int) ≤ k ∧ (k : Int) < 32 := ⟨by omega, f1⟩
    have hoff : addOff 0 (k : Int).toNat 1 = k := by simp [addOff]
    have v1 : (tab g).getD (addOff 0 (k : Int).toNat 1) 0 = g k := by rw [hoff, tab_get g (by omega)]
    have v2 : (tab h).getD (addOff 0 (k : Int).toNat 1) 0 = h k := by rw [hoff, tab_get h (by omega)]
    have e1 : IntKind.i64.wrap ((k : Int) + 1) = ((k + 1 : Nat) : Int) := by rw [w64 (by omega) (by omega)]; omega
    refine .inl ⟨⟨by decide +kernel, by decide +kernel⟩, ?_⟩
    refine ⟨hin, ?_⟩
    refine ⟨off_lt' _ (by omega), ?_⟩
    refine ⟨hin, ?_⟩
    refine ⟨off_lt' _ (by omega), ?_⟩
    refine ⟨fun c1 => ?_, fun c1 => ?_⟩
    · have g1 := yes c1
      rw [v1, v2] at g1
      exact ⟨[], [], _, lehN _, leFP fun e => by have := leq_iff.1 e k (by omega); omega, rfl, rfl⟩
    · have g1 := no c1
      rw [v1, v2] at g1
      refine ⟨trivial, k + 1, [0, 1], ⟨by omega, fun r hr => ?_⟩, by show 32 - (k + 1) < 32 - k; omega, leh2 (by decide) rfl rfl (leOint rfl) (leOint rfl), ⟨.ptr _ rfl, .ptr _ rfl, leI e1, trivial⟩⟩
      rcases Nat.lt_or_ge r k with h | h
      · exact hs r h
      · rw [show r = k by omega]; omega
  · have f1 : ¬ (k : Int) < 32 := no c
    exact ⟨[], [], _, lehN _, leTP (leq_iff.2 fun r hr => hs r (by omega)), rfl, rfl⟩

set_option maxHeartbeats 2000000 in
set_option maxRecDepth 10000 in
theorem with_ref (l : List (Int × Int)) (a b : Int) (hl : l.length ≤ 9223372036854775807) : ACalls Tryz.prog 72 [vecV l, dotV a b] [] (fun r h => r = vecV (ofF (updF (cntF l) (a, b))) ∧ h = []) := by
  have h1 := all_ref l hl
  have hm := may_ref a b
  generalize cntF l = g at *
  refine rcalls Tryz.func72 rfl (by decide) ?_
  refine ⟨[], _, h1, ?_⟩
  rintro r hh ⟨rfl, rfl⟩
  refine ⟨.inl rfl, ?_⟩
  refine ⟨rfl, ?_⟩
  refine ⟨(tab_len g).symm, by simp, ?_⟩
  have hblk : List.take 0 (List.replicate 32 (0 : Int)) ++ tab g ++ List.drop (0 + (tab g).length) (List.replicate 32 0) = tab g := tab_blk2 g _ (by simp)
  rw [hblk]
  refine .inl ⟨⟨by decide +kernel, by decide +kernel⟩, ?_⟩
  refine ⟨.bool (decide (mayD a b)), dfree rfl rfl, ACalls.args (hm.mono fun r h ⟨e1, e2⟩ => ⟨.inl e1, e2⟩) ⟨vdot rfl rfl, trivial⟩, ?_⟩
  refine ⟨fun c1 => ?_, fun c1 => ?_⟩
  · have hmay := yes c1
    have hr : 0 ≤ a ∧ a < 32 := by have := hmay.1; have := hmay.2.1; omega
    have hoff : addOff 0 a.toNat 1 = a.toNat := by simp [addOff]
    refine ⟨hr, ?_⟩
    refine ⟨off_lt g hmay, ?_⟩
    refine ⟨fun c2 => ?_, fun c2 => ?_⟩
    · have g2 := yes c2
      refine ⟨hr, ?_⟩
      refine ⟨off_lt g hmay, ?_⟩
      have e : (tab g).set (addOff 0 a.toNat 1) b = tab (updF g (a, b)) := by rw [← upd_set hmay, Int.max_eq_right (Int.le_of_lt g2)]
      rw [e]
      generalize updF g (a, b) = G at *
      refine ⟨by rw [tab_len]; decide, ?_⟩
      refine ⟨[], _, (of_ref G).args ⟨vcnt (tab_part G), trivial⟩, ?_⟩
      rintro r hh ⟨rfl, rfl⟩
      refine ⟨.inl rfl, ?_⟩
      exact ⟨[], [], _, lehN _, .same _ trivial, rfl, rfl⟩
    · have g2 := no c2
      rw [hoff, tab_get g (by omega)] at g2
      have e := upd_low (g := g) (a := a) (b := b) (by omega)
      rw [e]
      refine ⟨by rw [tab_len]; decide, ?_⟩
      refine ⟨[], _, (of_ref g).args ⟨vcnt (tab_part g), trivial⟩, ?_⟩
      rintro r hh ⟨rfl, rfl⟩
      refine ⟨.inl rfl, ?_⟩
      exact ⟨[], [], _, lehN _, .same _ trivial, rfl, rfl⟩
  · have hmay := no c1
    rw [upd_not hmay]
    refine ⟨by rw [tab_len]; decide, ?_⟩
    refine ⟨[], _, (of_ref g).args ⟨vcnt (tab_part g), trivial⟩, ?_⟩
    rintro r hh ⟨rfl, rfl⟩
    refine ⟨.inl rfl, ?_⟩
    exact ⟨[], [], _, lehN _, .same _ trivial, rfl, rfl⟩

end
end Go.Proofs.YthckagkciefliaaGreatDoor.Vc

/-
  Vectors' texts, in plain Lean. No program in sight.
-/
set_option linter.unusedVariables false
namespace Go.Proofs.YthckagkciefliaaGreatDoor.Vc
open Go AL Hx Dt Spl

def dots (l : List (Int × Int)) : List (List UInt8) := l.map fun p => (textD p.1 p.2).data.toList
def dash : ByteArray := ⟨#[45]⟩
def textV (l : List (Int × Int)) : ByteArray := if l = [] then dash else ⟨(joinC 44 (dots l)).toArray⟩
def ba (p : List UInt8) : ByteArray := ⟨p.toArray⟩
theorem ba_data (s : ByteArray) : ba s.data.toList = s := by unfold ba; cases s; simp
theorem ba_list (p : List UInt8) : (ba p).data.toList = p := by simp [ba]
def okV (s : ByteArray) : Prop := ∀ p ∈ pieces 44 s.data.toList, okP (ba p)
noncomputable def dotsOf (s : ByteArray) : List (Int × Int) := (pieces 44 s.data.toList).map fun p => (parseR (ba p), parseQ (ba p))
def okVec (s : ByteArray) : Prop := s = dash ∨ okV s ∧ dotsOf s = ofF (cntF (dotsOf s))
open Classical in
noncomputable def parseVE (s : ByteArray) : Int := if okVec s then 0 else 2
open Classical in
noncomputable def parseVL (s : ByteArray) : List (Int × Int) := if okVec s then (if s = dash then [] else dotsOf s) else []

theorem num_no44 {n : Int} : ∀ c ∈ (numS n).data.toList, c ≠ 44 := by
  intro c hc
  by_cases h : 0 ≤ n
  · have := num_digits h c hc
    rintro rfl
    exact absurd this.1 (by decide)
  · rw [numS_list] at hc
    unfold Lib.itoa at hc
    rw [if_pos (by omega)] at hc
    rcases List.mem_cons.1 hc with rfl | hc
    · decide
    · have := dec_digit _ c hc
      rintro rfl
      exact absurd this.1 (by decide)
theorem text_no44 (r q : Int) : ∀ c ∈ (textD r q).data.toList, c ≠ 44 := by
  intro c hc
  rw [text_list] at hc
  rcases List.mem_append.1 hc with h | h
  · exact num_no44 c h
  · rcases List.mem_cons.1 h with rfl | h
    · decide
    · exact num_no44 c h
theorem dots_free (l : List (Int × Int)) : ∀ p ∈ dots l, ∀ x ∈ p, x ≠ 44 := by
  intro p hp x hx
  obtain ⟨d, _, rfl⟩ := List.mem_map.1 hp
  exact text_no44 _ _ x hx
theorem dots_inj {l m : List (Int × Int)} (hl : ∀ p ∈ l, mayD p.1 p.2) (hm : ∀ p ∈ m, mayD p.1 p.2) (h : dots l = dots m) : l = m := by
  induction l generalizing m with
  | nil => cases m with
    | nil => rfl
    | cons q m => simp [dots] at h
  | cons p l ih => cases m with
    | nil => simp [dots] at h
    | cons q m =>
      simp only [dots, List.map_cons, List.cons.injEq] at h
      obtain ⟨h1, h2⟩ := h
      have hp := hl p (by simp)
      have hq := hm q (by simp)
      unfold mayD at hp hq
      have e := text_inj (r := p.1) (q := p.2) (r' := q.1) (q' := q.2) (by omega) (by omega) (by omega) (by omega) (ba_ext' h1)
      have e1 : p = q := Prod.ext e.1 e.2
      rw [e1, ih (fun x hx => hl x (by simp [hx])) (fun x hx => hm x (by simp [hx])) h2]

theorem cnt_ge {l : List (Int × Int)} {p : Int × Int} (hp : p ∈ l) (hm : mayD p.1 p.2) : p.2 ≤ cntF l p.1.toNat := by
  have mono : ∀ (l : List (Int × Int)) (g : Nat → Int) (r : Nat), g r ≤ l.foldl updF g r := by
    intro l
    induction l with
    | nil => intro g r; exact Int.le_refl _
    | cons q l ih =>
      intro g r
      refine Int.le_trans ?_ (ih (updF g q) r)
      unfold updF
      split <;> omega
  have go : ∀ (l : List (Int × Int)) (g : Nat → Int), p ∈ l → p.2 ≤ l.foldl updF g p.1.toNat := by
    intro l
    induction l with
    | nil => intro g h; cases h
    | cons q l ih =>
      intro g h
      rcases List.mem_cons.1 h with rfl | h
      · refine Int.le_trans ?_ (mono l (updF g p) p.1.toNat)
        unfold updF
        rw [if_pos ⟨hm, rfl⟩]
        omega
      · exact ih _ h
  exact go l _ hp
theorem of_ne {l : List (Int × Int)} (hne : l ≠ []) (hm : ∀ p ∈ l, mayD p.1 p.2) : ofF (cntF l) ≠ [] := by
  cases l with
  | nil => exact absurd rfl hne
  | cons p l =>
    have h1 := hm p (by simp)
    have h2 := cnt_ge (l := p :: l) (by simp) h1
    unfold mayD at h1
    intro e
    have : (((p.1.toNat : Nat) : Int), cntF (p :: l) p.1.toNat) ∈ ofF (cntF (p :: l)) := by
      unfold ofF ofK
      rw [List.mem_filterMap]
      exact ⟨p.1.toNat, List.mem_range.2 (by omega), by rw [if_pos (by omega)]⟩
    rw [e] at this
    cases this

theorem dotsOf_ne (s : ByteArray) : dotsOf s ≠ [] := fun h => by
  unfold dotsOf at h
  exact pieces_ne _ _ (List.map_eq_nil_iff.1 h)
theorem dotsOf_may {s : ByteArray} (h : okV s) : ∀ p ∈ dotsOf s, mayD p.1 p.2 := by
  intro p hp
  obtain ⟨x, hx, rfl⟩ := List.mem_map.1 hp
  exact (parse_back (h x hx)).1
theorem dotsOf_dots {s : ByteArray} (h : okV s) : dots (dotsOf s) = pieces 44 s.data.toList := by
  unfold dots dotsOf
  rw [List.map_map]
  conv => rhs; rw [← List.map_id (pieces 44 s.data.toList)]
  apply List.map_congr_left
  intro p hp
  show (textD (parseR (ba p)) (parseQ (ba p))).data.toList = p
  rw [(parse_back (h p hp)).2, ba_list]
theorem dash_not : ¬ okV dash := fun h => by
  have := h [45] (by simp [dash, pieces])
  have h1 := this.1
  exact absurd h1 (by decide)
theorem textV_ne {l : List (Int × Int)} (h : l ≠ []) : textV l = ba (joinC 44 (dots l)) := by unfold textV; rw [if_neg h]; rfl
theorem dots_ne {l : List (Int × Int)} (h : l ≠ []) : dots l ≠ [] := fun e => h (List.map_eq_nil_iff.1 e)
theorem text_pieces {l : List (Int × Int)} (h : l ≠ []) : pieces 44 (textV l).data.toList = dots l := by
  rw [textV_ne h, ba_list, pieces_join (dots_ne h) (dots_free l)]
/-- A text of dots, each in its place, is the text of the vector just if they are a vector. -/
theorem text_same {s : ByteArray} (h : okV s) : textV (ofF (cntF (dotsOf s))) = s ↔ dotsOf s = ofF (cntF (dotsOf s)) := by
  have hm := dotsOf_may h
  have hne := of_ne (dotsOf_ne s) hm
  constructor
  · intro e
    have e1 : pieces 44 s.data.toList = dots (ofF (cntF (dotsOf s))) := by
      conv => lhs; rw [← e]
      exact text_pieces hne
    rw [← dotsOf_dots h] at e1
    exact dots_inj hm (of_may (cnt_ok _) 32 (Nat.le_refl _)) e1
  · intro e
    rw [← e, textV_ne (dotsOf_ne s), dotsOf_dots h, join_pieces, ba_data]
/-- A vector's text is parsed as it. -/
theorem text_back {l : List (Int × Int)} (hne : l ≠ []) (hm : ∀ p ∈ l, mayD p.1 p.2) : okV (textV l) ∧ dotsOf (textV l) = l := by
  have one : ∀ p ∈ l, okP (textD p.1 p.2) ∧ parseR (textD p.1 p.2) = p.1 ∧ parseQ (textD p.1 p.2) = p.2 := fun p hp => by
    have h := hm p hp
    have h' := h
    unfold mayD at h'
    exact (parse_text (r := p.1) (q := p.2) (by omega) (by omega)).1 h
  refine ⟨?_, ?_⟩
  · intro p hp
    rw [text_pieces hne] at hp
    obtain ⟨d, hd, rfl⟩ := List.mem_map.1 hp
    show okP (ba (textD d.1 d.2).data.toList)
    rw [ba_data]
    exact (one d hd).1
  · unfold dotsOf
    rw [text_pieces hne]
    unfold dots
    rw [List.map_map]
    conv => rhs; rw [← List.map_id l]
    apply List.map_congr_left
    intro d hd
    show (parseR (ba (textD d.1 d.2).data.toList), parseQ (ba (textD d.1 d.2).data.toList)) = d
    rw [ba_data, (one d hd).2.1, (one d hd).2.2]
theorem parseV_ok {s : ByteArray} (h : okVec s) : parseVE s = 0 ∧ parseVL s = if s = dash then [] else dotsOf s := by
  unfold parseVE parseVL; rw [if_pos h, if_pos h]; exact ⟨rfl, rfl⟩
theorem parseV_bad {s : ByteArray} (h : ¬ okVec s) : parseVE s = 2 ∧ parseVL s = [] := by
  unfold parseVE parseVL; rw [if_neg h, if_neg h]; exact ⟨rfl, rfl⟩
theorem text_not_dash {l : List (Int × Int)} (hne : l ≠ []) (hm : ∀ p ∈ l, mayD p.1 p.2) : textV l ≠ dash := fun e => dash_not (by rw [← e]; exact (text_back hne hm).1)
/-- The text of a vector that was made of counts, parsed. -/
theorem parse_textV {g : Nat → Int} (hg : okF g) : parseVE (textV (ofF g)) = 0 ∧ parseVL (textV (ofF g)) = ofF g := by
  have hm := of_may hg 32 (Nat.le_refl _)
  by_cases h : ofF g = []
  · have e : textV (ofF g) = dash := by unfold textV; rw [if_pos h]
    have hok : okVec (textV (ofF g)) := .inl e
    obtain ⟨h1, h2⟩ := parseV_ok hok
    exact ⟨h1, by rw [h2, if_pos e, h]⟩
  · obtain ⟨b1, b2⟩ := text_back h hm
    have hok : okVec (textV (ofF g)) := .inr ⟨b1, by rw [b2, cnt_of hg]⟩
    obtain ⟨h1, h2⟩ := parseV_ok hok
    exact ⟨h1, by rw [h2, if_neg (text_not_dash h hm), b2]⟩
/-- What is parsed may be, and has the very text. -/
theorem parseV_back {s : ByteArray} (h : okVec s) : parseVL s = ofF (cntF (parseVL s)) ∧ textV (ofF (cntF (parseVL s))) = s := by
  obtain ⟨_, h2⟩ := parseV_ok h
  rw [h2]
  split
  · rename_i e
    refine ⟨rfl, ?_⟩
    rw [e]
    rfl
  · rename_i hne
    rcases h with h | ⟨h3, h4⟩
    · exact absurd h hne
    · exact ⟨h4, (text_same h3).2 h4⟩

end Go.Proofs.YthckagkciefliaaGreatDoor.Vc

/-
  The contracts of a vector's text: the program's and the document's.
-/
set_option linter.unusedVariables false
set_option linter.unusedSectionVars false
namespace Go.Proofs.YthckagkciefliaaGreatDoor.Vc
open Go AL Hx Dt Spl

def strAt (ps : List ByteArray) (i : Nat) : ByteArray := ps.getD i ByteArray.empty
section
variable [Globs]
abbrev strsV (ps : List ByteArray) : AV := .ro ps.length 1 fun i => str (strAt ps i)

/-- A contract of the kit's that makes new blocks at most, over a row that is read, and a text. -/
theorem strsJoin_prog (ps : List ByteArray) (sep : ByteArray) (hne : 0 < ps.length) (hN : ps.length ≤ 140737488355328) (hlen : (Lib.join (ps.map (·.data.toList)) sep.data.toList).length ≤ 140737488355328) :
    ACalls Tryz.prog 49 [strsV ps, str sep] [] (fun r h => r = str ⟨(Lib.join (ps.map (·.data.toList)) sep.data.toList).toArray⟩ ∧ h = []) := by
  refine ⟨⟨_, Tryz.func49, by decide, rfl⟩, fun S0 L w vs hh hS hn hv => ?_⟩
  obtain ⟨v0, e0, A, cap, rfl, hcap, hd⟩ := hv 0 _ rfl
  obtain ⟨v1, e1, h1⟩ := hv 1 _ rfl
  obtain rfl : v1 = .string sep := h1
  have cells : ∀ i, i < ps.length → ∃ b o, A = some ⟨b, o, none⟩ ∧ S0 b ∧ w.cell? ⟨b, o + i, none⟩ = some (.string (strAt ps i)) := fun i hi => by
    obtain ⟨u, ⟨b, o, g1, g2, g3⟩, g4⟩ := hd i (by omega)
    obtain rfl : u = .string (strAt ps i) := g4
    exact ⟨b, o, g1, g2, g3⟩
  obtain ⟨b, o, rfl, hb, _⟩ := cells 0 hne
  have hvs : vs = #[.slice (some ⟨b, o, none⟩) ps.length cap, .string sep] := by
    apply Array.ext_getElem?
    intro i
    match i with
    | 0 => exact e0
    | 1 => exact e1
    | i + 2 =>
      have : vs.size = 2 := hn
      rw [Array.getElem?_eq_none (by omega), Array.getElem?_eq_none (by simp)]
  rw [hvs]
  refine (Tryz.strings_Join b o cap ps sep w (fun j x hj => ?_) (hS b hb).1 hN hcap hlen).mono fun e w' he => ?_
  · have hjl := (List.getElem?_eq_some_iff.1 hj).1
    obtain ⟨b2, o2, q1, _, q3⟩ := cells j hjl
    cases q1
    rw [q3]
    unfold strAt
    rw [List.getD_eq_getElem?_getD, hj]
    rfl
  · obtain ⟨rfl, hb'⟩ := he
    exact ⟨_, _, [], L, rfl, ⟨rfl, rfl⟩, ⟨⟨hb'.os, hb'.tape, hb'.output, hb'.size, fun k hk _ => hb'.block k hk, hh.fr.glob⟩, hh.n, Nat.le_refl _, fun i hi => absurd hi (Nat.not_lt_zero _),
      fun i j b hi => by obtain ⟨o, ho, _⟩ := hi; simp at ho, fun i b hi => by obtain ⟨o, ho, _⟩ := hi; simp at ho, fun i o ho => by simp at ho⟩, rfl⟩

end

def txts (l : List (Int × Int)) : List ByteArray := l.map fun p => textD p.1 p.2
theorem txts_dots (l : List (Int × Int)) : (txts l).map (·.data.toList) = dots l := by
  unfold txts dots; rw [List.map_map]; rfl
theorem txts_at {l : List (Int × Int)} {k : Nat} (h : k < l.length) : strAt (txts l) k = textD (cellD l ((k : Int).toNat * 2 + 0)) (cellD l ((k : Int).toNat * 2 + 1)) := by
  rw [show ((k : Int)).toNat = k by omega, cell_fst, cell_snd]
  unfold strAt txts
  rw [List.getD_eq_getElem?_getD, List.getElem?_map, List.getElem?_eq_getElem h, List.getD_eq_getElem?_getD, List.getElem?_eq_getElem h]
  rfl
theorem may_at {l : List (Int × Int)} (hm : ∀ p ∈ l, mayD p.1 p.2) {k : Nat} (h : k < l.length) : mayD (cellD l ((k : Int).toNat * 2 + 0)) (cellD l ((k : Int).toNat * 2 + 1)) := by
  rw [show ((k : Int)).toNat = k by omega, cell_fst, cell_snd, List.getD_eq_getElem?_getD, List.getElem?_eq_getElem h]
  exact hm _ (List.getElem_mem _)
theorem may_r64 {a b : Int} (h : mayD a b) : (-9223372036854775808 ≤ a ∧ a < 9223372036854775808) ∧ -9223372036854775808 ≤ b ∧ b < 9223372036854775808 := by
  unfold mayD at h; omega
/-- The text so far. -/
def accT (l : List (Int × Int)) (k : Nat) : ByteArray := ba (joinC 44 ((dots l).take k))
theorem dots_len (l : List (Int × Int)) : (dots l).length = l.length := by simp [dots]
theorem acc_zero (l : List (Int × Int)) : accT l 0 = ByteArray.empty := rfl
theorem dots_get {l : List (Int × Int)} {k : Nat} (h : k < l.length) : (dots l).take (k + 1) = (dots l).take k ++ [(textD (cellD l ((k : Int).toNat * 2 + 0)) (cellD l ((k : Int).toNat * 2 + 1))).data.toList] := by
  rw [List.take_succ_eq_append_getElem (by rw [dots_len]; exact h)]
  congr 2
  rw [show ((k : Int)).toNat = k by omega, cell_fst, cell_snd]
  simp [dots, List.getD_eq_getElem?_getD, h]
theorem ba_app (a b : List UInt8) : ba a ++ ba b = ba (a ++ b) := by
  refine ba_ext' ?_
  simp [ba, ByteArray.data_append]
theorem acc_one {l : List (Int × Int)} (h : 0 < l.length) : accT l (0 + 1) = textD (cellD l (((0 : Nat) : Int).toNat * 2 + 0)) (cellD l (((0 : Nat) : Int).toNat * 2 + 1)) := by
  unfold accT
  rw [dots_get h]
  simp [joinC, ba_data]
theorem acc_succ {l : List (Int × Int)} {k : Nat} (hk : 0 < k) (h : k < l.length) : accT l (k + 1) = accT l k ++ ⟨#[44]⟩ ++ textD (cellD l ((k : Int).toNat * 2 + 0)) (cellD l ((k : Int).toNat * 2 + 1)) := by
  unfold accT
  rw [dots_get h, join_snoc _ _ (by
    intro e
    have := congrArg List.length e
    rw [List.length_take, dots_len, List.length_nil] at this
    omega)]
  generalize textD _ _ = T
  rw [← ba_data T, ba_list]
  show _ = ba _ ++ ba [44] ++ _
  rw [ba_app, ba_app]
  simp
theorem acc_all (l : List (Int × Int)) (h : l ≠ []) : accT l l.length = textV l := by
  unfold accT
  rw [textV_ne h, List.take_of_length_le (by rw [dots_len]; exact Nat.le_refl _)]
theorem acc_size {l : List (Int × Int)} (hm : ∀ p ∈ l, mayD p.1 p.2) : ∀ k, k ≤ l.length → (accT l k).size ≤ 44 * k
  | 0, _ => by rw [acc_zero]; exact Nat.le_refl _
  | k + 1, hk => by
    have ih := acc_size hm k (by omega)
    obtain ⟨r1, r2⟩ := may_r64 (may_at hm (k := k) (by omega))
    have ht := text_size_le r1 r2
    rcases Nat.eq_zero_or_pos k with h0 | h0
    · subst h0
      rw [acc_one (by omega)]
      omega
    · rw [acc_succ h0 (by omega), ByteArray.size_append, ByteArray.size_append]
      show (accT l k).size + 1 + _ ≤ _
      omega

section
variable [Globs]
set_option maxHeartbeats 2000000 in
set_option maxRecDepth 10000 in
theorem text_vec (hG : NumG) (l : List (Int × Int)) (hl : l.length ≤ 9223372036854775807) : ACalls Tryz.prog 35 [vecV l] [] (fun r h => r = str (textV (ofF (cntF l))) ∧ h = []) := by
  have h1 := counted_prog l hl
  have h2 := vector_prog (cntF l)
  have hk : (ofF (cntF l)).length ≤ 32 := ofK_len (cntF l) 32
  have hm : ∀ p ∈ ofF (cntF l), mayD p.1 p.2 := of_may (cnt_ok l) 32 (Nat.le_refl _)
  generalize ofF (cntF l) = V at *
  generalize cntF l = g at *
  refine rcalls Tryz.func35 rfl (by decide) ?_
  refine ⟨[], _, h1, ?_⟩
  rintro r hh ⟨rfl, rfl⟩
  refine ⟨.inl rfl, ?_⟩
  refine ⟨[], _, h2, ?_⟩
  rintro r hh ⟨rfl, rfl⟩
  refine ⟨.inl rfl, ?_⟩
  refine ⟨Nat, fun k => [(3, .own 0 0 k 1), (8, vecV V), (9, int .i64 V.length), (10, int .i64 k)], fun k => [.row (k * 1) fun i => str (strAt (txts V) i)], fun k => k ≤ V.length, fun k => V.length - k,
    ⟨0, [0], Nat.zero_le _, lehR (Nat.le_refl _) _, ⟨.nil _ _ (by decide), .same _ trivial, leI rfl, leI rfl, trivial⟩⟩, ?_⟩
  intro k hk'
  have hk' : k ≤ V.length := hk'
  refine ⟨fun c => ?_, fun c => ?_⟩
  · have f1 : (k : Int) < V.length := yes c
    have e1 : IntKind.i64.wrap ((k : Int) + 1) = ((k + 1 : Nat) : Int) := by rw [w64 (by omega) (by omega)]; omega
    obtain ⟨r1, r2⟩ := may_r64 (may_at hm (k := k) (by omega))
    have ht := text_prog hG _ _ r1 r2
    have hat := txts_at (l := V) (k := k) (by omega)
    rw [← hat] at ht
    refine ⟨⟨by omega, f1⟩, ?_⟩
    refine ⟨[], _, dfree rfl rfl, ht.args ⟨vdot rfl rfl, trivial⟩, ?_⟩
    rintro r hh ⟨rfl, rfl⟩
    refine ⟨.inl rfl, ?_⟩
    refine ⟨rfl, fun i _ => rfl, Nat.le_refl 1, by show (k + 1) * 16 ≤ _; omega, fun i hi => ?_, fun i => str (strAt (txts V) i), fun i hi => rfl, fun i hi => ?_, ?_⟩
    · obtain rfl : i = 0 := by omega
      rfl
    · obtain rfl : i = 0 := by omega
      show str (strAt (txts V) (k * 1 + 0)) = str (strAt (txts V) k)
      rw [show k * 1 + 0 = k by omega]
    · exact ⟨trivial, k + 1, [3], by show k + 1 ≤ V.length; omega, by show V.length - (k + 1) < V.length - k; omega, leh1 rfl (.row _ _ _ _ (Nat.le_refl _) fun i hi => .raw _), ⟨leOwn rfl rfl rfl, .same _ trivial, leI rfl, leI e1, trivial⟩⟩
  · have f1 : ¬ (k : Int) < V.length := no c
    obtain rfl : k = V.length := by omega
    refine ⟨fun c1 => ?_, fun c1 => ?_⟩
    · have g1 : (V.length : Int) = 0 := yes c1
      have : V = [] := List.eq_nil_of_length_eq_zero (by omega)
      exact ⟨[], [], _, lehN _, leS (by rw [this]; rfl), rfl, rfl⟩
    · have g1 : ¬ (V.length : Int) = 0 := no c1
      have hlt : (txts V).length = V.length := by simp [txts]
      have hne : V ≠ [] := fun e => g1 (by rw [e]; rfl)
      have hjoin : Lib.join ((txts V).map (·.data.toList)) [44] = joinC 44 (dots V) := by rw [txts_dots, lib_join]
      have hsz := acc_size hm V.length (Nat.le_refl _)
      rw [acc_all V hne, textV_ne hne] at hsz
      have hsz2 : (joinC 44 (dots V)).length ≤ 44 * V.length := by
        have e : (ba (joinC 44 (dots V))).size = (joinC 44 (dots V)).length := by show (joinC 44 (dots V)).toArray.size = _; simp
        omega
      have hj := strsJoin_prog (txts V) ⟨#[44]⟩ (by omega) (by omega) (by show (Lib.join ((txts V).map (·.data.toList)) [44]).length ≤ _; rw [hjoin]; omega)
      refine ⟨[], _, by omega, fun i hi => trivial, hj.args ⟨vro' hlt.symm fun i hi => by rw [Nat.zero_add], .refl _, trivial⟩, ?_⟩
      rintro r hh ⟨rfl, rfl⟩
      refine ⟨.inr ⟨trivial, fun o ho => by cases ho⟩, ?_⟩
      refine ⟨[], [], _, lehN _, leS ?_, rfl, rfl⟩
      rw [textV_ne hne]
      show ba (Lib.join ((txts V).map (·.data.toList)) [44]) = _
      rw [hjoin]

set_option maxHeartbeats 2000000 in
set_option maxRecDepth 10000 in
theorem textv_ref (l : List (Int × Int)) (hl : l.length ≤ 9223372036854775807) : ACalls Tryz.prog 52 [vecV l] [] (fun r h => r = str (textV (ofF (cntF l))) ∧ h = []) := by
  have h1 := all_ref l hl
  have h2 := of_ref (cntF l)
  have hk : (ofF (cntF l)).length ≤ 32 := ofK_len (cntF l) 32
  have hm : ∀ p ∈ ofF (cntF l), mayD p.1 p.2 := of_may (cnt_ok l) 32 (Nat.le_refl _)
  generalize ofF (cntF l) = V at *
  generalize cntF l = g at *
  refine rcalls Tryz.func52 rfl (by decide) ?_
  refine ⟨[], _, h1, ?_⟩
  rintro r hh ⟨rfl, rfl⟩
  refine ⟨.inl rfl, ?_⟩
  refine ⟨[], _, h2, ?_⟩
  rintro r hh ⟨rfl, rfl⟩
  refine ⟨.inl rfl, ?_⟩
  refine ⟨fun c1 => ?_, fun c1 => ?_⟩
  · have g1 : (V.length : Int) = 0 := yes c1
    have : V = [] := List.eq_nil_of_length_eq_zero (by omega)
    exact ⟨[], [], _, lehN _, leS (by rw [this]; rfl), rfl, rfl⟩
  have g1 : ¬ (V.length : Int) = 0 := no c1
  have hne : V ≠ [] := fun e => g1 (by rw [e]; rfl)
  refine ⟨Nat, fun k => [(3, vecV V), (4, str (accT V k)), (5, int .i64 k)], fun _ => [], fun k => k ≤ V.length, fun k => V.length - k,
    ⟨0, [], Nat.zero_le _, lehN _, ⟨.same _ trivial, leS (acc_zero V).symm, leI rfl, trivial⟩⟩, ?_⟩
  intro k hk'
  have hk' : k ≤ V.length := hk'
  refine ⟨fun c => ?_, fun c => ?_⟩
  · have f1 : (k : Int) < V.length := yes c
    have e1 : IntKind.i64.wrap ((k : Int) + 1) = ((k + 1 : Nat) : Int) := by rw [w64 (by omega) (by omega)]; omega
    obtain ⟨r1, r2⟩ := may_r64 (may_at hm (k := k) (by omega))
    have ht := text_ref _ _ r1 r2
    have hts := text_size_le r1 r2
    have hsz := acc_size hm k hk'
    refine ⟨fun c2 => ?_, fun c2 => ?_⟩
    · have f2 : 0 < (k : Int) := yes c2
      have hs := acc_succ (l := V) (k := k) (by omega) (by omega)
      refine ⟨by show (accT V k).size + 1 < _; omega, ?_⟩
      refine ⟨⟨by omega, f1⟩, ?_⟩
      refine ⟨[], _, dfree rfl rfl, ht.args ⟨vdot rfl rfl, trivial⟩, ?_⟩
      rintro r hh ⟨rfl, rfl⟩
      refine ⟨.inl rfl, ?_⟩
      refine ⟨by rw [ByteArray.size_append]; show (accT V k).size + 1 + _ < _; omega, ?_⟩
      exact ⟨trivial, k + 1, [], by show k + 1 ≤ V.length; omega, by show V.length - (k + 1) < V.length - k; omega, lehN _, ⟨.same _ trivial, leS hs.symm, leI e1, trivial⟩⟩
    · have f2 : ¬ 0 < (k : Int) := no c2
      obtain rfl : k = 0 := by omega
      have hs := acc_one (l := V) (by omega)
      have hz : accT V 0 ++ textD (cellD V (((0 : Nat) : Int).toNat * 2 + 0)) (cellD V (((0 : Nat) : Int).toNat * 2 + 1)) = accT V (0 + 1) := by
        rw [hs, acc_zero, ByteArray.empty_append]
      refine ⟨⟨by omega, f1⟩, ?_⟩
      refine ⟨[], _, dfree rfl rfl, ht.args ⟨vdot rfl rfl, trivial⟩, ?_⟩
      rintro r hh ⟨rfl, rfl⟩
      refine ⟨.inl rfl, ?_⟩
      refine ⟨by omega, ?_⟩
      exact ⟨trivial, 0 + 1, [], by show 0 + 1 ≤ V.length; omega, by show V.length - (0 + 1) < V.length - 0; omega, lehN _, ⟨.same _ trivial, leS hz, leI e1, trivial⟩⟩
  · have f1 : ¬ (k : Int) < V.length := no c
    obtain rfl : k = V.length := by omega
    exact ⟨[], [], _, lehN _, leS (acc_all V hne), rfl, rfl⟩

end
end Go.Proofs.YthckagkciefliaaGreatDoor.Vc

/-
  The contract of the document's own Read.
-/
set_option linter.unusedVariables false
set_option linter.unusedSectionVars false
namespace Go.Proofs.YthckagkciefliaaGreatDoor.Hx
open Go AL

theorem ints_get {s : ByteArray} {i : Nat} (hi : i < s.size) : ∃ c, c ∈ s.data.toList ∧ s.data.toList[i]? = some c ∧ (intsOf s).getD i 0 = (c.toNat : Int) := by
  have hl : s.data.toList.length = s.size := rfl
  refine ⟨s.data.toList[i]'(by omega), List.getElem_mem _, by rw [List.getElem?_eq_getElem], ?_⟩
  unfold intsOf
  rw [List.getD_eq_getElem?_getD, List.getElem?_map, List.getElem?_eq_getElem (by omega)]
  rfl
theorem num_get {s : ByteArray} {v : Int} (h : isNum s v) {i : Nat} (hi : i < s.size) : 48 ≤ (intsOf s).getD i 0 ∧ (intsOf s).getD i 0 ≤ 57 := by
  obtain ⟨c, h1, _, h3⟩ := ints_get hi
  rw [h3]
  rw [h.2.2] at h1
  have := num_digits h.1 c h1
  omega
theorem take_snoc {xs : List Int} {k : Nat} (h : k < xs.length) : xs.take (k + 1) = xs.take k ++ [xs.getD k 0] := by
  rw [List.take_succ_eq_append_getElem h, List.getD_eq_getElem?_getD, List.getElem?_eq_getElem h]
  rfl

section
variable [Globs]

set_option maxHeartbeats 1000000 in
set_option maxRecDepth 10000 in
theorem read_ref (s : ByteArray) (most : Int) (hs : s.size ≤ 281474976710656) : ACalls Tryz.prog 66 [str s, int .i64 most] [] (ReadR s most) := by
  have bad : (∀ v, ¬ isNum s v) → ∀ h, ∃ l h1 b, LeH 0 h l h1 ∧ LeV h l (.tup 2 fun i => [int .i64 0, int .i64 2].getD i .top) b ∧ ReadR s most b h1 := fun hn h => by
    obtain ⟨e1, e2⟩ := read_none (most := most) hn
    exact ⟨[], [], _, lehN _, le_pair (leI e2.symm) (leI e1.symm), rfl, rfl⟩
  have hil : (intsOf s).length = s.size := intsOf_length s
  have hsz : ∀ v, isNum s v → 1 ≤ s.size ∧ s.size ≤ 19 := fun v h => by rw [h.2.2]; exact num_size h.1 h.2.1
  refine rcalls Tryz.func66 rfl (by decide) ?_
  refine ⟨fun c1 => ?_, fun c1 => ⟨fun c2 => ?_, fun c2 => ?_⟩⟩
  · refine bad (fun v h => ?_) _
    have := hsz v h
    have := yes c1
    omega
  · refine bad (fun v h => ?_) _
    have := hsz v h
    have := yes c2
    omega
  refine ⟨Nat, fun k => [(0, str s), (1, int .i64 most), (6, int .i64 (foldN ((intsOf s).take k) 0)), (7, int .i64 k)], fun _ => [], fun k => k ≤ s.size ∧ ∀ i, i < k → 48 ≤ (intsOf s).getD i 0 ∧ (intsOf s).getD i 0 ≤ 57, fun k => s.size - k,
    ⟨0, [], ⟨Nat.zero_le _, fun i hi => absurd hi (Nat.not_lt_zero _)⟩, leh0, ⟨leS rfl, leI rfl, leI rfl, leI rfl, trivial⟩⟩, ?_⟩
  rintro k ⟨hk, hdig⟩
  refine ⟨fun h1 => ⟨⟨by omega, by have := yes h1; omega⟩, fun c3 => ?_, fun c3 => ⟨⟨by omega, by have := yes h1; omega⟩, fun c4 => ?_, fun c4 => ?_⟩⟩, fun h1 => ?_⟩
  · have f1 := yes h1
    refine bad (fun v h => ?_) _
    have := num_get h (i := k) (by omega)
    have f3 : (intsOf s).getD k 0 < 48 := yes c3
    omega
  · have f1 := yes h1
    refine bad (fun v h => ?_) _
    have := num_get h (i := k) (by omega)
    have f3 : 57 < (intsOf s).getD k 0 := yes c4
    omega
  · have f1 := yes h1
    have f3 : ¬ (intsOf s).getD k 0 < 48 := no c3
    have f4 : ¬ 57 < (intsOf s).getD k 0 := no c4
    have e1 : IntKind.i64.wrap ((k : Int) + 1) = ((k + 1 : Nat) : Int) := by rw [w64 (by omega) (by omega)]; omega
    refine ⟨⟨by omega, by omega⟩, ?_⟩
    refine ⟨trivial, k + 1, [], ⟨by omega, fun i hi => ?_⟩, by show s.size - (k + 1) < s.size - k; omega, leh0, ⟨leS rfl, leI rfl, leI ?_, leI e1, trivial⟩⟩
    · rcases Nat.lt_or_ge i k with h5 | h5
      · exact hdig i h5
      · rw [show i = k by omega]; omega
    · rw [take_snoc (by omega), foldN_snoc]
      show IntKind.i64.wrap (IntKind.i64.wrap (10 * _) + IntKind.i64.wrap (IntKind.u8.wrap ((intsOf s).getD k 0 - 48))) = _
      rw [w8 (by omega) (by omega), w64 (n := (intsOf s).getD k 0 - 48) (by omega) (by omega)]
      rfl
  · have f1 := no h1
    obtain rfl : k = s.size := by omega
    have ht : (intsOf s).take s.size = intsOf s := List.take_of_length_le (by omega)
    have hN : ∀ v, isNum s v → foldN (intsOf s) 0 = v := fun v h => by
      have := foldN_num h.1 h.2.1
      rwa [← h.2.2] at this
    have hr := foldN_range (intsOf s)
    have hc := number_ref _ (foldN (intsOf s) 0) (Nat.le_refl _) hr.1 hr.2
    rw [← ht] at hc
    obtain ⟨S, hS⟩ : ∃ S, numS (foldN ((intsOf s).take s.size) 0) = S := ⟨_, rfl⟩
    rw [hS] at hc
    rw [ht] at hS
    refine ⟨[], _, hc, ?_⟩
    rintro r h ⟨rfl, rfl⟩
    refine ⟨.inl rfl, ?_⟩
    refine ⟨fun d1 => ?_, fun d1 => ?_⟩
    · have d2 : ¬ S = s := of_decide_eq_true d1
      refine bad (fun v h => d2 ?_) _
      rw [← hS, hN v h, h.2.2]
    · have d2 : S = s := Classical.byContradiction fun hne => of_decide_eq_false d1 hne
      have hn : isNum s (foldN (intsOf s) 0) := by
        refine ⟨Classical.byContradiction fun hlt => ?_, hr.2, by rw [hS, d2]⟩
        obtain ⟨r, e⟩ := num_neg (v := foldN (intsOf s) 0) (by omega)
        rw [hS, d2] at e
        have hpos : 0 < s.size := by
          have : s.data.toList.length = s.size := rfl
          rw [e] at this
          simp at this
          omega
        have := hdig 0 hpos
        obtain ⟨c, _, g2, g3⟩ := ints_get hpos
        rw [e] at g2
        simp at g2
        subst g2
        rw [g3] at this
        have h45 : ((45 : UInt8).toNat : Int) = 45 := rfl
        omega
      have hn2 : isNum s (foldN ((intsOf s).take s.size) 0) := by rw [ht]; exact hn
      refine ⟨fun e1 => ?_, fun e1 => ?_⟩
      · obtain ⟨g1, g2⟩ := read_over hn2 (yes e1)
        exact ⟨[], [], _, lehN _, le_pair (leI g2.symm) (leI g1.symm), rfl, rfl⟩
      · obtain ⟨g1, g2⟩ := read_ok hn2 (no e1)
        exact ⟨[], [], _, lehN _, le_pair (leI g2.symm) (leI g1.symm), rfl, rfl⟩

end
end Go.Proofs.YthckagkciefliaaGreatDoor.Hx

/-
  The contracts of a text's dot: the program's and the document's.
-/
set_option linter.unusedVariables false
set_option linter.unusedSectionVars false
namespace Go.Proofs.YthckagkciefliaaGreatDoor.Dt
open Go AL Hx

theorem index_at : ∀ l : List UInt8, Lib.indexByte l 58 = if atL l < l.length then (atL l : Int) else -1
  | [] => rfl
  | c :: l => by
    have ih := index_at l
    have hle := at_le l
    unfold Lib.indexByte
    by_cases hc : (c == 58) = true
    · have : atL (c :: l) = 0 := by unfold atL; rw [List.idxOf_cons, hc]; rfl
      rw [if_pos hc, this, if_pos (by simp)]
      rfl
    · have h2 : atL (c :: l) = atL l + 1 := by unfold atL; rw [List.idxOf_cons, show (c == 58) = false by simpa using hc]; rfl
      rw [if_neg hc, ih, h2, List.length_cons]
      by_cases h : atL l < l.length
      · have h3 : ¬ ((atL l : Int) == -1) = true := by simp
        rw [if_pos h, if_pos (show atL l + 1 < l.length + 1 by omega), if_neg h3]
        rfl
      · rw [if_neg h, if_neg (show ¬ atL l + 1 < l.length + 1 by omega)]
        rfl

theorem at_of {s : ByteArray} {k : Nat} (hk : k < s.size) (hc : (intsOf s).getD k 0 = 58) (hn : ∀ i, i < k → (intsOf s).getD i 0 ≠ 58) : atS s = k := by
  have hl : s.data.toList.length = s.size := rfl
  have get : ∀ i (h : i < s.data.toList.length), (intsOf s).getD i 0 = (s.data.toList[i].toNat : Int) := fun i h => by
    unfold intsOf
    rw [List.getD_eq_getElem?_getD, List.getElem?_map, List.getElem?_eq_getElem h]
    rfl
  refine at_first (k := k) (by omega) ?_ fun i hi h => ?_
  · rw [get k (by omega)] at hc
    apply UInt8.toNat_inj.1
    show _ = 58
    omega
  · refine hn i hi ?_
    rw [get i (by omega), h]
    rfl
theorem at_none' {s : ByteArray} (hn : ∀ i, i < s.size → (intsOf s).getD i 0 ≠ 58) : atS s = s.size := by
  have hl : s.data.toList.length = s.size := rfl
  have get : ∀ i (h : i < s.data.toList.length), (intsOf s).getD i 0 = (s.data.toList[i].toNat : Int) := fun i h => by
    unfold intsOf
    rw [List.getD_eq_getElem?_getD, List.getElem?_map, List.getElem?_eq_getElem h]
    rfl
  have := at_none (l := s.data.toList) fun c hc e => by
    obtain ⟨i, hi, rfl⟩ := List.getElem_of_mem hc
    refine hn i (by omega) ?_
    rw [get i hi, e]
    rfl
  unfold atS
  rw [this, hl]

section
variable [Globs]

theorem index_prog (s : ByteArray) : ACalls Tryz.prog 133 [str s, str ⟨#[58]⟩] [] (fun r h => r = int .i64 (Lib.indexByte s.data.toList 58) ∧ h = []) :=
  acalls_same (args := [.string s, .string ⟨#[58]⟩]) ⟨_, Tryz.func133, by decide, rfl⟩ fun w => Tryz.stringslite_Index_one s 58 w

def CutR (s : ByteArray) (r : AV) (h : List AO) : Prop :=
  r = .tup 3 (if atS s < s.size then triple (str (leftS s)) (str (rightS s)) .tt else triple (str s) (str ByteArray.empty) .ff) ∧ h = []

set_option maxHeartbeats 1000000 in
set_option maxRecDepth 10000 in
theorem cut_lite (s : ByteArray) (hs : s.size ≤ 281474976710656) : ACalls Tryz.prog 134 [str s, str ⟨#[58]⟩] [] (CutR s) := by
  have hi := index_at s.data.toList
  have hl : s.data.toList.length = s.size := rfl
  rw [hl] at hi
  have hp := index_prog s
  unfold CutR leftS rightS atS
  have hle := at_le s.data.toList
  rw [hl] at hle
  generalize Lib.indexByte s.data.toList 58 = I at *
  generalize atL s.data.toList = K at *
  refine rcalls Tryz.func134 rfl (by decide) ?_
  refine ⟨[], _, hp, ?_⟩
  rintro r h ⟨rfl, rfl⟩
  refine ⟨.inl rfl, ?_⟩
  refine ⟨fun c1 => ?_, fun c1 => ?_⟩
  · have g1 := yes c1
    have hK : K < s.size := Classical.byContradiction fun h => by rw [if_neg h] at hi; omega
    rw [if_pos hK] at hi
    subst hi
    have e1 : (IntKind.i64.wrap ((K : Int) + 1)).toNat = K + 1 := by rw [w64 (by omega) (by omega)]; omega
    have e2 : 0 ≤ IntKind.i64.wrap ((K : Int) + 1) ∧ IntKind.i64.wrap ((K : Int) + 1) ≤ (s.size : Int) := by rw [w64 (by omega) (by omega)]; omega
    refine .inl ⟨⟨by decide +kernel, by decide +kernel⟩, ?_⟩
    refine ⟨⟨by omega, by omega⟩, ?_⟩
    refine ⟨e2, ?_⟩
    rw [if_pos hK]
    refine ⟨[], [], _, leh0, le_triple (leS rfl) (leS ?_) .tt, rfl, rfl⟩
    show s.extract (IntKind.i64.wrap ((K : Int) + 1)).toNat s.size = _
    rw [e1]
  · have g1 := no c1
    have hK : ¬ K < s.size := fun h => by rw [if_pos h] at hi; omega
    rw [if_neg hK]
    exact ⟨[], [], _, leh0, le_triple (.raw _) (.raw _) .ff, rfl, rfl⟩

set_option maxHeartbeats 1000000 in
set_option maxRecDepth 10000 in
theorem cut_prog (s : ByteArray) (hs : s.size ≤ 281474976710656) : ACalls Tryz.prog 119 [str s, str ⟨#[58]⟩] [] (CutR s) := by
  have hc := cut_lite s hs
  unfold CutR at *
  refine rcalls Tryz.func119 rfl (by decide) ?_
  refine ⟨[], _, hc, ?_⟩
  rintro r h ⟨rfl, rfl⟩
  refine ⟨.inl rfl, ?_⟩
  by_cases hK : atS s < s.size
  · rw [if_pos hK]
    exact ⟨[], [], _, leh0, le_triple (leS rfl) (leS rfl) .tt, rfl, rfl⟩
  · rw [if_neg hK]
    exact ⟨[], [], _, leh0, le_triple (leS rfl) (leS rfl) .ff, rfl, rfl⟩

def ParseR (s : ByteArray) (r : AV) (h : List AO) : Prop := r = .tup 2 (pair (dotV (parseR s) (parseQ s)) (int .i64 (parseE s))) ∧ h = []
theorem left_size (s : ByteArray) : (leftS s).size ≤ s.size := by
  unfold leftS; rw [ByteArray.size_extract]; omega
theorem right_size (s : ByteArray) : (rightS s).size ≤ s.size := by
  unfold rightS; rw [ByteArray.size_extract]; omega

set_option maxHeartbeats 2000000 in
set_option maxRecDepth 10000 in
theorem parse_prog (hG : NumG) (s : ByteArray) (hs : s.size ≤ 281474976710656) : ACalls Tryz.prog 91 [str s] [] (ParseR s) := by
  have bad : ∀ (h : List AO) (f : Nat → AV), f 0 = int .i64 0 → f 1 = int .i64 0 → ¬ okP s → ∃ l h1 c, LeH 0 h l h1 ∧ LeV h l (.tup 2 fun i => [.agg 2 f, int .i64 2].getD i .top) c ∧ ParseR s c h1 := fun h f h0 h1 hv => by
    obtain ⟨g0, g1, g2⟩ := parse_bad hv
    exact ⟨[], [], _, lehN _, le_pair (le_dot (by rw [h0]; exact leI g1.symm) (by rw [h1]; exact leI g2.symm)) (leI g0.symm), rfl, rfl⟩
  have hc := cut_prog s hs
  unfold CutR at hc
  have hls := left_size s
  have hrs := right_size s
  by_cases hK : atS s < s.size
  · rw [if_pos hK] at hc
    have r1 := read_prog hG (leftS s) 31 (by omega)
    have r2 := read_prog hG (rightS s) 1099511627776 (by omega)
    unfold ReadR at r1 r2
    have hP : okP s ↔ readE (leftS s) 31 = 0 ∧ readE (rightS s) 1099511627776 = 0 ∧ mayD (readV (leftS s) 31) (readV (rightS s) 1099511627776) := ⟨fun h => h.2, fun h => ⟨hK, h⟩⟩
    have hO := @parse_ok s
    generalize readV (leftS s) 31 = V1 at *
    generalize readE (leftS s) 31 = E1 at *
    generalize readV (rightS s) 1099511627776 = V2 at *
    generalize readE (rightS s) 1099511627776 = E2 at *
    generalize leftS s = A at *
    generalize rightS s = B at *
    refine rcalls Tryz.func91 rfl (by decide) ?_
    refine ⟨[], _, hc, ?_⟩
    rintro r h ⟨rfl, rfl⟩
    refine ⟨.inl rfl, ?_⟩
    refine ⟨[], _, r1, ?_⟩
    rintro r h ⟨rfl, rfl⟩
    refine ⟨.inl rfl, ?_⟩
    refine ⟨[], _, r2, ?_⟩
    rintro r h ⟨rfl, rfl⟩
    refine ⟨.inl rfl, ?_⟩
    refine ⟨fun c1 => ?_, fun c1 => ⟨fun c2 => ?_, fun c2 => ?_⟩⟩
    · have g := yes c1
      exact bad _ _ rfl rfl fun h => g (hP.1 h).1
    · have g := yes c2
      exact bad _ _ rfl rfl fun h => g (hP.1 h).2.1
    have g1 : E1 = 0 := Classical.not_not.1 (no c1)
    have g2 : E2 = 0 := Classical.not_not.1 (no c2)
    have hm := may_prog V1 V2
    refine ⟨[], _, dfree rfl rfl, hm.args ⟨vdot rfl rfl, trivial⟩, ?_⟩
    rintro r h ⟨rfl, rfl⟩
    refine ⟨.inl rfl, ?_⟩
    refine ⟨fun c3 => ?_, fun c3 => ?_⟩
    · have g : ¬ mayD V1 V2 := notT c3
      exact bad _ _ rfl rfl fun h => g (hP.1 h).2.2
    · have g : mayD V1 V2 := notF c3
      obtain ⟨o1, o2, o3⟩ := hO (hP.2 ⟨g1, g2, g⟩)
      exact ⟨[], [], _, lehN _, le_pair (le_dot (leI o2.symm) (leI o3.symm)) (leI o1.symm), rfl, rfl⟩
  · rw [if_neg hK] at hc
    have r1 := read_prog hG s 31 (by omega)
    have r2 := read_prog hG ByteArray.empty 1099511627776 (by decide)
    unfold ReadR at r1 r2
    have hP : ¬ okP s := fun h => hK h.1
    generalize readV s 31 = V1 at *
    generalize readE s 31 = E1 at *
    generalize readV ByteArray.empty 1099511627776 = V2 at *
    generalize readE ByteArray.empty 1099511627776 = E2 at *
    refine rcalls Tryz.func91 rfl (by decide) ?_
    refine ⟨[], _, hc, ?_⟩
    rintro r h ⟨rfl, rfl⟩
    refine ⟨.inl rfl, ?_⟩
    refine ⟨[], _, r1, ?_⟩
    rintro r h ⟨rfl, rfl⟩
    refine ⟨.inl rfl, ?_⟩
    refine ⟨[], _, r2, ?_⟩
    rintro r h ⟨rfl, rfl⟩
    refine ⟨.inl rfl, ?_⟩
    exact bad _ _ rfl rfl hP

set_option maxHeartbeats 2000000 in
set_option maxRecDepth 10000 in
theorem parse_ref (s : ByteArray) (hs : s.size ≤ 281474976710656) : ACalls Tryz.prog 64 [str s] [] (ParseR s) := by
  have bad : ∀ (h : List AO) (f : Nat → AV), f 0 = int .i64 0 → f 1 = int .i64 0 → ¬ okP s → ∃ l h1 c, LeH 0 h l h1 ∧ LeV h l (.tup 2 fun i => [.agg 2 f, int .i64 2].getD i .top) c ∧ ParseR s c h1 := fun h f h0 h1 hv => by
    obtain ⟨g0, g1, g2⟩ := parse_bad hv
    exact ⟨[], [], _, lehN _, le_pair (le_dot (by rw [h0]; exact leI g1.symm) (by rw [h1]; exact leI g2.symm)) (leI g0.symm), rfl, rfl⟩
  have hls := left_size s
  have hrs := right_size s
  have r1 := read_ref (leftS s) 31 (by omega)
  have r2 := read_ref (rightS s) 1099511627776 (by omega)
  unfold ReadR at r1 r2
  have hP : okP s ↔ atS s < s.size ∧ readE (leftS s) 31 = 0 ∧ readE (rightS s) 1099511627776 = 0 ∧ mayD (readV (leftS s) 31) (readV (rightS s) 1099511627776) := Iff.rfl
  have hO := @parse_ok s
  have hL : leftS s = s.extract 0 (atS s) := rfl
  have hR : rightS s = s.extract (atS s + 1) s.size := rfl
  have hAt := @at_of s
  have hAt0 := @at_none' s
  generalize readV (leftS s) 31 = V1 at *
  generalize readE (leftS s) 31 = E1 at *
  generalize readV (rightS s) 1099511627776 = V2 at *
  generalize readE (rightS s) 1099511627776 = E2 at *
  generalize leftS s = A at *
  generalize rightS s = B at *
  generalize atS s = K at *
  refine rcalls Tryz.func64 rfl (by decide) ?_
  refine ⟨Nat, fun k => [(0, str s), (2, .ptr 0 0), (3, int .i64 0), (4, int .i64 k)], fun _ => [.lst [int .i64 0, int .i64 0]], fun k => k ≤ s.size ∧ ∀ i, i < k → (intsOf s).getD i 0 ≠ 58, fun k => s.size - k,
    ⟨0, [0], ⟨by omega, by omega⟩, leh1 rfl (leLst2 (leI rfl) (leI rfl)), ⟨leS rfl, .ptr _ rfl, leI rfl, leI rfl, trivial⟩⟩, ?_⟩
  rintro k ⟨hk, hn⟩
  refine ⟨fun c1 => ⟨⟨by omega, by have := yes c1; omega⟩, fun c2 => ?_, fun c2 => ?_⟩, fun c1 => ?_⟩
  · have f1 := yes c1
    have f2 : ¬ (intsOf s).getD k 0 = 58 := yes c2
    have e1 : IntKind.i64.wrap ((k : Int) + 1) = ((k + 1 : Nat) : Int) := by rw [w64 (by omega) (by omega)]; omega
    refine ⟨trivial, k + 1, [0], ⟨by omega, fun i hi => ?_⟩, by show s.size - (k + 1) < s.size - k; omega, leh1 rfl (leLst2 (leI rfl) (leI rfl)), ⟨leS rfl, .ptr _ rfl, leI rfl, leI e1, trivial⟩⟩
    rcases Nat.lt_or_ge i k with h | h
    · exact hn i h
    · rw [show i = k by omega]; exact f2
  · have f1 := yes c1
    have f2 : ¬ ¬ (intsOf s).getD k 0 = 58 := no c2
    have hKk : K = k := hAt (by omega) (Classical.not_not.1 f2) hn
    subst hKk
    have e1 : (IntKind.i64.wrap ((K : Int) + 1)).toNat = K + 1 := by rw [w64 (by omega) (by omega)]; omega
    have e2 : 0 ≤ IntKind.i64.wrap ((K : Int) + 1) ∧ IntKind.i64.wrap ((K : Int) + 1) ≤ (s.size : Int) := by rw [w64 (by omega) (by omega)]; omega
    have hB : B = s.extract (IntKind.i64.wrap ((K : Int) + 1)).toNat s.size := by rw [e1]; exact hR
    rw [hL] at r1
    rw [hB] at r2
    refine ⟨fun c3 => absurd (yes c3) (by omega), fun _ => ?_⟩
    refine ⟨⟨by omega, by omega⟩, ?_⟩
    refine ⟨[], _, r1, ?_⟩
    rintro r h ⟨rfl, rfl⟩
    refine ⟨.inl rfl, ?_⟩
    refine ⟨e2, ?_⟩
    refine ⟨[], _, r2, ?_⟩
    rintro r h ⟨rfl, rfl⟩
    refine ⟨.inl rfl, ?_⟩
    refine ⟨fun c4 => ?_, fun c4 => ⟨fun c5 => ?_, fun c5 => ?_⟩⟩
    · have g := yes c4
      exact bad _ _ rfl rfl fun h => g (hP.1 h).2.1
    · have g := yes c5
      exact bad _ _ rfl rfl fun h => g (hP.1 h).2.2.1
    have g1 : E1 = 0 := Classical.not_not.1 (no c4)
    have g2 : E2 = 0 := Classical.not_not.1 (no c5)
    have hm := may_ref V1 V2
    refine ⟨[], _, dfree rfl rfl, hm.args ⟨vdot rfl rfl, trivial⟩, ?_⟩
    rintro r h ⟨rfl, rfl⟩
    refine ⟨.inl rfl, ?_⟩
    refine ⟨fun c3 => ?_, fun c3 => ?_⟩
    · have g : ¬ mayD V1 V2 := notT c3
      exact bad _ _ rfl rfl fun h => g (hP.1 h).2.2.2
    · have g : mayD V1 V2 := notF c3
      obtain ⟨o1, o2, o3⟩ := hO (hP.2 ⟨by omega, g1, g2, g⟩)
      exact ⟨[], [], _, lehN _, le_pair (le_dot (leI o2.symm) (leI o3.symm)) (leI o1.symm), rfl, rfl⟩
  · have f1 := no c1
    obtain rfl : k = s.size := by omega
    have hKk : K = s.size := hAt0 fun i hi => hn i hi
    refine ⟨fun _ => ?_, fun c3 => absurd rfl (no c3)⟩
    exact bad _ _ rfl rfl fun h => by have := (hP.1 h).1; omega

end
end Go.Proofs.YthckagkciefliaaGreatDoor.Dt
