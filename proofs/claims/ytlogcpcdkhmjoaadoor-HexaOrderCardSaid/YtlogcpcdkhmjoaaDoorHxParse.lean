/-
  The contracts of a digest out of a text: hexa.Parse and the document's own.
-/
import Derived.Test.YtlogcpcdkhmjoaaDoorHxTxt
set_option linter.unusedVariables false
set_option linter.unusedSectionVars false
namespace Go.Proofs.YtlogcpcdkhmjoaaDoor.Hx
open Go AL
section
variable [Globs]

theorem take3232 (Z : List Int) (h : Z.length = 32) : List.take 32 (List.take 32 Z) = Z := by
  rw [List.take_of_length_le (by rw [List.length_take]; omega), List.take_of_length_le (by omega)]
theorem leAggI {h : List AO} {l : List Nat} {k : IntKind} {x y : List Int} (e : x = y) : LeV h l (.aggI k x) (.aggI k y) := by subst e; exact .aggI _ _
/-- What Parse hands back. -/
def ParseR (s : ByteArray) (r : AV) (h : List AO) : Prop := r = .tup 2 (pair (.aggI .u8 (parseD (intsOf s))) (int .i64 (parseE (intsOf s)))) ∧ h = []

set_option maxHeartbeats 2000000 in
set_option maxRecDepth 10000 in
theorem parse_prog (s : ByteArray) (hs : s.size ≤ 281474976710656) : ACalls Tryd.prog 21 [str s] [] (ParseR s) := by
  have hil : (intsOf s).length = s.size := intsOf_length s
  have hb := fun i => byteAt (intsOf_range s) i
  have hok : parseOK (intsOf s) → parseE (intsOf s) = 0 ∧ parseD (intsOf s) = pd (intsOf s) := fun h => parse_ok h
  have hno : ¬ parseOK (intsOf s) → parseE (intsOf s) = 2 ∧ parseD (intsOf s) = List.replicate 32 0 := fun h => parse_no h
  unfold ParseR
  generalize parseE (intsOf s) = E at *
  generalize parseD (intsOf s) = D at *
  refine rcalls Tryd.func21 rfl (by decide) ?_
  refine ⟨rfl, ?_⟩
  refine ⟨Unit, fun _ => 0, fun _ => [(2, .ptr 0 0)], fun _ => [.ints .u8 (List.replicate 32 0)], fun _ => ¬ parseOK (intsOf s), fun _ => 0, ?_, ?_⟩
  · refine ⟨rfl, ?_⟩
    refine ⟨fun c1 => ?_, fun c1 => ?_⟩
    · have f1 : ¬ (s.size : Int) = 64 := of_decide_eq_true c1
      exact ⟨trivial, (), [0], rfl, fun h => f1 (by rw [← hil, h.1]; rfl), leh1 rfl (leOint rfl), ⟨.ptr _ rfl, trivial⟩⟩
    have f1 : (s.size : Int) = 64 := Classical.byContradiction fun h => of_decide_eq_false c1 h
    have h64 : s.size = 64 := by omega
    refine ⟨Nat, fun k => [(0, str s), (12, int .i64 s.size), (13, int .i64 k), (4, .ptr 1 0), (2, .ptr 0 0)], fun k => [.ints .u8 (List.replicate 32 0), .ints .u8 (dpart (intsOf s) k)],
      fun k => k ≤ 64 ∧ ∀ i, i < k → hexd ((intsOf s).getD i 0), fun k => 64 - k,
      ⟨0, [0, 1], ⟨by omega, fun i hi => absurd hi (Nat.not_lt_zero _)⟩, leh2 (by decide) rfl rfl (leOint rfl) (leOint (dpart_zero _).symm), ⟨leS rfl, leI rfl, leI rfl, .ptr _ rfl, .ptr _ rfl, trivial⟩⟩, ?_⟩
    rintro k ⟨hk, hdig⟩
    have hbk := hb k
    refine ⟨fun h1 => ?_, fun h1 => ?_⟩
    · have f2 : (k : Int) < s.size := yes h1
      have hin : ((k : Int)).toNat = k := by omega
      have e1 : IntKind.i64.wrap ((k : Int) + 1) = ((k + 1 : Nat) : Int) := by rw [w64 (by omega) (by omega)]; omega
      have e2 : IntKind.i64.wrap ((k : Int).tdiv 2) = ((k / 2 : Nat) : Int) := by
        rw [Int.tdiv_eq_ediv_of_nonneg (by omega), w64 (by omega) (by omega)]; omega
      have hoff : addOff 0 (IntKind.i64.wrap ((k : Int).tdiv 2)).toNat 1 = k / 2 := by rw [e2, Int.toNat_natCast]; simp [addOff]
      have hdl := dpart_length (intsOf s) k
      have hg := dpart_get (intsOf s) k (k / 2) (by omega)
      -- the figure, and what the digest is behind it
      have step : ∀ v, hexd ((intsOf s).getD k 0) → v = nv ((intsOf s).getD k 0) →
          (dpart (intsOf s) k).set (k / 2) (Go.bits .or .u8 (IntKind.u8.wrap ((dpart (intsOf s) k).getD (k / 2) 0 * 2 ^ (min 4 8))) v) = dpart (intsOf s) (k + 1) := fun v hh hv => by
        have hn := nv_range hh
        have ha : 0 ≤ (dpart (intsOf s) k).getD (k / 2) 0 ∧ (dpart (intsOf s) k).getD (k / 2) 0 < 16 := by
          rw [hg, if_neg (by omega)]
          split
          · exact nv_range (hdig _ (by omega))
          · omega
        rw [hv, or_nib' ha.1 ha.2 hn.1 hn.2]
        exact dpart_succ (by omega)
      have next : hexd ((intsOf s).getD k 0) → ∀ i, i < k + 1 → hexd ((intsOf s).getD i 0) := fun hh i hi => by
        rcases Nat.lt_or_ge i k with h5 | h5
        · exact hdig i h5
        · rw [show i = k by omega]; exact hh
      have hgo : ¬ hexd ((intsOf s).getD k 0) → ¬ parseOK (intsOf s) := fun hn h => hn (h.2 k (by omega))
      refine ⟨⟨by omega, f2⟩, ?_⟩
      refine ⟨fun c2 => ⟨fun c3 => ?_, fun c3 => ⟨fun c4 => ⟨fun c5 => ?_, fun c5 => ?_⟩, fun c4 => ?_⟩⟩, fun c2 => ⟨fun c4 => ⟨fun c5 => ?_, fun c5 => ?_⟩, fun c4 => ?_⟩⟩
      · have g2 : 48 ≤ (intsOf s).getD k 0 := yes c2
        have g3 : (intsOf s).getD k 0 ≤ 57 := yes c3
        have hh : hexd ((intsOf s).getD k 0) := .inl ⟨g2, g3⟩
        refine ⟨by decide, by decide, ⟨by rw [e2]; omega, by rw [e2]; show _ < (32 : Int); omega⟩, by rw [hoff]; omega, by decide, ⟨by rw [e2]; omega, by rw [e2]; show _ < (32 : Int); omega⟩, by rw [hoff]; omega, ?_⟩
        refine ⟨trivial, k + 1, [0, 1], ⟨by omega, next hh⟩, by show 64 - (k + 1) < 64 - k; omega, leh2 (by decide) rfl rfl (leOint rfl) (leOint ?_), ⟨leS rfl, leI rfl, leI e1, .ptr _ rfl, .ptr _ rfl, trivial⟩⟩
        rw [hoff]
        exact step _ hh (by rw [hin, w8 (by omega) (by omega)]; unfold nv; rw [if_pos g3])
      · have g2 : 97 ≤ (intsOf s).getD k 0 := yes c4
        have g3 : (intsOf s).getD k 0 ≤ 102 := yes c5
        have hh : hexd ((intsOf s).getD k 0) := .inr ⟨g2, g3⟩
        refine ⟨by decide, by decide, ⟨by rw [e2]; omega, by rw [e2]; show _ < (32 : Int); omega⟩, by rw [hoff]; omega, by decide, ⟨by rw [e2]; omega, by rw [e2]; show _ < (32 : Int); omega⟩, by rw [hoff]; omega, ?_⟩
        refine ⟨trivial, k + 1, [0, 1], ⟨by omega, next hh⟩, by show 64 - (k + 1) < 64 - k; omega, leh2 (by decide) rfl rfl (leOint rfl) (leOint ?_), ⟨leS rfl, leI rfl, leI e1, .ptr _ rfl, .ptr _ rfl, trivial⟩⟩
        rw [hoff]
        exact step _ hh (by rw [hin, w8 (n := (intsOf s).getD k 0 - 97) (by omega) (by omega), w8 (by omega) (by omega)]; unfold nv; rw [if_neg (by omega)]; omega)
      · have g2 : ¬ (intsOf s).getD k 0 ≤ 57 := no c3
        have g3 : ¬ (intsOf s).getD k 0 ≤ 102 := no c5
        exact ⟨trivial, (), [0], rfl, hgo (fun hh => by unfold hexd at hh; omega), leh1 rfl (leOint rfl), ⟨.ptr _ rfl, trivial⟩⟩
      · have g2 : ¬ (intsOf s).getD k 0 ≤ 57 := no c3
        have g3 : ¬ 97 ≤ (intsOf s).getD k 0 := no c4
        exact ⟨trivial, (), [0], rfl, hgo (fun hh => by unfold hexd at hh; omega), leh1 rfl (leOint rfl), ⟨.ptr _ rfl, trivial⟩⟩
      · have g2 : ¬ 48 ≤ (intsOf s).getD k 0 := no c2
        have g3 : 97 ≤ (intsOf s).getD k 0 := yes c4
        omega
      · have g2 : ¬ 48 ≤ (intsOf s).getD k 0 := no c2
        have g3 : 97 ≤ (intsOf s).getD k 0 := yes c4
        omega
      · have g2 : ¬ 48 ≤ (intsOf s).getD k 0 := no c2
        exact ⟨trivial, (), [0], rfl, hgo (fun hh => by unfold hexd at hh; omega), leh1 rfl (leOint rfl), ⟨.ptr _ rfl, trivial⟩⟩
    · have f2 : ¬ (k : Int) < s.size := no h1
      obtain rfl : k = 64 := by omega
      obtain ⟨g1, g2⟩ := hok ⟨by omega, hdig⟩
      have hdl := dpart_length (intsOf s) 64
      have hfl := dpart_full (intsOf s)
      refine ⟨by rw [hdl]; decide, ?_⟩
      refine ⟨by simp [hdl], by simp, ?_⟩
      refine ⟨by simp [hdl], ?_⟩
      refine ⟨[], [], _, lehN _, le_pair (leAggI ?_) (leI g1.symm), rfl, rfl⟩
      rw [g2, ← hfl]
      simp [hdl]
      exact take3232 _ hdl
  · rintro _ hn
    obtain ⟨g1, g2⟩ := hno hn
    refine ⟨rfl, by decide, ?_⟩
    refine ⟨by decide, ?_⟩
    exact ⟨[], [], _, lehN _, le_pair (leAggI (by rw [g2]; rfl)) (leI g1.symm), rfl, rfl⟩

theorem lePtr {h : List AO} {l : List Nat} {id id' off : Nat} (e : l[id']? = some id) : LeV h l (.ptr id off) (.ptr id' off) := .ptr _ e
/-- A figure's value. -/
def vl (c : Int) : Int := if hexd c then nv c else -1

set_option maxHeartbeats 1000000 in
set_option maxRecDepth 10000 in
theorem value_prog (c : Int) (h0 : 0 ≤ c) (h1 : c < 256) : ACalls Tryd.prog 32 [int .u8 c] [] (fun r h => r = int .i64 (vl c) ∧ h = []) := by
  have hv : ∀ k : Int, 0 ≤ k → k < 16 → fig k = c → vl c = k := fun k g0 g1 e => by
    have := nv_fig g0 g1
    rw [e] at this
    rw [vl, if_pos this.2, this.1]
  have hn : (∀ k : Int, 0 ≤ k → k < 16 → fig k ≠ c) → vl c = -1 := fun h => by
    rw [vl, if_neg]
    intro hh
    have := nv_range hh
    exact h (nv c) this.1 this.2 (fig_nv hh)
  generalize vl c = V at *
  refine rcalls Tryd.func32 rfl (by decide) ?_
  refine ⟨Nat, fun k => [(0, int .u8 c), (3, int .i64 k)], fun _ => [], fun k => k ≤ 16 ∧ ∀ m : Int, 0 ≤ m → m < k → fig m ≠ c, fun k => 16 - k,
    ⟨0, [], ⟨by omega, fun m g0 g1 => absurd g1 (by omega)⟩, leh0, ⟨leI rfl, leI rfl, trivial⟩⟩, ?_⟩
  rintro k ⟨hk, hne⟩
  refine ⟨fun c1 => ?_, fun c1 => ?_⟩
  · have f1 : (k : Int) < 16 := yes c1
    have q : IntKind.u8.wrap (k : Int) = k := w8 (by omega) (by omega)
    have hc := figure_prog (IntKind.u8.wrap (k : Int)) (by rw [q]; omega) (by rw [q]; omega)
    have e1 : IntKind.i64.wrap ((k : Int) + 1) = ((k + 1 : Nat) : Int) := by rw [w64 (by omega) (by omega)]; omega
    obtain ⟨F, hF⟩ : ∃ F, fig (IntKind.u8.wrap (k : Int)) = F := ⟨_, rfl⟩
    rw [hF] at hc
    rw [q] at hF
    refine ⟨[], _, hc, ?_⟩
    rintro r h ⟨rfl, rfl⟩
    refine ⟨.inl rfl, ?_⟩
    refine ⟨fun c2 => ?_, fun c2 => ?_⟩
    · have f2 : F = c := yes c2
      exact ⟨[], [], _, leh0, leI (hv k (by omega) f1 (hF.trans f2)).symm, rfl, rfl⟩
    · have f2 : ¬ F = c := no c2
      refine ⟨trivial, k + 1, [], ⟨by omega, fun m g0 g1 => ?_⟩, by show 16 - (k + 1) < 16 - k; omega, leh0, ⟨leI rfl, leI e1, trivial⟩⟩
      rcases Int.lt_or_le m k with g2 | g2
      · exact hne m g0 g2
      · rw [show m = k by omega]; exact fun e => f2 (hF.symm.trans e)
  · have f1 : ¬ (k : Int) < 16 := no c1
    obtain rfl : k = 16 := by omega
    exact ⟨[], [], _, leh0, leI (hn fun m g0 g1 => hne m g0 g1).symm, rfl, rfl⟩

set_option maxHeartbeats 2000000 in
set_option maxRecDepth 10000 in
theorem parse_ref (s : ByteArray) (hs : s.size ≤ 281474976710656) : ACalls Tryd.prog 22 [str s] [] (ParseR s) := by
  have hil : (intsOf s).length = s.size := intsOf_length s
  have hb := fun i => byteAt (intsOf_range s) i
  have hok : parseOK (intsOf s) → parseE (intsOf s) = 0 ∧ parseD (intsOf s) = pd (intsOf s) := fun h => parse_ok h
  have hno : ¬ parseOK (intsOf s) → parseE (intsOf s) = 2 ∧ parseD (intsOf s) = List.replicate 32 0 := fun h => parse_no h
  unfold ParseR
  generalize parseE (intsOf s) = E at *
  generalize parseD (intsOf s) = D at *
  refine rcalls Tryd.func22 rfl (by decide) ?_
  refine ⟨rfl, ?_⟩
  refine ⟨rfl, ?_⟩
  refine ⟨fun c1 => ?_, fun c1 => ?_⟩
  · have f1 : ¬ (s.size : Int) = 64 := of_decide_eq_true c1
    obtain ⟨g1, g2⟩ := hno fun h => f1 (by rw [← hil, h.1]; rfl)
    refine ⟨by decide, ?_⟩
    refine ⟨by decide, by decide, ?_⟩
    refine ⟨by decide, ?_⟩
    exact ⟨[], [], _, lehN _, le_pair (leAggI (by rw [g2]; rfl)) (leI g1.symm), rfl, rfl⟩
  have f1 : (s.size : Int) = 64 := Classical.byContradiction fun h => of_decide_eq_false c1 h
  have h64 : s.size = 64 := by omega
  refine ⟨Nat, fun i => [(0, str s), (5, int .i64 i), (4, .ptr 1 0), (2, .ptr 0 0)], fun i => [.ints .u8 (List.replicate 32 0), .ints .u8 (dpart (intsOf s) (2 * i))],
    fun i => i ≤ 32 ∧ ∀ j, j < 2 * i → hexd ((intsOf s).getD j 0), fun i => 32 - i,
    ⟨0, [0, 1], ⟨by omega, fun i hi => absurd hi (by omega)⟩, leh2 (by decide) rfl rfl (leOint rfl) (leOint (dpart_zero _).symm), ⟨leS rfl, leI rfl, lePtr rfl, lePtr rfl, trivial⟩⟩, ?_⟩
  rintro i ⟨hi, hdig⟩
  refine ⟨fun h1 => ?_, fun h1 => ?_⟩
  · have f2 : (i : Int) < 32 := yes h1
    have hdl := dpart_length (intsOf s) (2 * i)
    have e1 : IntKind.i64.wrap ((i : Int) + 1) = ((i + 1 : Nat) : Int) := by rw [w64 (by omega) (by omega)]; omega
    have e2 : IntKind.i64.wrap (2 * (i : Int)) = ((2 * i : Nat) : Int) := by rw [w64 (by omega) (by omega)]; omega
    have e3 : IntKind.i64.wrap (IntKind.i64.wrap (2 * (i : Int)) + 1) = ((2 * i + 1 : Nat) : Int) := by rw [e2, w64 (by omega) (by omega)]; omega
    have hoff : addOff 0 ((i : Int)).toNat 1 = i := by simp [addOff]
    have hb1 := hb (2 * i)
    have hb2 := hb (2 * i + 1)
    have hc1 := value_prog ((intsOf s).getD (IntKind.i64.wrap (2 * (i : Int))).toNat 0) (hb _).1 (hb _).2
    have hc2 := value_prog ((intsOf s).getD (IntKind.i64.wrap (IntKind.i64.wrap (2 * (i : Int)) + 1)).toNat 0) (hb _).1 (hb _).2
    obtain ⟨A, hA⟩ : ∃ A, vl ((intsOf s).getD (IntKind.i64.wrap (2 * (i : Int))).toNat 0) = A := ⟨_, rfl⟩
    obtain ⟨B, hB⟩ : ∃ B, vl ((intsOf s).getD (IntKind.i64.wrap (IntKind.i64.wrap (2 * (i : Int)) + 1)).toNat 0) = B := ⟨_, rfl⟩
    rw [hA] at hc1
    rw [hB] at hc2
    rw [e2, Int.toNat_natCast] at hA
    rw [e3, Int.toNat_natCast] at hB
    refine ⟨⟨by rw [e2]; omega, by rw [e2]; omega⟩, ?_⟩
    refine ⟨[], _, hc1, ?_⟩
    rintro r h ⟨rfl, rfl⟩
    refine ⟨.inl rfl, ?_⟩
    refine ⟨⟨by rw [e3]; omega, by rw [e3]; omega⟩, ?_⟩
    refine ⟨[], _, hc2, ?_⟩
    rintro r h ⟨rfl, rfl⟩
    refine ⟨.inl rfl, ?_⟩
    refine ⟨fun c2 => ?_, fun c2 => ⟨fun c3 => ?_, fun c3 => ?_⟩⟩
    · have f3 : A < 0 := yes c2
      obtain ⟨g1, g2⟩ := hno fun h => by
        have hh := h.2 (2 * i) (by omega)
        have := nv_range hh
        rw [vl, if_pos hh] at hA
        omega
      refine ⟨rfl, by decide, ?_⟩
      refine ⟨by decide, ?_⟩
      exact ⟨[], [], _, lehN _, le_pair (leAggI (by rw [g2]; rfl)) (leI g1.symm), rfl, rfl⟩
    · have f3 : B < 0 := yes c3
      obtain ⟨g1, g2⟩ := hno fun h => by
        have hh := h.2 (2 * i + 1) (by omega)
        have := nv_range hh
        rw [vl, if_pos hh] at hB
        omega
      refine ⟨rfl, by decide, ?_⟩
      refine ⟨by decide, ?_⟩
      exact ⟨[], [], _, lehN _, le_pair (leAggI (by rw [g2]; rfl)) (leI g1.symm), rfl, rfl⟩
    · have f3 : ¬ A < 0 := no c2
      have f4 : ¬ B < 0 := no c3
      have hA1 : hexd ((intsOf s).getD (2 * i) 0) := Classical.byContradiction fun hh => by rw [vl, if_neg hh] at hA; omega
      have hB1 : hexd ((intsOf s).getD (2 * i + 1) 0) := Classical.byContradiction fun hh => by rw [vl, if_neg hh] at hB; omega
      rw [vl, if_pos hA1] at hA
      rw [vl, if_pos hB1] at hB
      have hrA := nv_range hA1
      have hrB := nv_range hB1
      refine ⟨⟨by omega, f2⟩, by rw [hoff]; omega, ?_⟩
      refine ⟨trivial, i + 1, [0, 1], ⟨by omega, fun j hj => ?_⟩, by show 32 - (i + 1) < 32 - i; omega, leh2 (by decide) rfl rfl (leOint rfl) (leOint ?_), ⟨leS rfl, leI e1, lePtr rfl, lePtr rfl, trivial⟩⟩
      · rcases Nat.lt_or_ge j (2 * i) with h5 | h5
        · exact hdig j h5
        · rcases Nat.lt_or_ge j (2 * i + 1) with h6 | h6
          · rw [show j = 2 * i by omega]; exact hA1
          · rw [show j = 2 * i + 1 by omega]; exact hB1
      · have e5 : IntKind.u8.wrap (IntKind.i64.wrap (IntKind.i64.wrap (16 * A) + B)) = full (intsOf s) i := by
          rw [w64 (n := 16 * A) (by omega) (by omega), w64 (by omega) (by omega), w8 (by omega) (by omega)]
          unfold full
          rw [hA, hB]
        rw [hoff]
        show (dpart (intsOf s) (2 * i)).set i (IntKind.u8.wrap (IntKind.i64.wrap (IntKind.i64.wrap (16 * A) + B))) = _
        rw [e5]
        exact dpart_two (by omega)
  · have f2 : ¬ (i : Int) < 32 := no h1
    obtain rfl : i = 32 := by omega
    obtain ⟨g1, g2⟩ := hok ⟨by omega, hdig⟩
    have hdl := dpart_length (intsOf s) (2 * 32)
    have hfl := dpart_full (intsOf s)
    refine ⟨by rw [hdl]; decide, ?_⟩
    refine ⟨by simp [hdl], by simp, ?_⟩
    refine ⟨by simp [hdl], ?_⟩
    refine ⟨[], [], _, lehN _, le_pair (leAggI ?_) (leI g1.symm), rfl, rfl⟩
    rw [g2, ← hfl]
    simp [dpart_length]
    exact take3232 _ (dpart_length _ _)

end
end Go.Proofs.YtlogcpcdkhmjoaaDoor.Hx
