/-
  OctalSums: for every two rows of bytes and place the law answers true, and what it was given reads as it did. No condition.
-/
import Derived.Test.YtlogcpcdkhmjoaaOcGetR
import Derived.Test.YtlogcpcdkhmjoaaOcAwake
import Derived.Test.YtlogcpcdkhmjoaaRow
set_option linter.unusedVariables false
namespace Go.Proofs.Ytlogcpcdkhmjoaa.Oc
open Go AL


/-- The plain sum of the first so many bytes. -/
def tot (xs : List Int) : Nat → Int
  | 0 => 0
  | k + 1 => tot xs k + xs.getD k 0

theorem chk_set {xs : List Int} {k : Nat} (v : Int) (hk : k < xs.length) : ∀ n : Nat, chk (xs.set k v) n = chk xs n + (if k < n then chkAt k v - chkAt k (xs.getD k 0) else 0)
  | 0 => by simp [chk]
  | n + 1 => by
    have ih := chk_set v hk n
    simp only [chk]
    rw [ih]
    by_cases hn : n = k
    · subst hn
      have : (xs.set n v).getD n 0 = v := by simp [List.getD_eq_getElem?_getD, hk]
      rw [this, if_neg (by omega), if_pos (by omega)]; omega
    · have : (xs.set k v).getD n 0 = xs.getD n 0 := by simp [List.getD_eq_getElem?_getD, Ne.symm hn]
      rw [this]
      by_cases hkn : k < n
      · rw [if_pos hkn, if_pos (by omega)]; omega
      · rw [if_neg hkn, if_neg (by omega)]; omega
theorem chk_pre {xs ys : List Int} : ∀ i : Nat, i ≤ xs.length → chk (xs ++ ys) i = chk xs i
  | 0, _ => rfl
  | i + 1, h => by
    simp only [chk]
    rw [chk_pre i (by omega)]
    have : (xs ++ ys).getD i 0 = xs.getD i 0 := by simp [List.getD_eq_getElem?_getD, List.getElem?_append_left (show i < xs.length by omega)]
    rw [this]
theorem chk_app {xs ys : List Int} (h : 156 ≤ xs.length) : ∀ j : Nat, chk (xs ++ ys) (xs.length + j) = chk xs xs.length + tot ys j
  | 0 => by rw [Nat.add_zero, chk_pre _ (Nat.le_refl _)]; simp [tot]
  | j + 1 => by
    rw [← Nat.add_assoc]
    simp only [chk, tot]
    rw [chk_app h j]
    have : (xs ++ ys).getD (xs.length + j) 0 = ys.getD j 0 := by rw [List.getD_eq_getElem?_getD, List.getElem?_append_right (by omega), Nat.add_sub_cancel_left, ← List.getD_eq_getElem?_getD]
    rw [this]
    unfold chkAt
    rw [if_neg (by omega)]; omega
theorem tot_range {xs : List Int} (hx : ∀ x ∈ xs, 0 ≤ x ∧ x < 256) : ∀ k : Nat, 0 ≤ tot xs k ∧ tot xs k ≤ 256 * k
  | 0 => by simp [tot]
  | k + 1 => by
    have := tot_range hx k
    have hb := byteAt hx k
    simp only [tot]
    omega

set_option maxHeartbeats 1000000 in
set_option maxRecDepth 10000 in
theorem sums_prog (xs ys : List Int) (a : Int) (hx : ∀ x ∈ xs, 0 ≤ x ∧ x < 256) (hy : ∀ x ∈ ys, 0 ≤ x ∧ x < 256) (hxl : xs.length ≤ 9223372036854775807) (hyl : ys.length ≤ 9223372036854775807) (ha : 0 ≤ a ∧ a < 65536) :
    ACalls Try.prog 5 [.roI .u8 xs, .roI .u8 ys, int .u16 a] [] (fun r h => r = .tt ∧ h = []) := by
  refine rcalls Try.func5 rfl (by decide) ?_
  refine ⟨[], _, awake_prog, ?_⟩
  rintro r h ⟨rfl, rfl⟩
  refine ⟨.inl rfl, ?_⟩
  refine ⟨fun c1 => ⟨[], [], .tt, leh0, .tt, rfl, rfl⟩, fun c1 => ?_⟩
  have d1 := no c1
  refine ⟨fun c2 => ⟨[], [], .tt, leh0, .tt, rfl, rfl⟩, fun c2 => ?_⟩
  have d2 := no c2
  refine ⟨fun c3 => ⟨[], [], .tt, leh0, .tt, rfl, rfl⟩, fun c3 => ?_⟩
  have d3 := no c3
  obtain ⟨k, ek, hk⟩ : ∃ k : Nat, (IntKind.i64.wrap a).tmod xs.length = k ∧ k < xs.length := by
    rw [w64 (by omega) (by omega), Int.tmod_eq_emod_of_nonneg ha.1]
    have h1 := Int.emod_nonneg a d1
    have h2 := Int.emod_lt_of_pos a (show (0 : Int) < xs.length by omega)
    exact ⟨(a % xs.length).toNat, by omega, by omega⟩
  refine ⟨d1, ?_⟩
  refine ⟨rfl, ?_⟩
  refine ⟨by show (0 + xs.length) * 1 ≤ 140737488355328; omega, ?_⟩
  rw [ek]
  rw [show ([] : List Int).length + xs.length = xs.length from Nat.zero_add _]
  have eo : addOff 0 ((k : Int)).toNat 1 = k := by simp [addOff]
  refine ⟨⟨by omega, by omega⟩, ?_⟩
  refine ⟨by rw [eo]; exact hk, ?_⟩
  refine ⟨⟨by omega, by omega⟩, ?_⟩
  refine ⟨by rw [eo]; exact hk, ?_⟩
  rw [eo]
  refine ⟨⟨by decide +kernel, by decide +kernel⟩, ?_⟩
  rw [show ([] : List Int) ++ xs = xs from rfl]
  refine ⟨⟨by omega, by omega⟩, ?_⟩
  refine ⟨by rw [eo, List.length_set]; exact hk, ?_⟩
  refine ⟨⟨by omega, by omega⟩, ?_⟩
  rw [eo]
  have hv : IntKind.u8.wrap (xs.getD k 0 + 1) = (xs.getD k 0 + 1) % 256 := IntKind.wrap_u8 _
  have hb := byteAt hx k
  generalize hz : xs.set k (IntKind.u8.wrap (xs.getD k 0 + 1)) = zs
  have hzl : zs.length = xs.length := by rw [← hz]; simp
  have hzk : zs.getD k 0 = (xs.getD k 0 + 1) % 256 := by rw [← hz, ← hv]; simp [List.getD_eq_getElem?_getD, hk]
  obtain ⟨D, hD⟩ : ∃ D, IntKind.i64.wrap (IntKind.i64.wrap (zs.getD k 0) - IntKind.i64.wrap (xs.getD ((k : Int)).toNat 0)) = D ∧ D = zs.getD k 0 - xs.getD k 0 := ⟨_, rfl, by
    rw [Int.toNat_natCast, w64 (n := zs.getD k 0) (by omega) (by omega), w64 (n := xs.getD k 0) (by omega) (by omega), w64 (by omega) (by omega)]⟩
  have hds : (zs.drop 0).take xs.length = zs := by rw [List.drop_zero, List.take_of_length_le (by omega)]
  have hzb : ∀ x ∈ zs, 0 ≤ x ∧ x < 256 := fun x hm => by
    rw [← hz] at hm
    rcases List.mem_or_eq_of_mem_set hm with h | h
    · exact hx x h
    · omega
  refine ⟨fun c4 => ?_, fun c4 => ?_⟩
  all_goals rw [hD.1]
  · refine ⟨fun c5 => ?_, fun c5 => ?_⟩
    · refine ⟨Nat, fun j => [(0, .roI .u8 xs), (1, .roI .u8 ys), (7, .tt), (9, .own 0 0 xs.length 1), (10, int .i64 0), (11, int .i64 (tot ys j)), (12, int .i64 j)], fun _ => [.ints .u8 zs], fun j => j ≤ ys.length, fun j => ys.length - j,
        ⟨0, [1], Nat.zero_le _, leh1 rfl (leOint rfl), ⟨leRo rfl, leRo rfl, .tt, leOwn rfl rfl rfl, leI rfl, leI rfl, leI rfl, trivial⟩⟩, fun j hj => ?_⟩
      refine ⟨fun c6 => ?_, fun c6 => ?_⟩
      · have hlt : j < ys.length := by have := yes c6; omega
        have hyb := byteAt hy j
        have ht := tot_range hy j
        refine ⟨⟨by omega, by omega⟩, ?_⟩
        refine ⟨trivial, j + 1, [0], hlt, by show ys.length - (j + 1) < ys.length - j; omega, leh1 rfl (leOint rfl), ⟨leRo rfl, leRo rfl, .tt, leOwn rfl rfl rfl, leI rfl, leI ?_, leI ?_, trivial⟩⟩
        · show IntKind.i64.wrap (tot ys j + IntKind.i64.wrap (ys.getD j 0)) = tot ys j + ys.getD j 0
          rw [w64 (n := ys.getD j 0) (by omega) (by omega), w64 (by omega) (by omega)]
        · rw [w64 (by omega) (by omega)]; omega
      · have hje : j = ys.length := by have := no c6; omega
        subst hje
        refine ⟨[], fun r h => r = int .i64 (chk zs zs.length) ∧ h = [], ?_, by rw [hds]; exact check_prog zs hzb (by omega), ?_⟩
        · omega
        rintro r h ⟨rfl, rfl⟩
        refine ⟨.inr ⟨trivial, fun o ho => by simp at ho⟩, ?_⟩
        refine ⟨[], _, check_prog xs hx (by omega), ?_⟩
        rintro r h ⟨rfl, rfl⟩
        refine ⟨.inl rfl, ?_⟩
        have hdif := chk_set (xs := xs) (k := k) ((xs.getD k 0 + 1) % 256) hk xs.length
        rw [← hv, hz, if_pos hk] at hdif
        have hM : chk zs zs.length - chk xs xs.length = 0 := by
          rw [hzl, hdif]; unfold chkAt
          have f4 := yes c4; have f5 := yes c5
          rw [if_pos (by omega), if_pos (by omega)]; omega
        refine ⟨fun c7 => ?_, fun c7 => ?_⟩
        · exfalso
          have := yes c7
          rw [hM] at this
          exact this (w64 (by omega) (by omega))
        refine ⟨fun c8 => ⟨[], [], .tt, lehN _, .tt, rfl, rfl⟩, fun c8 => ?_⟩
        refine ⟨rfl, ?_⟩
        refine ⟨by show (0 + xs.length) * 1 ≤ 140737488355328; omega, ?_⟩
        refine ⟨by simp, ?_⟩
        refine ⟨by show (([] ++ xs).length + ys.length) * 1 ≤ 140737488355328; simp; omega, ?_⟩
        refine ⟨[], fun r h => r = int .i64 (chk (xs ++ ys) (xs ++ ys).length) ∧ h = [], by simp, ?_, ?_⟩
        · have e9 : ((([] ++ xs) ++ ys).drop 0).take (([] ++ xs).length + ys.length) = xs ++ ys := by
            rw [List.drop_zero, List.nil_append, List.take_of_length_le (by simp)]
          rw [e9]
          exact check_prog (xs ++ ys) (fun x hm => (List.mem_append.1 hm).elim (hx x) (hy x)) (by simp; omega)
        rintro r h ⟨rfl, rfl⟩
        refine ⟨.inr ⟨trivial, fun o ho => by simp at ho⟩, ?_⟩
        refine ⟨[], _, check_prog xs hx (by omega), ?_⟩
        rintro r h ⟨rfl, rfl⟩
        refine ⟨.inl rfl, ?_⟩
        have f8 := no c8
        have ha1 := chk_app (xs := xs) (ys := ys) (by omega) ys.length
        have r1 := chk_range hx xs.length
        have r2 := tot_range hy ys.length
        refine ⟨[], [], .tt, lehN _, leTT (decide_eq_true ?_), rfl, rfl⟩
        rw [List.length_append, ha1, w64 (by omega) (by omega)]
    · refine ⟨Nat, fun j => [(0, .roI .u8 xs), (1, .roI .u8 ys), (7, .tt), (9, .own 0 0 xs.length 1), (10, int .i64 D), (11, int .i64 (tot ys j)), (12, int .i64 j)], fun _ => [.ints .u8 zs], fun j => j ≤ ys.length, fun j => ys.length - j,
        ⟨0, [1], Nat.zero_le _, leh1 rfl (leOint rfl), ⟨leRo rfl, leRo rfl, .tt, leOwn rfl rfl rfl, leI rfl, leI rfl, leI rfl, trivial⟩⟩, fun j hj => ?_⟩
      refine ⟨fun c6 => ?_, fun c6 => ?_⟩
      · have hlt : j < ys.length := by have := yes c6; omega
        have hyb := byteAt hy j
        have ht := tot_range hy j
        refine ⟨⟨by omega, by omega⟩, ?_⟩
        refine ⟨trivial, j + 1, [0], hlt, by show ys.length - (j + 1) < ys.length - j; omega, leh1 rfl (leOint rfl), ⟨leRo rfl, leRo rfl, .tt, leOwn rfl rfl rfl, leI rfl, leI ?_, leI ?_, trivial⟩⟩
        · show IntKind.i64.wrap (tot ys j + IntKind.i64.wrap (ys.getD j 0)) = tot ys j + ys.getD j 0
          rw [w64 (n := ys.getD j 0) (by omega) (by omega), w64 (by omega) (by omega)]
        · rw [w64 (by omega) (by omega)]; omega
      · have hje : j = ys.length := by have := no c6; omega
        subst hje
        refine ⟨[], fun r h => r = int .i64 (chk zs zs.length) ∧ h = [], ?_, by rw [hds]; exact check_prog zs hzb (by omega), ?_⟩
        · omega
        rintro r h ⟨rfl, rfl⟩
        refine ⟨.inr ⟨trivial, fun o ho => by simp at ho⟩, ?_⟩
        refine ⟨[], _, check_prog xs hx (by omega), ?_⟩
        rintro r h ⟨rfl, rfl⟩
        refine ⟨.inl rfl, ?_⟩
        have hdif := chk_set (xs := xs) (k := k) ((xs.getD k 0 + 1) % 256) hk xs.length
        rw [← hv, hz, if_pos hk] at hdif
        have hM : chk zs zs.length - chk xs xs.length = D := by
          rw [hzl, hdif]; unfold chkAt
          have f4 := yes c4; have f5 := no c5
          rw [if_neg (by omega), if_neg (by omega), hv]; omega
        refine ⟨fun c7 => ?_, fun c7 => ?_⟩
        · exfalso
          have := yes c7
          rw [hM] at this
          exact this (w64 (by omega) (by omega))
        refine ⟨fun c8 => ⟨[], [], .tt, lehN _, .tt, rfl, rfl⟩, fun c8 => ?_⟩
        refine ⟨rfl, ?_⟩
        refine ⟨by show (0 + xs.length) * 1 ≤ 140737488355328; omega, ?_⟩
        refine ⟨by simp, ?_⟩
        refine ⟨by show (([] ++ xs).length + ys.length) * 1 ≤ 140737488355328; simp; omega, ?_⟩
        refine ⟨[], fun r h => r = int .i64 (chk (xs ++ ys) (xs ++ ys).length) ∧ h = [], by simp, ?_, ?_⟩
        · have e9 : ((([] ++ xs) ++ ys).drop 0).take (([] ++ xs).length + ys.length) = xs ++ ys := by
            rw [List.drop_zero, List.nil_append, List.take_of_length_le (by simp)]
          rw [e9]
          exact check_prog (xs ++ ys) (fun x hm => (List.mem_append.1 hm).elim (hx x) (hy x)) (by simp; omega)
        rintro r h ⟨rfl, rfl⟩
        refine ⟨.inr ⟨trivial, fun o ho => by simp at ho⟩, ?_⟩
        refine ⟨[], _, check_prog xs hx (by omega), ?_⟩
        rintro r h ⟨rfl, rfl⟩
        refine ⟨.inl rfl, ?_⟩
        have f8 := no c8
        have ha1 := chk_app (xs := xs) (ys := ys) (by omega) ys.length
        have r1 := chk_range hx xs.length
        have r2 := tot_range hy ys.length
        refine ⟨[], [], .tt, lehN _, leTT (decide_eq_true ?_), rfl, rfl⟩
        rw [List.length_append, ha1, w64 (by omega) (by omega)]
  · refine ⟨Nat, fun j => [(0, .roI .u8 xs), (1, .roI .u8 ys), (7, .tt), (9, .own 0 0 xs.length 1), (10, int .i64 D), (11, int .i64 (tot ys j)), (12, int .i64 j)], fun _ => [.ints .u8 zs], fun j => j ≤ ys.length, fun j => ys.length - j,
      ⟨0, [1], Nat.zero_le _, leh1 rfl (leOint rfl), ⟨leRo rfl, leRo rfl, .tt, leOwn rfl rfl rfl, leI rfl, leI rfl, leI rfl, trivial⟩⟩, fun j hj => ?_⟩
    refine ⟨fun c6 => ?_, fun c6 => ?_⟩
    · have hlt : j < ys.length := by have := yes c6; omega
      have hyb := byteAt hy j
      have ht := tot_range hy j
      refine ⟨⟨by omega, by omega⟩, ?_⟩
      refine ⟨trivial, j + 1, [0], hlt, by show ys.length - (j + 1) < ys.length - j; omega, leh1 rfl (leOint rfl), ⟨leRo rfl, leRo rfl, .tt, leOwn rfl rfl rfl, leI rfl, leI ?_, leI ?_, trivial⟩⟩
      · show IntKind.i64.wrap (tot ys j + IntKind.i64.wrap (ys.getD j 0)) = tot ys j + ys.getD j 0
        rw [w64 (n := ys.getD j 0) (by omega) (by omega), w64 (by omega) (by omega)]
      · rw [w64 (by omega) (by omega)]; omega
    · have hje : j = ys.length := by have := no c6; omega
      subst hje
      refine ⟨[], fun r h => r = int .i64 (chk zs zs.length) ∧ h = [], ?_, by rw [hds]; exact check_prog zs hzb (by omega), ?_⟩
      · omega
      rintro r h ⟨rfl, rfl⟩
      refine ⟨.inr ⟨trivial, fun o ho => by simp at ho⟩, ?_⟩
      refine ⟨[], _, check_prog xs hx (by omega), ?_⟩
      rintro r h ⟨rfl, rfl⟩
      refine ⟨.inl rfl, ?_⟩
      have hdif := chk_set (xs := xs) (k := k) ((xs.getD k 0 + 1) % 256) hk xs.length
      rw [← hv, hz, if_pos hk] at hdif
      have hM : chk zs zs.length - chk xs xs.length = D := by
        rw [hzl, hdif]; unfold chkAt
        have f4 := no c4
        rw [if_neg (by omega), if_neg (by omega), hv]; omega
      refine ⟨fun c7 => ?_, fun c7 => ?_⟩
      · exfalso
        have := yes c7
        rw [hM] at this
        exact this (w64 (by omega) (by omega))
      refine ⟨fun c8 => ⟨[], [], .tt, lehN _, .tt, rfl, rfl⟩, fun c8 => ?_⟩
      refine ⟨rfl, ?_⟩
      refine ⟨by show (0 + xs.length) * 1 ≤ 140737488355328; omega, ?_⟩
      refine ⟨by simp, ?_⟩
      refine ⟨by show (([] ++ xs).length + ys.length) * 1 ≤ 140737488355328; simp; omega, ?_⟩
      refine ⟨[], fun r h => r = int .i64 (chk (xs ++ ys) (xs ++ ys).length) ∧ h = [], by simp, ?_, ?_⟩
      · have e9 : ((([] ++ xs) ++ ys).drop 0).take (([] ++ xs).length + ys.length) = xs ++ ys := by
          rw [List.drop_zero, List.nil_append, List.take_of_length_le (by simp)]
        rw [e9]
        exact check_prog (xs ++ ys) (fun x hm => (List.mem_append.1 hm).elim (hx x) (hy x)) (by simp; omega)
      rintro r h ⟨rfl, rfl⟩
      refine ⟨.inr ⟨trivial, fun o ho => by simp at ho⟩, ?_⟩
      refine ⟨[], _, check_prog xs hx (by omega), ?_⟩
      rintro r h ⟨rfl, rfl⟩
      refine ⟨.inl rfl, ?_⟩
      have f8 := no c8
      have ha1 := chk_app (xs := xs) (ys := ys) (by omega) ys.length
      have r1 := chk_range hx xs.length
      have r2 := tot_range hy ys.length
      refine ⟨[], [], .tt, lehN _, leTT (decide_eq_true ?_), rfl, rfl⟩
      rw [List.length_append, ha1, w64 (by omega) (by omega)]

open Go.ChangeShapes Go.WideShapes Go.ChangeAt Go.RowKit
set_option maxRecDepth 100000 in
theorem sums_lifted (os : Os) (started : os.Started) (H : Type) (enc : TypeId × Value → H) :
    ReturnsInHanded {} Try.checked os 5 .any (Rows.octalSumsSpec.pre6 enc Try.prog Try.f5 Rows.octalSumsRow.domain false) (Rows.octalSumsSpec.post enc Try.prog Try.f5 false true false false) := by
  refine returnsInHanded_of_change (C := Try.checked) own started (by kernel_rfl) Try.func5
    (ChangeSpec.witness6 (enc := enc) (C := Try.checked) false ⟨#[], #[.slice none 0 0, .slice none 0 0, .int .u16 0], []⟩ 8 (by kernel_rfl) (by kernel_rfl) (by kernel_rfl) (by kernel_rfl)) ?_
  intro W base args ds gs before hval0 hW hcnd _
  have hval : ∀ (j : Nat) t v, Try.f5.params[j]? = some t → args[j]? = some v → Value.okWide Try.prog W .any base t v := hval0
  have hW' := hW
  have hlt : ∀ x ∈ before, x.block < W.heap.size := fun x hx => hW.lt x hx
  obtain ⟨p, q, hA0, hV, rfl, hfz, hnd⟩ := hW
  have hA : DataW.TrodAll enc Try.prog W 0 (fun _ => true) true Try.f5.params.toList args.toList ds p := hA0
  rw [Try.params5] at hA hval
  obtain ⟨v0, v1, v2, d0, d1, d2, p0, p1, p2, rfl, rfl, rfl, h0, h1, h2⟩ := trodAll_three hA
  obtain ⟨rfl, rfl⟩ := trodVars_none hV
  clear hA0 hval0
  obtain ⟨xs, hx, hl, hd⟩ := open_roI (k := .u8) (e := 5) (by kernel_rfl) (by kernel_rfl) (by kernel_rfl) (hval 0 _ v0 rfl rfl) h0 (fun x hx => hlt x (by simp [hx]))
  obtain ⟨ys, hy, hm, hd2⟩ := open_roI (k := .u8) (e := 5) (by kernel_rfl) (by kernel_rfl) (by kernel_rfl) (hval 1 _ v1 rfl rfl) h1 (fun x hx => hlt x (by simp [hx]))
  obtain ⟨w, rfl, e2, rfl, ww⟩ := open_int (k := .u16) (by kernel_rfl) (hval 2 _ v2 rfl rfl) h2
  refine (calls_of_acalls (sums_prog xs ys w (fun x hm => wf_u8 (hx x hm)) (fun x hm => wf_u8 (hy x hm)) hl hm (wf_u16 ww)) rfl (fun i x hi => ?_)).mono fun e W' he => ?_
  · match i, hi with
    | 0, hi => exact ⟨_, rfl, by cases hi; exact hd⟩
    | 1, hi => exact ⟨_, rfl, by cases hi; exact hd2⟩
    | 2, hi => exact ⟨_, rfl, by cases hi; rfl⟩
  obtain ⟨v, r, h', L', S', rfl, ⟨rfl, rfl⟩, hv, hB⟩ := he
  cases hv
  exact ⟨_, rfl, law_post laidOut (by intro t ht; rw [Try.params5] at ht; revert t; exact (by decide +kernel)) (t := 4) rfl (by kernel_rfl) rfl rfl hW' hB⟩

theorem sums_holds : Rows.OctalSumsSaid :=
  OpenClaim.holds_of_wide 5 Try.f5 rfl rfl rfl rfl rfl rfl rfl ⟨rfl, rfl, rfl, rfl, rfl⟩ rfl rfl rfl rfl rfl (by kernel_rfl) Try.func5 (by kernel_rfl)
    (of_decide_eq_true (by kernel_rfl)) (by unfold Func.isWrapper; first | (rw [if_pos (by decide +kernel)]; kernel_rfl) | (rw [if_neg (by decide +kernel)]; exact ⟨rfl, rfl⟩))
    (fun os started H enc _ => sums_lifted os started H enc)

end Go.Proofs.Ytlogcpcdkhmjoaa.Oc
