/-
  OctalOrder: for every two numbers and width the law answers true, and what it was given reads as it did. No condition.
-/
import Derived.Test.YthfnifkallpmhaaOcGetR
import Derived.Test.YthfnifkallpmhaaOcAwake
import Derived.Test.YthfnifkallpmhaaRow
set_option linter.unusedVariables false
namespace Go.Proofs.Ythfnifkallpmhaa.Oc
open Go AL


/-- Of two numbers of one width, the lesser one's field stands ahead. -/
theorem less_digs : ∀ (k : Nat) (n m : Int), 0 ≤ n → n < 8 ^ k → 0 ≤ m → m < 8 ^ k → ∀ u v : List UInt8,
    Op.bytesLess ((digs n k).map (fun x => UInt8.ofNat x.toNat) ++ u) ((digs m k).map (fun x => UInt8.ofNat x.toNat) ++ v) = (decide (n < m) || (decide (n = m) && Op.bytesLess u v))
  | 0, n, m, h0, h1, h2, h3, u, v => by
    have hn : n = 0 := by simp at h1; omega
    have hm : m = 0 := by simp at h3; omega
    subst hn; subst hm
    simp [digs]
  | k + 1, n, m, h0, h1, h2, h3, u, v => by
    have e1 : digs n (k + 1) = digs (n / 8) k ++ [48 + n % 8] := by
      have := digs_low (n / 8) (n % 8) (by omega) (by omega) k
      rwa [show 8 * (n / 8) + n % 8 = n by omega] at this
    have e2 : digs m (k + 1) = digs (m / 8) k ++ [48 + m % 8] := by
      have := digs_low (m / 8) (m % 8) (by omega) (by omega) k
      rwa [show 8 * (m / 8) + m % 8 = m by omega] at this
    rw [Int.pow_succ] at h1 h3
    rw [e1, e2, List.map_append, List.map_append, List.append_assoc, List.append_assoc, less_digs k (n / 8) (m / 8) (by omega) (by omega) (by omega) (by omega)]
    simp only [List.map_cons, List.map_nil, List.cons_append, List.nil_append, Op.bytesLess]
    have hlt : (UInt8.ofNat (48 + n % 8).toNat < UInt8.ofNat (48 + m % 8).toNat) ↔ n % 8 < m % 8 := by
      rw [UInt8.lt_iff_toNat_lt, UInt8.toNat_ofNat', UInt8.toNat_ofNat']; omega
    have heq : (UInt8.ofNat (48 + n % 8).toNat = UInt8.ofNat (48 + m % 8).toNat) ↔ n % 8 = m % 8 := by
      rw [← UInt8.toNat_inj, UInt8.toNat_ofNat', UInt8.toNat_ofNat']; omega
    rw [Bool.eq_iff_iff]
    simp only [Bool.or_eq_true, Bool.and_eq_true, decide_eq_true_eq, beq_iff_eq, hlt, heq]
    cases Op.bytesLess u v
    · simp only [Bool.false_eq_true, and_false, or_false]; omega
    · simp only [and_true]; omega

theorem less_put {n m W : Int} (hn : putE n W = 0) (hm : putE m W = 0) : Op.bytesLess (bytesOf (putR n W)).toList (bytesOf (putR m W)).toList = decide (n < m) := by
  have f1 : ∀ x, putE x W = 0 → (0 ≤ x ∧ x < 8 ^ (W - 1).toNat) ∧ putR x W = digs x (W - 1).toNat ++ [0] := fun x hx => by
    unfold putE at hx; unfold putR
    by_cases hw : W < 2 ∨ W > 12
    · rw [if_pos hw] at hx; cases hx
    · rw [if_neg hw] at hx ⊢
      by_cases hf : fits x W
      · rw [if_pos hf]; exact ⟨hf, rfl⟩
      · rw [if_neg hf] at hx; cases hx
  obtain ⟨⟨a1, a2⟩, a3⟩ := f1 n hn
  obtain ⟨⟨b1, b2⟩, b3⟩ := f1 m hm
  rw [ByteArray.toList_eq, ByteArray.toList_eq, a3, b3]
  simp only [bytesOf, List.map_append]
  rw [less_digs _ n m a1 a2 b1 b2]
  simp [Op.bytesLess]

set_option maxHeartbeats 1000000 in
set_option maxRecDepth 10000 in
theorem order_prog (n m w : Int) (hn : 0 ≤ n ∧ n < 4294967296) (hm : 0 ≤ m ∧ m < 4294967296) (hw : 0 ≤ w ∧ w < 256) : ACalls Try.prog 4 [int .u32 n, int .u32 m, int .u8 w] [] (fun r h => r = .tt ∧ h = []) := by
  refine rcalls Try.func4 rfl (by decide) ?_
  refine ⟨[], _, awake_prog, ?_⟩
  rintro r h ⟨rfl, rfl⟩
  refine ⟨.inl rfl, ?_⟩
  refine ⟨by decide, ?_⟩
  obtain ⟨W, eW, hW⟩ : ∃ W, IntKind.i64.wrap (2 + IntKind.i64.wrap (w.tmod 11)) = W ∧ 2 ≤ W ∧ W ≤ 12 := ⟨_, rfl, by
    rw [Int.tmod_eq_emod_of_nonneg hw.1, w64 (n := w % 11) (by omega) (by omega), w64 (by omega) (by omega)]
    omega⟩
  have e1 : IntKind.i64.wrap n = n := w64 (by omega) (by omega)
  have e2 : IntKind.i64.wrap m = m := w64 (by omega) (by omega)
  refine ⟨[], _, put_prog _ _, ?_⟩
  rw [eW, e1]
  rintro r h ⟨rfl, rfl⟩
  refine ⟨.inl rfl, ?_⟩
  refine ⟨[], _, put_prog _ _, ?_⟩
  rw [e2]
  rintro r h ⟨rfl, rfl⟩
  refine ⟨.inl rfl, ?_⟩
  have f8 : ∀ x, putE x W = 0 ∨ putE x W = 8 := fun x => by unfold putE; rw [if_neg (by omega)]; split <;> simp
  have hb := fun (h1 : putE n W = 0) (h2 : putE m W = 0) => less_put h1 h2
  have hr : putE n W = 0 → ((putR n W).length : Int) = W ∧ (putR n W).getD ((W - 1).toNat) 0 = 0 := fun h => by
    have hf : fits n W := by
      unfold putE at h; rw [if_neg (by omega)] at h
      by_cases hf : fits n W
      · exact hf
      · rw [if_neg hf] at h; cases h
    unfold putR
    rw [if_neg (by omega), if_pos hf]
    have hl := digs_length n (W - 1).toNat
    refine ⟨by rw [List.length_append, hl]; simp; omega, ?_⟩
    rw [List.getD_eq_getElem?_getD, List.getElem?_append_right (by omega), hl]; simp
  have f1 := f8 n
  have f2 := f8 m
  generalize putR n W = x1 at *
  generalize putE n W = x2 at *
  generalize putR m W = x3 at *
  generalize putE m W = x4 at *
  refine ⟨fun a => ?_, fun a => ?_⟩
  · have a' := yes a
    refine ⟨fun b => absurd (yes b) a', fun _ => ?_⟩
    exact ⟨[], [], .tt, leh0, leTT (decide_eq_true (by omega)), rfl, rfl⟩
  · have a' : x2 = 0 := by simpa using no a
    refine ⟨fun b => ?_, fun b => ?_⟩
    · refine ⟨fun _ => ?_, fun c => absurd a' (no c)⟩
      exact ⟨[], [], .tt, leh0, .tt, rfl, rfl⟩
    · have b' : x4 = 0 := by simpa using no b
      have hb' := hb a' b'
      obtain ⟨r1, r2⟩ := hr a'
      refine ⟨fun _ => ?_, fun c => by exfalso; rw [hb'] at c; simp at c⟩
      refine ⟨fun _ => ?_, fun c => absurd r1 (no c)⟩
      have e5 : IntKind.i64.wrap ((x1.length : Int) - 1) = W - 1 := by rw [r1]; exact w64 (by omega) (by omega)
      refine ⟨by rw [e5]; omega, ?_⟩
      rw [e5]
      exact ⟨[], [], .tt, leh0, leTT (decide_eq_true r2), rfl, rfl⟩

open Go.ChangeShapes Go.WideShapes Go.ChangeAt Go.RowKit
set_option maxRecDepth 100000 in
theorem order_lifted (os : Os) (started : os.Started) (H : Type) (enc : TypeId × Value → H) :
    ReturnsInHanded {} Try.checked os 4 .any (Rows.octalOrderSpec.pre6 enc Try.prog Try.f4 Rows.octalOrderRow.domain false) (Rows.octalOrderSpec.post enc Try.prog Try.f4 false true false false) := by
  refine returnsInHanded_of_change (C := Try.checked) own started (by kernel_rfl) Try.func4
    (ChangeSpec.witness6 (enc := enc) (C := Try.checked) false ⟨#[], #[.int .u32 0, .int .u32 0, .int .u8 0], []⟩ 8 (by kernel_rfl) (by kernel_rfl) (by kernel_rfl) (by kernel_rfl)) ?_
  intro W base args ds gs before hval0 hW hcnd _
  have hval : ∀ (j : Nat) t v, Try.f4.params[j]? = some t → args[j]? = some v → Value.okWide Try.prog W .any base t v := hval0
  have hW' := hW
  have hlt : ∀ x ∈ before, x.block < W.heap.size := fun x hx => hW.lt x hx
  obtain ⟨p, q, hA0, hV, rfl, hfz, hnd⟩ := hW
  have hA : DataW.TrodAll enc Try.prog W 0 (fun _ => true) true Try.f4.params.toList args.toList ds p := hA0
  rw [Try.params4] at hA hval
  obtain ⟨v0, v1, v2, d0, d1, d2, p0, p1, p2, rfl, rfl, rfl, h0, h1, h2⟩ := trodAll_three hA
  obtain ⟨rfl, rfl⟩ := trodVars_none hV
  clear hA0 hval0
  obtain ⟨n, rfl, e0, rfl, wn⟩ := open_int (k := .u32) (by kernel_rfl) (hval 0 _ v0 rfl rfl) h0
  obtain ⟨m, rfl, e1, rfl, wm⟩ := open_int (k := .u32) (by kernel_rfl) (hval 1 _ v1 rfl rfl) h1
  obtain ⟨w, rfl, e2, rfl, ww⟩ := open_int (k := .u8) (by kernel_rfl) (hval 2 _ v2 rfl rfl) h2
  refine (calls_of_acalls (order_prog n m w (wf_u32 wn) (wf_u32 wm) (wf_u8 ww)) rfl (fun i x hi => ?_)).mono fun e W' he => ?_
  · match i, hi with
    | 0, hi => exact ⟨_, rfl, by cases hi; rfl⟩
    | 1, hi => exact ⟨_, rfl, by cases hi; rfl⟩
    | 2, hi => exact ⟨_, rfl, by cases hi; rfl⟩
  obtain ⟨v, r, h', L', S', rfl, ⟨rfl, rfl⟩, hv, hB⟩ := he
  cases hv
  exact ⟨_, rfl, law_post laidOut (by intro t ht; rw [Try.params4] at ht; revert t; exact (by decide +kernel)) (t := 4) rfl (by kernel_rfl) rfl rfl hW' hB⟩

theorem order_holds : Rows.OctalOrderSaid :=
  OpenClaim.holds_of_wide 4 Try.f4 rfl rfl rfl rfl rfl rfl rfl ⟨rfl, rfl, rfl, rfl, rfl⟩ rfl rfl rfl rfl rfl (by kernel_rfl) Try.func4 (by kernel_rfl)
    (of_decide_eq_true (by kernel_rfl)) (by unfold Func.isWrapper; first | (rw [if_pos (by decide +kernel)]; kernel_rfl) | (rw [if_neg (by decide +kernel)]; exact ⟨rfl, rfl⟩))
    (fun os started H enc _ => order_lifted os started H enc)

end Go.Proofs.Ythfnifkallpmhaa.Oc
