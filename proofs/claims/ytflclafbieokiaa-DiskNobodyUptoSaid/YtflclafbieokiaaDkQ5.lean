/-
  The program's disk: what is lost.
-/
import Derived.Test.YtflclafbieokiaaDkQ4
set_option linter.unusedVariables false
set_option linter.unusedSectionVars false
set_option linter.unusedSimpArgs false
namespace Go.Proofs.Ytflclafbieokiaa.Dk
open Go AL Us

/-- One round of a crash. -/
def wrote (e : Dee) (bytes : Int) (m : FM) : FM := lostF m (some e) bytes
def roundM (keep bytes : Int) (k : Nat) (e : Dee) (m : FM) : FM := if (k : Int) = keep then wrote e bytes m else if (k : Int) < keep then actF e m else m
def curM (keep bytes : Int) (D : List Dee) (m : FM) : Nat → FM
  | 0 => m
  | k + 1 => roundM keep bytes k (D.getD k dee0) (curM keep bytes D m k)
theorem cur_lt {keep bytes : Int} {D : List Dee} {m : FM} : ∀ k : Nat, k ≤ D.length → (k : Int) ≤ keep → curM keep bytes D m k = (D.take k).foldl (fun m e => actF e m) m
  | 0, _, _ => by rw [List.take_zero]; rfl
  | k + 1, hk, hkk => by
    show roundM keep bytes k (D.getD k dee0) (curM keep bytes D m k) = _
    unfold roundM
    rw [if_neg (by omega), if_pos (by omega), cur_lt k (by omega) (by omega), List.take_succ_eq_append_getElem (by omega), List.foldl_append, List.getD_eq_getElem?_getD, List.getElem?_eq_getElem (by omega)]
    rfl
theorem cur_gt {keep bytes : Int} {D : List Dee} {m : FM} : ∀ k : Nat, k ≤ D.length → 0 ≤ keep → keep < k → curM keep bytes D m k = lostF ((D.take keep.toNat).foldl (fun m e => actF e m) m) D[keep.toNat]? bytes
  | 0, _, h0, hkk => by omega
  | k + 1, hk, h0, hkk => by
    show roundM keep bytes k (D.getD k dee0) (curM keep bytes D m k) = _
    unfold roundM
    by_cases h : (k : Int) = keep
    · have e : keep.toNat = k := by omega
      rw [if_pos h, e, cur_lt k (by omega) (by omega), List.getD_eq_getElem?_getD, List.getElem?_eq_getElem (by omega)]
      rfl
    · rw [if_neg h, if_neg (by omega), cur_gt k (by omega) h0 (by omega)]
theorem cur_neg {keep bytes : Int} {D : List Dee} {m : FM} (h : keep < 0) : ∀ k : Nat, curM keep bytes D m k = m
  | 0 => rfl
  | k + 1 => by
    show roundM keep bytes k (D.getD k dee0) (curM keep bytes D m k) = _
    unfold roundM
    rw [if_neg (by omega), if_neg (by omega), cur_neg h k]
theorem cur_end (d : DkF) (keep bytes : Int) : curM keep bytes d.deeds d.synced d.deeds.length = crashM d keep bytes := by
  unfold crashM nextD
  by_cases h : 0 ≤ keep
  · rw [if_pos h]
    by_cases h2 : keep < d.deeds.length
    · rw [cur_gt _ (Nat.le_refl _) h h2]
    · rw [cur_lt _ (Nat.le_refl _) (by omega), List.take_of_length_le (Nat.le_refl _), List.take_of_length_le (by omega), List.getElem?_eq_none (by omega)]
      rfl
  · rw [if_neg h, cur_neg (by omega), show keep.toNat = 0 by omega, List.take_zero]
    rfl
def cut4 (a b c d : AV) (f : Nat → AV) : Nat → AV
  | 0 => a
  | 1 => b
  | 2 => c
  | 3 => d
  | n + 4 => f (n + 4)
theorem cut4_eq {f : Nat → AV} {a b c d : AV} (h0 : f 0 = a) (h1 : f 1 = b) (h2 : f 2 = c) (h3 : f 3 = d) : f = cut4 a b c d f := funext fun i => by
  match i with
  | 0 => exact h0
  | 1 => exact h1
  | 2 => exact h2
  | 3 => exact h3
  | _ + 4 => rfl
section
variable [Globs]

/-- A disk behind a crash. -/
abbrev dkZ (d : DkF) : List AO := [dkA 4 5 3 d, .dead, .dead, .row (d.deeds.length * 4) (rowP d.deeds), .map (fmV d.now), .map (fmV d.synced)]



set_option maxHeartbeats 1000000 in
set_option maxRecDepth 10000 in
theorem crash_p (d : DkF) (keep bytes : Int) (hl : d.deeds.length ≤ 100000) : ACalls Try.prog 15 [.ptr 0 0, int .i64 keep, int .i64 bytes] (dkH d) (fun r h => r = .top ∧ h = dkZ (crashF d keep bytes)) := by
  have hc := clone_m d.synced
  have hend := cur_end d keep bytes
  have hcs : ∀ k, curM keep bytes d.deeds d.synced (k + 1) = roundM keep bytes k (d.deeds.getD k dee0) (curM keep bytes d.deeds d.synced k) := fun k => rfl
  have hc0 : curM keep bytes d.deeds d.synced 0 = d.synced := rfl
  have hF : crashF d keep bytes = syncF ⟨crashM d keep bytes, d.synced, d.deeds, d.room⟩ := rfl
  rw [hF, ← hend]
  have hsy := fun m => sync_p ⟨m, d.synced, d.deeds, d.room⟩
  generalize curM keep bytes d.deeds d.synced = cur at *
  clear hend hF
  obtain ⟨N, S, D, R⟩ := d
  simp only at hsy hcs hc0 hc hl
  refine rcalls Try.func15 rfl (by decide) ?_
  refine ⟨[2], _, fmVFree _, hc, ?_⟩
  rintro r hh ⟨rfl, rfl⟩
  refine ⟨.inl rfl, ?_⟩
  refine ⟨Nat, fun k => [(0, .ptr 0 0), (1, int .i64 keep), (2, int .i64 bytes), (22, .own 3 0 D.length 4), (23, int .i64 D.length), (24, int .i64 k)],
    fun k => [.lst [.mp 4, .mp 2, .own 3 0 D.length 4, int .i64 R], .dead, .map (fmV S), .row (D.length * 4) (rowP D), .map (fmV (cur k))], fun k => k ≤ D.length, fun k => D.length - k,
    ⟨0, [0, 1, 2, 3, 4], Nat.zero_le _, leh_rel (Nat.le_of_ble_eq_true rfl) (first4 rfl rfl rfl rfl) (by decide) ⟨⟨_, rfl, leDkA rfl rfl rfl rfl rfl⟩, ⟨_, rfl, .dead _⟩, ⟨_, rfl, leMap (by simp only [ren_fmV])⟩, ⟨_, rfl, leRowP D⟩, ⟨_, rfl, leMap (by simp only [ren_fmV]; rw [hc0])⟩, trivial⟩,
    ⟨.ptr 0 rfl, leI rfl, leI rfl, leOwn rfl rfl rfl, leI rfl, leI rfl, trivial⟩⟩, ?_⟩
  intro k hk
  have hk : k ≤ D.length := hk
  have e1 : IntKind.i64.wrap ((k : Int) + 1) = ((k + 1 : Nat) : Int) := by rw [w64 (by omega) (by omega)]; omega
  refine ⟨fun c => ?_, fun c => ?_⟩
  · have f1 : (k : Int) < D.length := yes c
    have hcs := hcs k
    have b1 : 0 ≤ (k : Int) ∧ (k : Int) < D.length := ⟨by omega, f1⟩
    have h4 : ∀ c, c < 4 → rowP D ((k : Int).toNat * 4 + c) = pdC (D.getD k dee0) c := fun c hc => by rw [Int.toNat_natCast]; exact rowP_at D hc
    generalize D.getD k dee0 = e at *
    refine ⟨b1, by show 0 + (k : Int).toNat * 4 + 4 ≤ _; omega, ?_⟩
    have h5 : ∀ c, c < 4 → rowP D (addOff 0 (k : Int).toNat 4 + c) = pdC e c := fun c hc => by
      show rowP D (0 + (k : Int).toNat * 4 + c) = _
      rw [Nat.zero_add]; exact h4 c hc
    rw [cut4_eq (f := fun i => rowP D (addOff 0 (k : Int).toNat 4 + i)) (h5 0 (by decide)) (h5 1 (by decide)) (h5 2 (by decide)) (h5 3 (by decide))]
    rcases e with ⟨n, b⟩ | ⟨a, t⟩ | ⟨a⟩
    · have hdo := wr_p (cur k) n b
      refine ⟨fun c => ?_, fun c => ?_⟩
      · have f2 : (k : Int) < keep := yes c
        have hcs : cur (k + 1) = actF (.wr n b) (cur k) := by rw [hcs]; unfold roundM; rw [if_neg (by omega), if_pos f2]
        refine .inr ⟨6, by decide +kernel, ?_⟩
        refine ⟨_, rfl, ?_⟩
        refine ⟨_, rfl, ?_⟩
        refine ⟨_, rfl, ?_⟩
        refine ⟨_, rfl, ?_⟩
        refine ⟨_, rfl, ?_⟩
        refine ⟨_, rfl, ?_⟩
        refine ⟨[4], _, fmVFree _, hdo, ?_⟩
        rintro r hh ⟨rfl, rfl⟩
        refine ⟨.inl rfl, ?_⟩
        refine ⟨fun c => ?_, fun c => ?_⟩
        · have f3 : (k : Int) = keep := yes c
          omega
        exact ⟨trivial, k + 1, [0, 1, 2, 3, 4], by show k + 1 ≤ D.length; omega, by show D.length - (k + 1) < D.length - k; omega, leh_rel (Nat.le_of_ble_eq_true rfl) (first4 rfl rfl rfl rfl) (by decide)
          ⟨⟨_, rfl, leDkA rfl rfl rfl rfl rfl⟩, ⟨_, rfl, .dead _⟩, ⟨_, rfl, leMap rfl⟩, ⟨_, rfl, leRowP D⟩, ⟨_, rfl, leMap (by rw [hcs] <;> simp only [ren_fmV])⟩, trivial⟩,
          ⟨.ptr 0 rfl, leI rfl, leI rfl, leOwn rfl rfl rfl, leI rfl, leI e1, trivial⟩⟩
      · have f2 : ¬ (k : Int) < keep := no c
        refine ⟨fun c => ?_, fun c => ?_⟩
        · have f3 : (k : Int) = keep := yes c
          have hcs : cur (k + 1) = lostF (cur k) (some (.wr n b)) bytes := by rw [hcs]; unfold roundM; rw [if_pos f3]; rfl
          refine ⟨fun _ => ?_, fun c => (by cases c)⟩
          refine ⟨fun c => ?_, fun c => ?_⟩
          · have f4 : 0 ≤ bytes := yes c
            have hcs : cur (k + 1) = setF n (b.take bytes.toNat) (cur k) := by rw [hcs]; show (if 0 ≤ bytes then _ else _) = _; rw [if_pos f4]
            have hset := set_fmV n (b.take bytes.toNat) (cur k)
            refine .inr ⟨11, by decide +kernel, ?_⟩
            refine ⟨_, rfl, ?_⟩
            refine ⟨_, rfl, ?_⟩
            refine ⟨_, rfl, ?_⟩
            refine ⟨_, rfl, ?_⟩
            refine ⟨_, rfl, ?_⟩
            refine ⟨_, rfl, ?_⟩
            refine ⟨_, rfl, ?_⟩
            refine ⟨_, rfl, ?_⟩
            refine ⟨_, rfl, ?_⟩
            refine ⟨_, rfl, ?_⟩
            refine ⟨_, ⟨⟨by omega, by omega, by omega⟩, rfl⟩, ?_⟩
            have et : b.take (min bytes (b.length : Int)).toNat = b.take bytes.toNat := by
              rcases Int.le_total bytes b.length with g | g
              · rw [Int.min_eq_left g]
              · rw [Int.min_eq_right g, List.take_of_length_le (by omega), List.take_of_length_le (by omega)]
            have hput : setM n (.roI .u8 (b.take (min bytes (b.length : Int)).toNat)) (fmV (cur k)) = fmV (cur (k + 1)) := by rw [et, hset, hcs]
            exact ⟨trivial, k + 1, [0, 1, 2, 3, 4], by show k + 1 ≤ D.length; omega, by show D.length - (k + 1) < D.length - k; omega, leh_rel (Nat.le_of_ble_eq_true rfl) (first4 rfl rfl rfl rfl) (by decide)
              ⟨⟨_, rfl, leDkA rfl rfl rfl rfl rfl⟩, ⟨_, rfl, .dead _⟩, ⟨_, rfl, leMap rfl⟩, ⟨_, rfl, leRowP D⟩, ⟨_, rfl, leMap hput⟩, trivial⟩,
              ⟨.ptr 0 rfl, leI rfl, leI rfl, leOwn rfl rfl rfl, leI rfl, leI e1, trivial⟩⟩
          · have f4 : ¬ 0 ≤ bytes := no c
            have hcs : cur (k + 1) = cur k := by rw [hcs]; show (if 0 ≤ bytes then _ else _) = _; rw [if_neg f4]
            exact ⟨trivial, k + 1, [0, 1, 2, 3, 4], by show k + 1 ≤ D.length; omega, by show D.length - (k + 1) < D.length - k; omega, leh_rel (Nat.le_of_ble_eq_true rfl) (first4 rfl rfl rfl rfl) (by decide)
              ⟨⟨_, rfl, leDkA rfl rfl rfl rfl rfl⟩, ⟨_, rfl, .dead _⟩, ⟨_, rfl, leMap rfl⟩, ⟨_, rfl, leRowP D⟩, ⟨_, rfl, leMap (by rw [hcs] <;> simp only [ren_fmV])⟩, trivial⟩,
              ⟨.ptr 0 rfl, leI rfl, leI rfl, leOwn rfl rfl rfl, leI rfl, leI e1, trivial⟩⟩
        have f3 : ¬ (k : Int) = keep := no c
        have hcs : cur (k + 1) = cur k := by rw [hcs]; unfold roundM; rw [if_neg f3, if_neg f2]
        exact ⟨trivial, k + 1, [0, 1, 2, 3, 4], by show k + 1 ≤ D.length; omega, by show D.length - (k + 1) < D.length - k; omega, leh_rel (Nat.le_of_ble_eq_true rfl) (first4 rfl rfl rfl rfl) (by decide)
          ⟨⟨_, rfl, leDkA rfl rfl rfl rfl rfl⟩, ⟨_, rfl, .dead _⟩, ⟨_, rfl, leMap rfl⟩, ⟨_, rfl, leRowP D⟩, ⟨_, rfl, leMap (by rw [hcs] <;> simp only [ren_fmV])⟩, trivial⟩,
          ⟨.ptr 0 rfl, leI rfl, leI rfl, leOwn rfl rfl rfl, leI rfl, leI e1, trivial⟩⟩
    · have hdo := mv_p (cur k) a t
      refine ⟨fun c => ?_, fun c => ?_⟩
      · have f2 : (k : Int) < keep := yes c
        have hcs : cur (k + 1) = actF (.mv a t) (cur k) := by rw [hcs]; unfold roundM; rw [if_neg (by omega), if_pos f2]
        refine .inr ⟨6, by decide +kernel, ?_⟩
        refine ⟨_, rfl, ?_⟩
        refine ⟨_, rfl, ?_⟩
        refine ⟨_, rfl, ?_⟩
        refine ⟨_, rfl, ?_⟩
        refine ⟨_, rfl, ?_⟩
        refine ⟨_, rfl, ?_⟩
        refine ⟨[4], _, fmVFree _, hdo, ?_⟩
        rintro r hh ⟨rfl, rfl⟩
        refine ⟨.inl rfl, ?_⟩
        refine ⟨fun c => ?_, fun c => ?_⟩
        · have f3 : (k : Int) = keep := yes c
          omega
        exact ⟨trivial, k + 1, [0, 1, 2, 3, 4], by show k + 1 ≤ D.length; omega, by show D.length - (k + 1) < D.length - k; omega, leh_rel (Nat.le_of_ble_eq_true rfl) (first4 rfl rfl rfl rfl) (by decide)
          ⟨⟨_, rfl, leDkA rfl rfl rfl rfl rfl⟩, ⟨_, rfl, .dead _⟩, ⟨_, rfl, leMap rfl⟩, ⟨_, rfl, leRowP D⟩, ⟨_, rfl, leMap (by rw [hcs] <;> simp only [ren_fmV])⟩, trivial⟩,
          ⟨.ptr 0 rfl, leI rfl, leI rfl, leOwn rfl rfl rfl, leI rfl, leI e1, trivial⟩⟩
      · have f2 : ¬ (k : Int) < keep := no c
        refine ⟨fun c => ?_, fun c => ?_⟩
        · have f3 : (k : Int) = keep := yes c
          have hcs : cur (k + 1) = cur k := by rw [hcs]; unfold roundM; rw [if_pos f3]; rfl
          refine ⟨fun c => (by cases c), fun _ => ?_⟩
          exact ⟨trivial, k + 1, [0, 1, 2, 3, 4], by show k + 1 ≤ D.length; omega, by show D.length - (k + 1) < D.length - k; omega, leh_rel (Nat.le_of_ble_eq_true rfl) (first4 rfl rfl rfl rfl) (by decide)
            ⟨⟨_, rfl, leDkA rfl rfl rfl rfl rfl⟩, ⟨_, rfl, .dead _⟩, ⟨_, rfl, leMap rfl⟩, ⟨_, rfl, leRowP D⟩, ⟨_, rfl, leMap (by rw [hcs] <;> simp only [ren_fmV])⟩, trivial⟩,
            ⟨.ptr 0 rfl, leI rfl, leI rfl, leOwn rfl rfl rfl, leI rfl, leI e1, trivial⟩⟩
        have f3 : ¬ (k : Int) = keep := no c
        have hcs : cur (k + 1) = cur k := by rw [hcs]; unfold roundM; rw [if_neg f3, if_neg f2]
        exact ⟨trivial, k + 1, [0, 1, 2, 3, 4], by show k + 1 ≤ D.length; omega, by show D.length - (k + 1) < D.length - k; omega, leh_rel (Nat.le_of_ble_eq_true rfl) (first4 rfl rfl rfl rfl) (by decide)
          ⟨⟨_, rfl, leDkA rfl rfl rfl rfl rfl⟩, ⟨_, rfl, .dead _⟩, ⟨_, rfl, leMap rfl⟩, ⟨_, rfl, leRowP D⟩, ⟨_, rfl, leMap (by rw [hcs] <;> simp only [ren_fmV])⟩, trivial⟩,
          ⟨.ptr 0 rfl, leI rfl, leI rfl, leOwn rfl rfl rfl, leI rfl, leI e1, trivial⟩⟩
    · have hdo := rm_p (cur k) a
      refine ⟨fun c => ?_, fun c => ?_⟩
      · have f2 : (k : Int) < keep := yes c
        have hcs : cur (k + 1) = actF (.rm a) (cur k) := by rw [hcs]; unfold roundM; rw [if_neg (by omega), if_pos f2]
        refine .inr ⟨6, by decide +kernel, ?_⟩
        refine ⟨_, rfl, ?_⟩
        refine ⟨_, rfl, ?_⟩
        refine ⟨_, rfl, ?_⟩
        refine ⟨_, rfl, ?_⟩
        refine ⟨_, rfl, ?_⟩
        refine ⟨_, rfl, ?_⟩
        refine ⟨[4], _, fmVFree _, hdo, ?_⟩
        rintro r hh ⟨rfl, rfl⟩
        refine ⟨.inl rfl, ?_⟩
        refine ⟨fun c => ?_, fun c => ?_⟩
        · have f3 : (k : Int) = keep := yes c
          omega
        exact ⟨trivial, k + 1, [0, 1, 2, 3, 4], by show k + 1 ≤ D.length; omega, by show D.length - (k + 1) < D.length - k; omega, leh_rel (Nat.le_of_ble_eq_true rfl) (first4 rfl rfl rfl rfl) (by decide)
          ⟨⟨_, rfl, leDkA rfl rfl rfl rfl rfl⟩, ⟨_, rfl, .dead _⟩, ⟨_, rfl, leMap rfl⟩, ⟨_, rfl, leRowP D⟩, ⟨_, rfl, leMap (by rw [hcs] <;> simp only [ren_fmV])⟩, trivial⟩,
          ⟨.ptr 0 rfl, leI rfl, leI rfl, leOwn rfl rfl rfl, leI rfl, leI e1, trivial⟩⟩
      · have f2 : ¬ (k : Int) < keep := no c
        refine ⟨fun c => ?_, fun c => ?_⟩
        · have f3 : (k : Int) = keep := yes c
          have hcs : cur (k + 1) = cur k := by rw [hcs]; unfold roundM; rw [if_pos f3]; rfl
          refine ⟨fun c => (by cases c), fun _ => ?_⟩
          exact ⟨trivial, k + 1, [0, 1, 2, 3, 4], by show k + 1 ≤ D.length; omega, by show D.length - (k + 1) < D.length - k; omega, leh_rel (Nat.le_of_ble_eq_true rfl) (first4 rfl rfl rfl rfl) (by decide)
            ⟨⟨_, rfl, leDkA rfl rfl rfl rfl rfl⟩, ⟨_, rfl, .dead _⟩, ⟨_, rfl, leMap rfl⟩, ⟨_, rfl, leRowP D⟩, ⟨_, rfl, leMap (by rw [hcs] <;> simp only [ren_fmV])⟩, trivial⟩,
            ⟨.ptr 0 rfl, leI rfl, leI rfl, leOwn rfl rfl rfl, leI rfl, leI e1, trivial⟩⟩
        have f3 : ¬ (k : Int) = keep := no c
        have hcs : cur (k + 1) = cur k := by rw [hcs]; unfold roundM; rw [if_neg f3, if_neg f2]
        exact ⟨trivial, k + 1, [0, 1, 2, 3, 4], by show k + 1 ≤ D.length; omega, by show D.length - (k + 1) < D.length - k; omega, leh_rel (Nat.le_of_ble_eq_true rfl) (first4 rfl rfl rfl rfl) (by decide)
          ⟨⟨_, rfl, leDkA rfl rfl rfl rfl rfl⟩, ⟨_, rfl, .dead _⟩, ⟨_, rfl, leMap rfl⟩, ⟨_, rfl, leRowP D⟩, ⟨_, rfl, leMap (by rw [hcs] <;> simp only [ren_fmV])⟩, trivial⟩,
          ⟨.ptr 0 rfl, leI rfl, leI rfl, leOwn rfl rfl rfl, leI rfl, leI e1, trivial⟩⟩
  · have f1 : ¬ (k : Int) < D.length := no c
    obtain rfl : k = D.length := by omega
    have hsy := hsy (cur D.length)
    refine ⟨[0, 4, 2, 3], _, fmVFree _, fmVFree _, fun i _ => rowPFree _ i, hsy, ?_⟩
    rintro r hh ⟨rfl, rfl⟩
    refine ⟨.inl rfl, ?_⟩
    exact ⟨[0, 1, 2, 3, 4, 5], dkZ (syncF ⟨cur D.length, S, D, R⟩), .top, leh_rel (Nat.le_of_ble_eq_true rfl) (first4 rfl rfl rfl rfl) (by decide)
      ⟨⟨_, rfl, leDkA rfl rfl rfl rfl rfl⟩, ⟨_, rfl, .dead _⟩, ⟨_, rfl, .dead _⟩, ⟨_, rfl, leRow0⟩, ⟨_, rfl, leMap (by simp only [ren_fmV])⟩, ⟨_, rfl, leMap (by simp only [ren_fmV])⟩, trivial⟩, .top _, rfl, rfl⟩
end
end Go.Proofs.Ytflclafbieokiaa.Dk
