/-
  What the law DiskBegins says, with no program in sight; a deed that is one of the three.
-/
import Derived.Test.YtflclafbieokiaaDkL3
set_option linter.unusedVariables false
set_option linter.unusedSectionVars false
set_option linter.unusedSimpArgs false
namespace Go.Proofs.Ytflclafbieokiaa.Dk
open Go AL Us

abbrev dee6 (e : De6) : Dee := toDee (de4 e)
def Lst (D : List De6) : List Fl := (D.map dee6).foldl (fun L e => actR e L) []
def Mst (D : List De6) : FM := (D.map dee6).foldl (fun m e => actF e m) []
theorem st_lst (D : List De6) : RelF (Mst D) (Lst D) := rel_acts rel_nil _
structure BgOk (k : Nat) (d : DkF) (D : List De6) : Prop where
  syn : d.synced = []
  deeds : d.deeds = D.map dee6
  fit : FitP 100 k d
  good : GoodD d
  len : D.length ≤ k
  oks : ∀ e ∈ D, okV 100 e.data
def stepB (p : DkF × List De6) (e : De6) : DkF × List De6 := if isD e ∧ ansF p.1 e = 0 then (stepF p.1 e, p.2 ++ [e]) else p
def bgS (l : List De6) (k : Nat) : DkF × List De6 := (l.take k).foldl stepB (newF 3000, [])
theorem bgS_succ {l : List De6} {k : Nat} (h : k < l.length) : bgS l (k + 1) = stepB (bgS l k) (l.getD k d60) := by
  unfold bgS
  rw [take6 h, List.foldl_append]; rfl
theorem step_ok {d : DkF} {e : De6} (hi : isD e) (h : ansF d e = 0) : stepF d e = ⟨actF (dee6 e) d.now, d.synced, d.deeds ++ [dee6 e], d.room⟩ := by
  unfold ansF at h
  rw [if_pos hi] at h
  unfold stepF doF
  rw [if_pos hi, if_pos h]
theorem bg_step {k : Nat} {d : DkF} {D : List De6} (h : BgOk k d D) {e : De6} (hb : okV 100 e.data) (hi : isD e) (ha : ansF d e = 0) : BgOk (k + 1) (stepF d e) (D ++ [e]) := by
  have h1 := step_ok hi ha
  refine ⟨by rw [h1]; exact h.syn, by rw [h1, List.map_append, ← h.deeds]; rfl, fit_step h.fit hb, good_step h.good e, by rw [List.length_append, List.length_singleton]; have := h.len; omega, fun x hx => ?_⟩
  rcases List.mem_append.1 hx with hx | hx
  · exact h.oks x hx
  · rw [List.mem_singleton.1 hx]; exact hb
theorem bg_more {k : Nat} {d : DkF} {D : List De6} (h : BgOk k d D) : BgOk (k + 1) d D := ⟨h.syn, h.deeds, fit_more h.fit (Nat.le_succ k), h.good, Nat.le_trans h.len (Nat.le_succ k), h.oks⟩
theorem bg_ok (l : List De6) (hs : smallD l) (hb : okD6 l) : ∀ k, k ≤ l.length → k ≤ 60 → BgOk k (bgS l k).1 (bgS l k).2
  | 0, _, _ => by
    unfold bgS
    rw [List.take_zero]
    exact ⟨rfl, rfl, fit_new 100 3000, good_new 3000, Nat.le_refl _, fun e he => by cases he⟩
  | k + 1, h, h60 => by
    have ih := bg_ok l hs hb k (by omega) (by omega)
    rw [bgS_succ h]
    unfold stepB
    split
    · rename_i h1
      exact bg_step ih (small_at hs hb h h60) h1.1 h1.2
    · exact bg_more ih
theorem bg_now {k : Nat} {d : DkF} {D : List De6} (h : BgOk k d D) : d.now = Mst D := by
  rw [h.good.is, h.syn, h.deeds]; rfl
theorem bg_rel {k : Nat} {d : DkF} {D : List De6} (h : BgOk k d D) : RelF d.now (Lst D) := by
  rw [bg_now h]; exact st_lst D

/-! Behind the crash. -/
def bgX (r : Int) (D : List De6) : DkR := ⟨Lst D, [], D.map dee6, r⟩
theorem bg_reld {k : Nat} {d : DkF} {D : List De6} (h : BgOk k d D) : RelD d (bgX d.room D) := ⟨bg_rel h, by rw [h.syn]; exact rel_nil, h.deeds, rfl⟩
/-- What is true of the files behind a crash. -/
structure BgAt (m : FM) (NL W : List Fl) (D : List De6) (K : Nat) (B : Int) : Prop where
  rel : RelF m NL
  same : ¬ (K < D.length ∧ (D.getD K d60).kind = 1) → NL = W
  len : NL.length ≤ W.length + 1
  own : K < D.length → (D.getD K d60).kind = 1 → getF (D.getD K d60).name m = some ((D.getD K d60).data.take B.toNat)
  other : ∀ i, i < W.length → (W.getD i fl0).path ≠ (D.getD K d60).name → getF (W.getD i fl0).path m = some (W.getD i fl0).data
theorem foldl_take (D : List De6) (K : Nat) : ((D.map dee6).take K).foldl (fun L e => actR e L) [] = Lst (D.take K) := by
  unfold Lst
  rw [List.map_take]
theorem foldm_take (D : List De6) (K : Nat) : ((D.map dee6).take K).foldl (fun m e => actF e m) [] = Mst (D.take K) := by
  unfold Mst
  rw [List.map_take]
theorem bg_at {k : Nat} {d : DkF} {D : List De6} (h : BgOk k d D) {K : Nat} (hK : K ≤ D.length) {B : Int} (hB : 0 ≤ B) : BgAt (crashF d K B).now (crashL (bgX d.room D) K B) (Lst (D.take K)) D K B := by
  have hrel : RelF (crashF d K B).now (crashL (bgX d.room D) K B) := (rel_crash (bg_reld h) K B).now
  have hm : (crashF d K B).now = lostF (Mst (D.take K)) (nextD (D.map dee6) K) B := by
    show crashM d K B = _
    unfold crashM
    rw [h.syn, h.deeds, Int.toNat_natCast, foldm_take]
  have hl : crashL (bgX d.room D) K B = lostR (Lst (D.take K)) (nextD (D.map dee6) K) B := by
    unfold crashL
    show lostR (((D.map dee6).take (K : Int).toNat).foldl _ []) _ B = _
    rw [Int.toNat_natCast, foldl_take]; rfl
  have hn : nextD (D.map dee6) K = (D.map dee6)[K]? := by
    unfold nextD
    rw [if_pos (by omega), Int.toNat_natCast]
  rw [hn] at hm hl
  have hg : K < D.length → D[K]? = some (D.getD K d60) := fun hk => by rw [List.getD_eq_getElem?_getD, List.getElem?_eq_getElem hk]; rfl
  have hwr : K < D.length → (D.getD K d60).kind = 1 → (D.map dee6)[K]? = some (.wr (D.getD K d60).name (D.getD K d60).data) := fun hk h1 => by
    rw [List.getElem?_map, hg hk]
    show some (toDee (de4 (D.getD K d60))) = _
    unfold toDee
    rw [if_pos (show (de4 (D.getD K d60)).kind = 1 from h1)]; rfl
  have hno : ¬ (K < D.length ∧ (D.getD K d60).kind = 1) → ∀ n b, (D.map dee6)[K]? ≠ some (.wr n b) := fun hx n b he => by
    rcases Nat.lt_or_ge K D.length with hk | hk
    · rw [List.getElem?_map, hg hk] at he
      have he : some (toDee (de4 (D.getD K d60))) = some (.wr n b) := he
      have hk1 : ¬ (de4 (D.getD K d60)).kind = 1 := fun x => hx ⟨hk, x⟩
      unfold toDee at he
      rw [if_neg hk1] at he
      split at he
      · injection he with he; cases he
      · injection he with he; cases he
    · rw [List.getElem?_eq_none (by rw [List.length_map]; exact hk)] at he
      cases he
  have hsm : ¬ (K < D.length ∧ (D.getD K d60).kind = 1) → (crashF d K B).now = Mst (D.take K) ∧ crashL (bgX d.room D) K B = Lst (D.take K) := fun hx => by
    rw [hm, hl]
    have h2 := hno hx
    generalize (D.map dee6)[K]? = o at *
    match o, h2 with
    | none, _ => exact ⟨rfl, rfl⟩
    | some (.wr n b), h2 => exact absurd rfl (h2 n b)
    | some (.mv _ _), _ => exact ⟨rfl, rfl⟩
    | some (.rm _), _ => exact ⟨rfl, rfl⟩
  have hwm : K < D.length → (D.getD K d60).kind = 1 → (crashF d K B).now = setF (D.getD K d60).name ((D.getD K d60).data.take B.toNat) (Mst (D.take K)) ∧ crashL (bgX d.room D) K B = withR (D.getD K d60).name ((D.getD K d60).data.take B.toNat) (Lst (D.take K)) := fun hk h1 => by
    rw [hm, hl, hwr hk h1]
    exact ⟨if_pos hB, if_pos hB⟩
  have hW := st_lst (D.take K)
  refine ⟨hrel, fun hx => (hsm hx).2, ?_, fun hk h1 => ?_, fun i hi hne => ?_⟩
  · by_cases hx : K < D.length ∧ (D.getD K d60).kind = 1
    · rw [(hwm hx.1 hx.2).2]; exact withR_len _ _ _
    · rw [(hsm hx).2]; omega
  · rw [(hwm hk h1).1]; exact get_set_same _ _ _
  · have h3 := rel_file hW hi
    by_cases hx : K < D.length ∧ (D.getD K d60).kind = 1
    · rw [(hwm hx.1 hx.2).1, get_set_other hne]; exact h3
    · rw [(hsm hx).1]; exact h3
/-- .. and of the files that were. -/
theorem bg_was {k : Nat} {d : DkF} {D : List De6} (h : BgOk k d D) (K : Nat) : okBytes (Lst (D.take K)) ∧ (Lst (D.take K)).length ≤ k := by
  have h1 : ∀ e ∈ (D.take K).map dee6, okE 100 e := fun e he => h.fit.deeds e (by
    rw [h.deeds]
    obtain ⟨x, hx, rfl⟩ := List.mem_map.1 he
    exact List.mem_map.2 ⟨x, List.mem_of_mem_take hx, rfl⟩)
  have h2 : okM 100 (Mst (D.take K)) := okM_acts (fun p hp => by cases hp) h1
  have h3 := acts_len ((D.take K).map dee6) []
  have h4 := rel_len (st_lst (D.take K))
  refine ⟨fit_bytes (st_lst _) h2, ?_⟩
  rw [h4]
  have h5 := h.len
  rw [List.length_map, List.length_take] at h3
  have h3 : (Mst (D.take K)).length ≤ 0 + min K D.length := h3
  omega

/-- The files behind each of the first so many deeds. -/
def Sts (D : List De6) : List (List Fl) := (List.range (D.length + 1)).map fun j => Lst (D.take j)
theorem sts_len (D : List De6) : (Sts D).length = D.length + 1 := by unfold Sts; simp
theorem sts_get (D : List De6) {K : Nat} (h : K ≤ D.length) : (Sts D).getD K [] = Lst (D.take K) := by
  unfold Sts
  rw [List.getD_eq_getElem?_getD, List.getElem?_map, List.getElem?_range (by omega)]; rfl
theorem sts_more (D : List De6) (e : De6) : Sts (D ++ [e]) = Sts D ++ [Lst (D ++ [e])] := by
  unfold Sts
  rw [List.length_append, List.length_singleton, List.range_succ, List.map_append]
  congr 1
  · refine List.map_congr_left fun j hj => ?_
    rw [List.take_append_of_le_length (by have := List.mem_range.1 hj; omega)]
  · show [Lst ((D ++ [e]).take (D.length + 1))] = _
    rw [List.take_of_length_le (by rw [List.length_append, List.length_singleton]; omega)]
def rowS (T : List (List Fl)) (i : Nat) : AV := flsV (T.getD i [])
theorem rowS_old (T : List (List Fl)) (L : List Fl) {i : Nat} (h : i < T.length) : rowS (T ++ [L]) i = rowS T i := by
  unfold rowS
  rw [List.getD_eq_getElem?_getD, List.getElem?_append_left h, List.getD_eq_getElem?_getD]
theorem rowS_new (T : List (List Fl)) (L : List Fl) : rowS (T ++ [L]) T.length = flsV L := by
  unfold rowS
  rw [List.getD_eq_getElem?_getD, List.getElem?_append_right (Nat.le_refl _), Nat.sub_self]; rfl
theorem rowG_old (l : List De6) (e : De6) {i : Nat} (h : i < l.length * 6) : rowG (l ++ [e]) i = rowG l i := by
  unfold rowG
  have : i / 6 < l.length := by omega
  rw [List.getD_eq_getElem?_getD, List.getElem?_append_left this, List.getD_eq_getElem?_getD]
theorem rowG_new (l : List De6) (e : De6) {i : Nat} (h : i < 6) : rowG (l ++ [e]) (l.length * 6 + i) = de6C e i := by
  unfold rowG
  have h1 : (l.length * 6 + i) / 6 = l.length := by omega
  have h2 : (l.length * 6 + i) % 6 = i := by omega
  rw [h1, h2, List.getD_eq_getElem?_getD, List.getElem?_append_right (Nat.le_refl _), Nat.sub_self]
  rfl
theorem de6C_cell1 (e : De6) : ∀ c, cell1 (de6C e c) = true
  | 0 => rfl
  | 1 => rfl
  | 2 => rfl
  | 3 => rfl
  | 4 => rfl
  | _ + 5 => rfl
section
variable [Globs]


set_option maxHeartbeats 1000000 in
set_option maxRecDepth 10000 in
theorem do_d (d : DkF) (e : De6) (hi : isD e) (hs : sizeF d.now ≤ 2305843009213693952) (hb : e.data.length ≤ 140737488355328) (hl : d.deeds.length ≤ 100000) :
    ACalls Try.prog 12 [.ptr 0 0, de6V e] (dkH d) (fun r h => (ansF d e = 0 ∧ r = int .i64 0 ∧ h = dkN (stepF d e)) ∨ (ansF d e ≠ 0 ∧ r = int .i64 (ansF d e) ∧ h = dkH d)) := by
  have h1 := write_p d e.name e.data hs hb hl
  have h2 := rename_p d e.name e.to hl
  have h3 := remove_p d e.name hl
  have hst : ∀ E, toDee (de4 e) = E → (errF d E = 0 → stepF d e = noteF d E) ∧ (errF d E ≠ 0 → stepF d e = d) ∧ ansF d e = errF d E := fun E h => by
    unfold stepF ansF doF
    rw [if_pos hi, if_pos hi, h]
    refine ⟨fun g => by rw [if_pos g]; rfl, fun g => by rw [if_neg g], rfl⟩
  generalize stepF d e = S at *
  generalize ansF d e = A at *
  obtain ⟨K, a, b, n, t, D⟩ := e
  have hi : 1 ≤ K ∧ K ≤ 3 := hi
  simp only at h1 h2 h3
  refine rcalls Try.func12 rfl (by decide) ?_
  refine ⟨fun c => ?_, fun c => ?_⟩
  · have f1 : K = 1 := yes c
    subst f1
    obtain ⟨g1, g2, g3⟩ := hst (.wr n D) rfl
    refine ⟨[0, 1, 2, 3], _, (by (try simp only [ren_fmV]); exact fmVFree _), (by (try simp only [ren_fmV]); exact fmVFree _), (by (try simp only [ren_rowP]); exact fun i _ => rowPFree _ i), at_h ?_ (h1), ?_⟩
    · exact dkH_eq (by first | simp only [ren_fmV] | rfl) (by first | simp only [ren_fmV] | rfl) (by first | simp only [ren_rowP] | rfl)
    rintro r hh (⟨he, rfl, rfl⟩ | ⟨he, rfl, rfl⟩)
    · refine ⟨.inl rfl, ?_⟩
      exact ⟨[0, 1, 2, 3, 5], dkN (noteF d (.wr n D)), _, leh_rel (Nat.le_of_ble_eq_true rfl) (first4 rfl rfl rfl rfl) (by decide)
        ⟨⟨_, rfl, leDkA rfl rfl rfl rfl rfl⟩, ⟨_, rfl, leMap (by simp only [ren_fmV])⟩, ⟨_, rfl, leMap (by simp only [ren_fmV])⟩, ⟨_, rfl, .dead _⟩, ⟨_, rfl, leRowQ rfl (by simp only [ren_rowP])⟩, trivial⟩, leI rfl, .inl ⟨by rw [g3, he], rfl, by rw [g1 he]⟩⟩
    · refine ⟨.inl rfl, ?_⟩
      exact ⟨[0, 1, 2, 3], dkH d, _, lehDk rfl rfl rfl rfl (by simp only [ren_fmV]) (by simp only [ren_fmV]) rfl (by simp only [ren_rowP]), leI (g3.symm), .inr ⟨by rw [g3]; exact he, rfl, rfl⟩⟩
  refine ⟨fun c => ?_, fun c => ?_⟩
  · have f1 : K = 2 := yes c
    subst f1
    obtain ⟨g1, g2, g3⟩ := hst (.mv n t) rfl
    refine ⟨[0, 1, 2, 3], _, (by (try simp only [ren_fmV]); exact fmVFree _), (by (try simp only [ren_fmV]); exact fmVFree _), (by (try simp only [ren_rowP]); exact fun i _ => rowPFree _ i), at_h ?_ (h2), ?_⟩
    · exact dkH_eq (by first | simp only [ren_fmV] | rfl) (by first | simp only [ren_fmV] | rfl) (by first | simp only [ren_rowP] | rfl)
    rintro r hh (⟨he, rfl, rfl⟩ | ⟨he, rfl, rfl⟩)
    · refine ⟨.inl rfl, ?_⟩
      exact ⟨[0, 1, 2, 3, 5], dkN (noteF d (.mv n t)), _, leh_rel (Nat.le_of_ble_eq_true rfl) (first4 rfl rfl rfl rfl) (by decide)
        ⟨⟨_, rfl, leDkA rfl rfl rfl rfl rfl⟩, ⟨_, rfl, leMap (by simp only [ren_fmV])⟩, ⟨_, rfl, leMap (by simp only [ren_fmV])⟩, ⟨_, rfl, .dead _⟩, ⟨_, rfl, leRowQ rfl (by simp only [ren_rowP])⟩, trivial⟩, leI rfl, .inl ⟨by rw [g3, he], rfl, by rw [g1 he]⟩⟩
    · refine ⟨.inl rfl, ?_⟩
      exact ⟨[0, 1, 2, 3], dkH d, _, lehDk rfl rfl rfl rfl (by simp only [ren_fmV]) (by simp only [ren_fmV]) rfl (by simp only [ren_rowP]), leI (g3.symm), .inr ⟨by rw [g3]; exact he, rfl, rfl⟩⟩
  refine ⟨fun c => ?_, fun c => ?_⟩
  · have f1 : K = 3 := yes c
    subst f1
    obtain ⟨g1, g2, g3⟩ := hst (.rm n) rfl
    refine ⟨[0, 1, 2, 3], _, (by (try simp only [ren_fmV]); exact fmVFree _), (by (try simp only [ren_fmV]); exact fmVFree _), (by (try simp only [ren_rowP]); exact fun i _ => rowPFree _ i), at_h ?_ (h3), ?_⟩
    · exact dkH_eq (by first | simp only [ren_fmV] | rfl) (by first | simp only [ren_fmV] | rfl) (by first | simp only [ren_rowP] | rfl)
    rintro r hh (⟨he, rfl, rfl⟩ | ⟨he, rfl, rfl⟩)
    · refine ⟨.inl rfl, ?_⟩
      exact ⟨[0, 1, 2, 3, 5], dkN (noteF d (.rm n)), _, leh_rel (Nat.le_of_ble_eq_true rfl) (first4 rfl rfl rfl rfl) (by decide)
        ⟨⟨_, rfl, leDkA rfl rfl rfl rfl rfl⟩, ⟨_, rfl, leMap (by simp only [ren_fmV])⟩, ⟨_, rfl, leMap (by simp only [ren_fmV])⟩, ⟨_, rfl, .dead _⟩, ⟨_, rfl, leRowQ rfl (by simp only [ren_rowP])⟩, trivial⟩, leI rfl, .inl ⟨by rw [g3, he], rfl, by rw [g1 he]⟩⟩
    · refine ⟨.inl rfl, ?_⟩
      exact ⟨[0, 1, 2, 3], dkH d, _, lehDk rfl rfl rfl rfl (by simp only [ren_fmV]) (by simp only [ren_fmV]) rfl (by simp only [ren_rowP]), leI (g3.symm), .inr ⟨by rw [g3]; exact he, rfl, rfl⟩⟩
  · rename_i c1 c2
    have f2 : ¬ K = 1 := no c1
    have f3 : ¬ K = 2 := no c2
    have f4 : ¬ K = 3 := no c
    omega
end
end Go.Proofs.Ytflclafbieokiaa.Dk
