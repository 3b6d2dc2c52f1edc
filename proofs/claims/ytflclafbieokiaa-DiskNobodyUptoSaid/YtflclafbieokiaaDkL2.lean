/-
  The laws of disks: what the document has of a deed; the files of a disk.
-/
import Derived.Test.YtflclafbieokiaaDkL1
set_option linter.unusedVariables false
set_option linter.unusedSectionVars false
set_option linter.unusedSimpArgs false
namespace Go.Proofs.Ytflclafbieokiaa.Dk
open Go AL Us
section
variable [Globs]


set_option maxHeartbeats 1000000 in
set_option maxRecDepth 10000 in
theorem want_p (x : DkD) (e : De6) (hf : FitD x) (hb : e.data.length ≤ 1000000000000) (hr0 : 0 ≤ x.room) :
    ACalls Try.prog 25 [dkdV x, de6V e] [] (fun r h => r = tupR (stepD x e) (ansD x e) ∧ h = []) := by
  have h1 := do_r x (de4 e) hf hb hr0
  have h4 := sync_r x
  have h5 := crash_r x e.a e.b hf
  have hst : isD e → stepD x e = doD x (de4 e) ∧ ansD x e = errD x (de4 e) := fun h => by
    unfold stepD ansD
    rw [if_pos h, if_pos h]; exact ⟨rfl, rfl⟩
  have hsy : e.kind = 4 → stepD x e = syncD x ∧ ansD x e = 0 := fun h => by
    have hn : ¬ isD e := by unfold isD; omega
    unfold stepD ansD
    rw [if_neg hn, if_neg hn, if_pos h]; exact ⟨rfl, rfl⟩
  have hcr : ¬ isD e → e.kind ≠ 4 → stepD x e = crashD x e.a e.b ∧ ansD x e = 0 := fun hi h => by
    unfold stepD ansD
    rw [if_neg hi, if_neg hi, if_neg h]; exact ⟨rfl, rfl⟩
  unfold tupR at h1 ⊢
  generalize stepD x e = S at *
  generalize ansD x e = A at *
  generalize doD x (de4 e) = DD at *
  generalize errD x (de4 e) = EE at *
  obtain ⟨K, a, b, n, t, D⟩ := e
  have hde : de4 ⟨K, a, b, n, t, D⟩ = ⟨K, n, t, D⟩ := rfl
  rw [hde] at h1
  simp only at h5 hsy hcr
  generalize crashD x a b = CC at *
  refine rcalls Try.func25 rfl (by decide) ?_
  refine ⟨fun c => ?_, fun c => ?_⟩
  · have f1 : 1 ≤ K := yes c
    refine ⟨fun c => ?_, fun c => ?_⟩
    · have f2 : K ≤ 3 := yes c
      obtain ⟨g1, g2⟩ := hst ⟨f1, f2⟩
      rw [g1, g2]
      refine ⟨[], _, (fun i hi => fr4 (dkdC_free x) hi), fourF trivial trivial trivial trivial, h1.args ⟨vdk fun i hi => ld4 hi, vagg (vfour (VLe.refl _) (VLe.refl _) (VLe.refl _) (VLe.refl _)), trivial⟩, ?_⟩
      rintro r hh ⟨rfl, rfl⟩
      refine ⟨.inl rfl, ?_⟩
      exact ⟨[], [], _, lehN _, le_pair (leDk rfl rfl rfl rfl rfl) (leI rfl), rfl, rfl⟩
    · have f2 : ¬ K ≤ 3 := no c
      refine ⟨fun c => ?_, fun c => ?_⟩
      · have f3 : K = 4 := yes c
        obtain ⟨g1, g2⟩ := hsy f3
        rw [g1, g2]
        refine ⟨[], _, (fun i hi => fr4 (dkdC_free x) hi), h4.args ⟨vdk fun i hi => ld4 hi, trivial⟩, ?_⟩
        rintro r hh ⟨rfl, rfl⟩
        refine ⟨.inl rfl, ?_⟩
        exact ⟨[], [], _, lehN _, le_pair (leDk rfl rfl rfl rfl rfl) (leI rfl), rfl, rfl⟩
      · have f3 : ¬ K = 4 := no c
        obtain ⟨g1, g2⟩ := hcr (by unfold isD; show ¬ (1 ≤ K ∧ K ≤ 3); omega) f3
        rw [g1, g2]
        refine ⟨[], _, (fun i hi => fr4 (dkdC_free x) hi), h5.args ⟨vdk fun i hi => ld4 hi, VLe.refl _, VLe.refl _, trivial⟩, ?_⟩
        rintro r hh ⟨rfl, rfl⟩
        refine ⟨.inl rfl, ?_⟩
        exact ⟨[], [], _, lehN _, le_pair (leDk rfl rfl rfl rfl rfl) (leI rfl), rfl, rfl⟩
  · have f1 : ¬ 1 ≤ K := no c
    refine ⟨fun c => ?_, fun c => ?_⟩
    · have f3 : K = 4 := yes c
      obtain ⟨g1, g2⟩ := hsy f3
      rw [g1, g2]
      refine ⟨[], _, (fun i hi => fr4 (dkdC_free x) hi), h4.args ⟨vdk fun i hi => ld4 hi, trivial⟩, ?_⟩
      rintro r hh ⟨rfl, rfl⟩
      refine ⟨.inl rfl, ?_⟩
      exact ⟨[], [], _, lehN _, le_pair (leDk rfl rfl rfl rfl rfl) (leI rfl), rfl, rfl⟩
    · have f3 : ¬ K = 4 := no c
      obtain ⟨g1, g2⟩ := hcr (by unfold isD; show ¬ (1 ≤ K ∧ K ≤ 3); omega) f3
      rw [g1, g2]
      refine ⟨[], _, (fun i hi => fr4 (dkdC_free x) hi), h5.args ⟨vdk fun i hi => ld4 hi, VLe.refl _, VLe.refl _, trivial⟩, ?_⟩
      rintro r hh ⟨rfl, rfl⟩
      refine ⟨.inl rfl, ?_⟩
      exact ⟨[], [], _, lehN _, le_pair (leDk rfl rfl rfl rfl rfl) (leI rfl), rfl, rfl⟩

/-- What a call hands back, known less. -/
theorem lessD {P : Program} {f : FuncId} {xs : List AV} {hp : List AO} {R R' : AV → List AO → Prop} (hc : ACalls P f xs hp R) (hr : ∀ r h', R r h' → ∃ l h1 b, LeH hp.length h' l h1 ∧ LeV h' l r b ∧ R' b h1) : ACalls P f xs hp R' :=
  ⟨hc.1, fun S0 L w vs hh hS hn hv => (hc.2 S0 L w vs hh hS hn hv).mono fun e w' ⟨v, r, h', L', h1, h2, h3, h4⟩ => by
    obtain ⟨l, h1', b, g1, g2, g3⟩ := hr _ _ h2
    exact ⟨v, b, h1', L'.view l, h1, g3, AL.leh_rel h3 g1, LeV.den h3 (leh_seen h3 g1) g2 h4⟩⟩
/-- Four blocks that were handed over, and others, some of them new. -/
theorem leh_relN {h : List AO} {r : List Nat} {o0 o1 o2 o3 : AO} {s : List AO} (hd : (0 :: 1 :: 2 :: 3 :: r).Nodup) (e1 : relH h (0 :: 1 :: 2 :: 3 :: r) [0, 1, 2, 3] [o0, o1, o2, o3]) (e2 : relG h (0 :: 1 :: 2 :: 3 :: r) r s) :
    LeH 4 h (0 :: 1 :: 2 :: 3 :: r) (o0 :: o1 :: o2 :: o3 :: s) :=
  ⟨by have := (relG_at e2).1; simp [this], by show 4 ≤ r.length + 4; omega, fun i hi => by
    match i, hi with
    | 0, _ => rfl
    | 1, _ => rfl
    | 2, _ => rfl
    | 3, _ => rfl, hd, fun i j o hi ho => by
    rcases Nat.lt_or_ge i 4 with g | g
    · refine .inl ((relH_at e1).2 i j o ?_ ?_)
      · match i, g, hi with
        | 0, _, hi => exact hi
        | 1, _, hi => exact hi
        | 2, _, hi => exact hi
        | 3, _, hi => exact hi
      · match i, g, ho with
        | 0, _, ho => exact ho
        | 1, _, ho => exact ho
        | 2, _, ho => exact ho
        | 3, _, ho => exact ho
    · obtain ⟨m, rfl⟩ : ∃ m, i = m + 4 := ⟨i - 4, by omega⟩
      rcases (relG_at e2).2 m j o hi ho with g1 | ⟨g1, g2⟩
      · exact .inl g1
      · exact .inr ⟨by omega, g1, g2⟩⟩
theorem leFl {h : List AO} {l : List Nat} {n : Nat} {f : Nat → AV} {M : List Fl} (hn : n = M.length) (hf : ∀ i, i < n * 2 → f i = rowF M i) : LeO h l (.row (n * 2) f) (.row (M.length * 2) (rowF M)) := by
  subst hn
  exact .row _ _ _ _ (Nat.le_refl _) fun i hi => by rw [hf i hi]; exact .same _ (rowFree M i)

/-- What is told of a file, its bytes the teller's no more. -/
theorem get_ro (d : DkF) (s : ByteArray) (hl : ∀ v, getF s d.now = some v → v.length ≤ 140737488355328) : ACalls Try.prog 18 [.ptr 0 0, str s] (dkH d)
    (fun r h => r = .tup 2 (pair (.roI .u8 ((getF s d.now).getD [])) (bool (getF s d.now).isSome)) ∧ h = dkH d) :=
  lessD (get_p d s hl) fun r h' ⟨xs, e0, e1, e2⟩ => by
    subst e1 e2
    exact ⟨[0, 1, 2, 3], dkH d, .tup 2 (pair (.roI .u8 xs) (bool (getF s d.now).isSome)), lehDk rfl rfl rfl rfl rfl rfl rfl rfl, le_pair (.giveI xs rfl (by simp) (Nat.le_of_eq (Nat.zero_add _)) (by rw [List.drop_zero, List.take_length])) (.same _ trivial), by rw [e0], rfl⟩

theorem get_top (d : DkF) (s : ByteArray) (hl : ∀ v, getF s d.now = some v → v.length ≤ 140737488355328) : ACalls Try.prog 18 [.ptr 0 0, str s] (dkH d)
    (fun r h => r = .tup 2 (pair (.roI .u8 ((getF s d.now).getD [])) (bool (getF s d.now).isSome)) ∧ h = dkH d) := get_ro d s hl

set_option maxHeartbeats 1000000 in
set_option maxRecDepth 10000 in
theorem files_p (d : DkF) (L : List Fl) (hL : RelF d.now L) (hk : ∀ p ∈ d.now, p.1.size ≤ 40 ∧ p.2.length ≤ 140737488355328) (hl : d.now.length ≤ 100000) :
    ACalls Try.prog 14 [.ptr 0 0] (dkH d) (fun r h => r = flsV L ∧ h = dkH d) := by
  have h1 := list_p d hL.keys (fun p hp => Nat.le_trans (hk p hp).1 (by decide)) (by omega)
  have h2 : ∀ k, k < L.length → ACalls Try.prog 18 [.ptr 0 0, str (L.getD k fl0).path] (dkH d) (fun r h => r = .tup 2 (pair (.roI .u8 (L.getD k fl0).data) (bool true)) ∧ h = dkH d) := fun k hk' => by
    have hg := rel_file hL hk'
    have := get_ro d (L.getD k fl0).path fun v hv => by
      have : (_, v) ∈ d.now := (getF_mem hL.keys).1 hv
      exact (hk _ this).2
    rw [hg] at this
    exact this
  have hll := rel_len hL
  have hna : ∀ ns, NamesOf d.now ns → ns = L.map Fl.path := fun ns h => names_are hL h
  refine rcalls Try.func14 rfl (by decide) ?_
  refine ⟨[0, 1, 2, 3], _, (by (try simp only [ren_fmV]); exact fmVFree _), (by (try simp only [ren_fmV]); exact fmVFree _), (by (try simp only [ren_rowP]); exact fun i _ => rowPFree _ i), at_h ?_ (h1), ?_⟩
  · exact dkH_eq (by first | simp only [ren_fmV] | rfl) (by first | simp only [ren_fmV] | rfl) (by first | simp only [ren_rowP] | rfl)
  rintro r hh ⟨ns, hns, rfl, rfl⟩
  refine ⟨.inl rfl, ?_⟩
  have hns := hna ns hns
  have hnl : ns.length = L.length := by rw [hns, List.length_map]
  have hng : ∀ k, k < L.length → ns.getD k ByteArray.empty = (L.getD k fl0).path := fun k hk => by
    rw [hns, List.getD_eq_getElem?_getD, List.getD_eq_getElem?_getD, List.getElem?_map, List.getElem?_eq_getElem hk]; rfl
  clear hns hna
  refine ⟨Nat, fun k => [(0, .ptr 0 0), (3, .own 4 0 k 2), (4, namesV ns), (5, int .i64 k)], fun k => dkH d ++ [.row (k * 2) (rowF (L.take k))], fun k => k ≤ L.length, fun k => L.length - k,
    ⟨0, [0, 1, 2, 3, 4], Nat.zero_le _, ?_, ?_⟩, ?_⟩
  · exact leh_relN (by decide) ⟨⟨_, rfl, leDkL rfl rfl rfl rfl rfl⟩, ⟨_, rfl, leMap (by simp only [ren_fmV])⟩, ⟨_, rfl, leMap (by simp only [ren_fmV])⟩, ⟨_, rfl, leRowQ rfl (by simp only [ren_rowP])⟩, trivial⟩ ⟨.inr ⟨Nat.le_refl 4, .inr (.inr ⟨_, rfl⟩)⟩, trivial⟩
  · exact ⟨.ptr 0 rfl, .nil _ _ (by decide), .same _ trivial, leI rfl, trivial⟩
  intro k hk
  have hk : k ≤ L.length := hk
  have e1 : IntKind.i64.wrap ((k : Int) + 1) = ((k + 1 : Nat) : Int) := by rw [w64 (by omega) (by omega)]; omega
  refine ⟨fun c => ?_, fun c => ?_⟩
  · have f1 : (k : Int) < ns.length := yes c
    have hlt : k < L.length := by omega
    have h2 := h2 k hlt
    have hng := hng k hlt
    have hts := take_succ_fl hlt
    generalize L.getD k fl0 = F at *
    have hlk : (L.take k).length = k := by rw [List.length_take]; omega
    have hold := fun {i : Nat} (h : i < k * 2) => rowF_old (L.take k) F (i := i) (by omega)
    have hnew := fun {i : Nat} (h : i < 2) => rowF_new (L.take k) F h
    rw [hlk] at hnew
    have hng2 : ∀ j, j = k → ns.getD j ByteArray.empty = F.path := fun j e => by rw [e]; exact hng
    have h2' : ∀ X, X = F.path → ACalls Try.prog 18 [.ptr 0 0, str X] (dkH d) (fun r h => r = .tup 2 (pair (.roI .u8 F.data) (bool true)) ∧ h = dkH d) := fun X e => by rw [e]; exact h2
    refine ⟨⟨by omega, by omega⟩, ?_⟩
    refine ⟨[0, 1, 2, 3], _, (by (try simp only [ren_fmV]); exact fmVFree _), (by (try simp only [ren_fmV]); exact fmVFree _), (by (try simp only [ren_rowP]); exact fun i _ => rowPFree _ i), at_h ?_ (h2' _ ((congrArg (fun j => ns.getD j ByteArray.empty) (by omega)).trans hng)), ?_⟩
    · exact dkH_eq (by first | simp only [ren_fmV] | rfl) (by first | simp only [ren_fmV] | rfl) (by first | simp only [ren_rowP] | rfl)
    rintro r hh ⟨rfl, rfl⟩
    refine ⟨.inl rfl, ?_⟩
    refine ⟨⟨by omega, by omega⟩, ?_⟩
    refine ⟨rfl, fun i _ => rowCell1 (L.take k) i, Nat.le_refl 2, by show (k + 1) * 40 ≤ _; omega, fun i hi => ?_, rowF (L.take k ++ [F]), fun i hi => hold hi, fun i hi => ?_, ?_⟩
    · match i, hi with
      | 0, _ => rfl
      | 1, _ => rfl
    · show rowF (L.take k ++ [F]) (k * 2 + i) = _
      rw [hnew (by omega)]
      match i, hi with
      | 0, _ => exact congrArg str (hng2 _ (by omega)).symm
      | 1, _ => rfl
    refine ⟨trivial, k + 1, [0, 1, 2, 3, 6], by show k + 1 ≤ L.length; omega, by show L.length - (k + 1) < L.length - k; omega, leh_rel (Nat.le_of_ble_eq_true rfl) (first4 rfl rfl rfl rfl) (by decide)
      ⟨⟨_, rfl, leDkL rfl rfl rfl rfl rfl⟩, ⟨_, rfl, leMap (by simp only [ren_fmV])⟩, ⟨_, rfl, leMap (by simp only [ren_fmV])⟩, ⟨_, rfl, leRowQ rfl (by simp only [ren_rowP])⟩, ⟨_, rfl, ?_⟩, trivial⟩,
      ⟨.ptr 0 rfl, leOwn rfl rfl rfl, .same _ trivial, leI e1, trivial⟩⟩
    show LeO _ _ _ (.row ((k + 1) * 2) (rowF (L.take (k + 1))))
    rw [hts]
    exact .row _ _ _ _ (Nat.le_refl _) fun i hi => .same _ (rowFree _ i)
  · have f1 : ¬ (k : Int) < ns.length := no c
    have eT : L.take k = L := List.take_of_length_le (by omega)
    exact ⟨[0, 1, 2, 3], dkH d, flsV L, lehDk rfl rfl rfl rfl rfl rfl rfl rfl, .seen (.giveR (rowF (L.take k)) rfl (by simp) (by omega) (fun i hi => by rw [Nat.zero_add]; exact .same _ (rowFree _ i)) fun i hi => rowFree _ i) (vrsU (l := L) (by omega) fun i hi => by rw [eT]), rfl, rfl⟩
end
end Go.Proofs.Ytflclafbieokiaa.Dk
