/-
  The law JournalAtomic, walked.
-/
import Derived.Test.YtflclafbieokiaaGreatDoorBrg
set_option linter.unusedVariables false
set_option linter.unusedSectionVars false
set_option linter.unusedSimpArgs false
set_option maxRecDepth 10000
namespace Go.Proofs.YtflclafbieokiaaGreatDoor.Jr
open Go AL Us Dk Sh

/-! The disk that was laid, recovered. -/
theorem get_size {s : ByteArray} {v : List Int} {m : FM} (h : getF s m = some v) : v.length ≤ sizeF m := by
  have := size_del s m
  rw [h] at this
  have : sizeF (delF s m) + v.length = sizeF m := this
  omega
theorem size_rcl {was : List Fl} {room : Int} (hs : smallF was) : sizeF (rcJ (laidJ was room)).now ≤ 800 := by
  have h1 := size_laid (room := room) hs
  generalize laidJ was room = d at *
  unfold rcJ
  split
  · exact h1
  · rename_i hn
    obtain ⟨v, hv⟩ : ∃ v, getF intN d.now = some v := by
      cases e : getF intN d.now with
      | none => exact absurd e hn
      | some v => exact ⟨v, rfl⟩
    have h2 := get_size hv
    have hw : toldW v = false := told_small (by omega)
    unfold recJ
    rw [hv]
    show sizeF (syncF (doF (if toldW v = true then _ else d) (.rm intN))).now ≤ 800
    rw [hw, if_neg (by decide)]
    show sizeF (doF d (.rm intN)).now ≤ 800
    unfold doF
    split
    · have := size_rm intN d.now
      show sizeF (actF (.rm intN) d.now) ≤ 800
      omega
    · exact h1
theorem room_rec (d : DkF) : (recJ d).room = d.room := by
  unfold recJ
  show (doF _ _).room = _
  rw [room_do]
  split
  · exact room_wrJ _ _ _
  · rfl
theorem room_rc (d : DkF) : (rcJ d).room = d.room := by
  unfold rcJ
  split
  · rfl
  · exact room_rec d
def wantJ (l : List Fl) (L : List Fl) (k : Nat) : List Fl := (l.take k).foldl (fun L f => withR f.path f.data L) L
theorem want_succ {l L : List Fl} {k : Nat} (h : k < l.length) : wantJ l L (k + 1) = withR (l.getD k fl0).path (l.getD k fl0).data (wantJ l L k) := by
  unfold wantJ
  rw [take_succ_fl h, List.foldl_append]; rfl
theorem want_rise {l L : List Fl} (h : Rising L) : ∀ k, k ≤ l.length → Rising (wantJ l L k)
  | 0, _ => by unfold wantJ; rw [List.take_zero]; exact h
  | k + 1, hk => by
    rw [want_succ (by omega)]
    exact withR_rise (want_rise h k (by omega))
theorem with_len (s : ByteArray) (v : List Int) (L : List Fl) : (withR s v L).length ≤ L.length + 1 := by
  have h1 := (withR_perm s v L).length_eq
  have h2 := without_le s L
  rw [h1, List.length_cons]; omega
theorem want_len {l L : List Fl} : ∀ k, k ≤ l.length → (wantJ l L k).length ≤ L.length + k
  | 0, _ => by unfold wantJ; rw [List.take_zero]; exact Nat.le_refl _
  | k + 1, hk => by
    rw [want_succ (by omega)]
    have h1 := want_len (l := l) (L := L) k (by omega)
    have h2 := with_len (l.getD k fl0).path (l.getD k fl0).data (wantJ l L k)
    omega
theorem with_bytes {s : ByteArray} {v : List Int} {L : List Fl} (hL : okBytes L) (hv : okB v) : okBytes (withR s v L) := fun f hf => by
  rcases List.mem_cons.1 ((withR_perm s v L).mem_iff.1 hf) with rfl | hf
  · exact hv
  · exact hL f (List.mem_filter.1 hf).1
theorem want_bytes {l L : List Fl} (hL : okBytes L) (hl : okBytes l) : ∀ k, k ≤ l.length → okBytes (wantJ l L k)
  | 0, _ => by unfold wantJ; rw [List.take_zero]; exact hL
  | k + 1, hk => by
    rw [want_succ (by omega)]
    exact with_bytes (want_bytes hL hl k (by omega)) (hl _ (get_mem (by omega)))
/-- What the law says of a commit that is broken off. -/
theorem atomic_plain {l : List Fl} {d : DkF} {B : BrJ} (hB : okBr B) (h : CmOk l d) (hs : smallF l) (hb : okBytes l) (hsz : sizeF d.now ≤ 800) (hrm : d.room = 100000) {k : Nat} (hk : k ≤ l.length + 5) :
    getF intN (recvJ (cmJ l (intL l) d k) B).now = none ∧ ((k < l.length + 5 ∧ ldJ (recvJ (cmJ l (intL l) d k) B).now = ldJ d.now) ∨ ldJ (recvJ (cmJ l (intL l) d k) B).now = wantJ l (ldJ d.now) l.length) := by
  have h1 := (int_ok hs hb h.pe).1
  have h2 := data_small hs
  have hl : (B.again.take (min 5 B.again.length)).length ≤ 5 := by rw [List.length_take]; omega
  have hm : (B.again.take (min 5 B.again.length)).length * dataN l ≤ 5 * 800 := Nat.mul_le_mul hl h2
  obtain ⟨g1, g2, g3⟩ := cm_all h (k := k) (keep := B.keep) (bytes := B.bytes) hk (by have := hB.bytes; omega) (B.again.take (min 5 B.again.length)) (by rw [hrm]; omega)
  have e : recvJ (cmJ l (intL l) d k) B = rcJ ((B.again.take (min 5 B.again.length)).foldl crJ (crashF (cmJ l (intL l) d k) B.keep B.bytes)) := rfl
  rw [← e] at g1 g2 g3
  have hkd := (good_all h.good).2
  have hkr := (good_all g1.2.2).2
  refine ⟨g2, ?_⟩
  rcases g3 with ⟨a, b⟩ | b
  · exact .inl ⟨a, ld_ext hkr hkd fun p _ => b p⟩
  · right
    unfold wantJ
    rw [List.take_length, ← ld_sets hkd h.not]
    exact ld_ext hkr (sets_keys hkd) fun p _ => b p
section
variable [Globs]

def comA (d : DkF) (l : List Fl) (r : AV) (h : List AO) : Prop := (∃ e : Int, e ≠ 0 ∧ r = .tup 2 (pair .ff (int .i64 e)) ∧ h = dkH d) ∨
  (CmOk l d ∧ ∃ k v, ((k < l.length + 5 ∧ v = AV.ff) ∨ (k = l.length + 5 ∧ v = AV.tt)) ∧ r = .tup 2 (pair v (int .i64 0)) ∧
    ((k = 0 ∧ h = dkH (cmJ l (intL l) d k)) ∨ (k = 1 ∧ h = dkN (cmJ l (intL l) d k)) ∨ (2 ≤ k ∧ h = dkT (cmJ l (intL l) d k))))
theorem comA_q {k : Nat} (d : DkF) (l : List Fl) (s : Int) (h : FineJ k d) (hk : k ≤ 1000) (hs : smallF l) (hz : okSizes l) (hst : Stab d) (hn : getF intN d.now = none) : ACalls Tryz.prog 14 [.ptr 0 0, flsV l, int .i64 s] (dkH d) (comA d l) :=
  lessD (commit_q d l s h hk hs hz) fun r h' hc => by
    rcases com_cases hc with ⟨hE, e1, e2⟩ | ⟨hE, _, k, hk0, e1, hh1⟩
    · subst e1 e2
      exact ⟨[0, 1, 2, 3], dkH d, .tup 2 (pair .ff (int .i64 _)), lehDk rfl rfl rfl rfl rfl rfl rfl rfl, le_pair .rff (leI rfl), .inl ⟨_, hE, rfl, rfl⟩⟩
    · have hok := cm_ok hst hn (small_fitL hs) hE
      obtain ⟨v, hv, hle⟩ : ∃ v, ((k < l.length + 5 ∧ v = AV.ff) ∨ (k = l.length + 5 ∧ v = AV.tt)) ∧ ∀ {h : List AO} {m : List Nat}, LeV h m (bool (decide (((l.length + 5 : Nat) : Int) ≤ s))) v := by
        rcases Nat.lt_or_ge k (l.length + 5) with g | g
        · refine ⟨.ff, .inl ⟨g, rfl⟩, fun {h m} => ?_⟩
          have : decide (((l.length + 5 : Nat) : Int) ≤ s) = false := decide_eq_false (by omega)
          rw [this]; exact .rff
        · refine ⟨.tt, .inr ⟨by omega, rfl⟩, fun {h m} => ?_⟩
          have : decide (((l.length + 5 : Nat) : Int) ≤ s) = true := decide_eq_true (by omega)
          rw [this]; exact .rtt
      rcases hh1 with ⟨h1, e2⟩ | ⟨h1, e2⟩ | ⟨h1, e2⟩
      · subst e1 e2 h1
        exact ⟨[0, 1, 2, 3], dkH d, .tup 2 (pair v (int .i64 0)), lehDk rfl rfl rfl rfl rfl rfl rfl rfl, le_pair hle (leI rfl), .inr ⟨hok, 0, v, hv, rfl, .inl ⟨rfl, rfl⟩⟩⟩
      · subst e1 e2 h1
        exact ⟨[0, 1, 2, 3, 4], dkN (cmJ l (intL l) d 1), .tup 2 (pair v (int .i64 0)), lehK (n := 4) (by decide) (by decide) (by decide) ⟨⟨_, rfl, leDkA rfl rfl rfl rfl rfl⟩, ⟨_, rfl, leMap rfl⟩, ⟨_, rfl, leMap rfl⟩, ⟨_, rfl, .dead _⟩, ⟨_, rfl, leRowQ rfl rfl⟩, trivial⟩, le_pair hle (leI rfl), .inr ⟨hok, 1, v, hv, rfl, .inr (.inl ⟨rfl, rfl⟩)⟩⟩
      · subst e1 e2
        exact ⟨[0, 1, 2, 3, 4, 5], dkT (cmJ l (intL l) d k), .tup 2 (pair v (int .i64 0)), lehK (n := 4) (by decide) (by decide) (by decide) ⟨⟨_, rfl, leDkA rfl rfl rfl rfl rfl⟩, ⟨_, rfl, leMap rfl⟩, ⟨_, rfl, .dead _⟩, ⟨_, rfl, .dead _⟩, ⟨_, rfl, leRowQ rfl rfl⟩, ⟨_, rfl, leMap rfl⟩, trivial⟩, le_pair hle (leI rfl), .inr ⟨hok, k, v, hv, rfl, .inr (.inr ⟨h1, rfl⟩)⟩⟩
theorem get_f (d : DkF) (s : ByteArray) (h : getF s d.now = none) : ACalls Tryz.prog 25 [.ptr 0 0, str s] (dkH d) (fun r h => r = .tup 2 (pair .top .ff) ∧ h = dkH d) :=
  lessD (get_ro d s fun v hv => by rw [h] at hv; cases hv) fun r h' ⟨e1, e2⟩ => by
    subst e1 e2
    rw [h]
    exact ⟨[0, 1, 2, 3], dkH d, .tup 2 (pair .top .ff), lehDk rfl rfl rfl rfl rfl rfl rfl rfl, le_pair (.top _) .rff, rfl, rfl⟩
theorem same_b {a b : List Fl} (ha : okBytes a) (hb : okBytes b) (hl : a.length ≤ 100000) (hm : b.length ≤ 100000) (e : ¬ a = b) : ACalls Tryz.prog 16 [flsV a, flsV b] [] (fun r h => r = .ff ∧ h = []) :=
  (same_ref a b ha hb (by omega) (by omega)).not (decide_eq_false e)


set_option maxHeartbeats 8000000 in
theorem atomic_p (was l : List Fl) (B : BrJ) (hB : okBr B) (hz0 : okSizes was) (hz : okSizes l) : ACalls Tryz.prog 4 [flsV was, flsV l, brV B] [] (fun r h => r = .tt ∧ h = []) := by
  refine rcalls Tryz.func4 rfl (by decide) ?_
  refine ⟨[], _, awake_p, ?_⟩
  rintro r hh ⟨rfl, rfl⟩
  refine ⟨.inl rfl, ?_⟩
  by_cases hs0 : smallF was
  rotate_left
  · refine ⟨[], _, (small_j was).not (decide_eq_false hs0), ?_⟩
    rintro r hh ⟨rfl, rfl⟩
    refine ⟨.inl rfl, ?_⟩
    exact ⟨[], [], .tt, lehN _, .same _ trivial, rfl, rfl⟩
  refine ⟨[], _, (small_j was).yes (decide_eq_true hs0), ?_⟩
  rintro r hh ⟨rfl, rfl⟩
  refine ⟨.inl rfl, ?_⟩
  by_cases hs : smallF l
  rotate_left
  · refine ⟨[], _, (small_j l).not (decide_eq_false hs), ?_⟩
    rintro r hh ⟨rfl, rfl⟩
    refine ⟨.inl rfl, ?_⟩
    exact ⟨[], [], .tt, lehN _, .same _ trivial, rfl, rfl⟩
  refine ⟨[], _, (small_j l).yes (decide_eq_true hs), ?_⟩
  rintro r hh ⟨rfl, rfl⟩
  refine ⟨.inl rfl, ?_⟩
  have hb0 : okBytes was := fun f hf => (hz0 f hf).2
  have hb : okBytes l := fun f hf => (hz f hf).2
  have hld := laid_p was 100000 hs0 hb0
  refine ⟨[], _, hld, ?_⟩
  rintro r hh ⟨rfl, rfl⟩
  refine ⟨.inl rfl, ?_⟩
  have hfl := fine_laid (room := 100000) hs0 hb0
  have hrc0 := recover_q (laidJ was 100000) hfl (by decide)
  have hst0 := stab_rc (stab_laid was 100000)
  have hno0 := rc_none (good_laid was 100000)
  have hfd := fine_rc hfl
  have hsz := size_rcl (room := 100000) hs0
  have hrm : (rcJ (laidJ was 100000)).room = 100000 := (room_rc _).trans ((room_laid was 100000).trans (Int.max_eq_left (by decide)))
  unfold recR at hrc0
  have hr1 : getF intN (laidJ was 100000).now = none → rcJ (laidJ was 100000) = laidJ was 100000 := fun h => if_pos h
  have hr2 : getF intN (laidJ was 100000).now ≠ none → rcJ (laidJ was 100000) = recJ (laidJ was 100000) := fun h => if_neg h
  refine ⟨[1, 2, 3, 4], _, (by (try simp only [ren_fmV]); exact fmVFree _), (by (try simp only [ren_fmV]); exact fmVFree _), (by (try simp only [ren_rowP]); exact fun i _ => rowPFree _ i), at_h ?_ (hrc0), ?_⟩
  · exact dkH_eq (by first | simp only [ren_fmV] | rfl) (by first | simp only [ren_fmV] | rfl) (by first | simp only [ren_rowP] | rfl)
  rintro r hh ⟨rfl, (⟨hn, rfl⟩ | ⟨hn, rfl⟩)⟩
  · rw [hr1 hn] at hst0 hno0 hfd hsz hrm
    generalize laidJ was 100000 = D at *
    have h8 := hs.2
    have hld0 := load_q D hfd (by decide)
    have hcm := fun s => comA_q D l s hfd (by decide) hs hz hst0 hno0
    unfold comA at hcm
    have hbd := ld_bytes hfd.keys hfd.fit.now
    have hld2 : (ldJ D.now).length ≤ 1000 := by have := ld_len hfd.keys; have := hfd.fit.nowL; omega
    have hsm0 := same_q hbd hbd (by omega) (by omega) rfl
    have hrise : Rising (ldJ D.now) := (ld_rel hfd.keys).rise
    refine ⟨.inl rfl, ?_⟩
    refine ⟨[1, 2, 3, 4], _, (by (try simp only [ren_fmV]); exact fmVFree _), (by (try simp only [ren_fmV]); exact fmVFree _), (by (try simp only [ren_rowP]); exact fun i _ => rowPFree _ i), at_h ?_ (hld0), ?_⟩
    · exact dkH_eq (by first | simp only [ren_fmV] | rfl) (by first | simp only [ren_fmV] | rfl) (by first | simp only [ren_rowP] | rfl)
    rintro r hh ⟨rfl, rfl⟩
    refine ⟨.inl rfl, ?_⟩
    refine ⟨by decide, ?_⟩
    refine ⟨[1, 2, 3, 4], _, (by (try simp only [ren_fmV]); exact fmVFree _), (by (try simp only [ren_fmV]); exact fmVFree _), (by (try simp only [ren_rowP]); exact fun i _ => rowPFree _ i), at_h ?_ ((hcm _)), ?_⟩
    · exact dkH_eq (by first | simp only [ren_fmV] | rfl) (by first | simp only [ren_fmV] | rfl) (by first | simp only [ren_rowP] | rfl)
    rintro r hh (⟨e, he, rfl, rfl⟩ | ⟨hok, k, v, hv, rfl, hh1⟩)
    · refine ⟨.inl rfl, ?_⟩
      refine ⟨fun _ => ?_, fun c => absurd (no c) (fun x => x he)⟩
      refine ⟨[1, 2, 3, 4], _, (by (try simp only [ren_fmV]); exact fmVFree _), (by (try simp only [ren_fmV]); exact fmVFree _), (by (try simp only [ren_rowP]); exact fun i _ => rowPFree _ i), at_h ?_ (hld0), ?_⟩
      · exact dkH_eq (by first | simp only [ren_fmV] | rfl) (by first | simp only [ren_fmV] | rfl) (by first | simp only [ren_rowP] | rfl)
      rintro r hh ⟨rfl, rfl⟩
      refine ⟨.inl rfl, ?_⟩
      refine ⟨[], _, hsm0, ?_⟩
      rintro r hh ⟨rfl, rfl⟩
      refine ⟨.inl rfl, ?_⟩
      exact ⟨[], [], .tt, lehN _, .same _ trivial, rfl, rfl⟩
    have hkk : k ≤ l.length + 5 := by omega
    obtain ⟨hno, hall⟩ := atomic_plain hB hok hs hb hsz hrm hkk
    have hfc := fine_more (fine_cm hfd hs hb hok.pe k) (show 48 + k ≤ 100 by omega)
    have hbw := want_bytes hbd hb l.length (Nat.le_refl _)
    have hlw : (wantJ l (ldJ D.now) l.length).length ≤ 100000 := by have := want_len (l := l) (L := ldJ D.now) l.length (Nat.le_refl _); omega
    have hld2 : (ldJ D.now).length ≤ 100000 := by omega
    generalize cmJ l (intL l) D k = C at *
    rcases hh1 with ⟨hk1, rfl⟩ | ⟨hk1, rfl⟩ | ⟨hk1, rfl⟩
    · obtain ⟨hfr, hst⟩ := fine_recv hfc B
      have hrv := recovered_p C B hB (fit_more hfc.fit (by omega)) hfc.nomv
      unfold recvR at hrv
      generalize recvJ C B = R at *
      have hldR := load_q R hfr (by omega)
      have hgi := get_f R intN hno
      have hbr := ld_bytes hfr.keys hfr.fit.now
      have hlr : (ldJ R.now).length ≤ 100000 := by have := ld_len hfr.keys; have := hfr.fit.nowL; omega
      refine ⟨.inl rfl, ?_⟩
      refine ⟨fun c => absurd rfl (yes c), fun _ => ?_⟩
      refine ⟨[1, 2, 3, 4], _, (by (try simp only [ren_fmV]); exact fmVFree _), (by (try simp only [ren_fmV]); exact fmVFree _), (by (try simp only [ren_rowP]); exact fun i _ => rowPFree _ i), four1 trivial trivial trivial trivial, at_h ?_ (hrv.args ⟨VLe.refl _, vbr rfl rfl rfl rfl, trivial⟩), ?_⟩
      · exact dkH_eq (by first | simp only [ren_fmV] | rfl) (by first | simp only [ren_fmV] | rfl) (by first | simp only [ren_rowP] | rfl)
      rintro r hh ⟨rfl, (rfl | rfl)⟩
      · refine ⟨.inl rfl, ?_⟩
        refine ⟨[1, 5, 6, 4], _, (by (try simp only [ren_fmV]); exact fmVFree _), (by (try simp only [ren_fmV]); exact fmVFree _), (by (try simp only [ren_rowP]); exact fun i _ => rowPFree _ i), at_h ?_ (hldR), ?_⟩
        · exact dkH_eq (by first | simp only [ren_fmV] | rfl) (by first | simp only [ren_fmV] | rfl) (by first | simp only [ren_rowP] | rfl)
        rintro r hh ⟨rfl, rfl⟩
        refine ⟨.inl rfl, ?_⟩
        refine ⟨Nat, fun k => [(1, flsV l), (7, .tt), (8, .ptr 0 0), (9, flsV (ldJ D.now)), (10, v), (12, flsV (ldJ R.now)), (13, flsV (wantJ l (ldJ D.now) k)), (14, int .i64 (k : Int))], fun k => dkH R, fun k => k ≤ l.length, fun k => l.length - k,
          ⟨0, [1, 5, 6, 4], Nat.zero_le _, ?_, ?_⟩, ?_⟩
        · exact leh_relG (by decide) ⟨.inl ⟨_, rfl, leDkL rfl rfl rfl rfl rfl⟩, .inl ⟨_, rfl, leMap (by simp only [ren_fmV])⟩, .inl ⟨_, rfl, leMap (by simp only [ren_fmV])⟩, .inl ⟨_, rfl, leRowQ rfl (by simp only [ren_rowP])⟩, trivial⟩
        · refine ⟨.same _ trivial, .same _ trivial, .ptr 0 rfl, .same _ trivial, ?_, .same _ trivial, .same _ trivial, leI rfl, trivial⟩
          rcases hv with ⟨_, rfl⟩ | ⟨_, rfl⟩
          · exact .same _ trivial
          · exact .same _ trivial
        intro j hj
        have hj : j ≤ l.length := hj
        have e1 : IntKind.i64.wrap ((j : Int) + 1) = ((j + 1 : Nat) : Int) := by rw [w64 (by omega) (by omega)]; omega
        refine ⟨fun c => ?_, fun c => ?_⟩
        · have f1 : (j : Int) < l.length := yes c
          have hwj := want_len (l := l) (L := ldJ D.now) j hj
          have hws := want_succ (l := l) (L := ldJ D.now) (k := j) (by omega)
          have hwr := want_rise (l := l) hrise j hj
          have h6 : ∀ c, c < 2 → rowF l ((j : Int).toNat * 2 + c) = flC (l.getD j fl0) c := fun c hc => by rw [Int.toNat_natCast]; exact rowF_at l hc
          generalize l.getD j fl0 = F at *
          have hwt := with_p (wantJ l (ldJ D.now) j) F (by omega) hwr
          refine ⟨⟨by omega, f1⟩, flC F, fun c hc => h6 c hc, ?_⟩
          refine ⟨[], _, twoF (flC_free F 0) (flC_free F 1), hwt.args ⟨VLe.refl _, vdf rfl rfl, trivial⟩, ?_⟩
          rintro r hh ⟨rfl, rfl⟩
          refine ⟨.inl rfl, ?_⟩
          refine ⟨trivial, j + 1, [0, 1, 2, 3], by show j + 1 ≤ l.length; omega, by show l.length - (j + 1) < l.length - j; omega, ?_, ?_⟩
          · exact leh_relG (by decide) ⟨.inl ⟨_, rfl, leDkL rfl rfl rfl rfl rfl⟩, .inl ⟨_, rfl, leMap (by first | rfl | simp only [ren_fmV])⟩, .inl ⟨_, rfl, leMap (by first | rfl | simp only [ren_fmV])⟩, .inl ⟨_, rfl, leRowQ rfl (by first | rfl | simp only [ren_rowP])⟩, trivial⟩
          · refine ⟨.same _ trivial, .same _ trivial, .ptr 0 rfl, .same _ trivial, ?_, .same _ trivial, ?_, leI e1, trivial⟩
            · rcases hv with ⟨_, rfl⟩ | ⟨_, rfl⟩
              · exact .same _ trivial
              · exact .same _ trivial
            · show LeV _ _ (flsV (withR F.path F.data (wantJ l (ldJ D.now) j))) (flsV (wantJ l (ldJ D.now) (j + 1)))
              rw [hws]; exact .same _ trivial
        · have f1 : ¬ (j : Int) < l.length := no c
          obtain rfl : j = l.length := by omega
          refine ⟨[0, 1, 2, 3], _, (by (try simp only [ren_fmV]); exact fmVFree _), (by (try simp only [ren_fmV]); exact fmVFree _), (by (try simp only [ren_rowP]); exact fun i _ => rowPFree _ i), at_h ?_ (hgi), ?_⟩
          · exact dkH_eq (by first | simp only [ren_fmV] | rfl) (by first | simp only [ren_fmV] | rfl) (by first | simp only [ren_rowP] | rfl)
          rintro r hh ⟨rfl, rfl⟩
          refine ⟨.inl rfl, ?_⟩
          by_cases hsame : ldJ R.now = wantJ l (ldJ D.now) l.length
          · refine ⟨[], _, (same_q hbr hbw hlr hlw hsame), ?_⟩
            rintro r hh ⟨rfl, rfl⟩
            refine ⟨.inl rfl, ?_⟩
            exact ⟨[], [], .tt, lehN _, .same _ trivial, rfl, rfl⟩
          · rcases hall with ⟨hkl, hold⟩ | hnew
            · rcases hv with ⟨_, rfl⟩ | ⟨h1, _⟩
              rotate_left
              · omega
              refine ⟨[], _, (same_b hbr hbw hlr hlw hsame), ?_⟩
              rintro r hh ⟨rfl, rfl⟩
              refine ⟨.inl rfl, ?_⟩
              refine ⟨[], _, (same_q hbr hbd hlr hld2 hold), ?_⟩
              rintro r hh ⟨rfl, rfl⟩
              refine ⟨.inl rfl, ?_⟩
              exact ⟨[], [], .tt, lehN _, .same _ trivial, rfl, rfl⟩
            · exact absurd hnew hsame
      · refine ⟨.inl rfl, ?_⟩
        refine ⟨[1, 5, 6, 7], _, (by (try simp only [ren_fmV]); exact fmVFree _), (by (try simp only [ren_fmV]); exact fmVFree _), (by (try simp only [ren_rowP]); exact fun i _ => rowPFree _ i), at_h ?_ (hldR), ?_⟩
        · exact dkH_eq (by first | simp only [ren_fmV] | rfl) (by first | simp only [ren_fmV] | rfl) (by first | simp only [ren_rowP] | rfl)
        rintro r hh ⟨rfl, rfl⟩
        refine ⟨.inl rfl, ?_⟩
        refine ⟨Nat, fun k => [(1, flsV l), (7, .tt), (8, .ptr 0 0), (9, flsV (ldJ D.now)), (10, v), (12, flsV (ldJ R.now)), (13, flsV (wantJ l (ldJ D.now) k)), (14, int .i64 (k : Int))], fun k => dkH R, fun k => k ≤ l.length, fun k => l.length - k,
          ⟨0, [1, 5, 6, 7], Nat.zero_le _, ?_, ?_⟩, ?_⟩
        · exact leh_relG (by decide) ⟨.inl ⟨_, rfl, leDkL rfl rfl rfl rfl rfl⟩, .inl ⟨_, rfl, leMap (by simp only [ren_fmV])⟩, .inl ⟨_, rfl, leMap (by simp only [ren_fmV])⟩, .inl ⟨_, rfl, leRowQ rfl (by simp only [ren_rowP])⟩, trivial⟩
        · refine ⟨.same _ trivial, .same _ trivial, .ptr 0 rfl, .same _ trivial, ?_, .same _ trivial, .same _ trivial, leI rfl, trivial⟩
          rcases hv with ⟨_, rfl⟩ | ⟨_, rfl⟩
          · exact .same _ trivial
          · exact .same _ trivial
        intro j hj
        have hj : j ≤ l.length := hj
        have e1 : IntKind.i64.wrap ((j : Int) + 1) = ((j + 1 : Nat) : Int) := by rw [w64 (by omega) (by omega)]; omega
        refine ⟨fun c => ?_, fun c => ?_⟩
        · have f1 : (j : Int) < l.length := yes c
          have hwj := want_len (l := l) (L := ldJ D.now) j hj
          have hws := want_succ (l := l) (L := ldJ D.now) (k := j) (by omega)
          have hwr := want_rise (l := l) hrise j hj
          have h6 : ∀ c, c < 2 → rowF l ((j : Int).toNat * 2 + c) = flC (l.getD j fl0) c := fun c hc => by rw [Int.toNat_natCast]; exact rowF_at l hc
          generalize l.getD j fl0 = F at *
          have hwt := with_p (wantJ l (ldJ D.now) j) F (by omega) hwr
          refine ⟨⟨by omega, f1⟩, flC F, fun c hc => h6 c hc, ?_⟩
          refine ⟨[], _, twoF (flC_free F 0) (flC_free F 1), hwt.args ⟨VLe.refl _, vdf rfl rfl, trivial⟩, ?_⟩
          rintro r hh ⟨rfl, rfl⟩
          refine ⟨.inl rfl, ?_⟩
          refine ⟨trivial, j + 1, [0, 1, 2, 3], by show j + 1 ≤ l.length; omega, by show l.length - (j + 1) < l.length - j; omega, ?_, ?_⟩
          · exact leh_relG (by decide) ⟨.inl ⟨_, rfl, leDkL rfl rfl rfl rfl rfl⟩, .inl ⟨_, rfl, leMap (by first | rfl | simp only [ren_fmV])⟩, .inl ⟨_, rfl, leMap (by first | rfl | simp only [ren_fmV])⟩, .inl ⟨_, rfl, leRowQ rfl (by first | rfl | simp only [ren_rowP])⟩, trivial⟩
          · refine ⟨.same _ trivial, .same _ trivial, .ptr 0 rfl, .same _ trivial, ?_, .same _ trivial, ?_, leI e1, trivial⟩
            · rcases hv with ⟨_, rfl⟩ | ⟨_, rfl⟩
              · exact .same _ trivial
              · exact .same _ trivial
            · show LeV _ _ (flsV (withR F.path F.data (wantJ l (ldJ D.now) j))) (flsV (wantJ l (ldJ D.now) (j + 1)))
              rw [hws]; exact .same _ trivial
        · have f1 : ¬ (j : Int) < l.length := no c
          obtain rfl : j = l.length := by omega
          refine ⟨[0, 1, 2, 3], _, (by (try simp only [ren_fmV]); exact fmVFree _), (by (try simp only [ren_fmV]); exact fmVFree _), (by (try simp only [ren_rowP]); exact fun i _ => rowPFree _ i), at_h ?_ (hgi), ?_⟩
          · exact dkH_eq (by first | simp only [ren_fmV] | rfl) (by first | simp only [ren_fmV] | rfl) (by first | simp only [ren_rowP] | rfl)
          rintro r hh ⟨rfl, rfl⟩
          refine ⟨.inl rfl, ?_⟩
          by_cases hsame : ldJ R.now = wantJ l (ldJ D.now) l.length
          · refine ⟨[], _, (same_q hbr hbw hlr hlw hsame), ?_⟩
            rintro r hh ⟨rfl, rfl⟩
            refine ⟨.inl rfl, ?_⟩
            exact ⟨[], [], .tt, lehN _, .same _ trivial, rfl, rfl⟩
          · rcases hall with ⟨hkl, hold⟩ | hnew
            · rcases hv with ⟨_, rfl⟩ | ⟨h1, _⟩
              rotate_left
              · omega
              refine ⟨[], _, (same_b hbr hbw hlr hlw hsame), ?_⟩
              rintro r hh ⟨rfl, rfl⟩
              refine ⟨.inl rfl, ?_⟩
              refine ⟨[], _, (same_q hbr hbd hlr hld2 hold), ?_⟩
              rintro r hh ⟨rfl, rfl⟩
              refine ⟨.inl rfl, ?_⟩
              exact ⟨[], [], .tt, lehN _, .same _ trivial, rfl, rfl⟩
            · exact absurd hnew hsame
    · obtain ⟨hfr, hst⟩ := fine_recv hfc B
      have hrv := recovered_p C B hB (fit_more hfc.fit (by omega)) hfc.nomv
      unfold recvR at hrv
      generalize recvJ C B = R at *
      have hldR := load_q R hfr (by omega)
      have hgi := get_f R intN hno
      have hbr := ld_bytes hfr.keys hfr.fit.now
      have hlr : (ldJ R.now).length ≤ 100000 := by have := ld_len hfr.keys; have := hfr.fit.nowL; omega
      refine ⟨.inl rfl, ?_⟩
      refine ⟨fun c => absurd rfl (yes c), fun _ => ?_⟩
      refine ⟨[1, 2, 3, 5], _, (by (try simp only [ren_fmV]); exact fmVFree _), (by (try simp only [ren_fmV]); exact fmVFree _), (by (try simp only [ren_rowP]); exact fun i _ => rowPFree _ i), four1 trivial trivial trivial trivial, at_h ?_ (hrv.args ⟨VLe.refl _, vbr rfl rfl rfl rfl, trivial⟩), ?_⟩
      · exact dkH_eq (by first | simp only [ren_fmV] | rfl) (by first | simp only [ren_fmV] | rfl) (by first | simp only [ren_rowP] | rfl)
      rintro r hh ⟨rfl, (rfl | rfl)⟩
      · refine ⟨.inl rfl, ?_⟩
        refine ⟨[1, 6, 7, 5], _, (by (try simp only [ren_fmV]); exact fmVFree _), (by (try simp only [ren_fmV]); exact fmVFree _), (by (try simp only [ren_rowP]); exact fun i _ => rowPFree _ i), at_h ?_ (hldR), ?_⟩
        · exact dkH_eq (by first | simp only [ren_fmV] | rfl) (by first | simp only [ren_fmV] | rfl) (by first | simp only [ren_rowP] | rfl)
        rintro r hh ⟨rfl, rfl⟩
        refine ⟨.inl rfl, ?_⟩
        refine ⟨Nat, fun k => [(1, flsV l), (7, .tt), (8, .ptr 0 0), (9, flsV (ldJ D.now)), (10, v), (12, flsV (ldJ R.now)), (13, flsV (wantJ l (ldJ D.now) k)), (14, int .i64 (k : Int))], fun k => dkH R, fun k => k ≤ l.length, fun k => l.length - k,
          ⟨0, [1, 6, 7, 5], Nat.zero_le _, ?_, ?_⟩, ?_⟩
        · exact leh_relG (by decide) ⟨.inl ⟨_, rfl, leDkL rfl rfl rfl rfl rfl⟩, .inl ⟨_, rfl, leMap (by simp only [ren_fmV])⟩, .inl ⟨_, rfl, leMap (by simp only [ren_fmV])⟩, .inl ⟨_, rfl, leRowQ rfl (by simp only [ren_rowP])⟩, trivial⟩
        · refine ⟨.same _ trivial, .same _ trivial, .ptr 0 rfl, .same _ trivial, ?_, .same _ trivial, .same _ trivial, leI rfl, trivial⟩
          rcases hv with ⟨_, rfl⟩ | ⟨_, rfl⟩
          · exact .same _ trivial
          · exact .same _ trivial
        intro j hj
        have hj : j ≤ l.length := hj
        have e1 : IntKind.i64.wrap ((j : Int) + 1) = ((j + 1 : Nat) : Int) := by rw [w64 (by omega) (by omega)]; omega
        refine ⟨fun c => ?_, fun c => ?_⟩
        · have f1 : (j : Int) < l.length := yes c
          have hwj := want_len (l := l) (L := ldJ D.now) j hj
          have hws := want_succ (l := l) (L := ldJ D.now) (k := j) (by omega)
          have hwr := want_rise (l := l) hrise j hj
          have h6 : ∀ c, c < 2 → rowF l ((j : Int).toNat * 2 + c) = flC (l.getD j fl0) c := fun c hc => by rw [Int.toNat_natCast]; exact rowF_at l hc
          generalize l.getD j fl0 = F at *
          have hwt := with_p (wantJ l (ldJ D.now) j) F (by omega) hwr
          refine ⟨⟨by omega, f1⟩, flC F, fun c hc => h6 c hc, ?_⟩
          refine ⟨[], _, twoF (flC_free F 0) (flC_free F 1), hwt.args ⟨VLe.refl _, vdf rfl rfl, trivial⟩, ?_⟩
          rintro r hh ⟨rfl, rfl⟩
          refine ⟨.inl rfl, ?_⟩
          refine ⟨trivial, j + 1, [0, 1, 2, 3], by show j + 1 ≤ l.length; omega, by show l.length - (j + 1) < l.length - j; omega, ?_, ?_⟩
          · exact leh_relG (by decide) ⟨.inl ⟨_, rfl, leDkL rfl rfl rfl rfl rfl⟩, .inl ⟨_, rfl, leMap (by first | rfl | simp only [ren_fmV])⟩, .inl ⟨_, rfl, leMap (by first | rfl | simp only [ren_fmV])⟩, .inl ⟨_, rfl, leRowQ rfl (by first | rfl | simp only [ren_rowP])⟩, trivial⟩
          · refine ⟨.same _ trivial, .same _ trivial, .ptr 0 rfl, .same _ trivial, ?_, .same _ trivial, ?_, leI e1, trivial⟩
            · rcases hv with ⟨_, rfl⟩ | ⟨_, rfl⟩
              · exact .same _ trivial
              · exact .same _ trivial
            · show LeV _ _ (flsV (withR F.path F.data (wantJ l (ldJ D.now) j))) (flsV (wantJ l (ldJ D.now) (j + 1)))
              rw [hws]; exact .same _ trivial
        · have f1 : ¬ (j : Int) < l.length := no c
          obtain rfl : j = l.length := by omega
          refine ⟨[0, 1, 2, 3], _, (by (try simp only [ren_fmV]); exact fmVFree _), (by (try simp only [ren_fmV]); exact fmVFree _), (by (try simp only [ren_rowP]); exact fun i _ => rowPFree _ i), at_h ?_ (hgi), ?_⟩
          · exact dkH_eq (by first | simp only [ren_fmV] | rfl) (by first | simp only [ren_fmV] | rfl) (by first | simp only [ren_rowP] | rfl)
          rintro r hh ⟨rfl, rfl⟩
          refine ⟨.inl rfl, ?_⟩
          by_cases hsame : ldJ R.now = wantJ l (ldJ D.now) l.length
          · refine ⟨[], _, (same_q hbr hbw hlr hlw hsame), ?_⟩
            rintro r hh ⟨rfl, rfl⟩
            refine ⟨.inl rfl, ?_⟩
            exact ⟨[], [], .tt, lehN _, .same _ trivial, rfl, rfl⟩
          · rcases hall with ⟨hkl, hold⟩ | hnew
            · rcases hv with ⟨_, rfl⟩ | ⟨h1, _⟩
              rotate_left
              · omega
              refine ⟨[], _, (same_b hbr hbw hlr hlw hsame), ?_⟩
              rintro r hh ⟨rfl, rfl⟩
              refine ⟨.inl rfl, ?_⟩
              refine ⟨[], _, (same_q hbr hbd hlr hld2 hold), ?_⟩
              rintro r hh ⟨rfl, rfl⟩
              refine ⟨.inl rfl, ?_⟩
              exact ⟨[], [], .tt, lehN _, .same _ trivial, rfl, rfl⟩
            · exact absurd hnew hsame
      · refine ⟨.inl rfl, ?_⟩
        refine ⟨[1, 6, 7, 8], _, (by (try simp only [ren_fmV]); exact fmVFree _), (by (try simp only [ren_fmV]); exact fmVFree _), (by (try simp only [ren_rowP]); exact fun i _ => rowPFree _ i), at_h ?_ (hldR), ?_⟩
        · exact dkH_eq (by first | simp only [ren_fmV] | rfl) (by first | simp only [ren_fmV] | rfl) (by first | simp only [ren_rowP] | rfl)
        rintro r hh ⟨rfl, rfl⟩
        refine ⟨.inl rfl, ?_⟩
        refine ⟨Nat, fun k => [(1, flsV l), (7, .tt), (8, .ptr 0 0), (9, flsV (ldJ D.now)), (10, v), (12, flsV (ldJ R.now)), (13, flsV (wantJ l (ldJ D.now) k)), (14, int .i64 (k : Int))], fun k => dkH R, fun k => k ≤ l.length, fun k => l.length - k,
          ⟨0, [1, 6, 7, 8], Nat.zero_le _, ?_, ?_⟩, ?_⟩
        · exact leh_relG (by decide) ⟨.inl ⟨_, rfl, leDkL rfl rfl rfl rfl rfl⟩, .inl ⟨_, rfl, leMap (by simp only [ren_fmV])⟩, .inl ⟨_, rfl, leMap (by simp only [ren_fmV])⟩, .inl ⟨_, rfl, leRowQ rfl (by simp only [ren_rowP])⟩, trivial⟩
        · refine ⟨.same _ trivial, .same _ trivial, .ptr 0 rfl, .same _ trivial, ?_, .same _ trivial, .same _ trivial, leI rfl, trivial⟩
          rcases hv with ⟨_, rfl⟩ | ⟨_, rfl⟩
          · exact .same _ trivial
          · exact .same _ trivial
        intro j hj
        have hj : j ≤ l.length := hj
        have e1 : IntKind.i64.wrap ((j : Int) + 1) = ((j + 1 : Nat) : Int) := by rw [w64 (by omega) (by omega)]; omega
        refine ⟨fun c => ?_, fun c => ?_⟩
        · have f1 : (j : Int) < l.length := yes c
          have hwj := want_len (l := l) (L := ldJ D.now) j hj
          have hws := want_succ (l := l) (L := ldJ D.now) (k := j) (by omega)
          have hwr := want_rise (l := l) hrise j hj
          have h6 : ∀ c, c < 2 → rowF l ((j : Int).toNat * 2 + c) = flC (l.getD j fl0) c := fun c hc => by rw [Int.toNat_natCast]; exact rowF_at l hc
          generalize l.getD j fl0 = F at *
          have hwt := with_p (wantJ l (ldJ D.now) j) F (by omega) hwr
          refine ⟨⟨by omega, f1⟩, flC F, fun c hc => h6 c hc, ?_⟩
          refine ⟨[], _, twoF (flC_free F 0) (flC_free F 1), hwt.args ⟨VLe.refl _, vdf rfl rfl, trivial⟩, ?_⟩
          rintro r hh ⟨rfl, rfl⟩
          refine ⟨.inl rfl, ?_⟩
          refine ⟨trivial, j + 1, [0, 1, 2, 3], by show j + 1 ≤ l.length; omega, by show l.length - (j + 1) < l.length - j; omega, ?_, ?_⟩
          · exact leh_relG (by decide) ⟨.inl ⟨_, rfl, leDkL rfl rfl rfl rfl rfl⟩, .inl ⟨_, rfl, leMap (by first | rfl | simp only [ren_fmV])⟩, .inl ⟨_, rfl, leMap (by first | rfl | simp only [ren_fmV])⟩, .inl ⟨_, rfl, leRowQ rfl (by first | rfl | simp only [ren_rowP])⟩, trivial⟩
          · refine ⟨.same _ trivial, .same _ trivial, .ptr 0 rfl, .same _ trivial, ?_, .same _ trivial, ?_, leI e1, trivial⟩
            · rcases hv with ⟨_, rfl⟩ | ⟨_, rfl⟩
              · exact .same _ trivial
              · exact .same _ trivial
            · show LeV _ _ (flsV (withR F.path F.data (wantJ l (ldJ D.now) j))) (flsV (wantJ l (ldJ D.now) (j + 1)))
              rw [hws]; exact .same _ trivial
        · have f1 : ¬ (j : Int) < l.length := no c
          obtain rfl : j = l.length := by omega
          refine ⟨[0, 1, 2, 3], _, (by (try simp only [ren_fmV]); exact fmVFree _), (by (try simp only [ren_fmV]); exact fmVFree _), (by (try simp only [ren_rowP]); exact fun i _ => rowPFree _ i), at_h ?_ (hgi), ?_⟩
          · exact dkH_eq (by first | simp only [ren_fmV] | rfl) (by first | simp only [ren_fmV] | rfl) (by first | simp only [ren_rowP] | rfl)
          rintro r hh ⟨rfl, rfl⟩
          refine ⟨.inl rfl, ?_⟩
          by_cases hsame : ldJ R.now = wantJ l (ldJ D.now) l.length
          · refine ⟨[], _, (same_q hbr hbw hlr hlw hsame), ?_⟩
            rintro r hh ⟨rfl, rfl⟩
            refine ⟨.inl rfl, ?_⟩
            exact ⟨[], [], .tt, lehN _, .same _ trivial, rfl, rfl⟩
          · rcases hall with ⟨hkl, hold⟩ | hnew
            · rcases hv with ⟨_, rfl⟩ | ⟨h1, _⟩
              rotate_left
              · omega
              refine ⟨[], _, (same_b hbr hbw hlr hlw hsame), ?_⟩
              rintro r hh ⟨rfl, rfl⟩
              refine ⟨.inl rfl, ?_⟩
              refine ⟨[], _, (same_q hbr hbd hlr hld2 hold), ?_⟩
              rintro r hh ⟨rfl, rfl⟩
              refine ⟨.inl rfl, ?_⟩
              exact ⟨[], [], .tt, lehN _, .same _ trivial, rfl, rfl⟩
            · exact absurd hnew hsame
    · obtain ⟨hfr, hst⟩ := fine_recv hfc B
      have hrv := recovered_p C B hB (fit_more hfc.fit (by omega)) hfc.nomv
      unfold recvR at hrv
      generalize recvJ C B = R at *
      have hldR := load_q R hfr (by omega)
      have hgi := get_f R intN hno
      have hbr := ld_bytes hfr.keys hfr.fit.now
      have hlr : (ldJ R.now).length ≤ 100000 := by have := ld_len hfr.keys; have := hfr.fit.nowL; omega
      refine ⟨.inl rfl, ?_⟩
      refine ⟨fun c => absurd rfl (yes c), fun _ => ?_⟩
      refine ⟨[1, 2, 6, 5], _, (by (try simp only [ren_fmV]); exact fmVFree _), (by (try simp only [ren_fmV]); exact fmVFree _), (by (try simp only [ren_rowP]); exact fun i _ => rowPFree _ i), four1 trivial trivial trivial trivial, at_h ?_ (hrv.args ⟨VLe.refl _, vbr rfl rfl rfl rfl, trivial⟩), ?_⟩
      · exact dkH_eq (by first | simp only [ren_fmV] | rfl) (by first | simp only [ren_fmV] | rfl) (by first | simp only [ren_rowP] | rfl)
      rintro r hh ⟨rfl, (rfl | rfl)⟩
      · refine ⟨.inl rfl, ?_⟩
        refine ⟨[1, 7, 8, 5], _, (by (try simp only [ren_fmV]); exact fmVFree _), (by (try simp only [ren_fmV]); exact fmVFree _), (by (try simp only [ren_rowP]); exact fun i _ => rowPFree _ i), at_h ?_ (hldR), ?_⟩
        · exact dkH_eq (by first | simp only [ren_fmV] | rfl) (by first | simp only [ren_fmV] | rfl) (by first | simp only [ren_rowP] | rfl)
        rintro r hh ⟨rfl, rfl⟩
        refine ⟨.inl rfl, ?_⟩
        refine ⟨Nat, fun k => [(1, flsV l), (7, .tt), (8, .ptr 0 0), (9, flsV (ldJ D.now)), (10, v), (12, flsV (ldJ R.now)), (13, flsV (wantJ l (ldJ D.now) k)), (14, int .i64 (k : Int))], fun k => dkH R, fun k => k ≤ l.length, fun k => l.length - k,
          ⟨0, [1, 7, 8, 5], Nat.zero_le _, ?_, ?_⟩, ?_⟩
        · exact leh_relG (by decide) ⟨.inl ⟨_, rfl, leDkL rfl rfl rfl rfl rfl⟩, .inl ⟨_, rfl, leMap (by simp only [ren_fmV])⟩, .inl ⟨_, rfl, leMap (by simp only [ren_fmV])⟩, .inl ⟨_, rfl, leRowQ rfl (by simp only [ren_rowP])⟩, trivial⟩
        · refine ⟨.same _ trivial, .same _ trivial, .ptr 0 rfl, .same _ trivial, ?_, .same _ trivial, .same _ trivial, leI rfl, trivial⟩
          rcases hv with ⟨_, rfl⟩ | ⟨_, rfl⟩
          · exact .same _ trivial
          · exact .same _ trivial
        intro j hj
        have hj : j ≤ l.length := hj
        have e1 : IntKind.i64.wrap ((j : Int) + 1) = ((j + 1 : Nat) : Int) := by rw [w64 (by omega) (by omega)]; omega
        refine ⟨fun c => ?_, fun c => ?_⟩
        · have f1 : (j : Int) < l.length := yes c
          have hwj := want_len (l := l) (L := ldJ D.now) j hj
          have hws := want_succ (l := l) (L := ldJ D.now) (k := j) (by omega)
          have hwr := want_rise (l := l) hrise j hj
          have h6 : ∀ c, c < 2 → rowF l ((j : Int).toNat * 2 + c) = flC (l.getD j fl0) c := fun c hc => by rw [Int.toNat_natCast]; exact rowF_at l hc
          generalize l.getD j fl0 = F at *
          have hwt := with_p (wantJ l (ldJ D.now) j) F (by omega) hwr
          refine ⟨⟨by omega, f1⟩, flC F, fun c hc => h6 c hc, ?_⟩
          refine ⟨[], _, twoF (flC_free F 0) (flC_free F 1), hwt.args ⟨VLe.refl _, vdf rfl rfl, trivial⟩, ?_⟩
          rintro r hh ⟨rfl, rfl⟩
          refine ⟨.inl rfl, ?_⟩
          refine ⟨trivial, j + 1, [0, 1, 2, 3], by show j + 1 ≤ l.length; omega, by show l.length - (j + 1) < l.length - j; omega, ?_, ?_⟩
          · exact leh_relG (by decide) ⟨.inl ⟨_, rfl, leDkL rfl rfl rfl rfl rfl⟩, .inl ⟨_, rfl, leMap (by first | rfl | simp only [ren_fmV])⟩, .inl ⟨_, rfl, leMap (by first | rfl | simp only [ren_fmV])⟩, .inl ⟨_, rfl, leRowQ rfl (by first | rfl | simp only [ren_rowP])⟩, trivial⟩
          · refine ⟨.same _ trivial, .same _ trivial, .ptr 0 rfl, .same _ trivial, ?_, .same _ trivial, ?_, leI e1, trivial⟩
            · rcases hv with ⟨_, rfl⟩ | ⟨_, rfl⟩
              · exact .same _ trivial
              · exact .same _ trivial
            · show LeV _ _ (flsV (withR F.path F.data (wantJ l (ldJ D.now) j))) (flsV (wantJ l (ldJ D.now) (j + 1)))
              rw [hws]; exact .same _ trivial
        · have f1 : ¬ (j : Int) < l.length := no c
          obtain rfl : j = l.length := by omega
          refine ⟨[0, 1, 2, 3], _, (by (try simp only [ren_fmV]); exact fmVFree _), (by (try simp only [ren_fmV]); exact fmVFree _), (by (try simp only [ren_rowP]); exact fun i _ => rowPFree _ i), at_h ?_ (hgi), ?_⟩
          · exact dkH_eq (by first | simp only [ren_fmV] | rfl) (by first | simp only [ren_fmV] | rfl) (by first | simp only [ren_rowP] | rfl)
          rintro r hh ⟨rfl, rfl⟩
          refine ⟨.inl rfl, ?_⟩
          by_cases hsame : ldJ R.now = wantJ l (ldJ D.now) l.length
          · refine ⟨[], _, (same_q hbr hbw hlr hlw hsame), ?_⟩
            rintro r hh ⟨rfl, rfl⟩
            refine ⟨.inl rfl, ?_⟩
            exact ⟨[], [], .tt, lehN _, .same _ trivial, rfl, rfl⟩
          · rcases hall with ⟨hkl, hold⟩ | hnew
            · rcases hv with ⟨_, rfl⟩ | ⟨h1, _⟩
              rotate_left
              · omega
              refine ⟨[], _, (same_b hbr hbw hlr hlw hsame), ?_⟩
              rintro r hh ⟨rfl, rfl⟩
              refine ⟨.inl rfl, ?_⟩
              refine ⟨[], _, (same_q hbr hbd hlr hld2 hold), ?_⟩
              rintro r hh ⟨rfl, rfl⟩
              refine ⟨.inl rfl, ?_⟩
              exact ⟨[], [], .tt, lehN _, .same _ trivial, rfl, rfl⟩
            · exact absurd hnew hsame
      · refine ⟨.inl rfl, ?_⟩
        refine ⟨[1, 7, 8, 9], _, (by (try simp only [ren_fmV]); exact fmVFree _), (by (try simp only [ren_fmV]); exact fmVFree _), (by (try simp only [ren_rowP]); exact fun i _ => rowPFree _ i), at_h ?_ (hldR), ?_⟩
        · exact dkH_eq (by first | simp only [ren_fmV] | rfl) (by first | simp only [ren_fmV] | rfl) (by first | simp only [ren_rowP] | rfl)
        rintro r hh ⟨rfl, rfl⟩
        refine ⟨.inl rfl, ?_⟩
        refine ⟨Nat, fun k => [(1, flsV l), (7, .tt), (8, .ptr 0 0), (9, flsV (ldJ D.now)), (10, v), (12, flsV (ldJ R.now)), (13, flsV (wantJ l (ldJ D.now) k)), (14, int .i64 (k : Int))], fun k => dkH R, fun k => k ≤ l.length, fun k => l.length - k,
          ⟨0, [1, 7, 8, 9], Nat.zero_le _, ?_, ?_⟩, ?_⟩
        · exact leh_relG (by decide) ⟨.inl ⟨_, rfl, leDkL rfl rfl rfl rfl rfl⟩, .inl ⟨_, rfl, leMap (by simp only [ren_fmV])⟩, .inl ⟨_, rfl, leMap (by simp only [ren_fmV])⟩, .inl ⟨_, rfl, leRowQ rfl (by simp only [ren_rowP])⟩, trivial⟩
        · refine ⟨.same _ trivial, .same _ trivial, .ptr 0 rfl, .same _ trivial, ?_, .same _ trivial, .same _ trivial, leI rfl, trivial⟩
          rcases hv with ⟨_, rfl⟩ | ⟨_, rfl⟩
          · exact .same _ trivial
          · exact .same _ trivial
        intro j hj
        have hj : j ≤ l.length := hj
        have e1 : IntKind.i64.wrap ((j : Int) + 1) = ((j + 1 : Nat) : Int) := by rw [w64 (by omega) (by omega)]; omega
        refine ⟨fun c => ?_, fun c => ?_⟩
        · have f1 : (j : Int) < l.length := yes c
          have hwj := want_len (l := l) (L := ldJ D.now) j hj
          have hws := want_succ (l := l) (L := ldJ D.now) (k := j) (by omega)
          have hwr := want_rise (l := l) hrise j hj
          have h6 : ∀ c, c < 2 → rowF l ((j : Int).toNat * 2 + c) = flC (l.getD j fl0) c := fun c hc => by rw [Int.toNat_natCast]; exact rowF_at l hc
          generalize l.getD j fl0 = F at *
          have hwt := with_p (wantJ l (ldJ D.now) j) F (by omega) hwr
          refine ⟨⟨by omega, f1⟩, flC F, fun c hc => h6 c hc, ?_⟩
          refine ⟨[], _, twoF (flC_free F 0) (flC_free F 1), hwt.args ⟨VLe.refl _, vdf rfl rfl, trivial⟩, ?_⟩
          rintro r hh ⟨rfl, rfl⟩
          refine ⟨.inl rfl, ?_⟩
          refine ⟨trivial, j + 1, [0, 1, 2, 3], by show j + 1 ≤ l.length; omega, by show l.length - (j + 1) < l.length - j; omega, ?_, ?_⟩
          · exact leh_relG (by decide) ⟨.inl ⟨_, rfl, leDkL rfl rfl rfl rfl rfl⟩, .inl ⟨_, rfl, leMap (by first | rfl | simp only [ren_fmV])⟩, .inl ⟨_, rfl, leMap (by first | rfl | simp only [ren_fmV])⟩, .inl ⟨_, rfl, leRowQ rfl (by first | rfl | simp only [ren_rowP])⟩, trivial⟩
          · refine ⟨.same _ trivial, .same _ trivial, .ptr 0 rfl, .same _ trivial, ?_, .same _ trivial, ?_, leI e1, trivial⟩
            · rcases hv with ⟨_, rfl⟩ | ⟨_, rfl⟩
              · exact .same _ trivial
              · exact .same _ trivial
            · show LeV _ _ (flsV (withR F.path F.data (wantJ l (ldJ D.now) j))) (flsV (wantJ l (ldJ D.now) (j + 1)))
              rw [hws]; exact .same _ trivial
        · have f1 : ¬ (j : Int) < l.length := no c
          obtain rfl : j = l.length := by omega
          refine ⟨[0, 1, 2, 3], _, (by (try simp only [ren_fmV]); exact fmVFree _), (by (try simp only [ren_fmV]); exact fmVFree _), (by (try simp only [ren_rowP]); exact fun i _ => rowPFree _ i), at_h ?_ (hgi), ?_⟩
          · exact dkH_eq (by first | simp only [ren_fmV] | rfl) (by first | simp only [ren_fmV] | rfl) (by first | simp only [ren_rowP] | rfl)
          rintro r hh ⟨rfl, rfl⟩
          refine ⟨.inl rfl, ?_⟩
          by_cases hsame : ldJ R.now = wantJ l (ldJ D.now) l.length
          · refine ⟨[], _, (same_q hbr hbw hlr hlw hsame), ?_⟩
            rintro r hh ⟨rfl, rfl⟩
            refine ⟨.inl rfl, ?_⟩
            exact ⟨[], [], .tt, lehN _, .same _ trivial, rfl, rfl⟩
          · rcases hall with ⟨hkl, hold⟩ | hnew
            · rcases hv with ⟨_, rfl⟩ | ⟨h1, _⟩
              rotate_left
              · omega
              refine ⟨[], _, (same_b hbr hbw hlr hlw hsame), ?_⟩
              rintro r hh ⟨rfl, rfl⟩
              refine ⟨.inl rfl, ?_⟩
              refine ⟨[], _, (same_q hbr hbd hlr hld2 hold), ?_⟩
              rintro r hh ⟨rfl, rfl⟩
              refine ⟨.inl rfl, ?_⟩
              exact ⟨[], [], .tt, lehN _, .same _ trivial, rfl, rfl⟩
            · exact absurd hnew hsame
  · rw [hr2 hn] at hst0 hno0 hfd hsz hrm
    generalize recJ (laidJ was 100000) = D at *
    have h8 := hs.2
    have hld0 := load_q D hfd (by decide)
    have hcm := fun s => comA_q D l s hfd (by decide) hs hz hst0 hno0
    unfold comA at hcm
    have hbd := ld_bytes hfd.keys hfd.fit.now
    have hld2 : (ldJ D.now).length ≤ 1000 := by have := ld_len hfd.keys; have := hfd.fit.nowL; omega
    have hsm0 := same_q hbd hbd (by omega) (by omega) rfl
    have hrise : Rising (ldJ D.now) := (ld_rel hfd.keys).rise
    refine ⟨.inl rfl, ?_⟩
    refine ⟨[1, 2, 6, 5], _, (by (try simp only [ren_fmV]); exact fmVFree _), (by (try simp only [ren_fmV]); exact fmVFree _), (by (try simp only [ren_rowP]); exact fun i _ => rowPFree _ i), at_h ?_ (hld0), ?_⟩
    · exact dkH_eq (by first | simp only [ren_fmV] | rfl) (by first | simp only [ren_fmV] | rfl) (by first | simp only [ren_rowP] | rfl)
    rintro r hh ⟨rfl, rfl⟩
    refine ⟨.inl rfl, ?_⟩
    refine ⟨by decide, ?_⟩
    refine ⟨[1, 2, 6, 5], _, (by (try simp only [ren_fmV]); exact fmVFree _), (by (try simp only [ren_fmV]); exact fmVFree _), (by (try simp only [ren_rowP]); exact fun i _ => rowPFree _ i), at_h ?_ ((hcm _)), ?_⟩
    · exact dkH_eq (by first | simp only [ren_fmV] | rfl) (by first | simp only [ren_fmV] | rfl) (by first | simp only [ren_rowP] | rfl)
    rintro r hh (⟨e, he, rfl, rfl⟩ | ⟨hok, k, v, hv, rfl, hh1⟩)
    · refine ⟨.inl rfl, ?_⟩
      refine ⟨fun _ => ?_, fun c => absurd (no c) (fun x => x he)⟩
      refine ⟨[1, 2, 6, 5], _, (by (try simp only [ren_fmV]); exact fmVFree _), (by (try simp only [ren_fmV]); exact fmVFree _), (by (try simp only [ren_rowP]); exact fun i _ => rowPFree _ i), at_h ?_ (hld0), ?_⟩
      · exact dkH_eq (by first | simp only [ren_fmV] | rfl) (by first | simp only [ren_fmV] | rfl) (by first | simp only [ren_rowP] | rfl)
      rintro r hh ⟨rfl, rfl⟩
      refine ⟨.inl rfl, ?_⟩
      refine ⟨[], _, hsm0, ?_⟩
      rintro r hh ⟨rfl, rfl⟩
      refine ⟨.inl rfl, ?_⟩
      exact ⟨[], [], .tt, lehN _, .same _ trivial, rfl, rfl⟩
    have hkk : k ≤ l.length + 5 := by omega
    obtain ⟨hno, hall⟩ := atomic_plain hB hok hs hb hsz hrm hkk
    have hfc := fine_more (fine_cm hfd hs hb hok.pe k) (show 48 + k ≤ 100 by omega)
    have hbw := want_bytes hbd hb l.length (Nat.le_refl _)
    have hlw : (wantJ l (ldJ D.now) l.length).length ≤ 100000 := by have := want_len (l := l) (L := ldJ D.now) l.length (Nat.le_refl _); omega
    have hld2 : (ldJ D.now).length ≤ 100000 := by omega
    generalize cmJ l (intL l) D k = C at *
    rcases hh1 with ⟨hk1, rfl⟩ | ⟨hk1, rfl⟩ | ⟨hk1, rfl⟩
    · obtain ⟨hfr, hst⟩ := fine_recv hfc B
      have hrv := recovered_p C B hB (fit_more hfc.fit (by omega)) hfc.nomv
      unfold recvR at hrv
      generalize recvJ C B = R at *
      have hldR := load_q R hfr (by omega)
      have hgi := get_f R intN hno
      have hbr := ld_bytes hfr.keys hfr.fit.now
      have hlr : (ldJ R.now).length ≤ 100000 := by have := ld_len hfr.keys; have := hfr.fit.nowL; omega
      refine ⟨.inl rfl, ?_⟩
      refine ⟨fun c => absurd rfl (yes c), fun _ => ?_⟩
      refine ⟨[1, 2, 6, 5], _, (by (try simp only [ren_fmV]); exact fmVFree _), (by (try simp only [ren_fmV]); exact fmVFree _), (by (try simp only [ren_rowP]); exact fun i _ => rowPFree _ i), four1 trivial trivial trivial trivial, at_h ?_ (hrv.args ⟨VLe.refl _, vbr rfl rfl rfl rfl, trivial⟩), ?_⟩
      · exact dkH_eq (by first | simp only [ren_fmV] | rfl) (by first | simp only [ren_fmV] | rfl) (by first | simp only [ren_rowP] | rfl)
      rintro r hh ⟨rfl, (rfl | rfl)⟩
      · refine ⟨.inl rfl, ?_⟩
        refine ⟨[1, 7, 8, 5], _, (by (try simp only [ren_fmV]); exact fmVFree _), (by (try simp only [ren_fmV]); exact fmVFree _), (by (try simp only [ren_rowP]); exact fun i _ => rowPFree _ i), at_h ?_ (hldR), ?_⟩
        · exact dkH_eq (by first | simp only [ren_fmV] | rfl) (by first | simp only [ren_fmV] | rfl) (by first | simp only [ren_rowP] | rfl)
        rintro r hh ⟨rfl, rfl⟩
        refine ⟨.inl rfl, ?_⟩
        refine ⟨Nat, fun k => [(1, flsV l), (7, .tt), (8, .ptr 0 0), (9, flsV (ldJ D.now)), (10, v), (12, flsV (ldJ R.now)), (13, flsV (wantJ l (ldJ D.now) k)), (14, int .i64 (k : Int))], fun k => dkH R, fun k => k ≤ l.length, fun k => l.length - k,
          ⟨0, [1, 7, 8, 5], Nat.zero_le _, ?_, ?_⟩, ?_⟩
        · exact leh_relG (by decide) ⟨.inl ⟨_, rfl, leDkL rfl rfl rfl rfl rfl⟩, .inl ⟨_, rfl, leMap (by simp only [ren_fmV])⟩, .inl ⟨_, rfl, leMap (by simp only [ren_fmV])⟩, .inl ⟨_, rfl, leRowQ rfl (by simp only [ren_rowP])⟩, trivial⟩
        · refine ⟨.same _ trivial, .same _ trivial, .ptr 0 rfl, .same _ trivial, ?_, .same _ trivial, .same _ trivial, leI rfl, trivial⟩
          rcases hv with ⟨_, rfl⟩ | ⟨_, rfl⟩
          · exact .same _ trivial
          · exact .same _ trivial
        intro j hj
        have hj : j ≤ l.length := hj
        have e1 : IntKind.i64.wrap ((j : Int) + 1) = ((j + 1 : Nat) : Int) := by rw [w64 (by omega) (by omega)]; omega
        refine ⟨fun c => ?_, fun c => ?_⟩
        · have f1 : (j : Int) < l.length := yes c
          have hwj := want_len (l := l) (L := ldJ D.now) j hj
          have hws := want_succ (l := l) (L := ldJ D.now) (k := j) (by omega)
          have hwr := want_rise (l := l) hrise j hj
          have h6 : ∀ c, c < 2 → rowF l ((j : Int).toNat * 2 + c) = flC (l.getD j fl0) c := fun c hc => by rw [Int.toNat_natCast]; exact rowF_at l hc
          generalize l.getD j fl0 = F at *
          have hwt := with_p (wantJ l (ldJ D.now) j) F (by omega) hwr
          refine ⟨⟨by omega, f1⟩, flC F, fun c hc => h6 c hc, ?_⟩
          refine ⟨[], _, twoF (flC_free F 0) (flC_free F 1), hwt.args ⟨VLe.refl _, vdf rfl rfl, trivial⟩, ?_⟩
          rintro r hh ⟨rfl, rfl⟩
          refine ⟨.inl rfl, ?_⟩
          refine ⟨trivial, j + 1, [0, 1, 2, 3], by show j + 1 ≤ l.length; omega, by show l.length - (j + 1) < l.length - j; omega, ?_, ?_⟩
          · exact leh_relG (by decide) ⟨.inl ⟨_, rfl, leDkL rfl rfl rfl rfl rfl⟩, .inl ⟨_, rfl, leMap (by first | rfl | simp only [ren_fmV])⟩, .inl ⟨_, rfl, leMap (by first | rfl | simp only [ren_fmV])⟩, .inl ⟨_, rfl, leRowQ rfl (by first | rfl | simp only [ren_rowP])⟩, trivial⟩
          · refine ⟨.same _ trivial, .same _ trivial, .ptr 0 rfl, .same _ trivial, ?_, .same _ trivial, ?_, leI e1, trivial⟩
            · rcases hv with ⟨_, rfl⟩ | ⟨_, rfl⟩
              · exact .same _ trivial
              · exact .same _ trivial
            · show LeV _ _ (flsV (withR F.path F.data (wantJ l (ldJ D.now) j))) (flsV (wantJ l (ldJ D.now) (j + 1)))
              rw [hws]; exact .same _ trivial
        · have f1 : ¬ (j : Int) < l.length := no c
          obtain rfl : j = l.length := by omega
          refine ⟨[0, 1, 2, 3], _, (by (try simp only [ren_fmV]); exact fmVFree _), (by (try simp only [ren_fmV]); exact fmVFree _), (by (try simp only [ren_rowP]); exact fun i _ => rowPFree _ i), at_h ?_ (hgi), ?_⟩
          · exact dkH_eq (by first | simp only [ren_fmV] | rfl) (by first | simp only [ren_fmV] | rfl) (by first | simp only [ren_rowP] | rfl)
          rintro r hh ⟨rfl, rfl⟩
          refine ⟨.inl rfl, ?_⟩
          by_cases hsame : ldJ R.now = wantJ l (ldJ D.now) l.length
          · refine ⟨[], _, (same_q hbr hbw hlr hlw hsame), ?_⟩
            rintro r hh ⟨rfl, rfl⟩
            refine ⟨.inl rfl, ?_⟩
            exact ⟨[], [], .tt, lehN _, .same _ trivial, rfl, rfl⟩
          · rcases hall with ⟨hkl, hold⟩ | hnew
            · rcases hv with ⟨_, rfl⟩ | ⟨h1, _⟩
              rotate_left
              · omega
              refine ⟨[], _, (same_b hbr hbw hlr hlw hsame), ?_⟩
              rintro r hh ⟨rfl, rfl⟩
              refine ⟨.inl rfl, ?_⟩
              refine ⟨[], _, (same_q hbr hbd hlr hld2 hold), ?_⟩
              rintro r hh ⟨rfl, rfl⟩
              refine ⟨.inl rfl, ?_⟩
              exact ⟨[], [], .tt, lehN _, .same _ trivial, rfl, rfl⟩
            · exact absurd hnew hsame
      · refine ⟨.inl rfl, ?_⟩
        refine ⟨[1, 7, 8, 9], _, (by (try simp only [ren_fmV]); exact fmVFree _), (by (try simp only [ren_fmV]); exact fmVFree _), (by (try simp only [ren_rowP]); exact fun i _ => rowPFree _ i), at_h ?_ (hldR), ?_⟩
        · exact dkH_eq (by first | simp only [ren_fmV] | rfl) (by first | simp only [ren_fmV] | rfl) (by first | simp only [ren_rowP] | rfl)
        rintro r hh ⟨rfl, rfl⟩
        refine ⟨.inl rfl, ?_⟩
        refine ⟨Nat, fun k => [(1, flsV l), (7, .tt), (8, .ptr 0 0), (9, flsV (ldJ D.now)), (10, v), (12, flsV (ldJ R.now)), (13, flsV (wantJ l (ldJ D.now) k)), (14, int .i64 (k : Int))], fun k => dkH R, fun k => k ≤ l.length, fun k => l.length - k,
          ⟨0, [1, 7, 8, 9], Nat.zero_le _, ?_, ?_⟩, ?_⟩
        · exact leh_relG (by decide) ⟨.inl ⟨_, rfl, leDkL rfl rfl rfl rfl rfl⟩, .inl ⟨_, rfl, leMap (by simp only [ren_fmV])⟩, .inl ⟨_, rfl, leMap (by simp only [ren_fmV])⟩, .inl ⟨_, rfl, leRowQ rfl (by simp only [ren_rowP])⟩, trivial⟩
        · refine ⟨.same _ trivial, .same _ trivial, .ptr 0 rfl, .same _ trivial, ?_, .same _ trivial, .same _ trivial, leI rfl, trivial⟩
          rcases hv with ⟨_, rfl⟩ | ⟨_, rfl⟩
          · exact .same _ trivial
          · exact .same _ trivial
        intro j hj
        have hj : j ≤ l.length := hj
        have e1 : IntKind.i64.wrap ((j : Int) + 1) = ((j + 1 : Nat) : Int) := by rw [w64 (by omega) (by omega)]; omega
        refine ⟨fun c => ?_, fun c => ?_⟩
        · have f1 : (j : Int) < l.length := yes c
          have hwj := want_len (l := l) (L := ldJ D.now) j hj
          have hws := want_succ (l := l) (L := ldJ D.now) (k := j) (by omega)
          have hwr := want_rise (l := l) hrise j hj
          have h6 : ∀ c, c < 2 → rowF l ((j : Int).toNat * 2 + c) = flC (l.getD j fl0) c := fun c hc => by rw [Int.toNat_natCast]; exact rowF_at l hc
          generalize l.getD j fl0 = F at *
          have hwt := with_p (wantJ l (ldJ D.now) j) F (by omega) hwr
          refine ⟨⟨by omega, f1⟩, flC F, fun c hc => h6 c hc, ?_⟩
          refine ⟨[], _, twoF (flC_free F 0) (flC_free F 1), hwt.args ⟨VLe.refl _, vdf rfl rfl, trivial⟩, ?_⟩
          rintro r hh ⟨rfl, rfl⟩
          refine ⟨.inl rfl, ?_⟩
          refine ⟨trivial, j + 1, [0, 1, 2, 3], by show j + 1 ≤ l.length; omega, by show l.length - (j + 1) < l.length - j; omega, ?_, ?_⟩
          · exact leh_relG (by decide) ⟨.inl ⟨_, rfl, leDkL rfl rfl rfl rfl rfl⟩, .inl ⟨_, rfl, leMap (by first | rfl | simp only [ren_fmV])⟩, .inl ⟨_, rfl, leMap (by first | rfl | simp only [ren_fmV])⟩, .inl ⟨_, rfl, leRowQ rfl (by first | rfl | simp only [ren_rowP])⟩, trivial⟩
          · refine ⟨.same _ trivial, .same _ trivial, .ptr 0 rfl, .same _ trivial, ?_, .same _ trivial, ?_, leI e1, trivial⟩
            · rcases hv with ⟨_, rfl⟩ | ⟨_, rfl⟩
              · exact .same _ trivial
              · exact .same _ trivial
            · show LeV _ _ (flsV (withR F.path F.data (wantJ l (ldJ D.now) j))) (flsV (wantJ l (ldJ D.now) (j + 1)))
              rw [hws]; exact .same _ trivial
        · have f1 : ¬ (j : Int) < l.length := no c
          obtain rfl : j = l.length := by omega
          refine ⟨[0, 1, 2, 3], _, (by (try simp only [ren_fmV]); exact fmVFree _), (by (try simp only [ren_fmV]); exact fmVFree _), (by (try simp only [ren_rowP]); exact fun i _ => rowPFree _ i), at_h ?_ (hgi), ?_⟩
          · exact dkH_eq (by first | simp only [ren_fmV] | rfl) (by first | simp only [ren_fmV] | rfl) (by first | simp only [ren_rowP] | rfl)
          rintro r hh ⟨rfl, rfl⟩
          refine ⟨.inl rfl, ?_⟩
          by_cases hsame : ldJ R.now = wantJ l (ldJ D.now) l.length
          · refine ⟨[], _, (same_q hbr hbw hlr hlw hsame), ?_⟩
            rintro r hh ⟨rfl, rfl⟩
            refine ⟨.inl rfl, ?_⟩
            exact ⟨[], [], .tt, lehN _, .same _ trivial, rfl, rfl⟩
          · rcases hall with ⟨hkl, hold⟩ | hnew
            · rcases hv with ⟨_, rfl⟩ | ⟨h1, _⟩
              rotate_left
              · omega
              refine ⟨[], _, (same_b hbr hbw hlr hlw hsame), ?_⟩
              rintro r hh ⟨rfl, rfl⟩
              refine ⟨.inl rfl, ?_⟩
              refine ⟨[], _, (same_q hbr hbd hlr hld2 hold), ?_⟩
              rintro r hh ⟨rfl, rfl⟩
              refine ⟨.inl rfl, ?_⟩
              exact ⟨[], [], .tt, lehN _, .same _ trivial, rfl, rfl⟩
            · exact absurd hnew hsame
    · obtain ⟨hfr, hst⟩ := fine_recv hfc B
      have hrv := recovered_p C B hB (fit_more hfc.fit (by omega)) hfc.nomv
      unfold recvR at hrv
      generalize recvJ C B = R at *
      have hldR := load_q R hfr (by omega)
      have hgi := get_f R intN hno
      have hbr := ld_bytes hfr.keys hfr.fit.now
      have hlr : (ldJ R.now).length ≤ 100000 := by have := ld_len hfr.keys; have := hfr.fit.nowL; omega
      refine ⟨.inl rfl, ?_⟩
      refine ⟨fun c => absurd rfl (yes c), fun _ => ?_⟩
      refine ⟨[1, 2, 6, 7], _, (by (try simp only [ren_fmV]); exact fmVFree _), (by (try simp only [ren_fmV]); exact fmVFree _), (by (try simp only [ren_rowP]); exact fun i _ => rowPFree _ i), four1 trivial trivial trivial trivial, at_h ?_ (hrv.args ⟨VLe.refl _, vbr rfl rfl rfl rfl, trivial⟩), ?_⟩
      · exact dkH_eq (by first | simp only [ren_fmV] | rfl) (by first | simp only [ren_fmV] | rfl) (by first | simp only [ren_rowP] | rfl)
      rintro r hh ⟨rfl, (rfl | rfl)⟩
      · refine ⟨.inl rfl, ?_⟩
        refine ⟨[1, 8, 9, 7], _, (by (try simp only [ren_fmV]); exact fmVFree _), (by (try simp only [ren_fmV]); exact fmVFree _), (by (try simp only [ren_rowP]); exact fun i _ => rowPFree _ i), at_h ?_ (hldR), ?_⟩
        · exact dkH_eq (by first | simp only [ren_fmV] | rfl) (by first | simp only [ren_fmV] | rfl) (by first | simp only [ren_rowP] | rfl)
        rintro r hh ⟨rfl, rfl⟩
        refine ⟨.inl rfl, ?_⟩
        refine ⟨Nat, fun k => [(1, flsV l), (7, .tt), (8, .ptr 0 0), (9, flsV (ldJ D.now)), (10, v), (12, flsV (ldJ R.now)), (13, flsV (wantJ l (ldJ D.now) k)), (14, int .i64 (k : Int))], fun k => dkH R, fun k => k ≤ l.length, fun k => l.length - k,
          ⟨0, [1, 8, 9, 7], Nat.zero_le _, ?_, ?_⟩, ?_⟩
        · exact leh_relG (by decide) ⟨.inl ⟨_, rfl, leDkL rfl rfl rfl rfl rfl⟩, .inl ⟨_, rfl, leMap (by simp only [ren_fmV])⟩, .inl ⟨_, rfl, leMap (by simp only [ren_fmV])⟩, .inl ⟨_, rfl, leRowQ rfl (by simp only [ren_rowP])⟩, trivial⟩
        · refine ⟨.same _ trivial, .same _ trivial, .ptr 0 rfl, .same _ trivial, ?_, .same _ trivial, .same _ trivial, leI rfl, trivial⟩
          rcases hv with ⟨_, rfl⟩ | ⟨_, rfl⟩
          · exact .same _ trivial
          · exact .same _ trivial
        intro j hj
        have hj : j ≤ l.length := hj
        have e1 : IntKind.i64.wrap ((j : Int) + 1) = ((j + 1 : Nat) : Int) := by rw [w64 (by omega) (by omega)]; omega
        refine ⟨fun c => ?_, fun c => ?_⟩
        · have f1 : (j : Int) < l.length := yes c
          have hwj := want_len (l := l) (L := ldJ D.now) j hj
          have hws := want_succ (l := l) (L := ldJ D.now) (k := j) (by omega)
          have hwr := want_rise (l := l) hrise j hj
          have h6 : ∀ c, c < 2 → rowF l ((j : Int).toNat * 2 + c) = flC (l.getD j fl0) c := fun c hc => by rw [Int.toNat_natCast]; exact rowF_at l hc
          generalize l.getD j fl0 = F at *
          have hwt := with_p (wantJ l (ldJ D.now) j) F (by omega) hwr
          refine ⟨⟨by omega, f1⟩, flC F, fun c hc => h6 c hc, ?_⟩
          refine ⟨[], _, twoF (flC_free F 0) (flC_free F 1), hwt.args ⟨VLe.refl _, vdf rfl rfl, trivial⟩, ?_⟩
          rintro r hh ⟨rfl, rfl⟩
          refine ⟨.inl rfl, ?_⟩
          refine ⟨trivial, j + 1, [0, 1, 2, 3], by show j + 1 ≤ l.length; omega, by show l.length - (j + 1) < l.length - j; omega, ?_, ?_⟩
          · exact leh_relG (by decide) ⟨.inl ⟨_, rfl, leDkL rfl rfl rfl rfl rfl⟩, .inl ⟨_, rfl, leMap (by first | rfl | simp only [ren_fmV])⟩, .inl ⟨_, rfl, leMap (by first | rfl | simp only [ren_fmV])⟩, .inl ⟨_, rfl, leRowQ rfl (by first | rfl | simp only [ren_rowP])⟩, trivial⟩
          · refine ⟨.same _ trivial, .same _ trivial, .ptr 0 rfl, .same _ trivial, ?_, .same _ trivial, ?_, leI e1, trivial⟩
            · rcases hv with ⟨_, rfl⟩ | ⟨_, rfl⟩
              · exact .same _ trivial
              · exact .same _ trivial
            · show LeV _ _ (flsV (withR F.path F.data (wantJ l (ldJ D.now) j))) (flsV (wantJ l (ldJ D.now) (j + 1)))
              rw [hws]; exact .same _ trivial
        · have f1 : ¬ (j : Int) < l.length := no c
          obtain rfl : j = l.length := by omega
          refine ⟨[0, 1, 2, 3], _, (by (try simp only [ren_fmV]); exact fmVFree _), (by (try simp only [ren_fmV]); exact fmVFree _), (by (try simp only [ren_rowP]); exact fun i _ => rowPFree _ i), at_h ?_ (hgi), ?_⟩
          · exact dkH_eq (by first | simp only [ren_fmV] | rfl) (by first | simp only [ren_fmV] | rfl) (by first | simp only [ren_rowP] | rfl)
          rintro r hh ⟨rfl, rfl⟩
          refine ⟨.inl rfl, ?_⟩
          by_cases hsame : ldJ R.now = wantJ l (ldJ D.now) l.length
          · refine ⟨[], _, (same_q hbr hbw hlr hlw hsame), ?_⟩
            rintro r hh ⟨rfl, rfl⟩
            refine ⟨.inl rfl, ?_⟩
            exact ⟨[], [], .tt, lehN _, .same _ trivial, rfl, rfl⟩
          · rcases hall with ⟨hkl, hold⟩ | hnew
            · rcases hv with ⟨_, rfl⟩ | ⟨h1, _⟩
              rotate_left
              · omega
              refine ⟨[], _, (same_b hbr hbw hlr hlw hsame), ?_⟩
              rintro r hh ⟨rfl, rfl⟩
              refine ⟨.inl rfl, ?_⟩
              refine ⟨[], _, (same_q hbr hbd hlr hld2 hold), ?_⟩
              rintro r hh ⟨rfl, rfl⟩
              refine ⟨.inl rfl, ?_⟩
              exact ⟨[], [], .tt, lehN _, .same _ trivial, rfl, rfl⟩
            · exact absurd hnew hsame
      · refine ⟨.inl rfl, ?_⟩
        refine ⟨[1, 8, 9, 10], _, (by (try simp only [ren_fmV]); exact fmVFree _), (by (try simp only [ren_fmV]); exact fmVFree _), (by (try simp only [ren_rowP]); exact fun i _ => rowPFree _ i), at_h ?_ (hldR), ?_⟩
        · exact dkH_eq (by first | simp only [ren_fmV] | rfl) (by first | simp only [ren_fmV] | rfl) (by first | simp only [ren_rowP] | rfl)
        rintro r hh ⟨rfl, rfl⟩
        refine ⟨.inl rfl, ?_⟩
        refine ⟨Nat, fun k => [(1, flsV l), (7, .tt), (8, .ptr 0 0), (9, flsV (ldJ D.now)), (10, v), (12, flsV (ldJ R.now)), (13, flsV (wantJ l (ldJ D.now) k)), (14, int .i64 (k : Int))], fun k => dkH R, fun k => k ≤ l.length, fun k => l.length - k,
          ⟨0, [1, 8, 9, 10], Nat.zero_le _, ?_, ?_⟩, ?_⟩
        · exact leh_relG (by decide) ⟨.inl ⟨_, rfl, leDkL rfl rfl rfl rfl rfl⟩, .inl ⟨_, rfl, leMap (by simp only [ren_fmV])⟩, .inl ⟨_, rfl, leMap (by simp only [ren_fmV])⟩, .inl ⟨_, rfl, leRowQ rfl (by simp only [ren_rowP])⟩, trivial⟩
        · refine ⟨.same _ trivial, .same _ trivial, .ptr 0 rfl, .same _ trivial, ?_, .same _ trivial, .same _ trivial, leI rfl, trivial⟩
          rcases hv with ⟨_, rfl⟩ | ⟨_, rfl⟩
          · exact .same _ trivial
          · exact .same _ trivial
        intro j hj
        have hj : j ≤ l.length := hj
        have e1 : IntKind.i64.wrap ((j : Int) + 1) = ((j + 1 : Nat) : Int) := by rw [w64 (by omega) (by omega)]; omega
        refine ⟨fun c => ?_, fun c => ?_⟩
        · have f1 : (j : Int) < l.length := yes c
          have hwj := want_len (l := l) (L := ldJ D.now) j hj
          have hws := want_succ (l := l) (L := ldJ D.now) (k := j) (by omega)
          have hwr := want_rise (l := l) hrise j hj
          have h6 : ∀ c, c < 2 → rowF l ((j : Int).toNat * 2 + c) = flC (l.getD j fl0) c := fun c hc => by rw [Int.toNat_natCast]; exact rowF_at l hc
          generalize l.getD j fl0 = F at *
          have hwt := with_p (wantJ l (ldJ D.now) j) F (by omega) hwr
          refine ⟨⟨by omega, f1⟩, flC F, fun c hc => h6 c hc, ?_⟩
          refine ⟨[], _, twoF (flC_free F 0) (flC_free F 1), hwt.args ⟨VLe.refl _, vdf rfl rfl, trivial⟩, ?_⟩
          rintro r hh ⟨rfl, rfl⟩
          refine ⟨.inl rfl, ?_⟩
          refine ⟨trivial, j + 1, [0, 1, 2, 3], by show j + 1 ≤ l.length; omega, by show l.length - (j + 1) < l.length - j; omega, ?_, ?_⟩
          · exact leh_relG (by decide) ⟨.inl ⟨_, rfl, leDkL rfl rfl rfl rfl rfl⟩, .inl ⟨_, rfl, leMap (by first | rfl | simp only [ren_fmV])⟩, .inl ⟨_, rfl, leMap (by first | rfl | simp only [ren_fmV])⟩, .inl ⟨_, rfl, leRowQ rfl (by first | rfl | simp only [ren_rowP])⟩, trivial⟩
          · refine ⟨.same _ trivial, .same _ trivial, .ptr 0 rfl, .same _ trivial, ?_, .same _ trivial, ?_, leI e1, trivial⟩
            · rcases hv with ⟨_, rfl⟩ | ⟨_, rfl⟩
              · exact .same _ trivial
              · exact .same _ trivial
            · show LeV _ _ (flsV (withR F.path F.data (wantJ l (ldJ D.now) j))) (flsV (wantJ l (ldJ D.now) (j + 1)))
              rw [hws]; exact .same _ trivial
        · have f1 : ¬ (j : Int) < l.length := no c
          obtain rfl : j = l.length := by omega
          refine ⟨[0, 1, 2, 3], _, (by (try simp only [ren_fmV]); exact fmVFree _), (by (try simp only [ren_fmV]); exact fmVFree _), (by (try simp only [ren_rowP]); exact fun i _ => rowPFree _ i), at_h ?_ (hgi), ?_⟩
          · exact dkH_eq (by first | simp only [ren_fmV] | rfl) (by first | simp only [ren_fmV] | rfl) (by first | simp only [ren_rowP] | rfl)
          rintro r hh ⟨rfl, rfl⟩
          refine ⟨.inl rfl, ?_⟩
          by_cases hsame : ldJ R.now = wantJ l (ldJ D.now) l.length
          · refine ⟨[], _, (same_q hbr hbw hlr hlw hsame), ?_⟩
            rintro r hh ⟨rfl, rfl⟩
            refine ⟨.inl rfl, ?_⟩
            exact ⟨[], [], .tt, lehN _, .same _ trivial, rfl, rfl⟩
          · rcases hall with ⟨hkl, hold⟩ | hnew
            · rcases hv with ⟨_, rfl⟩ | ⟨h1, _⟩
              rotate_left
              · omega
              refine ⟨[], _, (same_b hbr hbw hlr hlw hsame), ?_⟩
              rintro r hh ⟨rfl, rfl⟩
              refine ⟨.inl rfl, ?_⟩
              refine ⟨[], _, (same_q hbr hbd hlr hld2 hold), ?_⟩
              rintro r hh ⟨rfl, rfl⟩
              refine ⟨.inl rfl, ?_⟩
              exact ⟨[], [], .tt, lehN _, .same _ trivial, rfl, rfl⟩
            · exact absurd hnew hsame
    · obtain ⟨hfr, hst⟩ := fine_recv hfc B
      have hrv := recovered_p C B hB (fit_more hfc.fit (by omega)) hfc.nomv
      unfold recvR at hrv
      generalize recvJ C B = R at *
      have hldR := load_q R hfr (by omega)
      have hgi := get_f R intN hno
      have hbr := ld_bytes hfr.keys hfr.fit.now
      have hlr : (ldJ R.now).length ≤ 100000 := by have := ld_len hfr.keys; have := hfr.fit.nowL; omega
      refine ⟨.inl rfl, ?_⟩
      refine ⟨fun c => absurd rfl (yes c), fun _ => ?_⟩
      refine ⟨[1, 2, 8, 7], _, (by (try simp only [ren_fmV]); exact fmVFree _), (by (try simp only [ren_fmV]); exact fmVFree _), (by (try simp only [ren_rowP]); exact fun i _ => rowPFree _ i), four1 trivial trivial trivial trivial, at_h ?_ (hrv.args ⟨VLe.refl _, vbr rfl rfl rfl rfl, trivial⟩), ?_⟩
      · exact dkH_eq (by first | simp only [ren_fmV] | rfl) (by first | simp only [ren_fmV] | rfl) (by first | simp only [ren_rowP] | rfl)
      rintro r hh ⟨rfl, (rfl | rfl)⟩
      · refine ⟨.inl rfl, ?_⟩
        refine ⟨[1, 9, 10, 7], _, (by (try simp only [ren_fmV]); exact fmVFree _), (by (try simp only [ren_fmV]); exact fmVFree _), (by (try simp only [ren_rowP]); exact fun i _ => rowPFree _ i), at_h ?_ (hldR), ?_⟩
        · exact dkH_eq (by first | simp only [ren_fmV] | rfl) (by first | simp only [ren_fmV] | rfl) (by first | simp only [ren_rowP] | rfl)
        rintro r hh ⟨rfl, rfl⟩
        refine ⟨.inl rfl, ?_⟩
        refine ⟨Nat, fun k => [(1, flsV l), (7, .tt), (8, .ptr 0 0), (9, flsV (ldJ D.now)), (10, v), (12, flsV (ldJ R.now)), (13, flsV (wantJ l (ldJ D.now) k)), (14, int .i64 (k : Int))], fun k => dkH R, fun k => k ≤ l.length, fun k => l.length - k,
          ⟨0, [1, 9, 10, 7], Nat.zero_le _, ?_, ?_⟩, ?_⟩
        · exact leh_relG (by decide) ⟨.inl ⟨_, rfl, leDkL rfl rfl rfl rfl rfl⟩, .inl ⟨_, rfl, leMap (by simp only [ren_fmV])⟩, .inl ⟨_, rfl, leMap (by simp only [ren_fmV])⟩, .inl ⟨_, rfl, leRowQ rfl (by simp only [ren_rowP])⟩, trivial⟩
        · refine ⟨.same _ trivial, .same _ trivial, .ptr 0 rfl, .same _ trivial, ?_, .same _ trivial, .same _ trivial, leI rfl, trivial⟩
          rcases hv with ⟨_, rfl⟩ | ⟨_, rfl⟩
          · exact .same _ trivial
          · exact .same _ trivial
        intro j hj
        have hj : j ≤ l.length := hj
        have e1 : IntKind.i64.wrap ((j : Int) + 1) = ((j + 1 : Nat) : Int) := by rw [w64 (by omega) (by omega)]; omega
        refine ⟨fun c => ?_, fun c => ?_⟩
        · have f1 : (j : Int) < l.length := yes c
          have hwj := want_len (l := l) (L := ldJ D.now) j hj
          have hws := want_succ (l := l) (L := ldJ D.now) (k := j) (by omega)
          have hwr := want_rise (l := l) hrise j hj
          have h6 : ∀ c, c < 2 → rowF l ((j : Int).toNat * 2 + c) = flC (l.getD j fl0) c := fun c hc => by rw [Int.toNat_natCast]; exact rowF_at l hc
          generalize l.getD j fl0 = F at *
          have hwt := with_p (wantJ l (ldJ D.now) j) F (by omega) hwr
          refine ⟨⟨by omega, f1⟩, flC F, fun c hc => h6 c hc, ?_⟩
          refine ⟨[], _, twoF (flC_free F 0) (flC_free F 1), hwt.args ⟨VLe.refl _, vdf rfl rfl, trivial⟩, ?_⟩
          rintro r hh ⟨rfl, rfl⟩
          refine ⟨.inl rfl, ?_⟩
          refine ⟨trivial, j + 1, [0, 1, 2, 3], by show j + 1 ≤ l.length; omega, by show l.length - (j + 1) < l.length - j; omega, ?_, ?_⟩
          · exact leh_relG (by decide) ⟨.inl ⟨_, rfl, leDkL rfl rfl rfl rfl rfl⟩, .inl ⟨_, rfl, leMap (by first | rfl | simp only [ren_fmV])⟩, .inl ⟨_, rfl, leMap (by first | rfl | simp only [ren_fmV])⟩, .inl ⟨_, rfl, leRowQ rfl (by first | rfl | simp only [ren_rowP])⟩, trivial⟩
          · refine ⟨.same _ trivial, .same _ trivial, .ptr 0 rfl, .same _ trivial, ?_, .same _ trivial, ?_, leI e1, trivial⟩
            · rcases hv with ⟨_, rfl⟩ | ⟨_, rfl⟩
              · exact .same _ trivial
              · exact .same _ trivial
            · show LeV _ _ (flsV (withR F.path F.data (wantJ l (ldJ D.now) j))) (flsV (wantJ l (ldJ D.now) (j + 1)))
              rw [hws]; exact .same _ trivial
        · have f1 : ¬ (j : Int) < l.length := no c
          obtain rfl : j = l.length := by omega
          refine ⟨[0, 1, 2, 3], _, (by (try simp only [ren_fmV]); exact fmVFree _), (by (try simp only [ren_fmV]); exact fmVFree _), (by (try simp only [ren_rowP]); exact fun i _ => rowPFree _ i), at_h ?_ (hgi), ?_⟩
          · exact dkH_eq (by first | simp only [ren_fmV] | rfl) (by first | simp only [ren_fmV] | rfl) (by first | simp only [ren_rowP] | rfl)
          rintro r hh ⟨rfl, rfl⟩
          refine ⟨.inl rfl, ?_⟩
          by_cases hsame : ldJ R.now = wantJ l (ldJ D.now) l.length
          · refine ⟨[], _, (same_q hbr hbw hlr hlw hsame), ?_⟩
            rintro r hh ⟨rfl, rfl⟩
            refine ⟨.inl rfl, ?_⟩
            exact ⟨[], [], .tt, lehN _, .same _ trivial, rfl, rfl⟩
          · rcases hall with ⟨hkl, hold⟩ | hnew
            · rcases hv with ⟨_, rfl⟩ | ⟨h1, _⟩
              rotate_left
              · omega
              refine ⟨[], _, (same_b hbr hbw hlr hlw hsame), ?_⟩
              rintro r hh ⟨rfl, rfl⟩
              refine ⟨.inl rfl, ?_⟩
              refine ⟨[], _, (same_q hbr hbd hlr hld2 hold), ?_⟩
              rintro r hh ⟨rfl, rfl⟩
              refine ⟨.inl rfl, ?_⟩
              exact ⟨[], [], .tt, lehN _, .same _ trivial, rfl, rfl⟩
            · exact absurd hnew hsame
      · refine ⟨.inl rfl, ?_⟩
        refine ⟨[1, 9, 10, 11], _, (by (try simp only [ren_fmV]); exact fmVFree _), (by (try simp only [ren_fmV]); exact fmVFree _), (by (try simp only [ren_rowP]); exact fun i _ => rowPFree _ i), at_h ?_ (hldR), ?_⟩
        · exact dkH_eq (by first | simp only [ren_fmV] | rfl) (by first | simp only [ren_fmV] | rfl) (by first | simp only [ren_rowP] | rfl)
        rintro r hh ⟨rfl, rfl⟩
        refine ⟨.inl rfl, ?_⟩
        refine ⟨Nat, fun k => [(1, flsV l), (7, .tt), (8, .ptr 0 0), (9, flsV (ldJ D.now)), (10, v), (12, flsV (ldJ R.now)), (13, flsV (wantJ l (ldJ D.now) k)), (14, int .i64 (k : Int))], fun k => dkH R, fun k => k ≤ l.length, fun k => l.length - k,
          ⟨0, [1, 9, 10, 11], Nat.zero_le _, ?_, ?_⟩, ?_⟩
        · exact leh_relG (by decide) ⟨.inl ⟨_, rfl, leDkL rfl rfl rfl rfl rfl⟩, .inl ⟨_, rfl, leMap (by simp only [ren_fmV])⟩, .inl ⟨_, rfl, leMap (by simp only [ren_fmV])⟩, .inl ⟨_, rfl, leRowQ rfl (by simp only [ren_rowP])⟩, trivial⟩
        · refine ⟨.same _ trivial, .same _ trivial, .ptr 0 rfl, .same _ trivial, ?_, .same _ trivial, .same _ trivial, leI rfl, trivial⟩
          rcases hv with ⟨_, rfl⟩ | ⟨_, rfl⟩
          · exact .same _ trivial
          · exact .same _ trivial
        intro j hj
        have hj : j ≤ l.length := hj
        have e1 : IntKind.i64.wrap ((j : Int) + 1) = ((j + 1 : Nat) : Int) := by rw [w64 (by omega) (by omega)]; omega
        refine ⟨fun c => ?_, fun c => ?_⟩
        · have f1 : (j : Int) < l.length := yes c
          have hwj := want_len (l := l) (L := ldJ D.now) j hj
          have hws := want_succ (l := l) (L := ldJ D.now) (k := j) (by omega)
          have hwr := want_rise (l := l) hrise j hj
          have h6 : ∀ c, c < 2 → rowF l ((j : Int).toNat * 2 + c) = flC (l.getD j fl0) c := fun c hc => by rw [Int.toNat_natCast]; exact rowF_at l hc
          generalize l.getD j fl0 = F at *
          have hwt := with_p (wantJ l (ldJ D.now) j) F (by omega) hwr
          refine ⟨⟨by omega, f1⟩, flC F, fun c hc => h6 c hc, ?_⟩
          refine ⟨[], _, twoF (flC_free F 0) (flC_free F 1), hwt.args ⟨VLe.refl _, vdf rfl rfl, trivial⟩, ?_⟩
          rintro r hh ⟨rfl, rfl⟩
          refine ⟨.inl rfl, ?_⟩
          refine ⟨trivial, j + 1, [0, 1, 2, 3], by show j + 1 ≤ l.length; omega, by show l.length - (j + 1) < l.length - j; omega, ?_, ?_⟩
          · exact leh_relG (by decide) ⟨.inl ⟨_, rfl, leDkL rfl rfl rfl rfl rfl⟩, .inl ⟨_, rfl, leMap (by first | rfl | simp only [ren_fmV])⟩, .inl ⟨_, rfl, leMap (by first | rfl | simp only [ren_fmV])⟩, .inl ⟨_, rfl, leRowQ rfl (by first | rfl | simp only [ren_rowP])⟩, trivial⟩
          · refine ⟨.same _ trivial, .same _ trivial, .ptr 0 rfl, .same _ trivial, ?_, .same _ trivial, ?_, leI e1, trivial⟩
            · rcases hv with ⟨_, rfl⟩ | ⟨_, rfl⟩
              · exact .same _ trivial
              · exact .same _ trivial
            · show LeV _ _ (flsV (withR F.path F.data (wantJ l (ldJ D.now) j))) (flsV (wantJ l (ldJ D.now) (j + 1)))
              rw [hws]; exact .same _ trivial
        · have f1 : ¬ (j : Int) < l.length := no c
          obtain rfl : j = l.length := by omega
          refine ⟨[0, 1, 2, 3], _, (by (try simp only [ren_fmV]); exact fmVFree _), (by (try simp only [ren_fmV]); exact fmVFree _), (by (try simp only [ren_rowP]); exact fun i _ => rowPFree _ i), at_h ?_ (hgi), ?_⟩
          · exact dkH_eq (by first | simp only [ren_fmV] | rfl) (by first | simp only [ren_fmV] | rfl) (by first | simp only [ren_rowP] | rfl)
          rintro r hh ⟨rfl, rfl⟩
          refine ⟨.inl rfl, ?_⟩
          by_cases hsame : ldJ R.now = wantJ l (ldJ D.now) l.length
          · refine ⟨[], _, (same_q hbr hbw hlr hlw hsame), ?_⟩
            rintro r hh ⟨rfl, rfl⟩
            refine ⟨.inl rfl, ?_⟩
            exact ⟨[], [], .tt, lehN _, .same _ trivial, rfl, rfl⟩
          · rcases hall with ⟨hkl, hold⟩ | hnew
            · rcases hv with ⟨_, rfl⟩ | ⟨h1, _⟩
              rotate_left
              · omega
              refine ⟨[], _, (same_b hbr hbw hlr hlw hsame), ?_⟩
              rintro r hh ⟨rfl, rfl⟩
              refine ⟨.inl rfl, ?_⟩
              refine ⟨[], _, (same_q hbr hbd hlr hld2 hold), ?_⟩
              rintro r hh ⟨rfl, rfl⟩
              refine ⟨.inl rfl, ?_⟩
              exact ⟨[], [], .tt, lehN _, .same _ trivial, rfl, rfl⟩
            · exact absurd hnew hsame
theorem atomic_q (was l : List Fl) (B : BrJ) (hz0 : okSizes was) (hz : okSizes l) (hB : okBr B) : ACalls Tryz.prog 4 [flsV was, flsV l, brV B] [] (fun r h => r = .tt ∧ h = []) := atomic_p was l B hB hz0 hz
end
end Go.Proofs.YtflclafbieokiaaGreatDoor.Jr
