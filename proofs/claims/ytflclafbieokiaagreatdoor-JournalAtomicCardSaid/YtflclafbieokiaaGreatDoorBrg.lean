import Derived.Test.YtflclafbieokiaaGreatDoorRows
import Derived.Test.YtflclafbieokiaaGreatDoorBrf

/-
  The journal's laws: what all of them begin with, walked.
-/
set_option linter.unusedVariables false
set_option linter.unusedSectionVars false
set_option linter.unusedSimpArgs false
set_option maxRecDepth 10000
namespace Go.Proofs.YtflclafbieokiaaGreatDoor.Jr
open Go AL Oc Pa Spl Hd Us Dk Sh

def aA : ByteArray := "a".toUTF8
def bB : ByteArray := "b".toUTF8
def aw0 : List Fl := [⟨aA, [49]⟩]
def aw1 : List Fl := [⟨aA, [50]⟩, ⟨bB, [51]⟩]
theorem ok_a : okSplit aA := by
  refine ⟨?_, by decide, .inl (by decide)⟩
  intro p hp
  have : p = [97] := by
    have : pieces 47 aA.data.toList = [[97]] := by decide +kernel
    rw [this] at hp
    simpa using hp
  subst this
  decide +kernel
theorem ok_b : okSplit bB := by
  refine ⟨?_, by decide, .inl (by decide)⟩
  intro p hp
  have : p = [98] := by
    have : pieces 47 bB.data.toList = [[98]] := by decide +kernel
    rw [this] at hp
    simpa using hp
  subst this
  decide +kernel
theorem ab_ne : aA ≠ bB := by decide
theorem aw_put : putE aw1 = 0 := putE_ok.2 ⟨fun f hf => by
  rcases List.mem_cons.1 hf with rfl | hf
  · exact ok_a
  · rw [List.mem_singleton.1 hf]; exact ok_b, fun h => h (by
    show [aA, bB].Nodup
    exact List.nodup_cons.2 ⟨by simp [ab_ne], List.nodup_cons.2 ⟨by simp, .nil⟩⟩)⟩
theorem aw_s0 : smallF aw0 := by decide
theorem aw_s1 : smallF aw1 := by decide
theorem aw_b0 : okBytes aw0 := fun f hf x hx => by
  rw [List.mem_singleton.1 hf] at hx
  rw [List.mem_singleton.1 hx]; decide
theorem aw_z1 : okSizes aw1 := fun f hf => by
  rcases List.mem_cons.1 hf with rfl | hf
  · exact ⟨by decide, fun x hx => by rw [List.mem_singleton.1 hx]; decide⟩
  · rw [List.mem_singleton.1 hf]
    exact ⟨by decide, fun x hx => by rw [List.mem_singleton.1 hx]; decide⟩
theorem aw_now : (laidJ aw0 100000).now = [(aA, [49])] := by
  have h := wrJ_all (L := aw0) (d := newF 100000) (fun f hf => by rw [List.mem_singleton.1 hf]; decide) (by decide) 1 (Nat.le_refl _)
  exact h
theorem aw_cm : CmOk aw1 (laidJ aw0 100000) := by
  refine ⟨rfl, rfl, ?_, ?_, aw_put, ⟨by decide, by decide⟩, ?_, good_laid _ _⟩
  · rw [aw_now]; decide
  · intro f hf
    rcases List.mem_cons.1 hf with rfl | hf
    · decide
    · rw [List.mem_singleton.1 hf]; decide
  · have h1 := (int_ok aw_s1 (fun f hf => (aw_z1 f hf).2) aw_put).1
    have h2 := size_laid (l := aw0) (room := 100000) aw_s0
    have h3 := data_small aw_s1
    rw [room_laid]
    show _ ≤ (100000 : Int)
    omega
theorem cm_2 (l : List Fl) (b : List Int) (d : DkF) : cmJ l b d 2 = syncF (doF d (.wr intN b)) := rfl
theorem syncF_deeds (d : DkF) : (syncF d).deeds = [] := rfl
theorem crash_now {d : DkF} (h : d.deeds = []) (a b : Int) : (crashF d a b).now = d.synced := crash_none h a b
theorem crashF_now (d : DkF) (a b : Int) : (crashF d a b).now = crashM d a b := rfl
theorem room_crash (d : DkF) (a b : Int) : (crashF d a b).room = d.room := rfl
noncomputable def awD : DkF := crashF (cmJ aw1 (intL aw1) (laidJ aw0 100000) 2) ((0 : Nat) : Int) ((0 : Nat) : Int)
theorem aw_mid : qMid aw1 (laidJ aw0 100000).now awD.now := by
  have e : cmJ aw1 (intL aw1) (laidJ aw0 100000) 2 = syncF (doF (laidJ aw0 100000) (.wr intN (intL aw1))) := cm_2 _ _ _
  have h : awD.now = setF intN (intL aw1) (laidJ aw0 100000).now := by
    unfold awD
    rw [e, cm_first aw_cm]
    exact crash_now (syncF_deeds _) _ _
  rw [h]
  exact ⟨fun p hp _ => get_set_other hp _ _, get_set_same _ _ _⟩
theorem aw_fine : FineJ 10 (cmJ aw1 (intL aw1) (laidJ aw0 100000) 2) := fine_cm (fine_laid aw_s0 aw_b0) aw_s1 (fun f hf => (aw_z1 f hf).2) aw_put 2
theorem aw_ld : ldJ (recJ awD).now = aw1 := by
  have hf : FineJ 10 awD := fine_crash aw_fine 0 0
  have hm := aw_mid
  have e1 : rcJ awD = recJ awD := if_neg (by rw [hm.2]; exact fun x => by cases x)
  have hsz : sizeF awD.now ≤ sizeF (laidJ aw0 100000).now + (intL aw1).length + dataN aw1 := (cm_crash aw_cm (k := 2) (keep := 0) (bytes := 0) (Nat.le_add_left 2 5) (Nat.zero_le _) _ (crashF_now _ _ _)).2
  have hrm : awD.room = 100000 := (room_crash _ _ _).trans ((room_cm aw1 (intL aw1) (laidJ aw0 100000) 2).trans ((room_laid aw0 100000).trans (Int.max_eq_left (by decide))))
  have h1 := (int_ok aw_s1 (fun f hf => (aw_z1 f hf).2) aw_put).1
  have h2 := size_laid (l := aw0) (room := 100000) aw_s0
  have h3 := data_small aw_s1
  have h4 : ldJ (recJ awD).now = ldJ (setsJ aw1 (laidJ aw0 100000).now) := by
    refine ld_ext (good_all (good_rec hf.good)).2 (sets_keys (good_all (good_laid aw0 100000)).2) fun p hp => ?_
    rw [← e1]
    exact rc_mid ⟨by decide, by decide⟩ aw_put aw_cm.may hm (by rw [hrm]; omega) hp
  have hn : setsJ aw1 (laidJ aw0 100000).now = [(aA, [50]), (bB, [51])] := by rw [aw_now]; rfl
  rw [h4, hn]
  have hk : (keysF [(aA, ([50] : List Int)), (bB, [51])]).Nodup := by
    show [aA, bB].Nodup
    exact List.nodup_cons.2 ⟨by simp [ab_ne], List.nodup_cons.2 ⟨by simp, .nil⟩⟩
  have g := ld_rel hk
  have hd : delF intN [(aA, ([50] : List Int)), (bB, [51])] = [(aA, [50]), (bB, [51])] := by rfl
  rw [hd] at g
  refine rel_uniq g ⟨hk, ?_, .refl _⟩
  refine List.pairwise_cons.2 ⟨fun f hf => ?_, List.pairwise_singleton _ _⟩
  rw [List.mem_singleton.1 hf]
  exact ltS_iff.2 (by rw [Lib.toList_data, Lib.toList_data]; decide)
theorem four4 {P : Nat → Prop} (h0 : P 0) (h1 : P 1) (h2 : P 2) (h3 : P 3) : ∀ i, i < 2 * 2 → P i := fun i hi => by
  match i, hi with
  | 0, _ => exact h0
  | 1, _ => exact h1
  | 2, _ => exact h2
  | 3, _ => exact h3
theorem four1 {P : Nat → Prop} (h0 : P 0) (h1 : P 1) (h2 : P 2) (h3 : P 3) : ∀ i, i < 4 → P i := fun i hi => by
  match i, hi with
  | 0, _ => exact h0
  | 1, _ => exact h1
  | 2, _ => exact h2
  | 3, _ => exact h3
section
variable [Globs]
theorem vbr {f : Nat → AV} {B : BrJ} (h0 : f 0 = brC B 0) (h1 : f 1 = brC B 1) (h2 : f 2 = brC B 2) (h3 : f 3 = brC B 3) : VLe (.agg 4 f) (brV B) := vagg fun i hi => by
  match i, hi with
  | 0, _ => rw [h0]; exact VLe.refl _
  | 1, _ => rw [h1]; exact VLe.refl _
  | 2, _ => rw [h2]; exact VLe.refl _
  | 3, _ => rw [h3]; exact VLe.refl _

set_option maxHeartbeats 4000000 in
theorem awake_p : ACalls Tryz.prog 8 [] [] (fun r h => r = .tt ∧ h = []) := by
  have h0 := laid_p aw0 100000 aw_s0 aw_b0
  have h1 := commit_q (laidJ aw0 100000) aw1 2 (fine_laid aw_s0 aw_b0) (by decide) aw_s1 aw_z1
  have h2 := crash_p (cmJ aw1 (intL aw1) (laidJ aw0 100000) 2) 0 0 (by have := (fit_len aw_fine.fit).1; omega) aw_fine.nomv
  have hA : crashF (cmJ aw1 (intL aw1) (laidJ aw0 100000) 2) 0 0 = awD := by unfold awD; rw [Int.natCast_zero]
  rw [hA] at h2
  have h3 := recover_q awD (fine_crash aw_fine 0 0) (by decide)
  have h4 := load_q (recJ awD) (fine_rec (fine_crash aw_fine 0 0)) (by decide)
  rw [aw_ld] at h4
  have h5 := steps_p 2 (by decide)
  refine rcalls Tryz.func8 rfl (by decide) ?_
  refine ⟨by decide, ?_⟩
  refine ⟨[1001], _, by decide, h0.args ⟨vrsU rfl fun i hi => ?_, VLe.refl _, trivial⟩, ?_⟩
  · match i, hi with
    | 0, _ => rfl
    | 1, _ => rfl
  rintro r hh ⟨rfl, rfl⟩
  refine ⟨.inl rfl, ?_⟩
  refine ⟨by decide, ?_⟩
  refine ⟨by decide, ?_⟩
  have hv : ∀ i, i < 2 * 2 → (rowF aw1 i) = rowF aw1 i := fun i hi => rfl
  refine ⟨[2, 3, 4, 5, 1008], _, by decide, (by (try simp only [ren_fmV]); exact fmVFree _), (by (try simp only [ren_fmV]); exact fmVFree _), (by (try simp only [ren_rowP]); exact fun i _ => rowPFree _ i), at_h ?_ (h1.args ⟨VLe.refl _, vrsU rfl (four4 rfl rfl rfl rfl), VLe.refl _, trivial⟩), ?_⟩
  · exact dkH_eq (by first | simp only [ren_fmV] | rfl) (by first | simp only [ren_fmV] | rfl) (by first | simp only [ren_rowP] | rfl)
  rintro r hh hc
  rcases com_cases hc with ⟨hE, _, _⟩ | ⟨_, _, k, hk, hr, hh1⟩
  · exact absurd (com_zero aw_cm) hE
  have hdec : decide (((aw1.length + 5 : Nat) : Int) ≤ 2) = false := by decide
  rw [hdec] at hr
  subst hr
  have hk2 : k = 2 := hk
  subst hk2
  rcases hh1 with ⟨h, _⟩ | ⟨h, _⟩ | ⟨_, rfl⟩
  · cases h
  · cases h
  refine ⟨.inl rfl, ?_⟩
  refine ⟨[2, 3, 10, 9], _, (by (try simp only [ren_fmV]); exact fmVFree _), (by (try simp only [ren_fmV]); exact fmVFree _), (by (try simp only [ren_rowP]); exact fun i _ => rowPFree _ i), at_h ?_ (h2), ?_⟩
  · exact dkH_eq (by first | simp only [ren_fmV] | rfl) (by first | simp only [ren_fmV] | rfl) (by first | simp only [ren_rowP] | rfl)
  rintro r hh ⟨rfl, rfl⟩
  refine ⟨.inl rfl, ?_⟩
  unfold recR at h3
  refine ⟨[2, 11, 12, 9], _, (by (try simp only [ren_fmV]); exact fmVFree _), (by (try simp only [ren_fmV]); exact fmVFree _), (by (try simp only [ren_rowP]); exact fun i _ => rowPFree _ i), at_h ?_ (h3), ?_⟩
  · exact dkH_eq (by first | simp only [ren_fmV] | rfl) (by first | simp only [ren_fmV] | rfl) (by first | simp only [ren_rowP] | rfl)
  rintro r hh ⟨rfl, (⟨hn, rfl⟩ | ⟨hn, rfl⟩)⟩
  · exact absurd hn (by rw [aw_mid.2]; exact fun x => by cases x)
  refine ⟨.inl rfl, ?_⟩
  refine ⟨[2, 11, 14, 13], _, (by (try simp only [ren_fmV]); exact fmVFree _), (by (try simp only [ren_fmV]); exact fmVFree _), (by (try simp only [ren_rowP]); exact fun i _ => rowPFree _ i), at_h ?_ (h4), ?_⟩
  · exact dkH_eq (by first | simp only [ren_fmV] | rfl) (by first | simp only [ren_fmV] | rfl) (by first | simp only [ren_rowP] | rfl)
  rintro r hh ⟨rfl, rfl⟩
  refine ⟨.inl rfl, ?_⟩
  refine ⟨fun _ => ?_, fun e => by cases e⟩
  refine ⟨fun _ => ?_, fun e => by cases e⟩
  refine ⟨fun _ => ?_, fun e => by cases e⟩
  refine ⟨⟨by decide, by decide⟩, flC ⟨aA, [50]⟩, (fun c hc => by match c, hc with | 0, _ => rfl | 1, _ => rfl), ?_⟩
  refine ⟨fun _ => ?_, fun e => absurd (show bytesOf [50] = ⟨#[50]⟩ by decide) (no e)⟩
  refine ⟨⟨by decide, by decide⟩, flC ⟨bB, [51]⟩, (fun c hc => by match c, hc with | 0, _ => rfl | 1, _ => rfl), ?_⟩
  refine ⟨fun _ => ?_, fun e => absurd (show bB = ⟨#[98]⟩ by decide) (no e)⟩
  refine ⟨[], _, h5, ?_⟩
  rintro r hh ⟨rfl, rfl⟩
  refine ⟨.inl rfl, ?_⟩
  exact ⟨[], [], .tt, lehN _, leTT (decide_eq_true (by decide)), rfl, rfl⟩
end
end Go.Proofs.YtflclafbieokiaaGreatDoor.Jr

/-
  What every row of this program's laws wants: its knobs and its layout.
-/
namespace Go.Proofs.YtflclafbieokiaaGreatDoor.AL
open Go Go.RowKit Go.ChangeShapes

theorem own : ownKnob Tryz.prog.godebug = none := by kernel_rfl
theorem laidOut : laidOutB Tryz.prog = true := by kernel_rfl
theorem wf_u8 {n : Int} (h : (Lit.int .u8 n).wf = true) : 0 ≤ n ∧ n < 256 := by
  simp only [Lit.wf, Bool.and_eq_true, decide_eq_true_eq] at h; exact ⟨Int.le_trans (by decide) h.1, Int.lt_of_le_of_lt h.2 (by decide)⟩
end Go.Proofs.YtflclafbieokiaaGreatDoor.AL

/-
  Files that came in. No program in sight.
-/
set_option linter.unusedVariables false
set_option linter.unusedSectionVars false
namespace Go.Proofs.YtflclafbieokiaaGreatDoor.AL
open Go Go.ChangeShapes Go.WideShapes Go.ChangeAt Go.RowKit Go.Deep Go.Joins Go.WideElems
open Go.Proofs.YtflclafbieokiaaGreatDoor.Us

section
variable {H : Type} {enc : TypeId × Value → H} {P : Program}

structure FiT (P : Program) (t e : TypeId) (f0 f1 : Field) : Prop where
  s : P.underlying t = some (.struct #[f0, f1])
  c : P.cellsOf t = 2
  off : f0.offset = 0 ∧ f1.offset = 1
  path : P.underlying f0.type = some .string
  cpath : P.cellsOf f0.type = 1
  data : P.underlying f1.type = some (.slice e)
  cdata : P.cellsOf f1.type = 1
  byte : P.underlying e = some (.int .u8)
  cbyte : P.cellsOf e = 1
  bbyte : P.bytesOf e = 1
theorem fiT : ∃ F : Field × Field, FiT Tryz.prog 36 5 F.1 F.2 :=
  ⟨⟨_, _⟩, { s := Tryz.underlying36, c := (by kernel_rfl), off := ⟨rfl, rfl⟩, path := (by kernel_rfl), cpath := (by kernel_rfl), data := (by kernel_rfl), cdata := (by kernel_rfl), byte := (by kernel_rfl), cbyte := (by kernel_rfl), bbyte := (by kernel_rfl) }⟩

theorem ro_ints {w : World} {S : Nat → Prop} {L : Loc} {xs : List Int} {f : Nat → AV} {v : Value} (h : den w S L (.ro xs.length 1 f) v) (hf : ∀ i, i < xs.length → f i = int .u8 (xs.getD i 0)) : den w S L (.roI .u8 xs) v := by
  obtain ⟨A, cap, e, hc, hd⟩ := h
  refine ⟨A, cap, e, hc, fun i hi => ?_⟩
  obtain ⟨u, h1, h2⟩ := hd i (by omega)
  rw [hf i hi] at h2
  obtain rfl := h2
  exact h1
theorem all_mem {e : TypeId} {d : DataW H} {n : Nat} (hn : n ∈ d.weights P e) : ∀ {es : List (DataW H)}, d ∈ es → n ∈ DataW.weightsAll P e es
  | x :: es, h => by
    unfold DataW.weightsAll
    rcases List.mem_cons.1 h with rfl | h
    · exact List.mem_append_left _ hn
    · exact List.mem_append_right _ (all_mem hn h)

theorem trod_rows2 {W : World} {fuel base c : Nat} {sp : Nat → Bool} {hd : Bool} {t e : TypeId} {u : Value} {x : DataW H × List MemPlace} (ht : P.underlying t = some (.slice e)) (hC : P.cellsOf e = c) (hc : 0 < c)
    (hf : DataW.trod enc P W base sp hd fuel t [u] = some x) (hlt : ∀ p ∈ x.2, p.block < W.heap.size) :
    ∃ (A : Option Addr) (len cap n : Nat) (cs : Nat → List Value) (y : Nat → DataW H × List MemPlace), u = .slice A len cap ∧ len ≤ cap ∧ len ≤ maxLen ∧ (x.1 = .nil ∧ len = 0 ∨ ∃ es rs, x.1 = .slice es rs ∧ es.length = len) ∧
      ∀ i, i < len → DataW.trod enc P W base sp hd n e (cs i) = some (y i) ∧ (cs i).length = c ∧ (∀ p ∈ (y i).2, p ∈ x.2) ∧ (∀ n ∈ (y i).1.weights P e, n ∈ x.1.weights P t) ∧ ∀ j, j < c → ∃ v, (cs i)[j]? = some v ∧ rcell W (allB W) A (i * c + j) v := by
  rcases DataW.trod_slice ht hf with ⟨hcs, rfl⟩ | ⟨a, len, cap, elems, rest, n, _, hcs, rfl, hb, hl, hm, hlen, hel, hsp, hns⟩
  · simp at hcs
    subst hcs
    exact ⟨none, 0, 0, 0, fun _ => [], fun _ => (.nil, []), rfl, Nat.le_refl _, Nat.zero_le _, .inl ⟨rfl, rfl⟩, fun i hi => absurd hi (Nat.not_lt_zero _)⟩
  · simp at hcs
    subst hcs
    have key : ∀ i, ∃ (q : List Value × (DataW H × List MemPlace)), i < len → DataW.trod enc P W base sp hd n e q.1 = some q.2 ∧ q.1.length = c ∧ elems[i]? = some q.2 ∧ ∀ j, j < c → ∃ v, q.1[j]? = some v ∧ W.cell? ((a.add (i * c)).add j) = some v := fun i => by
      by_cases hi : i < len
      · have h2 := hel i hi
        rw [List.getElem?_eq_getElem (by omega), Option.bind_eq_some_iff] at h2
        obtain ⟨cs, hcc, hy⟩ := h2
        rw [hC] at hcc
        obtain ⟨_, hlen2, hcell⟩ := World.cells?_some hcc
        refine ⟨(cs, _), fun _ => ⟨hy, hlen2, by rw [List.getElem?_eq_getElem (by omega)], fun j hj => ⟨cs[j]'(by omega), List.getElem?_eq_getElem (by show j < cs.length; omega), ?_⟩⟩⟩
        rw [hcell j (by omega), List.getElem?_eq_getElem (by omega)]
      · exact ⟨([], (.nil, [])), fun h => absurd h hi⟩
    refine ⟨some a, len, cap, n, fun i => (key i).choose.1, fun i => (key i).choose.2, rfl, hl, by omega, .inr ⟨_, _, rfl, by simp [hlen]⟩, fun i hi => ?_⟩
    obtain ⟨h1, h2, h3, h4⟩ := (key i).choose_spec hi
    refine ⟨h1, h2, fun p hp => ?_, fun n hn => ?_, fun j hj => ?_⟩
    · refine List.mem_append_right _ (List.mem_flatMap.2 ⟨_, List.mem_append_left _ (List.mem_of_getElem? h3), hp⟩)
    · unfold DataW.weights
      rw [ht]
      exact List.mem_cons_of_mem _ (List.mem_append_left _ (all_mem hn (List.mem_map.2 ⟨_, List.mem_of_getElem? h3, rfl⟩)))
    · obtain ⟨v, h5, h6⟩ := h4 j hj
      obtain ⟨_, _, _, k4⟩ := (key 0).choose_spec (by omega)
      obtain ⟨v0, _, k6⟩ := k4 0 hc
      obtain ⟨ab, ao, spot⟩ := a
      have hspot : spot = none := by simpa [Addr.add] using World.cell?_spot k6
      subst hspot
      rw [Addr.add_lit, Addr.add_lit, Nat.add_assoc] at h6
      refine ⟨v, h5, ab, ao, rfl, ?_, h6⟩
      refine hlt (.cell ab (ao + (i * c + j))) (List.mem_append_left _ ?_)
      simp only [MemPlace.row, List.mem_map, List.mem_range]
      refine ⟨i * c + j, ?_, rfl⟩
      rw [hC]
      have : i * c + j < (i + 1) * c := by rw [Nat.add_mul]; omega
      have h7 : (i + 1) * c ≤ elems.length * c := Nat.mul_le_mul_right _ (by omega)
      have h8 : elems.length * c ≤ (elems.length + rest.length) * c := Nat.mul_le_mul_right _ (by omega)
      omega

theorem open_list2 {α : Type} (cell : α → Nat → AV) (dflt : α) (good : DataW H → α → Prop) {W : World} {fuel base c : Nat} {sp : Nat → Bool} {hd : Bool} {t e : TypeId} {u : Value} {x : DataW H × List MemPlace} (ht : P.underlying t = some (.slice e)) (hC : P.cellsOf e = c) (hc : 0 < c)
    (hel : ∀ (n : Nat) (cs : List Value) (y : DataW H × List MemPlace), DataW.trod enc P W base sp hd n e cs = some y → (∀ p ∈ y.2, p.block < W.heap.size) → ∃ a, good y.1 a ∧ ∀ j, j < c → ∀ v, cs[j]? = some v → den W (allB W) .zero (cell a j) v)
    (hf : DataW.trod enc P W base sp hd fuel t [u] = some x) (hlt : ∀ p ∈ x.2, p.block < W.heap.size) :
    ∃ L : List α, (∀ a ∈ L, ∃ z : DataW H, good z a ∧ ∀ n ∈ z.weights P e, n ∈ x.1.weights P t) ∧ L.length ≤ maxLen ∧ den W (allB W) .zero (.ro L.length c fun i => cell (L.getD (i / c) dflt) (i % c)) u ∧ (x.1 = .nil ∧ L = [] ∨ ∃ es rs, x.1 = .slice es rs ∧ es.length = L.length) := by
  obtain ⟨A, len, cap, n, cs, y, rfl, h1, h2, h3, h4⟩ := trod_rows2 ht hC hc hf hlt
  have key : ∀ i, ∃ a, i < len → good (y i).1 a ∧ ∀ j, j < c → ∀ v, (cs i)[j]? = some v → den W (allB W) .zero (cell a j) v := fun i => by
    by_cases hi : i < len
    · obtain ⟨g1, g2, g3, _, g4⟩ := h4 i hi
      obtain ⟨a, k1, k2⟩ := hel n (cs i) (y i) g1 (fun p hp => hlt p (g3 p hp))
      exact ⟨a, fun _ => ⟨k1, k2⟩⟩
    · exact ⟨dflt, fun h => absurd h hi⟩
  let L : List α := (List.range len).map fun i => (key i).choose
  have hL : L.length = len := by simp [L]
  have hget : ∀ i, i < len → L.getD i dflt = (key i).choose := fun i hi => by simp [L, List.getD_eq_getElem?_getD, hi]
  refine ⟨L, fun a ha => ?_, by rw [hL]; exact h2, ⟨A, cap, by rw [hL], by rw [hL]; exact h1, fun i hi => ?_⟩, ?_⟩
  · obtain ⟨i, hi, rfl⟩ := List.mem_map.1 ha
    exact ⟨_, ((key i).choose_spec (List.mem_range.1 hi)).1, (h4 i (List.mem_range.1 hi)).2.2.2.1⟩
  · rw [hL] at hi
    have hi2 : i / c < len := (Nat.div_lt_iff_lt_mul hc).2 hi
    obtain ⟨_, _, _, _, g4⟩ := h4 (i / c) hi2
    obtain ⟨v, g5, g6⟩ := g4 (i % c) (Nat.mod_lt _ hc)
    refine ⟨v, ?_, ?_⟩
    · have e : i / c * c + i % c = i := by rw [Nat.mul_comm]; exact Nat.div_add_mod i c
      rwa [e] at g6
    · show den W (allB W) .zero (cell (L.getD (i / c) dflt) (i % c)) v
      rw [hget _ hi2]
      exact ((key (i / c)).choose_spec hi2).2 _ (Nat.mod_lt _ hc) v g5
  · rcases h3 with ⟨a, b⟩ | ⟨es, rs, a, b⟩
    · exact .inl ⟨a, by apply List.eq_nil_of_length_eq_zero; omega⟩
    · exact .inr ⟨es, rs, a, by omega⟩

theorem open_file_cells {W : World} {n base : Nat} {t e : TypeId} {f0 f1 : Field} {cs : List Value} {y : DataW H × List MemPlace} (T : FiT P t e f0 f1)
    (hf : DataW.trod enc P W base (fun _ => true) true n t cs = some y) (hlt : ∀ p ∈ y.2, p.block < W.heap.size) :
    ∃ f : Fl, (∀ x ∈ f.data, 0 ≤ x ∧ x < 256) ∧ (∀ R, (∀ n ∈ y.1.weights P t, n ≤ R) → f.path.size ≤ R ∧ f.data.length ≤ R) ∧ ∀ j, j < 2 → ∀ v, cs[j]? = some v → den W (allB W) .zero (flC f j) v := by
  obtain ⟨o0, o1⟩ := T.off
  obtain ⟨xs, m, _, hy, hlen, hxl, hfs⟩ := DataW.trod_struct T.s hf
  have hx : xs.length = 2 := hxl
  have e0 := hfs 0 f0 rfl
  have e1 := hfs 1 f1 rfl
  rw [T.cpath, o0, List.getElem?_eq_getElem (by omega)] at e0
  rw [T.cdata, o1, List.getElem?_eq_getElem (by omega)] at e1
  obtain ⟨s, qs, hxs, _⟩ := DataW.trod_string T.path e0
  have hlt1 : ∀ p ∈ (xs[1]'(by omega)).2, p.block < W.heap.size := fun p hp => hlt p (by
    rw [hy]; exact List.mem_flatMap.2 ⟨_, List.getElem_mem (by omega), hp⟩)
  have one : ∃ u, (cs.drop 1).take 1 = [u] := by
    rcases DataW.trod_slice T.data e1 with ⟨hcs, _⟩ | ⟨a, len, cap, elems, rest, n', _, hcs, _⟩
    · exact ⟨_, hcs⟩
    · exact ⟨_, hcs⟩
  obtain ⟨u, hu⟩ := one
  rw [hu] at e1
  obtain ⟨D, d1, d2, d3, d4⟩ := open_list (fun (x : Int) (_ : Nat) => int .u8 x) 0 (fun x => 0 ≤ x ∧ x < 256) (c := 1) T.data T.cbyte (by decide) (fun n cs y h hl => by
    obtain ⟨z, e1, _, hw⟩ := DataW.trod_int T.byte h
    refine ⟨z, wf_u8 hw, fun j hj v hv => ?_⟩
    obtain rfl : j = 0 := by omega
    rw [e1] at hv
    cases hv
    rfl) e1 hlt1
  refine ⟨⟨s, D⟩, d1, fun R hR => ?_, fun j hj v hv => ?_⟩
  · have hy1 : y.1 = .agg (xs.map (·.1)) := by rw [hy]
    rw [hy1] at hR
    have mem : ∀ {j : Nat} {f : Field} {d : DataW H}, (#[f0, f1] : Array Field)[j]? = some f → (xs.map (·.1))[j]? = some d → ∀ n ∈ d.weights P f.type, n ∈ DataW.weights P t (.agg (xs.map (·.1))) := fun {j f d} hj hd n hn => by
      unfold DataW.weights
      rw [T.s]
      refine DataW.weights_mem_each (j := j) (t := f.type) (d := d) ?_ hd n hn
      have h2 : ([f0, f1] : List Field)[j]? = some f := by simpa using hj
      show (([f0, f1] : List Field).map (·.type))[j]? = _
      rw [List.getElem?_map, h2]; rfl
    refine ⟨?_, ?_⟩
    · refine hR _ (mem (j := 0) (f := f0) (d := .lit (.string s.data.toList)) rfl (by rw [List.getElem?_map, List.getElem?_eq_getElem (by omega), hxs]; rfl) _ ?_)
      unfold DataW.weights
      exact List.mem_singleton.2 rfl
    · rcases d4 with ⟨_, rfl⟩ | ⟨es, rs, h1, h2⟩
      · exact Nat.zero_le _
      · have h3 := hR _ (mem (j := 1) (f := f1) (d := (xs[1]'(by omega)).1) rfl (by rw [List.getElem?_map, List.getElem?_eq_getElem (by omega)]; rfl) ((es.length + rs.length) * P.bytesOf e) (by
          rw [h1]
          unfold DataW.weights
          rw [T.data]
          exact List.mem_cons_self ..))
        rw [T.bbyte] at h3
        show D.length ≤ R
        omega
  · match j, hj with
    | 0, _ =>
      have : (cs.drop 0).take 1 = [.string s] := qs
      rw [one_cell this hv]; rfl
    | 1, _ =>
      rw [one_cell hu hv]
      exact ro_ints d3 fun i hi => by
        show int .u8 (D.getD (i / 1) 0) = _
        rw [Nat.div_one]

theorem open_files {W : World} {base : Nat} {tv t e : TypeId} {f0 f1 : Field} {v : Value} {d : DataW H} {ps : List MemPlace} (htv : P.underlying tv = some (.slice t)) (T : FiT P t e f0 f1)
    (hval : Value.okWide P W .any base tv v) (h : DataW.Trod enc P W 0 (fun _ => true) true tv v d ps) (hlt : ∀ x ∈ ps, x.block < W.heap.size) :
    ∃ L : List Fl, den W (allB W) .zero (flsV L) v ∧ (d = .nil ∧ L = [] ∨ ∃ es rs, d = .slice es rs ∧ es.length = L.length) ∧ okBytes L ∧
      ∀ R, (∀ n ∈ d.weights P tv, n ≤ R) → ∀ f ∈ L, f.path.size ≤ R ∧ f.data.length ≤ R := by
  obtain ⟨a1, len, cap, rfl⟩ := okWide_slice htv hval
  obtain ⟨fuel, hf⟩ := h
  obtain ⟨L, h1, _, h2, h3⟩ := open_list2 flC fl0 (fun z f => (∀ x ∈ f.data, 0 ≤ x ∧ x < 256) ∧ ∀ R, (∀ n ∈ z.weights P t, n ≤ R) → f.path.size ≤ R ∧ f.data.length ≤ R) (c := 2) htv T.c (by decide) (fun n cs y hy hl => by
    obtain ⟨f, g1, g2, g3⟩ := open_file_cells T hy hl
    exact ⟨f, ⟨g1, g2⟩, g3⟩) hf hlt
  refine ⟨L, h2, h3, fun f hf => ?_, fun R hR f hf => ?_⟩
  · obtain ⟨z, g, _⟩ := h1 f hf
    exact g.1
  · obtain ⟨z, g, hz⟩ := h1 f hf
    exact g.2 R fun n hn => hR n (hz n hn)
end
end Go.Proofs.YtflclafbieokiaaGreatDoor.AL

/-
  Where a commit is broken off, as it came in. No program in sight.
-/
set_option linter.unusedVariables false
set_option linter.unusedSectionVars false
namespace Go.Proofs.YtflclafbieokiaaGreatDoor.AL
open Go Go.ChangeShapes Go.WideShapes Go.ChangeAt Go.RowKit Go.Deep Go.Joins Go.WideElems
open Go.Proofs.YtflclafbieokiaaGreatDoor.Jr

section
variable {H : Type} {enc : TypeId × Value → H} {P : Program}

structure BrT (P : Program) (t ea u : TypeId) (f0 f1 f2 f3 : Field) : Prop where
  s : P.underlying t = some (.struct #[f0, f1, f2, f3])
  c : P.cellsOf t = 4
  off : f0.offset = 0 ∧ f1.offset = 1 ∧ f2.offset = 2 ∧ f3.offset = 3
  k0 : P.underlying f0.type = some (.int .u8)
  c0 : P.cellsOf f0.type = 1
  k1 : P.underlying f1.type = some (.int .u8)
  c1 : P.cellsOf f1.type = 1
  k2 : P.underlying f2.type = some (.int .u8)
  c2 : P.cellsOf f2.type = 1
  again : P.underlying f3.type = some (.slice ea)
  cagain : P.cellsOf f3.type = 1
  arr : P.underlying ea = some (.array 2 u)
  carr : P.cellsOf ea = 2
  byte : P.underlying u = some (.int .u8)
  cbyte : P.cellsOf u = 1
structure Fs4 where
  f0 : Field
  f1 : Field
  f2 : Field
  f3 : Field
theorem brT : ∃ F : Fs4, ∃ ea : TypeId, BrT Tryz.prog 53 ea 5 F.f0 F.f1 F.f2 F.f3 :=
  ⟨⟨_, _, _, _⟩, _, { s := Tryz.underlying53, c := (by kernel_rfl), off := ⟨rfl, rfl, rfl, rfl⟩, k0 := (by kernel_rfl), c0 := (by kernel_rfl), k1 := (by kernel_rfl), c1 := (by kernel_rfl), k2 := (by kernel_rfl), c2 := (by kernel_rfl), again := Tryz.underlying51, cagain := (by kernel_rfl), arr := Tryz.underlying86, carr := (by kernel_rfl), byte := (by kernel_rfl), cbyte := (by kernel_rfl) }⟩

theorem nat_u8 {x : Int} (h : (Lit.int .u8 x).wf = true) : ∃ n : Nat, x = (n : Int) ∧ n < 256 := by
  have := wf_u8 h
  exact ⟨x.toNat, by omega, by omega⟩
theorem one_at {cs : List Value} {off : Nat} {u : Value} (h : (cs.drop off).take 1 = [u]) : cs[off]? = some u := by
  have := congrArg (fun l : List Value => l[0]?) h
  simpa using this
theorem open_pair {W : World} {m base : Nat} {sp : Nat → Bool} {hd : Bool} {t e : TypeId} {cs : List Value} {x : DataW H × List MemPlace} (ht : P.underlying t = some (.array 2 e)) (he : P.underlying e = some (.int .u8)) (hc : P.cellsOf e = 1)
    (hf : DataW.trod enc P W base sp hd m t cs = some x) : ∃ a : Nat × Nat, (a.1 < 256 ∧ a.2 < 256) ∧ ∀ j, j < 2 → ∀ v, cs[j]? = some v → v = .int .u8 (((if j = 0 then a.1 else a.2 : Nat)) : Int) := by
  obtain ⟨ys, m', _, _, _, hl, hel⟩ := DataW.trod_array ht hf
  have each : ∀ i, i < 2 → ∃ z : Nat, cs[i]? = some (.int .u8 (z : Int)) ∧ z < 256 := fun i hi => by
    have h1 := hel i hi
    rw [hc, Nat.mul_one, List.getElem?_eq_getElem (by omega)] at h1
    obtain ⟨z, e1, _, hw⟩ := DataW.trod_int he h1
    obtain ⟨n, rfl, hn⟩ := nat_u8 hw
    exact ⟨n, one_at e1, hn⟩
  obtain ⟨a, ha, ha2⟩ := each 0 (by decide)
  obtain ⟨b, hb, hb2⟩ := each 1 (by decide)
  refine ⟨(a, b), ⟨ha2, hb2⟩, fun j hj v hv => ?_⟩
  match j, hj with
  | 0, _ => rw [ha] at hv; cases hv; rfl
  | 1, _ => rw [hb] at hv; cases hv; rfl

theorem open_brk {W : World} {base : Nat} {t ea u : TypeId} {f0 f1 f2 f3 : Field} {v : Value} {d : DataW H} {ps : List MemPlace} (T : BrT P t ea u f0 f1 f2 f3)
    (hval : Value.okWide P W .any base t v) (h : DataW.Trod enc P W 0 (fun _ => true) true t v d ps) (hlt : ∀ x ∈ ps, x.block < W.heap.size) :
    ∃ B : BrJ, den W (allB W) .zero (brV B) v ∧ okBr B := by
  obtain ⟨cs, rfl, hsz⟩ := okWide_struct T.s hval
  obtain ⟨fuel, hf⟩ := h
  have hlen : cs.size = 4 := hsz.trans T.c
  obtain ⟨o0, o1, o2, o3⟩ := T.off
  obtain ⟨m0, z0, e0, _⟩ := field_at T.s hf hlt 0 (f := f0) rfl
  obtain ⟨m1, z1, e1, _⟩ := field_at T.s hf hlt 1 (f := f1) rfl
  obtain ⟨m2, z2, e2, _⟩ := field_at T.s hf hlt 2 (f := f2) rfl
  obtain ⟨m3, z3, e3, l3⟩ := field_at T.s hf hlt 3 (f := f3) rfl
  rw [o0, T.c0] at e0
  rw [o1, T.c1] at e1
  rw [o2, T.c2] at e2
  rw [o3, T.cagain] at e3
  obtain ⟨a, q0, _, w0⟩ := DataW.trod_int T.k0 e0
  obtain ⟨b, q1, _, w1⟩ := DataW.trod_int T.k1 e1
  obtain ⟨c, q2, _, w2⟩ := DataW.trod_int T.k2 e2
  obtain ⟨a, rfl, ha⟩ := nat_u8 w0
  obtain ⟨b, rfl, hb⟩ := nat_u8 w1
  obtain ⟨c, rfl, hc⟩ := nat_u8 w2
  have one : ∃ u, ((Value.agg cs).cells.toList.drop 3).take 1 = [u] := by
    rcases DataW.trod_slice T.again e3 with ⟨hcs, _⟩ | ⟨a, len, cap, elems, rest, n', _, hcs, _⟩
    · exact ⟨_, hcs⟩
    · exact ⟨_, hcs⟩
  obtain ⟨u, hu⟩ := one
  rw [hu] at e3
  obtain ⟨D, d1, d2, d3, d4⟩ := open_list (fun (x : Nat × Nat) (j : Nat) => int .u8 (((if j = 0 then x.1 else x.2 : Nat)) : Int)) (0, 0) (fun x => x.1 < 256 ∧ x.2 < 256) (c := 2) T.again T.carr (by decide) (fun n cs y h hl => by
    obtain ⟨x, hx, h2⟩ := open_pair T.arr T.byte T.cbyte h
    exact ⟨x, hx, fun j hj v hv => h2 j hj v hv⟩) e3 l3
  refine ⟨⟨a, b, c, D⟩, ⟨cs, rfl, hlen, fun i hi => ?_⟩, ⟨ha, hb, hc, d1⟩⟩
  match i, hi with
  | 0, _ => exact ⟨_, by have := one_at q0; simpa [Value.cells] using this, rfl⟩
  | 1, _ => exact ⟨_, by have := one_at q1; simpa [Value.cells] using this, rfl⟩
  | 2, _ => exact ⟨_, by have := one_at q2; simpa [Value.cells] using this, rfl⟩
  | 3, _ => exact ⟨_, by have := one_at hu; simpa [Value.cells] using this, by
      obtain ⟨A, cap, e, hc, hd⟩ := d3
      exact ⟨A, cap, e, hc, hd⟩⟩
end
end Go.Proofs.YtflclafbieokiaaGreatDoor.AL
