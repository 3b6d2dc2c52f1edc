import Derived.Laws.BitsLemmas
import Derived.Test.YtflclafbieokiaaGreatDoorBse

/-
  The contract of ustar.Put.
-/
set_option linter.unusedVariables false
set_option linter.unusedSectionVars false
namespace Go.Proofs.YtflclafbieokiaaGreatDoor.Us
open Go AL Oc Pa Spl Hd

theorem rndZ_nat (n : Nat) : rndZ (n : Int) = ((rnd n : Nat) : Int) := by unfold rndZ rnd; omega
theorem vroU {n sz : Nat} {f g : Nat → AV} (h : ∀ i, i < n * sz → f i = g i) : VLe (.ro n sz f) (.ro n sz g) := fun w S L v hv => by
  obtain ⟨A, cap, e, hc, hd⟩ := hv
  refine ⟨A, cap, e, hc, fun i hi => ?_⟩
  obtain ⟨u, h1, h2⟩ := hd i hi
  exact ⟨u, h1, by rw [← h i hi]; exact h2⟩
theorem leOmap {h : List AO} {l : List Nat} {x : List (ByteArray × AV)} {m : List (ByteArray × Nat)} (e : x = tallyV m) : LeO h l (.map x) (.map (tallyV m)) := by
  subst e
  refine .map _ _ rfl fun i hi => ⟨rfl, ?_⟩
  obtain ⟨v, hv⟩ : ∃ v, ((tallyV m).getD i mz).2 = .raw v := by
    have hi' : i < m.length := by rw [tallyV_len] at hi; exact hi
    refine ⟨.int .i64 (m[i].2 : Nat), ?_⟩
    unfold tallyV
    rw [List.getD_eq_getElem?_getD, List.getElem?_map, List.getElem?_eq_getElem hi']
    rfl
  rw [hv]; exact .raw _
theorem body_max : ∀ {l : List Fl}, (∀ f ∈ l, okF f) → (bodyR l).length ≤ dataN l + l.length * 1535
  | [], _ => Nat.zero_le _
  | f :: l, h => by
    have h1 := file_len (h f (by simp))
    have h2 := body_max (l := l) fun g hg => h g (by simp [hg])
    have h3 : rnd f.data.length ≤ f.data.length + 511 := by unfold rnd; omega
    rw [body_cons, List.length_append]
    have : dataN (f :: l) = f.data.length + dataN l := rfl
    rw [List.length_cons]
    omega
def okSizes (l : List Fl) : Prop := ∀ f ∈ l, f.path.size ≤ 281474976710656 ∧ ∀ x ∈ f.data, 0 ≤ x ∧ x < 256
section
variable [Globs]

def UPutR (l : List Fl) (r : AV) (h : List AO) : Prop := r = .tup 2 (pair (.own 0 0 (putR l).length 1) (int .i64 (putE l))) ∧ h = [.ints .u8 (putR l)]

set_option maxHeartbeats 4000000 in
set_option maxRecDepth 10000 in
theorem uput_prog (l : List Fl) (hf : fitL l) (hs : okSizes l) : ACalls Tryz.prog 61 [flsV l] [] (UPutR l) := by
  obtain ⟨hl, hd⟩ := hf
  have hds := @data_succ l
  have hdl := data_le l
  have hat := fun (k : Nat) {c : Nat} (h : c < 2) => rowF_at l (k := k) h
  unfold UPutR
  refine rcalls Tryz.func61 rfl (by decide) ?_
  refine ⟨Nat, fun k => [(0, flsV l), (4, int .i64 (dataN (l.take k) : Nat)), (14, flsV l), (15, int .i64 l.length), (16, int .i64 k)], fun _ => [], fun k => k ≤ l.length, fun k => l.length - k,
    ⟨0, [], Nat.zero_le _, lehN _, ⟨.same _ trivial, leI rfl, .same _ trivial, leI rfl, leI rfl, trivial⟩⟩, ?_⟩
  intro k hk
  have hk : k ≤ l.length := hk
  have e1 : IntKind.i64.wrap ((k : Int) + 1) = ((k + 1 : Nat) : Int) := by rw [w64 (by omega) (by omega)]; omega
  refine ⟨fun c => ?_, fun c => ?_⟩
  · have f1 : (k : Int) < l.length := yes c
    have hds := hds (k := k) (by omega)
    have hle := hdl (k + 1)
    obtain ⟨F, hF⟩ : ∃ F, l.getD k fl0 = F := ⟨_, rfl⟩
    rw [hF] at hds
    have ek : (k : Int).toNat = k := by omega
    refine ⟨⟨by omega, by omega⟩, flC F, fun c hc => by rw [ek, hat k hc, hF], ?_⟩
    refine ⟨trivial, k + 1, [], by show k + 1 ≤ l.length; omega, by show l.length - (k + 1) < l.length - k; omega, lehN _, ⟨.same _ trivial, leI ?_, .same _ trivial, leI rfl, leI e1, trivial⟩⟩
    rw [w64 (by omega) (by omega)]; omega
  have f1 : ¬ (k : Int) < l.length := no c
  obtain rfl : k = l.length := by omega
  rw [List.take_length]
  refine ⟨fun c => ?_, fun c => ?_⟩
  · have := yes c; omega
  refine ⟨fun c => ?_, fun c => ?_⟩
  · have := yes c; omega
  have hbs := @body_succ l
  have hts : ∀ {k : Nat}, k < l.length → tally (l.take (k + 1)) = bump (l.getD k fl0).path (tally (l.take k)) := fun {k} h => by rw [take_succ_fl h, tally_snoc]
  have htl := fun k => tally_look (l.take k)
  have hok : ∀ {k : Nat}, k < l.length → (okF (l.getD k fl0) ↔ okSplit (l.getD k fl0).path) := fun {k} h => by
    have := data_mem (get_mem h)
    unfold okF okHd
    exact ⟨fun x => x.1, fun x => ⟨x, by omega, by omega⟩⟩
  have hbad : ∀ f ∈ l, 0 ≤ (f.data.length : Int) ∧ (f.data.length : Int) ≤ 4194304 → ¬ headE f.path f.data.length = 0 → putE l = 9 ∧ putR l = [] ∧ headE f.path f.data.length = 9 := fun f hm hb h => by
    have h9 : ¬ okSplit f.path := fun x => h (headE_iff.2 ⟨x, hb.1, hb.2⟩)
    have e9 : putE l = 9 := if_neg fun x => h9 (x f hm)
    refine ⟨e9, ?_, ?_⟩
    · unfold putR; rw [if_neg (by rw [e9]; decide)]
    · unfold headE; rw [if_pos h9]
  have hmem := fun {k : Nat} (h : k < l.length) => get_mem h
  have hbl : ∀ k, (∀ f ∈ l.take k, okF f) → (bodyR (l.take k)).length ≤ 4194304 + 400 * 1535 := fun k h => by
    have h1 := body_max h
    have h2 := data_le l k
    have h3 : (l.take k).length ≤ 400 := by rw [List.length_take]; omega
    omega
  refine ⟨Nat, fun k => [(0, flsV l), (7, .own 1 0 (bodyR (l.take k)).length 1), (8, .mp 0), (34, flsV l), (35, int .i64 l.length), (36, int .i64 k)], fun k => [.map (tallyV (tally (l.take k))), .ints .u8 (bodyR (l.take k))], fun k => k ≤ l.length ∧ ∀ f ∈ l.take k, okF f, fun k => l.length - k,
    ⟨0, [0, 1], ⟨Nat.zero_le _, fun f hf => by simp at hf⟩, ?_, ⟨.same _ trivial, .nil _ _ (by decide), .mp rfl, .same _ trivial, leI rfl, leI rfl, trivial⟩⟩, ?_⟩
  · exact leh1E rfl (.map [] [] rfl fun i hi => absurd hi (by simp)) (by decide) .u8
  rintro k ⟨hk, hall⟩
  have e1 : IntKind.i64.wrap ((k : Int) + 1) = ((k + 1 : Nat) : Int) := by rw [w64 (by omega) (by omega)]; omega
  refine ⟨fun c => ?_, fun c => ?_⟩
  · have f1 : (k : Int) < l.length := yes c
    have hbs := hbs (k := k) (by omega)
    have hts := hts (k := k) (by omega)
    have hok := hok (k := k) (by omega)
    have hm := hmem (k := k) (by omega)
    have htl := htl k
    have ek : (k : Int).toNat = k := by omega
    have hat : ∀ c, c < 2 → rowF l ((k : Int).toNat * 2 + c) = flC (l.getD k fl0) c := fun c hc => by rw [ek]; exact hat k hc
    have hfl := hs _ hm
    have hdm := data_mem hm
    have htk := take_succ_fl (l := l) (k := k) (by omega)
    generalize l.getD k fl0 = F at *
    have h1 := put_head F.path F.data.length (by omega)
    have h2 := round_prog (F.data.length : Int) (by omega)
    rw [rndZ_nat] at h2
    unfold HPutR at h1
    refine ⟨⟨by omega, by omega⟩, flC F, fun c hc => hat c hc, ?_⟩
    refine ⟨[], _, h1, ?_⟩
    rintro r hh ⟨rfl, rfl⟩
    refine ⟨.inl rfl, ?_⟩
    refine ⟨fun c2 => ?_, fun c2 => ?_⟩
    · have f2 : ¬ headE F.path F.data.length = 0 := yes c2
      obtain ⟨q1, q2, q3⟩ := hbad F hm (by omega) f2
      rw [q1, q2]
      exact ⟨[20], [.ints .u8 []], _, lehE (Nat.le_of_ble_eq_true rfl) .u8, le_pair (.nil _ _ (by decide)) (leI q3), rfl, rfl⟩
    have f2 : headE F.path F.data.length = 0 := Classical.byContradiction fun x => no c2 x
    have hokF : okF F := headE_iff.1 f2
    have hrl := head_len hokF
    have hrn := rnd_ge F.data.length
    have e2 : IntKind.i64.wrap (((rnd F.data.length : Nat) : Int) - (F.data.length : Int)) = ((rnd F.data.length - F.data.length : Nat) : Int) := by
      have : rnd F.data.length ≤ F.data.length + 511 := by unfold rnd; omega
      rw [w64 (by omega) (by omega)]; omega
    refine .inr ⟨7, by decide +kernel, ?_⟩
    refine ⟨_, rfl, ?_⟩
    refine ⟨_, rfl, ?_⟩
    refine ⟨_, rfl, ?_⟩
    refine ⟨_, ⟨[], _, h2, by rintro r h ⟨rfl, rfl⟩; exact ⟨.inl rfl, rfl, rfl⟩⟩, ?_⟩
    refine ⟨_, rfl, ?_⟩
    refine ⟨_, rfl, ?_⟩
    refine ⟨_, rfl, ?_⟩
    have hr511 : rnd F.data.length ≤ F.data.length + 511 := by unfold rnd; omega
    refine ⟨?_, rfl, ?_⟩
    · rw [e2]; refine ⟨by omega, by omega, by omega, ?_⟩
      show ((rnd F.data.length - F.data.length : Nat) : Int) * 1 ≤ _
      omega
    obtain ⟨C, eC⟩ : ∃ C, bodyR (l.take (k + 1)) = C := ⟨_, rfl⟩
    have hcat : [bodyR (l.take k), headR F.path F.data.length, F.data, zer (rnd F.data.length - F.data.length)].flatten = C := by
      rw [← eC, hbs]
      unfold fileR
      simp
    have hC : C.length ≤ 140737488355328 := by
      have := hbl (k + 1) (by
        intro f hfm
        rw [htk] at hfm
        rcases List.mem_append.1 hfm with h | h
        · exact hall f h
        · rw [List.mem_singleton.1 h]; exact hokF)
      rw [eC] at this
      omega
    have hcc := concat_prog [bodyR (l.take k), headR F.path F.data.length, F.data, zer (rnd F.data.length - F.data.length)] (by simp) (by rw [hcat]; exact hC)
    rw [hcat] at hcc
    refine ⟨[1005, 1001, 1003, 1004], (fun r h => r = .own 0 0 C.length 1 ∧ h = [.ints .u8 C]), ?_⟩
    refine ⟨by omega, by omega, by rw [List.length_replicate]; omega, Nat.le_refl 4, hcc.args ⟨vroU fun i hi => ?_, trivial⟩, ?_⟩
    · match i, hi with
      | 0, _ => show AV.roI _ _ = AV.roI _ _; rw [List.drop_zero, List.take_length]; rfl
      | 1, _ => show AV.roI _ _ = AV.roI _ _; rw [List.drop_zero, List.take_length]; rfl
      | 2, _ => rfl
      | 3, _ =>
        show AV.roI _ _ = AV.roI _ _
        rw [List.drop_zero, List.take_of_length_le (by rw [List.length_replicate]; omega), e2]; rfl
    rintro r hh ⟨rfl, rfl⟩
    refine ⟨.inl rfl, ?_⟩
    have hall' : ∀ f ∈ l.take (k + 1), okF f := by
      intro f hfm
      rw [htk] at hfm
      rcases List.mem_append.1 hfm with h | h
      · exact hall f h
      · rw [List.mem_singleton.1 h]; exact hokF
    have hbm := bump_setM F.path (tally (l.take k))
    rw [← hts] at hbm
    have hlk := htl F.path
    have htl400 : (l.take k).length ≤ 400 := by rw [List.length_take]; omega
    refine ⟨fun v hv => ?_, fun hn => ?_⟩
    · rw [look_getM] at hv
      obtain ⟨n, hn, rfl⟩ := Option.map_eq_some_iff.1 hv
      rw [hn] at hlk hbm
      have hlk : n ≤ (l.take k).length := hlk
      have e3 : IntKind.i64.wrap ((n : Int) + 1) = ((n + 1 : Nat) : Int) := by rw [w64 (by omega) (by omega)]; omega
      refine ⟨trivial, k + 1, [0, 6], ⟨by omega, hall'⟩, by show l.length - (k + 1) < l.length - k; omega, leh2 (by decide) rfl rfl (leOmap ?_) (leOint eC.symm), ⟨.same _ trivial, leOwn rfl rfl (by rw [eC]), .mp rfl, .same _ trivial, leI rfl, leI e1, trivial⟩⟩
      rw [e3]; exact hbm
    · rw [look_getM] at hn
      have hn := Option.map_eq_none_iff.1 hn
      rw [hn] at hbm
      have e3 : IntKind.i64.wrap ((0 : Int) + 1) = ((0 + 1 : Nat) : Int) := by rw [w64 (by omega) (by omega)]; rfl
      refine ⟨trivial, k + 1, [0, 6], ⟨by omega, hall'⟩, by show l.length - (k + 1) < l.length - k; omega, leh2 (by decide) rfl rfl (leOmap ?_) (leOint eC.symm), ⟨.same _ trivial, leOwn rfl rfl (by rw [eC]), .mp rfl, .same _ trivial, leI rfl, leI e1, trivial⟩⟩
      rw [e3]; exact hbm
  · have f1 : ¬ (k : Int) < l.length := no c
    obtain rfl : k = l.length := by omega
    have hb := hbl l.length hall
    have eT : l.take l.length = l := List.take_length
    rw [eT] at hb hall
    have hP : okP l := okP_of hall
    have htd := tally_dup l
    refine ⟨fun c => ?_, fun c => ?_⟩
    · have g1 := yes c
      rw [eT, tallyV_len] at g1
      have hdup : dupF l := htd.1 (by omega)
      have e7 : putE l = 7 := by unfold putE; rw [if_pos hP, if_pos hdup]
      have r7 : putR l = [] := by unfold putR; rw [if_neg (by rw [e7]; decide)]
      rw [e7, r7]
      exact ⟨[20], [.ints .u8 []], _, lehE (Nat.le_of_ble_eq_true rfl) .u8, le_pair (.nil _ _ (by decide)) (leI rfl), rfl, rfl⟩
    · have g1 := no c
      rw [eT, tallyV_len] at g1
      have hdup : ¬ dupF l := fun h => by have := htd.2 h; omega
      have e0 : putE l = 0 := putE_ok.2 ⟨hP, hdup⟩
      have r0 : putR l = bodyR l ++ zer 1024 := by unfold putR; rw [if_pos e0]
      rw [e0, r0]
      refine ⟨rfl, ⟨by decide, by decide⟩, rfl, ?_, ?_⟩
      · show ((bodyR (l.take l.length)).length + (List.replicate (1024 : Int).toNat (0 : Int)).length) * 1 ≤ _
        rw [eT, List.length_replicate]; omega
      exact ⟨[2], [.ints .u8 (bodyR l ++ zer 1024)], _, leh1 rfl (leOint (by rw [eT]; rfl)), le_pair (leOwn rfl rfl (by rw [eT, List.length_append]; rfl)) (leI rfl), rfl, rfl⟩
end
end Go.Proofs.YtflclafbieokiaaGreatDoor.Us

/-
  What is read out of the rest of an archive. No program in sight.
-/
set_option linter.unusedVariables false
set_option linter.unusedSectionVars false
namespace Go.Proofs.YtflclafbieokiaaGreatDoor.Us
open Go AL Oc Pa Spl Hd

theorem arc_rest {l m : List Fl} {r : List Int} (hl : ∀ f ∈ l, okF f) (h : arc (bodyR l ++ r) m) : 1024 ≤ r.length ∧ r.length % 512 = 0 := by
  induction l generalizing m with
  | nil => exact ⟨(arc_len h).1, (arc_len h).2.1⟩
  | cons f l ih =>
    rw [body_cons, List.append_assoc] at h
    have hf := hl f (by simp)
    have hfl := file_len hf
    have hm := rnd_mod f.data.length
    obtain ⟨a1, a2, a3⟩ := arc_len h
    rw [List.length_append] at a1 a2
    have body : ∀ g ∈ l, okF g := fun g hg => hl g (by simp [hg])
    rcases Nat.lt_or_ge 512 ((bodyR l ++ r).length + rnd f.data.length) with hlt | hge
    · obtain ⟨g1, g2, g3⟩ := one_file (f := f) (r := bodyR l ++ r) hf hlt
      match m, h with
      | [], h =>
        have h := arc_nil.1 h
        have := g1.1
        rw [h, zer_len] at this
        omega
      | f' :: m, h =>
        obtain ⟨h1, h2, h3⟩ := arc_cons.1 h
        rw [g3] at h3
        exact ih body h3
    · exfalso
      match m, h with
      | f' :: m, h =>
        have := a3 (by simp)
        rw [List.length_append] at this
        omega
      | [], h =>
        have h := arc_nil.1 h
        have t : (fileR f ++ (bodyR l ++ r)).take 512 = headR f.path f.data.length := by
          unfold fileR
          rw [List.append_assoc, ← head_len hf]; exact List.take_left
        have z : (zer 1024).take 512 = zer 512 := by unfold zer; rw [List.take_replicate]; rfl
        rw [h, z] at t
        have := (get_head hf).2.2.2
        rw [← t] at this
        exact zer_head this
theorem arc_end {l m : List Fl} {r : List Int} (hl : ∀ f ∈ l, okF f) (hr : r.length = 1024) (h : arc (bodyR l ++ r) m) : m = l ∧ r = zer 1024 := by
  obtain ⟨m', rfl, h2⟩ := arc_app hl h (by omega)
  have : m' = [] := Classical.byContradiction fun x => by have := (arc_len h2).2.2 x; omega
  subst this
  exact ⟨List.append_nil _, arc_nil.1 h2⟩
theorem arc_one {l m : List Fl} {r : List Int} (hl : ∀ f ∈ l, okF f) (hr : 1024 < r.length) (h : arc (bodyR l ++ r) m) : one r := by
  obtain ⟨m', _, h2⟩ := arc_app hl h (by omega)
  match m', h2 with
  | [], h2 => rw [arc_nil.1 h2, zer_len] at hr; omega
  | f :: m', h2 => exact (arc_cons.1 h2).1
theorem is_end {b : List Int} {l : List Fl} {r : List Int} (hb : b = bodyR l ++ r) (hl : ∀ f ∈ l, okF f) (hr : r.length = 1024) (hz : r = zer 1024) (hd : ¬ dupF l) (hf : fitL l) : getL b = l ∧ getE b = 0 :=
  get_is (l := l) ⟨⟨hl, by rw [hb, hz]⟩, hd, hf⟩
theorem no_end {b : List Int} {l : List Fl} {r : List Int} (hb : b = bodyR l ++ r) (hl : ∀ f ∈ l, okF f) (hr : r.length = 1024) (h : ¬ (r = zer 1024 ∧ ¬ dupF l ∧ fitL l)) : getL b = [] ∧ getE b = 2 :=
  get_not fun ⟨m, h1, h2, h3⟩ => by
    rw [hb] at h1
    obtain ⟨rfl, e⟩ := arc_end hl hr h1
    exact h ⟨e, h2, h3⟩
theorem no_len {b : List Int} {l : List Fl} {r : List Int} (hb : b = bodyR l ++ r) (hl : ∀ f ∈ l, okF f) (h : r.length < 1024 ∨ ¬ r.length % 512 = 0) : getL b = [] ∧ getE b = 2 :=
  get_not fun ⟨m, h1, _⟩ => by
    rw [hb] at h1
    have := arc_rest hl h1
    omega
theorem no_one {b : List Int} {l : List Fl} {r : List Int} (hb : b = bodyR l ++ r) (hl : ∀ f ∈ l, okF f) (hr : 1024 < r.length) (h : ¬ one r) : getL b = [] ∧ getE b = 2 :=
  get_not fun ⟨m, h1, _⟩ => by
    rw [hb] at h1
    exact h (arc_one hl hr h1)
theorem step_one {b : List Int} {l : List Fl} {r : List Int} (hb : b = bodyR l ++ r) (hl : ∀ f ∈ l, okF f) (h : one r) : b = bodyR (l ++ [oneF r]) ++ restF r ∧ (∀ f ∈ l ++ [oneF r], okF f) ∧ (restF r).length < r.length := by
  refine ⟨?_, fun f hf => ?_, ?_⟩
  · have : bodyR [oneF r] = fileR (oneF r) := by unfold bodyR; simp
    rw [body_app, this, List.append_assoc, ← one_split h]; exact hb
  · rcases List.mem_append.1 hf with hf | hf
    · exact hl f hf
    · rw [List.mem_singleton.1 hf]; exact (oneF_data h).2.2
  · have := h.1
    unfold restF
    rw [List.length_drop]; omega
theorem blank_zer {r : List Int} {n : Nat} (h : r.length = n) : (∀ i, i < r.length → r.getD i 0 = 0) ↔ r = zer n := by
  subst h
  constructor
  · intro h
    apply List.ext_getElem
    · rw [zer_len]
    · intro i h1 h2
      have := h i h1
      rw [List.getD_eq_getElem?_getD, List.getElem?_eq_getElem h1] at this
      have e : (zer r.length)[i] = 0 := List.getElem_replicate ..
      rw [e]; exact this
  · intro h i hi
    rw [h]
    unfold zer
    rw [List.getD_eq_getElem?_getD, List.getElem?_replicate]; split <;> rfl
theorem getN_range (b : List Int) : 0 ≤ getN b ∧ getN b ≤ 4194304 := by
  by_cases h : getEr b = 0
  · exact (get_ok h).1.2
  · rw [(get_no h).2]; decide

end Go.Proofs.YtflclafbieokiaaGreatDoor.Us

/-
  The contract of ustar.Get.
-/
set_option linter.unusedVariables false
set_option linter.unusedSectionVars false
set_option linter.unusedSimpArgs false
namespace Go.Proofs.YtflclafbieokiaaGreatDoor.Us
open Go AL Oc Pa Spl Hd

theorem row_free (fs : List Fl) (i : Nat) : (rowF fs i).free := flC_free _ _
theorem row_cell1 (fs : List Fl) (i : Nat) : cell1 (rowF fs i) = true := flC_cell1 _ _
theorem map_noneU {s : ByteArray} {m : List (ByteArray × Nat)} (h : getM s (tallyV m) = none) : look s m = none := by
  rw [look_getM] at h; exact Option.map_eq_none_iff.1 h
section
variable [Globs]

theorem leh3 {h : List AO} {a b c : Nat} {o0 o1 o2 p0 p1 p2 : AO} (hd : [a, b, c].Nodup) (ha : h[a]? = some p0) (hb : h[b]? = some p1) (hc : h[c]? = some p2)
    (l0 : LeO h [a, b, c] p0 o0) (l1 : LeO h [a, b, c] p1 o1) (l2 : LeO h [a, b, c] p2 o2) : LeH 0 h [a, b, c] [o0, o1, o2] :=
  ⟨rfl, Nat.zero_le _, fun i hi => absurd hi (Nat.not_lt_zero _), hd, fun i j o' hi ho => by
    match i, hi, ho with
    | 0, hi, ho => cases hi; cases ho; exact .inl ⟨_, ha, l0⟩
    | 1, hi, ho => cases hi; cases ho; exact .inl ⟨_, hb, l1⟩
    | 2, hi, ho => cases hi; cases ho; exact .inl ⟨_, hc, l2⟩
    | i + 3, hi, ho => simp at hi⟩
theorem lehRU {h : List AO} {j : Nat} (hj : h.length ≤ j) (g : Nat → AV) : LeH 0 h [j] [.row 0 g] :=
  ⟨rfl, Nat.zero_le _, fun i hi => absurd hi (Nat.not_lt_zero _), List.nodup_cons.2 ⟨by simp, .nil⟩, fun i m p hi hp => by
    cases i with
    | zero => simp at hi hp; subst hi hp; exact .inr ⟨Nat.zero_le _, hj, .inr (.inr ⟨g, rfl⟩)⟩
    | succ i => simp at hi⟩
theorem boxTop {h : List AO} {l : List Nat} {a b : AV} : LeO h l (.lst [a, b]) (.lst [.top, .top]) := .lst _ _ rfl fun i hi => by
  match i, hi with
  | 0, _ => exact .top _
  | 1, _ => exact .top _

def UGetR (b : List Int) (r : AV) (h : List AO) : Prop := r = .tup 2 (pair (.own 0 0 (getL b).length 2) (int .i64 (getE b))) ∧ h = [.row ((getL b).length * 2) (rowF (getL b))]

def labG : Option (List Fl × List Int) → Nat
  | none => 0
  | some _ => 1
def slG : Option (List Fl × List Int) → List (Nat × AV)
  | none => []
  | some (fs, r) => [(0, .roI .u8 r), (4, .own 2 0 fs.length 2), (5, .ptr 0 0), (8, int .i64 (dataN fs : Nat)), (10, .mp 1)]
def hpG : Option (List Fl × List Int) → List AO
  | none => []
  | some (fs, r) => [.lst [.top, .top], .map (tallyV (tally fs)), .row (fs.length * 2) (rowF fs)]
def invG (b : List Int) : Option (List Fl × List Int) → Prop
  | none => getL b = [] ∧ getE b = 2
  | some (fs, r) => b = bodyR fs ++ r ∧ ∀ f ∈ fs, okF f
def muG : Option (List Fl × List Int) → Nat
  | none => 0
  | some (fs, r) => r.length + 1

set_option maxHeartbeats 8000000 in
set_option maxRecDepth 10000 in
theorem uget_prog (b : List Int) (hb : ∀ x ∈ b, 0 ≤ x ∧ x < 256) (hl : b.length ≤ 281474976710656) : ACalls Tryz.prog 69 [.roI .u8 b] [] (UGetR b) := by
  unfold UGetR
  refine rcalls Tryz.func69 rfl (by decide) ?_
  refine ⟨Option (List Fl × List Int), labG, slG, hpG, invG b, muG, ?_, ?_⟩
  · have hx1 : b = bodyR [] ++ b := rfl
    have hx2 : ∀ f ∈ ([] : List Fl), okF f := fun f hf => by cases hf
    have hr := hb
    have rl := hl
    have hm := body_mod hx2
    have hdt := body_data hx2
    have hxl := congrArg List.length hx1
    rw [List.length_append] at hxl
    have r1 : ∀ x ∈ b.take 512, 0 ≤ x ∧ x < 256 := fun x hx => hr x (List.mem_of_mem_take hx)
    have h1 := hget_prog (b.take 512) r1 (by rw [List.length_take]; omega)
    have h1 : ACalls Tryz.prog 87 [.roI .u8 ((b.take 512).drop 0)] [] _ := h1
    have hN := getN_range (b.take 512)
    have hone : one b ↔ 1024 < b.length ∧ getEr (b.take 512) = 0 ∧ rnd (getN (b.take 512)).toNat ≤ b.length - 512 ∧ ((b.drop 512).take (rnd (getN (b.take 512)).toNat)).drop (getN (b.take 512)).toNat = zer (rnd (getN (b.take 512)).toNat - (getN (b.take 512)).toNat) := Iff.rfl
    have hof : (oneF b).path = getS (b.take 512) ∧ (oneF b).data = (b.drop 512).take (getN (b.take 512)).toNat := ⟨rfl, rfl⟩
    have hrf : restF b = b.drop (512 + rnd (getN (b.take 512)).toNat) := rfl
    have hst := fun h : one b => step_one hx1 hx2 h
    have htd := tally_dup ([] : List Fl)
    have htl := fun s => tally_look ([] : List Fl) s
    have hbz := @blank_zer b 1024
    have hdd := data_app ([] : List Fl) [oneF b]
    have hts := tally_snoc ([] : List Fl) (oneF b)
    have hold := fun {i : Nat} (h : i < ([] : List Fl).length * 2) => rowF_old ([] : List Fl) (oneF b) h
    have hnew := fun {i : Nat} (h : i < 2) => rowF_new ([] : List Fl) (oneF b) h
    have hd1 : dataN [oneF b] = (oneF b).data.length := rfl
    generalize oneF b = F at *
    generalize restF b = RF at *
    unfold HGetR at h1
    obtain ⟨N, hNe⟩ : ∃ N : Nat, getN (b.take 512) = (N : Int) := ⟨(getN (b.take 512)).toNat, by omega⟩
    rw [hNe] at h1 hN hone hof hrf
    rw [Int.toNat_natCast] at hone hof hrf
    generalize getS (b.take 512) = S at *
    generalize getEr (b.take 512) = E at *
    have h2 := round_prog (N : Int) (by omega)
    rw [rndZ_nat] at h2
    have h3 := blank_prog b (by omega)
    have hb512 : ((b.take b.length).drop 512) = b.drop 512 := by rw [List.take_length]
    have hrn := rnd_ge N
    have hr511 : rnd N ≤ N + 511 := by unfold rnd; omega
    have h4 := blank_prog ((((b.take b.length).drop 512).take (rnd N)).drop N) (by simp only [List.length_drop, List.length_take]; omega)
    have h5 := clone_prog ((((b.take b.length).drop 512).take N).drop 0) (by simp only [List.length_drop, List.length_take]; omega)
    have hlen5 : ((((b.take b.length).drop 512).take N).drop 0) = (b.drop 512).take N := by rw [hb512, List.drop_zero]
    have hl512 : ((b.take b.length).drop 512).length = b.length - 512 := by rw [hb512, List.length_drop]
    refine ⟨fun c => ?_, fun c => ?_⟩
    · have f1 : (b.length : Int) < 1024 := yes c
      exact ⟨trivial, none, [], rfl, no_len hx1 hx2 (.inl (by omega)), lehN _, trivial⟩
    have f1 : ¬ (b.length : Int) < 1024 := no c
    refine ⟨by decide, ?_⟩
    refine ⟨fun c => ?_, fun c => ?_⟩
    · have f2 : ¬ (b.length : Int).tmod 512 = 0 := yes c
      rw [Int.tmod_eq_emod_of_nonneg (by omega)] at f2
      exact ⟨trivial, none, [], rfl, no_len hx1 hx2 (.inr (by omega)), lehN _, trivial⟩
    refine ⟨fun c => ?_, fun c => ?_⟩
    · have f3 : (b.length : Int) = 1024 := yes c
      have hbz := hbz (by omega)
      refine ⟨[], _, h3, ?_⟩
      rintro r hh ⟨rfl, rfl⟩
      refine ⟨.inl rfl, ?_⟩
      refine ⟨fun c => ?_, fun c => ?_⟩
      · have f4 := fun x => notT c (hbz.2 x)
        exact ⟨trivial, none, [], rfl, no_end hx1 hx2 (by omega) fun x => f4 x.1, lehN _, trivial⟩
      have f4 := hbz.1 (notF c)
      refine ⟨fun c => ?_, fun c => ?_⟩
      · have f5 := yes c
        exact ⟨trivial, none, [], rfl, no_end hx1 hx2 (by omega) fun x => (by have := x.2.2.2; have z0 : dataN ([] : List Fl) = 0 := rfl; have z1 : ([] : List Fl).length = 0 := rfl; have z2 : (tally []).length = 0 := rfl; omega), lehN _, trivial⟩
      have f5 := no c
      refine ⟨fun c => ?_, fun c => ?_⟩
      · have f6 := yes c
        exact ⟨trivial, none, [], rfl, no_end hx1 hx2 (by omega) fun x => (by have := x.2.2.1; have z0 : dataN ([] : List Fl) = 0 := rfl; have z1 : ([] : List Fl).length = 0 := rfl; have z2 : (tally []).length = 0 := rfl; omega), lehN _, trivial⟩
      have f6 := no c
      refine ⟨fun c => ?_, fun c => ?_⟩
      · have f7 := yes c
        have z3 : (tallyV (tally [])).length = 0 := rfl; try rw [tallyV_len] at f7
        exact ⟨trivial, none, [], rfl, no_end hx1 hx2 (by omega) fun x => x.2.1 (htd.1 (by have z0 : dataN ([] : List Fl) = 0 := rfl; have z1 : ([] : List Fl).length = 0 := rfl; have z2 : (tally []).length = 0 := rfl; omega)), lehN _, trivial⟩
      have f7 := no c
      have z3 : (tallyV (tally [])).length = 0 := rfl; try rw [tallyV_len] at f7
      obtain ⟨q1, q2⟩ := is_end hx1 hx2 (by omega) f4 (fun x => by have := htd.2 x; have z0 : dataN ([] : List Fl) = 0 := rfl; have z1 : ([] : List Fl).length = 0 := rfl; have z2 : (tally []).length = 0 := rfl; omega) ⟨by have z0 : dataN ([] : List Fl) = 0 := rfl; have z1 : ([] : List Fl).length = 0 := rfl; have z2 : (tally []).length = 0 := rfl; omega, by have z0 : dataN ([] : List Fl) = 0 := rfl; have z1 : ([] : List Fl).length = 0 := rfl; have z2 : (tally []).length = 0 := rfl; omega⟩
      rw [q1, q2]
      exact ⟨[20], [.row 0 (rowF [])], _, lehRU (Nat.le_of_ble_eq_true rfl) _, le_pair (.nil _ _ (by decide)) (leI rfl), rfl, rfl⟩
    have f3 : ¬ (b.length : Int) = 1024 := no c
    refine ⟨⟨by omega, by omega⟩, ?_⟩
    refine ⟨[], _, h1, ?_⟩
    rintro r hh ⟨rfl, rfl⟩
    refine ⟨.inl rfl, ?_⟩
    refine ⟨⟨by omega, by omega⟩, ?_⟩
    refine ⟨[], _, h2, ?_⟩
    rintro r hh ⟨rfl, rfl⟩
    refine ⟨.inl rfl, ?_⟩
    refine ⟨fun c => ?_, fun c => ?_⟩
    · have f4 : ¬ E = 0 := yes c
      exact ⟨trivial, none, [], rfl, no_one hx1 hx2 (by omega) fun x => f4 (hone.1 x).2.1, lehN _, trivial⟩
    have f4 : E = 0 := Classical.byContradiction fun x => no c x
    refine ⟨fun c => ?_, fun c => ?_⟩
    · have f5 : (((b.take b.length).drop 512).length : Int) < (rnd N : Nat) := yes c
      rw [hl512] at f5
      exact ⟨trivial, none, [], rfl, no_one hx1 hx2 (by omega) fun x => (by have := (hone.1 x).2.2.1; omega), lehN _, trivial⟩
    have f5 : ¬ (((b.take b.length).drop 512).length : Int) < (rnd N : Nat) := no c
    have B1 : (0 : Int) ≤ (rnd N : Nat) ∧ ((rnd N : Nat) : Int) ≤ (((b.take b.length).drop 512).length : Int) := by omega
    have B2 : (0 : Int) ≤ (N : Nat) ∧ ((N : Nat) : Int) ≤ ((((rnd N : Nat) : Int).toNat : Nat) : Int) := by omega
    have B3 : (0 : Int) ≤ (N : Nat) ∧ ((N : Nat) : Int) ≤ (((b.take b.length).drop 512).length : Int) := by omega
    rw [hl512] at f5
    refine ⟨B1, B2, ?_⟩
    refine ⟨[], _, h4, ?_⟩
    rintro r hh ⟨rfl, rfl⟩
    refine ⟨.inl rfl, ?_⟩
    have hz4 := @blank_zer ((((b.take b.length).drop 512).take (rnd N)).drop N) (rnd N - N) (by simp only [List.length_drop, List.length_take]; omega)
    rw [hb512] at hz4
    refine ⟨fun c => ?_, fun c => ?_⟩
    · have f6 := notT c
      rw [hb512] at f6
      exact ⟨trivial, none, [], rfl, no_one hx1 hx2 (by omega) fun x => f6 (hz4.2 (hone.1 x).2.2.2), lehN _, trivial⟩
    have f6 := notF c
    rw [hb512] at f6
    have ok : one b := hone.2 ⟨by omega, f4, by omega, hz4.1 f6⟩
    obtain ⟨s1, s2, s3⟩ := hst ok
    refine ⟨B3, ?_⟩
    refine ⟨[], _, h5, ?_⟩
    rintro r hh ⟨rfl, rfl⟩
    refine ⟨.inl rfl, ?_⟩
    refine ⟨Nat.le_refl 2, by show 1 * 40 ≤ _; omega, fun i hi => ?_, (fun i => if i < 0 * 2 then .top else if i = 0 * 2 then str S else .own 2 0 ((((b.take b.length).drop 512).take N).drop 0).length 1), fun i hi => ?_, ?_⟩
    · match i, hi with
      | 0, _ => rfl
      | 1, _ => rfl
    · match i, hi with
      | 0, _ => rfl
      | 1, _ => rfl
    have hbm := bump_setM S (tally ([] : List Fl))
    rw [← hof.1, ← hts, hof.1] at hbm
    have hlk := htl S
    have hFl : F.data.length = N := by rw [hof.2, List.length_take, List.length_drop]; omega
    have eall : IntKind.i64.wrap (((dataN ([] : List Fl) : Nat) : Int) + (N : Int)) = ((dataN (([] : List Fl) ++ [F]) : Nat) : Int) := by
      rw [w64 (by omega) (by omega), hdd, hd1, hFl]; omega
    have eRF : (((((b.take b.length).drop 512).take ((b.take b.length).drop 512).length).drop ((rnd N : Nat) : Int).toNat)) = RF := by
      rw [List.take_length, hb512, List.drop_drop, hrf]; rfl
    have fin : ∀ (n : Nat) (h : List AO) (p0 : AO), (look S (tally ([] : List Fl))).getD 0 = n → n ≤ ([] : List Fl).length → p0 = .lst [str S, .own 2 0 ((((b.take b.length).drop 512).take N).drop 0).length 1] →
        h[0]? = some p0 → h[1]? = some (.map (setM S (int .i64 (IntKind.i64.wrap ((n : Int) + 1))) (tallyV (tally ([] : List Fl))))) → h[2]? = some (.ints .u8 ((((b.take b.length).drop 512).take N).drop 0)) →
        h[4]? = some (.row ((([] : List Fl).length + 1) * 2) (fun i => if i < ([] : List Fl).length * 2 then rowF ([] : List Fl) i else if i = ([] : List Fl).length * 2 then str S else .own 2 0 ((((b.take b.length).drop 512).take N).drop 0).length 1)) →
        LeH 0 h [0, 1, 4] (hpG (some (([] : List Fl) ++ [F], RF))) := fun n h p0 e1 e2 e3 h0 h1 h2 h3 => by
      subst e3
      show LeH 0 h [0, 1, 4] [.lst [.top, .top], .map (tallyV (tally (([] : List Fl) ++ [F]))), .row ((([] : List Fl) ++ [F]).length * 2) (rowF (([] : List Fl) ++ [F]))]
      refine leh3 (by decide) h0 h1 h3 boxTop (leOmap ?_) (.row _ _ _ _ ?_ fun i hi => ?_)
      · rw [e1] at hbm
        rw [w64 (by omega) (by omega)]; exact hbm
      · first | exact Nat.le_refl _ | exact Nat.le_of_eq (by rw [List.length_append]; rfl)
      · rw [List.length_append, List.length_singleton] at hi
        by_cases g : i < ([] : List Fl).length * 2
        · rw [if_pos g, hold g]; exact .same _ (row_free ([] : List Fl) i)
        · obtain ⟨j, rfl⟩ : ∃ j, i = ([] : List Fl).length * 2 + j := ⟨i - ([] : List Fl).length * 2, by omega⟩
          rw [if_neg g, hnew (by omega)]
          match j, hi with
          | 0, _ => rw [if_pos (by omega)]; exact leS hof.1.symm
          | 1, _ =>
            rw [if_neg (by omega)]
            exact .giveI F.data h2 (by decide) (by omega) (by rw [hlen5, List.drop_zero, List.take_length]; exact hof.2)
          | j + 2, hj => omega
    refine ⟨fun v hv => ?_, fun hn => ?_⟩
    · obtain ⟨n, hn, rfl⟩ : ∃ n : Nat, look S (tally ([] : List Fl)) = some n ∧ v = int .i64 (n : Nat) := by
        have hv : getM S (tallyV (tally ([] : List Fl))) = some v := hv
        rw [look_getM] at hv
        obtain ⟨n, hn, e⟩ := Option.map_eq_some_iff.1 hv
        exact ⟨n, hn, e.symm⟩
      have g1 : (look S (tally ([] : List Fl))).getD 0 = n := by rw [hn]; rfl
      refine ⟨B1, ?_⟩
      exact ⟨trivial, some (([] : List Fl) ++ [F], RF), [0, 1, 4], rfl, ⟨s1, s2⟩, fin n _ _ g1 (by omega) rfl rfl rfl rfl rfl, ⟨leRo eRF, leOwn rfl rfl (by rw [List.length_append]; rfl), .ptr 0 rfl, leI eall, .mp rfl, trivial⟩⟩
    · have hn := map_noneU (m := tally ([] : List Fl)) hn
      have g1 : (look S (tally ([] : List Fl))).getD 0 = 0 := by rw [hn]; rfl
      refine ⟨B1, ?_⟩
      exact ⟨trivial, some (([] : List Fl) ++ [F], RF), [0, 1, 4], rfl, ⟨s1, s2⟩, fin 0 _ _ g1 (Nat.zero_le _) rfl rfl rfl rfl rfl, ⟨leRo eRF, leOwn rfl rfl (by rw [List.length_append]; rfl), .ptr 0 rfl, leI eall, .mp rfl, trivial⟩⟩

  · rintro (_ | ⟨fs, r⟩) hx
    · obtain ⟨q1, q2⟩ := hx
      rw [q1, q2]
      exact ⟨[20], [.row 0 (rowF [])], _, lehRU (Nat.le_of_ble_eq_true rfl) _, le_pair (.nil _ _ (by decide)) (leI rfl), rfl, rfl⟩
    · obtain ⟨hx1, hx2⟩ := hx
      have rl : r.length ≤ 281474976710656 := by
        have := congrArg List.length hx1
        rw [List.length_append] at this
        omega
      have hr : ∀ x ∈ r, 0 ≤ x ∧ x < 256 := fun x hx => hb x (by rw [hx1]; exact List.mem_append_right _ hx)
      have hm := body_mod hx2
      have hdt := body_data hx2
      have hxl := congrArg List.length hx1
      rw [List.length_append] at hxl
      have r1 : ∀ x ∈ r.take 512, 0 ≤ x ∧ x < 256 := fun x hx => hr x (List.mem_of_mem_take hx)
      have h1 := hget_prog (r.take 512) r1 (by rw [List.length_take]; omega)
      have h1 : ACalls Tryz.prog 87 [.roI .u8 ((r.take 512).drop 0)] [] _ := h1
      have hN := getN_range (r.take 512)
      have hone : one r ↔ 1024 < r.length ∧ getEr (r.take 512) = 0 ∧ rnd (getN (r.take 512)).toNat ≤ r.length - 512 ∧ ((r.drop 512).take (rnd (getN (r.take 512)).toNat)).drop (getN (r.take 512)).toNat = zer (rnd (getN (r.take 512)).toNat - (getN (r.take 512)).toNat) := Iff.rfl
      have hof : (oneF r).path = getS (r.take 512) ∧ (oneF r).data = (r.drop 512).take (getN (r.take 512)).toNat := ⟨rfl, rfl⟩
      have hrf : restF r = r.drop (512 + rnd (getN (r.take 512)).toNat) := rfl
      have hst := fun h : one r => step_one hx1 hx2 h
      have htd := tally_dup fs
      have htl := fun s => tally_look fs s
      have hbz := @blank_zer r 1024
      have hdd := data_app fs [oneF r]
      have hts := tally_snoc fs (oneF r)
      have hold := fun {i : Nat} (h : i < fs.length * 2) => rowF_old fs (oneF r) h
      have hnew := fun {i : Nat} (h : i < 2) => rowF_new fs (oneF r) h
      have hd1 : dataN [oneF r] = (oneF r).data.length := rfl
      generalize oneF r = F at *
      generalize restF r = RF at *
      unfold HGetR at h1
      obtain ⟨N, hNe⟩ : ∃ N : Nat, getN (r.take 512) = (N : Int) := ⟨(getN (r.take 512)).toNat, by omega⟩
      rw [hNe] at h1 hN hone hof hrf
      rw [Int.toNat_natCast] at hone hof hrf
      generalize getS (r.take 512) = S at *
      generalize getEr (r.take 512) = E at *
      have h2 := round_prog (N : Int) (by omega)
      rw [rndZ_nat] at h2
      have h3 := blank_prog r (by omega)
      have hb512 : ((r.take r.length).drop 512) = r.drop 512 := by rw [List.take_length]
      have hrn := rnd_ge N
      have hr511 : rnd N ≤ N + 511 := by unfold rnd; omega
      have h4 := blank_prog ((((r.take r.length).drop 512).take (rnd N)).drop N) (by simp only [List.length_drop, List.length_take]; omega)
      have h5 := clone_prog ((((r.take r.length).drop 512).take N).drop 0) (by simp only [List.length_drop, List.length_take]; omega)
      have hlen5 : ((((r.take r.length).drop 512).take N).drop 0) = (r.drop 512).take N := by rw [hb512, List.drop_zero]
      have hl512 : ((r.take r.length).drop 512).length = r.length - 512 := by rw [hb512, List.length_drop]
      refine ⟨fun c => ?_, fun c => ?_⟩
      · have f1 : (r.length : Int) < 1024 := yes c
        exact ⟨trivial, none, [], rfl, no_len hx1 hx2 (.inl (by omega)), by show 0 < _ + 1; omega, lehN _, trivial⟩
      have f1 : ¬ (r.length : Int) < 1024 := no c
      refine ⟨by decide, ?_⟩
      refine ⟨fun c => ?_, fun c => ?_⟩
      · have f2 : ¬ (r.length : Int).tmod 512 = 0 := yes c
        rw [Int.tmod_eq_emod_of_nonneg (by omega)] at f2
        exact ⟨trivial, none, [], rfl, no_len hx1 hx2 (.inr (by omega)), by show 0 < _ + 1; omega, lehN _, trivial⟩
      refine ⟨fun c => ?_, fun c => ?_⟩
      · have f3 : (r.length : Int) = 1024 := yes c
        have hbz := hbz (by omega)
        refine ⟨[], _, h3, ?_⟩
        rintro r hh ⟨rfl, rfl⟩
        refine ⟨.inl rfl, ?_⟩
        refine ⟨fun c => ?_, fun c => ?_⟩
        · have f4 := fun x => notT c (hbz.2 x)
          exact ⟨trivial, none, [], rfl, no_end hx1 hx2 (by omega) fun x => f4 x.1, by show 0 < _ + 1; omega, lehN _, trivial⟩
        have f4 := hbz.1 (notF c)
        refine ⟨fun c => ?_, fun c => ?_⟩
        · have f5 := yes c
          exact ⟨trivial, none, [], rfl, no_end hx1 hx2 (by omega) fun x => (by have := x.2.2.2; omega), by show 0 < _ + 1; omega, lehN _, trivial⟩
        have f5 := no c
        refine ⟨fun c => ?_, fun c => ?_⟩
        · have f6 := yes c
          exact ⟨trivial, none, [], rfl, no_end hx1 hx2 (by omega) fun x => (by have := x.2.2.1; omega), by show 0 < _ + 1; omega, lehN _, trivial⟩
        have f6 := no c
        refine ⟨fun c => ?_, fun c => ?_⟩
        · have f7 := yes c
          rw [tallyV_len] at f7
          exact ⟨trivial, none, [], rfl, no_end hx1 hx2 (by omega) fun x => x.2.1 (htd.1 (by omega)), by show 0 < _ + 1; omega, lehN _, trivial⟩
        have f7 := no c
        rw [tallyV_len] at f7
        obtain ⟨q1, q2⟩ := is_end hx1 hx2 (by omega) f4 (fun x => by have := htd.2 x; omega) ⟨by omega, by omega⟩
        rw [q1, q2]
        exact ⟨[2], [.row (fs.length * 2) (rowF fs)], _, leh1 rfl (.row _ _ _ _ (Nat.le_refl _) fun i hi => .same _ (row_free fs i)), le_pair (leOwn rfl rfl rfl) (leI rfl), rfl, rfl⟩
      have f3 : ¬ (r.length : Int) = 1024 := no c
      refine ⟨⟨by omega, by omega⟩, ?_⟩
      refine ⟨[], _, h1, ?_⟩
      rintro r hh ⟨rfl, rfl⟩
      refine ⟨.inl rfl, ?_⟩
      refine ⟨⟨by omega, by omega⟩, ?_⟩
      refine ⟨[], _, h2, ?_⟩
      rintro r hh ⟨rfl, rfl⟩
      refine ⟨.inl rfl, ?_⟩
      refine ⟨fun c => ?_, fun c => ?_⟩
      · have f4 : ¬ E = 0 := yes c
        exact ⟨trivial, none, [], rfl, no_one hx1 hx2 (by omega) fun x => f4 (hone.1 x).2.1, by show 0 < _ + 1; omega, lehN _, trivial⟩
      have f4 : E = 0 := Classical.byContradiction fun x => no c x
      refine ⟨fun c => ?_, fun c => ?_⟩
      · have f5 : (((r.take r.length).drop 512).length : Int) < (rnd N : Nat) := yes c
        rw [hl512] at f5
        exact ⟨trivial, none, [], rfl, no_one hx1 hx2 (by omega) fun x => (by have := (hone.1 x).2.2.1; omega), by show 0 < _ + 1; omega, lehN _, trivial⟩
      have f5 : ¬ (((r.take r.length).drop 512).length : Int) < (rnd N : Nat) := no c
      have B1 : (0 : Int) ≤ (rnd N : Nat) ∧ ((rnd N : Nat) : Int) ≤ (((r.take r.length).drop 512).length : Int) := by omega
      have B2 : (0 : Int) ≤ (N : Nat) ∧ ((N : Nat) : Int) ≤ ((((rnd N : Nat) : Int).toNat : Nat) : Int) := by omega
      have B3 : (0 : Int) ≤ (N : Nat) ∧ ((N : Nat) : Int) ≤ (((r.take r.length).drop 512).length : Int) := by omega
      rw [hl512] at f5
      refine ⟨B1, B2, ?_⟩
      refine ⟨[], _, h4, ?_⟩
      rintro r hh ⟨rfl, rfl⟩
      refine ⟨.inl rfl, ?_⟩
      have hz4 := @blank_zer ((((r.take r.length).drop 512).take (rnd N)).drop N) (rnd N - N) (by simp only [List.length_drop, List.length_take]; omega)
      rw [hb512] at hz4
      refine ⟨fun c => ?_, fun c => ?_⟩
      · have f6 := notT c
        rw [hb512] at f6
        exact ⟨trivial, none, [], rfl, no_one hx1 hx2 (by omega) fun x => f6 (hz4.2 (hone.1 x).2.2.2), by show 0 < _ + 1; omega, lehN _, trivial⟩
      have f6 := notF c
      rw [hb512] at f6
      have ok : one r := hone.2 ⟨by omega, f4, by omega, hz4.1 f6⟩
      obtain ⟨s1, s2, s3⟩ := hst ok
      refine ⟨B3, ?_⟩
      refine ⟨[], _, h5, ?_⟩
      rintro r hh ⟨rfl, rfl⟩
      refine ⟨.inl rfl, ?_⟩
      refine ⟨rfl, fun i _ => row_cell1 fs i, Nat.le_refl 2, by show (fs.length + 1) * 40 ≤ _; omega, fun i hi => ?_, (fun i => if i < fs.length * 2 then rowF fs i else if i = fs.length * 2 then str S else .own 3 0 ((((r.take r.length).drop 512).take N).drop 0).length 1), fun i hi => if_pos hi, fun i hi => ?_, ?_⟩
      · match i, hi with
        | 0, _ => rfl
        | 1, _ => rfl
      · match i, hi with
        | 0, _ =>
          show (if fs.length * 2 + 0 < fs.length * 2 then _ else if fs.length * 2 + 0 = fs.length * 2 then _ else _) = _
          rw [if_neg (by omega), if_pos (by omega)]; rfl
        | 1, _ =>
          show (if fs.length * 2 + 1 < fs.length * 2 then _ else if fs.length * 2 + 1 = fs.length * 2 then _ else _) = _
          rw [if_neg (by omega), if_neg (by omega)]; rfl
      have hbm := bump_setM S (tally fs)
      rw [← hof.1, ← hts, hof.1] at hbm
      have hlk := htl S
      have hFl : F.data.length = N := by rw [hof.2, List.length_take, List.length_drop]; omega
      have eall : IntKind.i64.wrap (((dataN fs : Nat) : Int) + (N : Int)) = ((dataN (fs ++ [F]) : Nat) : Int) := by
        rw [w64 (by omega) (by omega), hdd, hd1, hFl]; omega
      have eRF : (((((r.take r.length).drop 512).take ((r.take r.length).drop 512).length).drop ((rnd N : Nat) : Int).toNat)) = RF := by
        rw [List.take_length, hb512, List.drop_drop, hrf]; rfl
      have fin : ∀ (n : Nat) (h : List AO) (p0 : AO), (look S (tally fs)).getD 0 = n → n ≤ fs.length → p0 = .lst [str S, .own 3 0 ((((r.take r.length).drop 512).take N).drop 0).length 1] →
          h[0]? = some p0 → h[1]? = some (.map (setM S (int .i64 (IntKind.i64.wrap ((n : Int) + 1))) (tallyV (tally fs)))) → h[3]? = some (.ints .u8 ((((r.take r.length).drop 512).take N).drop 0)) →
          h[5]? = some (.row ((fs.length + 1) * 2) (fun i => if i < fs.length * 2 then rowF fs i else if i = fs.length * 2 then str S else .own 3 0 ((((r.take r.length).drop 512).take N).drop 0).length 1)) →
          LeH 0 h [0, 1, 5] (hpG (some (fs ++ [F], RF))) := fun n h p0 e1 e2 e3 h0 h1 h2 h3 => by
        subst e3
        show LeH 0 h [0, 1, 5] [.lst [.top, .top], .map (tallyV (tally (fs ++ [F]))), .row ((fs ++ [F]).length * 2) (rowF (fs ++ [F]))]
        refine leh3 (by decide) h0 h1 h3 boxTop (leOmap ?_) (.row _ _ _ _ ?_ fun i hi => ?_)
        · rw [e1] at hbm
          rw [w64 (by omega) (by omega)]; exact hbm
        · first | exact Nat.le_refl _ | exact Nat.le_of_eq (by rw [List.length_append]; rfl)
        · rw [List.length_append, List.length_singleton] at hi
          by_cases g : i < fs.length * 2
          · rw [if_pos g, hold g]; exact .same _ (row_free fs i)
          · obtain ⟨j, rfl⟩ : ∃ j, i = fs.length * 2 + j := ⟨i - fs.length * 2, by omega⟩
            rw [if_neg g, hnew (by omega)]
            match j, hi with
            | 0, _ => rw [if_pos (by omega)]; exact leS hof.1.symm
            | 1, _ =>
              rw [if_neg (by omega)]
              exact .giveI F.data h2 (by decide) (by omega) (by rw [hlen5, List.drop_zero, List.take_length]; exact hof.2)
            | j + 2, hj => omega
      refine ⟨fun v hv => ?_, fun hn => ?_⟩
      · obtain ⟨n, hn, rfl⟩ : ∃ n : Nat, look S (tally fs) = some n ∧ v = int .i64 (n : Nat) := by
          have hv : getM S (tallyV (tally fs)) = some v := hv
          rw [look_getM] at hv
          obtain ⟨n, hn, e⟩ := Option.map_eq_some_iff.1 hv
          exact ⟨n, hn, e.symm⟩
        have g1 : (look S (tally fs)).getD 0 = n := by rw [hn]; rfl
        refine ⟨B1, ?_⟩
        exact ⟨trivial, some (fs ++ [F], RF), [0, 1, 5], rfl, ⟨s1, s2⟩, by show RF.length + 1 < r.length + 1; omega, fin n _ _ g1 (by omega) rfl rfl rfl rfl rfl, ⟨leRo eRF, leOwn rfl rfl (by rw [List.length_append]; rfl), .ptr 0 rfl, leI eall, .mp rfl, trivial⟩⟩
      · have hn := map_noneU (m := tally fs) hn
        have g1 : (look S (tally fs)).getD 0 = 0 := by rw [hn]; rfl
        refine ⟨B1, ?_⟩
        exact ⟨trivial, some (fs ++ [F], RF), [0, 1, 5], rfl, ⟨s1, s2⟩, by show RF.length + 1 < r.length + 1; omega, fin 0 _ _ g1 (Nat.zero_le _) rfl rfl rfl rfl rfl, ⟨leRo eRF, leOwn rfl rfl (by rw [List.length_append]; rfl), .ptr 0 rfl, leI eall, .mp rfl, trivial⟩⟩

end
end Go.Proofs.YtflclafbieokiaaGreatDoor.Us

/-
  The journal, walked: its small functions.
-/
set_option linter.unusedVariables false
set_option linter.unusedSectionVars false
set_option linter.unusedSimpArgs false
set_option maxRecDepth 10000
namespace Go.Proofs.YtflclafbieokiaaGreatDoor.Jr
open Go AL Us Dk Sh

abbrev f2V (f : Fl) : AV := .agg 2 (flC f)
theorem ren_flC (g : Nat → Nat) (f : Fl) : ∀ i, AV.ren g (flC f i) = flC f i
  | 0 => rfl
  | _ + 1 => rfl
theorem ren_rowF (g : Nat → Nat) (l : List Fl) (i : Nat) : AV.ren g (rowF l i) = rowF l i := ren_flC _ _ _
abbrev badV : AV := .raw (.func (.func 36) ⟨[]⟩ ⟨[]⟩)
section
variable [Globs]

theorem bad_p (f : Fl) : ACalls Tryz.prog 36 [f2V f] [] (fun r h => r = bool (decide (badF f)) ∧ h = []) := by
  refine rcalls Tryz.func36 rfl (by decide) ?_
  refine ⟨fun c => ?_, fun c => ?_⟩
  · have h1 : f.path = intN := yes c
    exact ⟨[], [], _, lehN _, leTP (.inl h1), rfl, rfl⟩
  have h1 : ¬ f.path = intN := no c
  refine ⟨fun c => ?_, fun c => ?_⟩
  · have h2 : f.path = ByteArray.empty := yes c
    exact ⟨[], [], _, lehN _, leTP (.inr (.inl h2)), rfl, rfl⟩
  have h2 : ¬ f.path = ByteArray.empty := no c
  refine ⟨[], [], _, lehN _, AL.leB ?_, rfl, rfl⟩
  refine decide_eq_decide.2 ⟨fun (h : (f.path.size : Int) > 40) => .inr (.inr (by omega)), fun h => ?_⟩
  rcases h with h | h | h
  · exact absurd h h1
  · exact absurd h h2
  · show (f.path.size : Int) > 40
    omega

theorem steps_p (n : Nat) (hn : n ≤ 1000000) : ACalls Tryz.prog 22 [int .i64 (n : Int)] [] (fun r h => r = int .i64 ((n + 5 : Nat) : Int) ∧ h = []) := by
  refine rcalls Tryz.func22 rfl (by decide) ?_
  refine ⟨[], [], _, lehN _, leI ?_, rfl, rfl⟩
  rw [w64 (by omega) (by omega)]; omega

theorem jwrite_p (d : DkF) (f : Fl) : ACalls Tryz.prog 41 [.ptr 0 0, f2V f] (dkH d) (fun r h => r = .clo (.func 63) 2 (pair (.bx 0) (.rp 2 (flC f))) ∧ h = dkH d) := by
  refine rcalls Tryz.func41 rfl (by decide) ?_
  refine ⟨[0, 1, 2, 3], dkH d, _, lehDk rfl rfl rfl rfl rfl rfl rfl rfl, .clo _ 2 _ _ fun i hi => ?_, rfl, rfl⟩
  match i, hi with
  | 0, _ => exact .giveB rfl (by decide) rfl
  | 1, _ =>
    refine .givePL (flC f) rfl (by decide) (Nat.le_refl 2) (fun i hi => ?_) fun i hi => flC_free f i
    match i, hi with
    | 0, _ => exact .same _ trivial
    | 1, _ => exact .same _ trivial

theorem write1_p (d : DkF) (f : Fl) (hs : sizeF d.now ≤ 2305843009213693952) (hb : f.data.length ≤ 140737488355328) (hl : d.deeds.length ≤ 100000) :
    ACalls Tryz.prog 63 [.bx 0, .rp 2 (flC f)] (dkH d) (fun r h => r = .top ∧ ((errF d (.wr f.path f.data) = 0 ∧ h = dkN (noteF d (.wr f.path f.data))) ∨ (errF d (.wr f.path f.data) ≠ 0 ∧ h = dkH d))) := by
  have h1 := write_p d f.path f.data hs hb hl
  refine rcalls Tryz.func63 rfl (by decide) ?_
  refine ⟨[0, 1, 2, 3], _, (by (try simp only [ren_fmV]); exact fmVFree _), (by (try simp only [ren_fmV]); exact fmVFree _), (by (try simp only [ren_rowP]); exact fun i _ => rowPFree _ i), at_h ?_ (h1), ?_⟩
  · exact dkH_eq (by first | simp only [ren_fmV] | rfl) (by first | simp only [ren_fmV] | rfl) (by first | simp only [ren_rowP] | rfl)
  rintro r hh (⟨he, rfl, rfl⟩ | ⟨he, rfl, rfl⟩)
  · refine ⟨.inl rfl, ?_⟩
    refine ⟨[0, 1, 2, 3, 4], dkN (noteF d (.wr f.path f.data)), .top, leh_rel (Nat.le_of_ble_eq_true rfl) (first4 rfl rfl rfl rfl) (by decide)
      ⟨⟨_, rfl, leDkA rfl rfl rfl rfl rfl⟩, ⟨_, rfl, leMap (by simp only [ren_fmV])⟩, ⟨_, rfl, leMap (by simp only [ren_fmV])⟩, ⟨_, rfl, .dead _⟩, ⟨_, rfl, leRowQ rfl (by simp only [ren_rowP])⟩, trivial⟩, .top _, rfl, .inl ⟨he, rfl⟩⟩
  · refine ⟨.inl rfl, ?_⟩
    exact ⟨[0, 1, 2, 3], dkH d, .top, lehDk rfl rfl rfl rfl (by simp only [ren_fmV]) (by simp only [ren_fmV]) rfl (by simp only [ren_rowP]), .top _, rfl, .inr ⟨he, rfl⟩⟩

theorem rm2_p (d : DkF) (hl : d.deeds.length ≤ 100000) : ACalls Tryz.prog 42 [.bx 0] (dkH d) (fun r h => r = .top ∧ ((errF d (.rm intN) = 0 ∧ h = dkN (noteF d (.rm intN))) ∨ (errF d (.rm intN) ≠ 0 ∧ h = dkH d))) := by
  have h1 := remove_p d intN hl
  refine rcalls Tryz.func42 rfl (by decide) ?_
  refine ⟨[0, 1, 2, 3], _, (by (try simp only [ren_fmV]); exact fmVFree _), (by (try simp only [ren_fmV]); exact fmVFree _), (by (try simp only [ren_rowP]); exact fun i _ => rowPFree _ i), at_h ?_ (h1), ?_⟩
  · exact dkH_eq (by first | simp only [ren_fmV] | rfl) (by first | simp only [ren_fmV] | rfl) (by first | simp only [ren_rowP] | rfl)
  rintro r hh (⟨he, rfl, rfl⟩ | ⟨he, rfl, rfl⟩)
  · refine ⟨.inl rfl, ?_⟩
    refine ⟨[0, 1, 2, 3, 4], dkN (noteF d (.rm intN)), .top, leh_rel (Nat.le_of_ble_eq_true rfl) (first4 rfl rfl rfl rfl) (by decide)
      ⟨⟨_, rfl, leDkA rfl rfl rfl rfl rfl⟩, ⟨_, rfl, leMap (by simp only [ren_fmV])⟩, ⟨_, rfl, leMap (by simp only [ren_fmV])⟩, ⟨_, rfl, .dead _⟩, ⟨_, rfl, leRowQ rfl (by simp only [ren_rowP])⟩, trivial⟩, .top _, rfl, .inl ⟨he, rfl⟩⟩
  · refine ⟨.inl rfl, ?_⟩
    exact ⟨[0, 1, 2, 3], dkH d, .top, lehDk rfl rfl rfl rfl (by simp only [ren_fmV]) (by simp only [ren_fmV]) rfl (by simp only [ren_rowP]), .top _, rfl, .inr ⟨he, rfl⟩⟩

def indexR (l : List Fl) (r : AV) (h : List AO) : Prop := ((∃ k, badAt l k ∧ r = int .i64 ((k : Nat) : Int)) ∨ ((∀ f ∈ l, ¬ badF f) ∧ r = int .i64 (-1))) ∧ h = []
theorem index_p (l : List Fl) (hl : l.length ≤ 1000000) : ACalls Tryz.prog 60 [flsV l, badV] [] (indexR l) := by
  unfold indexR
  refine rcalls Tryz.func60 rfl (by decide) ?_
  refine ⟨Nat, fun k => [(0, flsV l), (1, badV), (7, int .i64 (l.length : Int)), (8, int .i64 (k : Int))], fun _ => [], fun k => k ≤ l.length ∧ ∀ j, j < k → ¬ badF (l.getD j fl0), fun k => l.length - k,
    ⟨0, [], ⟨Nat.zero_le _, fun j hj => absurd hj (Nat.not_lt_zero _)⟩, lehN _, ⟨.same _ trivial, .same _ trivial, leI rfl, leI rfl, trivial⟩⟩, ?_⟩
  rintro k ⟨hk, hj⟩
  have e1 : IntKind.i64.wrap ((k : Int) + 1) = ((k + 1 : Nat) : Int) := by rw [w64 (by omega) (by omega)]; omega
  refine ⟨fun c => ?_, fun c => ?_⟩
  · have f1 : (k : Int) < l.length := yes c
    have h1 : ∀ c, c < 2 → rowF l ((k : Int).toNat * 2 + c) = flC (l.getD k fl0) c := fun c hc => by rw [Int.toNat_natCast]; exact rowF_at l hc
    have hb := bad_p (l.getD k fl0)
    have hmem := get_mem (l := l) (k := k) (by omega)
    refine ⟨⟨by omega, f1⟩, flC (l.getD k fl0), fun c hc => h1 c hc, ?_⟩
    generalize hF : l.getD k fl0 = F at *
    refine ⟨[], _, (fun i hi => flC_free F i), hb, ?_⟩
    rintro r hh ⟨rfl, rfl⟩
    refine ⟨.inl rfl, ?_⟩
    refine ⟨fun c => ?_, fun c => ?_⟩
    · have f2 : badF F := yes c
      exact ⟨[], [], _, lehN _, leI rfl, .inl ⟨k, ⟨by omega, by rw [hF]; exact f2, hj⟩, rfl⟩, rfl⟩
    have f2 : ¬ badF F := no c
    refine ⟨trivial, k + 1, [], ⟨by omega, fun j hjk => ?_⟩, by show l.length - (k + 1) < l.length - k; omega, lehN _, ⟨.same _ trivial, .same _ trivial, leI rfl, leI e1, trivial⟩⟩
    rcases Nat.lt_or_ge j k with g | g
    · exact hj j g
    · rw [show j = k by omega, hF]; exact f2
  · have f1 : ¬ (k : Int) < l.length := no c
    refine ⟨[], [], _, lehN _, leI rfl, .inr ⟨fun f hf => ?_, rfl⟩, rfl⟩
    obtain ⟨i, hi, rfl⟩ := List.getElem_of_mem hf
    have := hj i (by omega)
    rw [List.getD_eq_getElem?_getD, List.getElem?_eq_getElem hi] at this
    exact this

theorem contains_p (l : List Fl) (hl : l.length ≤ 1000000) : ACalls Tryz.prog 37 [flsV l, badV] [] (fun r h => r = bool (decide (∃ f ∈ l, badF f)) ∧ h = []) := by
  have h1 := index_p l hl
  refine rcalls Tryz.func37 rfl (by decide) ?_
  refine ⟨[], _, h1, ?_⟩
  rintro r hh ⟨h | h, rfl⟩
  · obtain ⟨k, hk, rfl⟩ := h
    refine ⟨.inl rfl, ?_⟩
    refine ⟨[], [], _, lehN _, AL.leB ?_, rfl, rfl⟩
    obtain ⟨g1, g2, g3⟩ := hk
    rw [decide_eq_true (show (0 : Int) ≤ (k : Int) by omega), decide_eq_true ⟨_, get_mem g1, g2⟩]
  · obtain ⟨hn, rfl⟩ := h
    refine ⟨.inl rfl, ?_⟩
    refine ⟨[], [], _, lehN _, AL.leB ?_, rfl, rfl⟩
    exact (decide_eq_false (by decide)).trans (decide_eq_false (fun ⟨f, hf, g⟩ => hn f hf g)).symm

theorem own_take {k : IntKind} {f : Nat} {xs : List Int} {R : AV → List AO → Prop} {tl : List AV} (h : ACalls Tryz.prog f (.roI k xs :: tl) [] R) : ACalls Tryz.prog f (.roI k ((xs.drop 0).take xs.length) :: tl) [] R := by
  rw [List.drop_zero, List.take_length]; exact h
theorem bodyR_le : ∀ {l : List Fl}, (∀ f ∈ l, okF f) → (bodyR l).length ≤ 1024 * l.length + dataN l
  | [], _ => Nat.zero_le _
  | f :: r, h => by
    have ih := bodyR_le (l := r) fun g hg => h g (List.mem_cons_of_mem _ hg)
    have h1 := file_len (h f (List.mem_cons_self ..))
    rw [body_cons, List.length_append, h1]
    have h2 : rnd f.data.length ≤ f.data.length + 511 := by unfold rnd; omega
    have h3 : dataN (f :: r) = f.data.length + dataN r := rfl
    rw [h3, List.length_cons]
    omega
theorem putR_le {l : List Fl} (hf : fitL l) (h : putE l = 0) : (putR l).length ≤ 1024 * l.length + dataN l + 1024 := by
  have h1 := bodyR_le (okF_of hf.2 (putE_ok.1 h).1)
  unfold putR
  rw [if_pos h, List.length_append, zer_len]
  omega
def intL (l : List Fl) : List Int := putR l ++ sumS (putR l)
theorem sumS_len (b : List Int) : (sumS b).length = 32 := digS_len _
theorem intent_p (l : List Fl) (hf : fitL l) (hs : okSizes l) : ACalls Tryz.prog 38 [flsV l] [] (fun r h => (putE l = 0 ∧ r = .tup 2 (pair (.own 0 0 (intL l).length 1) (int .i64 0)) ∧ h = [.ints .u8 (intL l)]) ∨ (putE l ≠ 0 ∧ r = .tup 2 (pair (.raw (.slice none 0 0)) (int .i64 (putE l))) ∧ h = [])) := by
  have h1 := uput_prog l hf hs
  refine rcalls Tryz.func38 rfl (by decide) ?_
  refine ⟨[], _, h1, ?_⟩
  rintro r hh ⟨rfl, rfl⟩
  refine ⟨.inl rfl, ?_⟩
  refine ⟨fun c => ?_, fun c => ?_⟩
  · have f1 : ¬ putE l = 0 := yes c
    exact ⟨[], [], _, lehN _, le_pair (.raw _) (leI rfl), .inr ⟨f1, rfl, rfl⟩⟩
  have f1 : putE l = 0 := Classical.byContradiction fun x => no c x
  have hpl := putR_le hf f1
  have hf1 := hf.1
  have hf2 := hf.2
  have h2 := own_take (sum_p (putR l) (by omega))
  refine ⟨[], _, by omega, h2, ?_⟩
  rintro r hh ⟨rfl, rfl⟩
  refine ⟨.inr ⟨trivial, fun o ho => by cases ho⟩, ?_⟩
  have hdl := sumS_len (putR l)
  refine ⟨rfl, ?_⟩
  have hcat : List.take 0 (List.replicate 32 (0 : Int)) ++ sumS (putR l) ++ List.drop (0 + (sumS (putR l)).length) (List.replicate 32 (0 : Int)) = sumS (putR l) := by rw [hdl]; simp
  refine ⟨hdl.symm, by show 0 + 32 ≤ (List.replicate 32 (0 : Int)).length; simp, ?_⟩
  rw [hcat]
  have htk : List.take (32 * 1) (List.drop 0 (sumS (putR l))) = sumS (putR l) := by rw [List.drop_zero]; exact List.take_of_length_le (by omega)
  refine ⟨by omega, ?_⟩
  have htk3 : List.take (32 - 0) (List.drop (addOff 0 0 1) (sumS (putR l))) = sumS (putR l) := htk
  refine ⟨rfl, ⟨by show 0 + 32 ≤ _; omega, by show _ * 1 ≤ 140737488355328; rw [htk3]; omega, ?_⟩⟩
  rw [htk3]
  exact ⟨[2], [.ints .u8 (intL l)], .tup 2 (pair (.own 0 0 (intL l).length 1) (int .i64 0)), leh1 rfl (leOint rfl), le_pair (leOwn rfl rfl (by unfold intL; rw [List.length_append])) (leI rfl), .inl ⟨f1, rfl, rfl⟩⟩

def inB (b : List Int) : List Int := b.take (b.length - 32)
def sameB (b : List Int) : Prop := 32 ≤ b.length ∧ sumS (inB b) = b.drop (b.length - 32)
def c32 (l : List Int) : List Int := (List.range 32).map fun i => l.getD i 0
theorem c32_eq {l : List Int} (h : l.length = 32) : c32 l = l := by
  apply List.ext_getElem?
  intro i
  unfold c32
  rw [List.getElem?_map]
  rcases Nat.lt_or_ge i 32 with hi | hi
  · rw [List.getElem?_range hi, List.getElem?_eq_getElem (by omega)]
    show some (l.getD i 0) = _
    rw [List.getD_eq_getElem?_getD, List.getElem?_eq_getElem (by omega)]; rfl
  · rw [List.getElem?_eq_none (by simp; omega), List.getElem?_eq_none (by omega)]; rfl
noncomputable instance (b : List Int) : Decidable (sameB b) := Classical.propDecidable _
noncomputable def toldL (b : List Int) : List Fl := if sameB b then getL (inB b) else []
noncomputable def toldW (b : List Int) : Bool := decide (sameB b) && decide (getE (inB b) = 0)
theorem told_no {b : List Int} (h : ¬ sameB b) : toldL b = [] ∧ toldW b = false := by
  unfold toldL toldW
  rw [if_neg h, decide_eq_false h]; exact ⟨rfl, rfl⟩
def toldR (b : List Int) (r : AV) (h : List AO) : Prop := r = .tup 2 (pair (.own 0 0 (toldL b).length 2) (bool (toldW b))) ∧ h = [.row ((toldL b).length * 2) (rowF (toldL b))]

set_option maxHeartbeats 1000000 in
theorem told_p (b : List Int) (hb : ∀ x ∈ b, 0 ≤ x ∧ x < 256) (hl : b.length ≤ 10000000) : ACalls Tryz.prog 47 [.roI .u8 b] [] (toldR b) := by
  unfold toldR
  have hno := told_no (b := b)
  refine rcalls Tryz.func47 rfl (by decide) ?_
  refine ⟨fun c => ?_, fun c => ?_⟩
  · have f1 : (b.length : Int) < 32 := yes c
    obtain ⟨g1, g2⟩ := hno fun h => by have := h.1; omega
    rw [g1, g2]
    exact ⟨[0], [.row (0 * 2) (rowF [])], .tup 2 (pair (.own 0 0 0 2) (bool false)), leh_relG (by decide) ⟨.inr ⟨Nat.zero_le _, .inr (.inr ⟨_, rfl⟩)⟩, trivial⟩, le_pair (.nil _ _ (by decide)) (.ffr), rfl, rfl⟩
  have f1 : ¬ (b.length : Int) < 32 := no c
  have e1 : IntKind.i64.wrap ((b.length : Int) - 32) = ((b.length - 32 : Nat) : Int) := by rw [w64 (by omega) (by omega)]; omega
  refine ⟨by rw [e1]; omega, ?_⟩
  rw [e1]
  have hin : List.drop 0 (List.take ((b.length - 32 : Nat) : Int).toNat b) = inB b := rfl
  have hil : (List.drop 0 (List.take ((b.length - 32 : Nat) : Int).toNat b)).length = b.length - 32 := by rw [hin]; unfold inB; rw [List.length_take]; omega
  have hsum : ∀ X, X = inB b → ACalls Tryz.prog 62 [.roI .u8 X] [] (fun r h => r = .aggI .u8 (sumS (inB b)) ∧ h = []) := fun X e => by
    rw [e]; exact sum_p _ (by unfold inB; rw [List.length_take]; omega)
  refine .inr ⟨8, by decide +kernel, ?_⟩
  refine ⟨_, rfl, ?_⟩
  refine ⟨_, ⟨[], _, hsum _ hin, by rintro r h ⟨rfl, rfl⟩; exact ⟨.inl rfl, rfl, rfl⟩⟩, ?_⟩
  refine ⟨_, rfl, ?_⟩
  refine ⟨_, rfl, ?_⟩
  refine ⟨_, rfl, ?_⟩
  refine ⟨_, ⟨by omega, rfl⟩, ?_⟩
  have hdr : (List.drop ((List.drop 0 (List.take ((b.length - 32 : Nat) : Int).toNat b)).length : Int).toNat (List.take b.length b)) = b.drop (b.length - 32) := by
    rw [hil, List.take_length, Int.toNat_natCast]
  refine ⟨_, ⟨by rw [hdr, List.length_drop]; show 32 ≤ _; omega, rfl⟩, ?_⟩
  refine ⟨_, rfl, ?_⟩
  have hX : c32 (List.drop ((List.drop 0 (List.take ((b.length - 32 : Nat) : Int).toNat b)).length : Int).toNat (List.take b.length b)) = b.drop (b.length - 32) := by
    rw [hdr]; exact c32_eq (by rw [List.length_drop]; omega)
  have gT : (!decide (sumS (inB b) = c32 (List.drop ((List.drop 0 (List.take ((b.length - 32 : Nat) : Int).toNat b)).length : Int).toNat (List.take b.length b)))) = true → ¬ sameB b := fun h g => by
    rw [hX, decide_eq_true g.2] at h; cases h
  have gF : (!decide (sumS (inB b) = c32 (List.drop ((List.drop 0 (List.take ((b.length - 32 : Nat) : Int).toNat b)).length : Int).toNat (List.take b.length b)))) = false → sameB b := fun h => by
    rw [hX] at h
    exact ⟨by omega, of_decide_eq_true (by cases hd : decide (sumS (inB b) = b.drop (b.length - 32)) <;> rw [hd] at h <;> first | rfl | cases h)⟩
  have hsl := sumS_len (inB b)
  have hget := uget_prog (inB b) (fun x hx => hb x (List.mem_of_mem_take hx)) (by rw [← hin, hil]; omega)
  refine ⟨hsl, rfl, ?_⟩
  refine ⟨fun c => ?_, fun c => ?_⟩
  · obtain ⟨g1, g2⟩ := hno (gT c)
    rw [g1, g2]
    exact ⟨[0], [.row (0 * 2) (rowF [])], .tup 2 (pair (.own 0 0 0 2) (bool false)), leh_relG (by decide) ⟨.inr ⟨Nat.zero_le _, .inr (.inr ⟨_, rfl⟩)⟩, trivial⟩, le_pair (.nil _ _ (by decide)) (.ffr), rfl, rfl⟩
  have hsame := gF c
  have hTL : toldL b = getL (inB b) := if_pos hsame
  have hTW : toldW b = decide (getE (inB b) = 0) := by unfold toldW; rw [decide_eq_true hsame, Bool.true_and]
  refine ⟨[], _, hget, ?_⟩
  rintro r hh ⟨rfl, rfl⟩
  refine ⟨.inl rfl, ?_⟩
  rw [hTL, hTW]
  exact ⟨[0], [.row ((getL (inB b)).length * 2) (rowF (getL (inB b)))], .tup 2 (pair (.own 0 0 (getL (inB b)).length 2) (bool (decide (getE (inB b) = 0)))),
    leh_relG (by decide) ⟨.inl ⟨_, rfl, .row _ _ _ _ (Nat.le_refl _) fun i hi => by rw [ren_rowF]; exact .same _ (rowFree _ i)⟩, trivial⟩, le_pair (leOwn rfl rfl rfl) (AL.leB rfl), rfl, rfl⟩
end
end Go.Proofs.YtflclafbieokiaaGreatDoor.Jr

/-
  The journal, walked: Commit.
-/
set_option linter.unusedVariables false
set_option linter.unusedSectionVars false
set_option linter.unusedSimpArgs false
set_option maxRecDepth 10000
namespace Go.Proofs.YtflclafbieokiaaGreatDoor.Jr
open Go AL Us Dk Sh

abbrev clW (f : Fl) : AV := .clo (.func 63) 2 (pair (.bx 0) (.rp 2 (flC f)))
abbrev clY : AV := .bm 30 0
abbrev clR : AV := .clo (.func 42) 1 (fun _ => .bx 0)
def clF (b : List Int) (l : List Fl) (i : Nat) : AV :=
  if i = 0 then clW ⟨intN, b⟩ else if i = 1 then clY else if i < l.length + 2 then clW (l.getD (i - 2) fl0) else if i = l.length + 2 then clY else if i = l.length + 3 then clR else clY
abbrev dkT (d : DkF) : List AO := [dkA 1 5 4 d, .map (fmV d.now), .dead, .dead, .row (d.deeds.length * 4) (rowP d.deeds), .map (fmV d.synced)]
theorem leBox1 {h : List AO} {l : List Nat} {a b : AV} (e : LeV h l a b) : LeO h l (.lst [a]) (.lst [b]) := .lst _ _ rfl fun i hi => by
  obtain rfl : i = 0 := by
    have : i < 1 := hi
    omega
  exact e
def clG (b : List Int) (l : List Fl) (i : Nat) : AV :=
  if i < 2 + l.length then clF b l i else if i = 2 + l.length then .bm 30 0 else if i = 2 + l.length + 1 then .clo (.func 42) 1 (fun i => [AV.ptr 4 0].getD i .top) else .bm 30 0
def rowJ : Nat → Nat
  | 0 => 4
  | 1 => 5
  | _ => 6
def formJ (d : DkF) : Nat → List AO
  | 0 => dkH d
  | 1 => dkN d
  | _ => dkT d
def comR (d : DkF) (l : List Fl) (steps : Int) (r : AV) (h : List AO) : Prop :=
  (comE d l (putE l) (intL l).length ≠ 0 ∧ r = .tup 2 (pair (bool false) (int .i64 (comE d l (putE l) (intL l).length))) ∧ h = dkH d) ∨
  (comE d l (putE l) (intL l).length = 0 ∧ putE l = 0 ∧ ∃ k, k = min (l.length + 5) steps.toNat ∧ r = .tup 2 (pair (bool (decide (((l.length + 5 : Nat) : Int) ≤ steps))) (int .i64 0)) ∧ h = formJ (cmJ l (intL l) d k) k)
section
variable [Globs]

theorem twoF {P : Nat → Prop} (h0 : P 0) (h1 : P 1) : ∀ i, i < 2 → P i := fun i hi => by
  match i, hi with
  | 0, _ => exact h0
  | 1, _ => exact h1
theorem vdf {f : Nat → AV} {F : Fl} (h0 : f 0 = flC F 0) (h1 : f 1 = flC F 1) : VLe (.agg 2 f) (f2V F) := vagg fun i hi => by
  match i, hi with
  | 0, _ => rw [h0]; exact VLe.refl _
  | 1, _ => rw [h1]; exact VLe.refl _

theorem leClW {h : List AO} {l : List Nat} {g : Nat → AV} {F : Fl} (h0 : LeV h l (g 0) (.bx 0)) (h1 : LeV h l (g 1) (.rp 2 (flC F))) : LeV h l (.clo (.func 63) 2 g) (clW F) := .clo _ 2 _ _ (twoF h0 h1)
theorem leRow2 {h : List AO} {l : List Nat} {a b : AV} {f : Nat → AV} (h0 : LeV h l a (f 0)) (h1 : LeV h l b (f 1)) : LeO h l (.lst [a, b]) (.row 2 f) := .rowL [a, b] f (twoF h0 h1)

theorem leClF {h : List AO} {m : List Nat} (b : List Int) (l : List Fl) (i : Nat) (e : m[0]? = some 0) : LeV h m (clF b l i) (clF b l i) := by
  unfold clF
  repeat' split
  all_goals first
    | exact leClW (.bx e) (.same _ trivial)
    | exact .bm _ e
    | exact .clo _ 1 _ _ fun i hi => .bx e

theorem leClG {h : List AO} {m : List Nat} (b : List Int) (l : List Fl) {i : Nat} (hi : i < l.length + 5) (h4 : h[4]? = some (.lst [.ptr 0 0])) (hm : 4 ∉ m) (e : m[0]? = some 0) : LeV h m (clG b l i) (clF b l i) := by
  unfold clG
  by_cases c1 : i < 2 + l.length
  · rw [if_pos c1]; exact leClF b l i e
  rw [if_neg c1]
  by_cases c2 : i = 2 + l.length
  · rw [if_pos c2]
    have : clF b l i = clY := by
      unfold clF
      rw [if_neg (by omega), if_neg (by omega), if_neg (by omega), if_pos (by omega)]
    rw [this]; exact .bm _ e
  rw [if_neg c2]
  by_cases c3 : i = 2 + l.length + 1
  · rw [if_pos c3]
    have : clF b l i = clR := by
      unfold clF
      rw [if_neg (by omega), if_neg (by omega), if_neg (by omega), if_neg (by omega), if_pos (by omega)]
    rw [this]
    refine .clo _ 1 _ _ fun j hj => ?_
    obtain rfl : j = 0 := by omega
    exact .giveB h4 hm e
  · rw [if_neg c3]
    have : clF b l i = clY := by
      unfold clF
      rw [if_neg (by omega), if_neg (by omega), if_neg (by omega), if_neg (by omega), if_neg (by omega)]
    rw [this]; exact .bm _ e

set_option maxHeartbeats 4000000 in
theorem commit_p (d : DkF) (l : List Fl) (steps : Int) (hf : fitL l) (hs : okSizes l) (hd : FitP 10000000 1000 d) (hokl : ∀ f ∈ l, okV 10000000 f.data) (hokb : putE l = 0 → okV 10000000 (intL l)) : ACalls Tryz.prog 14 [.ptr 0 0, flsV l, int .i64 steps] (dkH d) (comR d l steps) := by
  have hf1 := hf.1
  have hf2 := hf.2
  have hcon := contains_p l (by omega)
  have hint := intent_p l hf hs
  have hb0 : putE l = 0 → (intL l).length ≤ 4700000 := fun h => by
    have := putR_le hf h
    unfold intL
    rw [List.length_append, sumS_len]; omega
  refine rcalls Tryz.func14 rfl (by decide) ?_
  refine ⟨[], _, hcon, ?_⟩
  rintro r hh ⟨rfl, rfl⟩
  refine ⟨.inl rfl, ?_⟩
  refine ⟨fun c => ?_, fun c => ?_⟩
  · have f1 : ∃ f ∈ l, badF f := yes c
    have hE : comE d l (putE l) (intL l).length = 1 := if_pos f1
    exact ⟨[0, 1, 2, 3], dkH d, .tup 2 (pair (bool false) (int .i64 1)), lehDk rfl rfl rfl rfl rfl rfl rfl rfl, le_pair .ffr (leI rfl), .inl ⟨by rw [hE]; decide, by rw [hE], rfl⟩⟩
  have f1 : ¬ ∃ f ∈ l, badF f := no c
  refine ⟨[], _, hint, ?_⟩
  rintro r hh (⟨hp0, rfl, rfl⟩ | ⟨hp0, rfl, rfl⟩)
  rotate_left
  · refine ⟨.inl rfl, ?_⟩
    have hE : comE d l (putE l) (intL l).length = putE l := by unfold comE; rw [if_neg f1, if_pos hp0]
    refine ⟨fun c => ?_, fun c => ?_⟩
    · exact ⟨[0, 1, 2, 3], dkH d, .tup 2 (pair (bool false) (int .i64 (putE l))), lehDk rfl rfl rfl rfl rfl rfl rfl rfl, le_pair .ffr (leI rfl), .inl ⟨by rw [hE]; exact hp0, by rw [hE], rfl⟩⟩
    · have g : ¬ ¬ putE l = 0 := no c
      exact absurd hp0 g
  refine ⟨.inl rfl, ?_⟩
  refine ⟨fun c => ?_, fun c => ?_⟩
  · have g : ¬ (0 : Int) = 0 := yes c
    exact absurd rfl g
  have hb0 := hb0 hp0
  have hE : comE d l (putE l) (intL l).length = if ((sizeF d.now + (intL l).length + dataN l : Nat) : Int) > d.room then 5 else 0 := by unfold comE; rw [if_neg f1, if_neg (fun h => h hp0)]
  have hsz := fit_size hd
  have hszp := size_p d (by omega)
  refine ⟨[0, 1, 2, 3], _, (by (try simp only [ren_fmV]); exact fmVFree _), (by (try simp only [ren_fmV]); exact fmVFree _), (by (try simp only [ren_rowP]); exact fun i _ => rowPFree _ i), at_h ?_ (hszp), ?_⟩
  · exact dkH_eq (by first | simp only [ren_fmV] | rfl) (by first | simp only [ren_fmV] | rfl) (by first | simp only [ren_rowP] | rfl)
  rintro r hh ⟨rfl, rfl⟩
  refine ⟨.inl rfl, ?_⟩
  have hds := @data_succ l
  have hdl := data_le l
  obtain ⟨S, hS⟩ : ∃ S, sizeF d.now + (intL l).length = S := ⟨_, rfl⟩
  rw [hS] at hE
  refine ⟨Nat, fun k => [(1, flsV l), (2, int .i64 steps), (3, .ptr 4 0), (9, .roI .u8 (intL l)), (11, int .i64 ((S + dataN (l.take k) : Nat) : Int)), (39, flsV l), (40, int .i64 (l.length : Int)), (41, int .i64 (k : Int))], fun k => dkH d ++ [.lst [.ptr 0 0]], fun k => k ≤ l.length, fun k => l.length - k,
    ⟨0, [0, 1, 2, 3, 4], Nat.zero_le _, ?_, ?_⟩, ?_⟩
  · exact lehK (n := 4) (by decide) (by decide) (by decide) ⟨⟨_, rfl, leDkL rfl rfl rfl rfl rfl⟩, ⟨_, rfl, leMap (by simp only [ren_fmV])⟩, ⟨_, rfl, leMap (by simp only [ren_fmV])⟩, ⟨_, rfl, leRowQ rfl (by simp only [ren_rowP])⟩, ⟨_, rfl, leBox1 (.ptr 0 rfl)⟩, trivial⟩
  · refine ⟨.same _ trivial, .same _ trivial, .ptr 0 rfl, .giveI (intL l) rfl (by decide) (by omega) (by rw [List.drop_zero, List.take_length]), leI ?_, .same _ trivial, leI rfl, leI rfl, trivial⟩
    have : dataN (l.take 0) = 0 := by rw [List.take_zero]; rfl
    rw [w64 (by omega) (by omega), this]; omega
  intro k hk
  have hk : k ≤ l.length := hk
  have e1 : IntKind.i64.wrap ((k : Int) + 1) = ((k + 1 : Nat) : Int) := by rw [w64 (by omega) (by omega)]; omega
  have hdk := hdl k
  refine ⟨fun c => ?_, fun c => ?_⟩
  · have f2 : (k : Int) < l.length := yes c
    have h1 : ∀ c, c < 2 → rowF l ((k : Int).toNat * 2 + c) = flC (l.getD k fl0) c := fun c hc => by rw [Int.toNat_natCast]; exact rowF_at l hc
    have hds := hds (k := k) (by omega)
    have hd1 := hdl (k + 1)
    refine ⟨⟨by omega, f2⟩, flC (l.getD k fl0), fun c hc => h1 c hc, ?_⟩
    generalize l.getD k fl0 = F at *
    refine ⟨trivial, k + 1, [0, 1, 2, 3, 4], by show k + 1 ≤ l.length; omega, by show l.length - (k + 1) < l.length - k; omega, lehK (n := 4) (by decide) (by decide) (by decide) ⟨⟨_, rfl, leDkL rfl rfl rfl rfl rfl⟩, ⟨_, rfl, leMap rfl⟩, ⟨_, rfl, leMap rfl⟩, ⟨_, rfl, leRowP _⟩, ⟨_, rfl, leBox1 (.ptr 0 rfl)⟩, trivial⟩,
      ⟨.same _ trivial, .same _ trivial, .ptr 0 rfl, .same _ trivial, leI ?_, .same _ trivial, leI rfl, leI e1, trivial⟩⟩
    rw [w64 (by omega) (by omega), hds]; omega
  have f2 : ¬ (k : Int) < l.length := no c
  obtain rfl : k = l.length := by omega
  have hT : dataN (l.take l.length) = dataN l := by rw [List.take_length]
  refine ⟨[0, 1, 2, 3], _, (by (try simp only [ren_fmV]); exact fmVFree _), (by (try simp only [ren_fmV]); exact fmVFree _), (by (try simp only [ren_rowP]); exact fun i _ => rowPFree _ i), at_h ?_ ((room_p d)), ?_⟩
  · exact dkH_eq (by first | simp only [ren_fmV] | rfl) (by first | simp only [ren_fmV] | rfl) (by first | simp only [ren_rowP] | rfl)
  rintro r hh ⟨rfl, rfl⟩
  refine ⟨.inl rfl, ?_⟩
  refine ⟨fun c => ?_, fun c => ?_⟩
  · have f3 : ((S + dataN (l.take l.length) : Nat) : Int) > d.room := yes c
    rw [hT] at f3
    rw [if_pos f3] at hE
    exact ⟨[0, 1, 2, 3], dkH d, .tup 2 (pair (bool false) (int .i64 5)), lehDk rfl rfl rfl rfl (by simp only [ren_fmV]) (by simp only [ren_fmV]) rfl (by simp only [ren_rowP]), le_pair .ffr (leI rfl), .inl ⟨by rw [hE]; decide, by rw [hE], rfl⟩⟩
  have f3 : ¬ ((S + dataN (l.take l.length) : Nat) : Int) > d.room := no c
  rw [hT] at f3
  rw [if_neg f3] at hE
  refine .inr ⟨6, by decide +kernel, ?_⟩
  have hw0 := jwrite_p d ⟨intN, intL l⟩
  refine ⟨_, rfl, ?_⟩
  refine ⟨_, rfl, ?_⟩
  refine ⟨_, rfl, ?_⟩
  refine ⟨_, ⟨[0, 1, 2, 3], _, (by (try simp only [ren_fmV]); exact fmVFree _), (by (try simp only [ren_fmV]); exact fmVFree _), (by (try simp only [ren_rowP]); exact fun i _ => rowPFree _ i), (twoF trivial trivial), at_h (by exact dkH_eq (by first | simp only [ren_fmV] | rfl) (by first | simp only [ren_fmV] | rfl) (by first | simp only [ren_rowP] | rfl)) (hw0.args ⟨VLe.refl _, vdf rfl rfl, trivial⟩), by rintro r h ⟨rfl, rfl⟩; exact ⟨.inl rfl, by first | rfl | (simp only [ren_fmV, ren_rowP]; done) | (simp only [ren_fmV, ren_rowP]; rfl), rfl⟩⟩, ?_⟩
  refine ⟨_, rfl, ?_⟩
  refine ⟨_, rfl, ?_⟩
  obtain ⟨b, hb⟩ : ∃ b, intL l = b := ⟨_, rfl⟩
  have hC0 : clF b l 0 = clW ⟨intN, b⟩ := rfl
  have hC1 : clF b l 1 = clY := rfl
  have hCm : ∀ i, i < l.length → clF b l (2 + i) = clW (l.getD i fl0) := fun i hi => by
    unfold clF
    rw [if_neg (by omega), if_neg (by omega), if_pos (by omega), show 2 + i - 2 = i by omega]
  refine ⟨Nat, fun k => [(1, flsV l), (2, int .i64 steps), (3, .ptr 4 0), (14, .own 5 0 (2 + k) 1), (62, flsV l), (63, int .i64 (l.length : Int)), (64, int .i64 (k : Int))], fun k => dkH d ++ [.lst [.ptr 0 0], .row (2 + k) (clF b l)], fun k => k ≤ l.length, fun k => l.length - k,
    ⟨0, [0, 1, 2, 3, 4, 5], Nat.zero_le _, ?_, ?_⟩, ?_⟩
  · refine lehK (n := 4) (by decide) (by decide) (by decide) ⟨⟨_, rfl, leDkL rfl rfl rfl rfl rfl⟩, ⟨_, rfl, leMap (by simp only [ren_fmV])⟩, ⟨_, rfl, leMap (by simp only [ren_fmV])⟩, ⟨_, rfl, leRowQ rfl (by simp only [ren_rowP])⟩, ⟨_, rfl, leBox1 (.ptr 0 rfl)⟩, ⟨_, rfl, ?_⟩, trivial⟩
    refine leRow2 (f := clF b l) ?_ (.bm _ rfl)
    rw [hC0, ← hb]
    exact leClW (.bx rfl) (.same _ trivial)
  · refine ⟨.same _ trivial, .same _ trivial, .ptr 0 rfl, leOwn rfl rfl rfl, .same _ trivial, leI rfl, leI rfl, trivial⟩
  intro k hk
  have hk : k ≤ l.length := hk
  have e1 : IntKind.i64.wrap ((k : Int) + 1) = ((k + 1 : Nat) : Int) := by rw [w64 (by omega) (by omega)]; omega
  refine ⟨fun c => ?_, fun c => ?_⟩
  · have f2 : (k : Int) < l.length := yes c
    have h1 : ∀ c, c < 2 → rowF l ((k : Int).toNat * 2 + c) = flC (l.getD k fl0) c := fun c hc => by rw [Int.toNat_natCast]; exact rowF_at l hc
    have hCk := hCm k (by omega)
    refine ⟨⟨by omega, f2⟩, flC (l.getD k fl0), fun c hc => h1 c hc, ?_⟩
    generalize l.getD k fl0 = F at *
    have hwF := jwrite_p d F
    refine ⟨[0, 1, 2, 3], _, (by (try simp only [ren_fmV]); exact fmVFree _), (by (try simp only [ren_fmV]); exact fmVFree _), (by (try simp only [ren_rowP]); exact fun i _ => rowPFree _ i), (twoF (flC_free F 0) (flC_free F 1)), at_h ?_ (hwF.args ⟨VLe.refl _, vdf rfl rfl, trivial⟩), ?_⟩
    · exact dkH_eq (by first | simp only [ren_fmV] | rfl) (by first | simp only [ren_fmV] | rfl) (by first | simp only [ren_rowP] | rfl)
    rintro r hh ⟨rfl, rfl⟩
    refine ⟨.inl rfl, ?_⟩
    have hcell : ∀ i, cell1 (clF b l i) = true := fun i => by unfold clF; repeat' split
                                                              all_goals rfl
    have hrp : (fun i => AV.ren (rn ([0, 1, 2, 3] ++ [])) (pair (AV.bx 0) (AV.rp 2 (flC F)) i)) = pair (.bx 0) (.rp 2 (flC F)) := funext fun i => by
      match i with
      | 0 => rfl
      | 1 => rfl
      | _ + 2 => rfl
    refine ⟨by omega, fun i _ => hcell i, Nat.le_refl 1, by show (2 + k + 1) * 8 ≤ _; omega, fun i hi => ?_, clF b l, fun i hi => rfl, fun i hi => ?_, ?_⟩
    · obtain rfl : i = 0 := by omega
      rfl
    · obtain rfl : i = 0 := by omega
      show clF b l (2 + k) = .clo _ 2 _
      rw [hCk, hrp]
    refine ⟨trivial, k + 1, [0, 1, 2, 3, 4, 8], by show k + 1 ≤ l.length; omega, by show l.length - (k + 1) < l.length - k; omega,
      lehK (n := 4) (by decide) (by decide) (by decide) ⟨⟨_, rfl, leDkL rfl rfl rfl rfl rfl⟩, ⟨_, rfl, leMap (by simp only [ren_fmV])⟩, ⟨_, rfl, leMap (by simp only [ren_fmV])⟩, ⟨_, rfl, leRowQ rfl (by simp only [ren_rowP])⟩, ⟨_, rfl, leBox1 (.ptr 0 rfl)⟩, ⟨_, rfl, .row _ _ _ _ (by omega) fun i hi => ?_⟩, trivial⟩,
      ⟨.same _ trivial, .same _ trivial, .ptr 0 rfl, leOwn rfl rfl rfl, .same _ trivial, leI rfl, leI e1, trivial⟩⟩
    exact leClF b l i rfl
  have f2 : ¬ (k : Int) < l.length := no c
  obtain rfl : k = l.length := by omega
  have hcell : ∀ i, cell1 (clF b l i) = true := fun i => by unfold clF; repeat' split
                                                            all_goals rfl
  refine ⟨by omega, fun i _ => hcell i, by decide, by show (2 + l.length + 3) * 8 ≤ _; omega, fun i hi => ?_, clG b l, fun i hi => if_pos hi, fun i hi => ?_, ?_⟩
  · match i, hi with
    | 0, _ => rfl
    | 1, _ => rfl
    | 2, _ => rfl
  · match i, hi with
    | 0, _ => exact (if_neg (by omega)).trans (if_pos (by omega))
    | 1, _ => exact (if_neg (by omega)).trans ((if_neg (by omega)).trans (if_pos (by omega)))
    | 2, _ => exact (if_neg (by omega)).trans ((if_neg (by omega)).trans (if_neg (by omega)))
  have hbl : b.length ≤ 4700000 := by rw [← hb]; exact hb0
  have hokb : okV 10000000 b := by rw [← hb]; exact hokb hp0
  have hR : ∀ k r h, k = min (l.length + 5) steps.toNat → r = .tup 2 (pair (bool (decide (((l.length + 5 : Nat) : Int) ≤ steps))) (int .i64 0)) → h = formJ (cmJ l b d k) k → comR d l steps r h := fun k r h e1 e2 e3 => .inr ⟨by rw [hE], hp0, k, e1, e2, by rw [hb]; exact e3⟩
  have hq : ∀ i V, clF b l i = V → ∀ x, x = i → clF b l x = V := fun i V e x h => by rw [h]; exact e
  have hfit := fit_cm (b := b) hd hokb hokl
  have hnot : ∀ i : Nat, i < l.length + 5 → steps ≤ i → decide (((l.length + 5 : Nat) : Int) ≤ steps) = false := fun i h1 h2 => decide_eq_false (by omega)
  refine ⟨Nat, fun i => [(2, int .i64 steps), (83, .own (rowJ i) 0 (l.length + 5) 1), (84, int .i64 ((l.length + 5 : Nat) : Int)), (85, int .i64 (i : Int))], fun i => formJ (cmJ l b d i) i ++ [.row (l.length + 5) (clF b l)], fun i => i ≤ l.length + 5 ∧ (i = 0 ∨ (i : Int) ≤ steps), fun i => l.length + 5 - i,
    ⟨0, [0, 1, 2, 3, 7], ⟨Nat.zero_le _, .inl rfl⟩, ?_, ?_⟩, ?_⟩
  · refine lehK (n := 4) (by decide) (by decide) (by decide) ⟨⟨_, rfl, leDkL rfl rfl rfl rfl rfl⟩, ⟨_, rfl, leMap rfl⟩, ⟨_, rfl, leMap rfl⟩, ⟨_, rfl, leRowP _⟩, ⟨_, rfl, ?_⟩, trivial⟩
    exact .row _ _ _ _ (by omega) fun i hi => leClG b l hi rfl (by decide) rfl
  · refine ⟨.same _ trivial, leOwn rfl rfl (by omega), leI (by show ((2 + l.length + 3 : Nat) : Int) = _; omega), leI rfl, trivial⟩
  rintro i ⟨hi, hst⟩
  have e2 : IntKind.i64.wrap ((i : Int) + 1) = ((i + 1 : Nat) : Int) := by rw [w64 (by omega) (by omega)]; omega
  match i, hi, hst, e2 with
  | 0, hi, hst, e2 =>
    refine ⟨fun c => ?_, fun c => ?_⟩
    · have f4 : ((0 : Nat) : Int) < ((l.length + 5 : Nat) : Int) := yes c
      have hs0 := fit_size (hfit 0)
      have hl0 := fit_len (hfit 0)
      have hw1 := write1_p (cmJ l b d 0) ⟨intN, b⟩ (by omega) (by show b.length ≤ _; omega) (by omega)
      have he0 : errF (cmJ l b d 0) (.wr intN b) = 0 := wr_fits intN_may (by
        rw [hb] at hS
        show ((sizeF d.now + b.length : Nat) : Int) ≤ d.room
        omega)
      have hd1 : noteF (cmJ l b d 0) (.wr intN b) = cmJ l b d 1 := by
        show _ = doF (cmJ l b d 0) (.wr intN b)
        unfold doF
        rw [if_pos he0]; rfl
      refine ⟨⟨by omega, by omega⟩, by show 0 + 0 * 1 < _; omega, ?_⟩
      rw [hq 0 _ hC0]
      rotate_left
      · rfl
      refine ⟨fun c => ?_, fun c => ?_⟩
      · have f5 : (0 : Int) ≥ steps := yes c
        refine ⟨[0, 1, 2, 3], dkH d, .tup 2 (pair (bool false) (int .i64 0)), lehDk rfl rfl rfl rfl rfl rfl rfl rfl, le_pair .ffr (leI rfl), hR 0 _ _ (by omega) (by rw [hnot 0 (by omega) (by omega)]) rfl⟩
      have f5 : ¬ (0 : Int) ≥ steps := no c
      refine ⟨[0, 1, 2, 3], _, (by (try simp only [ren_fmV]); exact fmVFree _), (by (try simp only [ren_fmV]); exact fmVFree _), (by (try simp only [ren_rowP]); exact fun i _ => rowPFree _ i), at_h ?_ (hw1), ?_⟩
      · exact dkH_eq (by first | simp only [ren_fmV] | rfl) (by first | simp only [ren_fmV] | rfl) (by first | simp only [ren_rowP] | rfl)
      rintro r hh ⟨rfl, (⟨he, rfl⟩ | ⟨he, rfl⟩)⟩
      rotate_left
      · exact absurd he0 he
      refine ⟨.inl rfl, ?_⟩
      refine ⟨trivial, 0 + 1, [0, 1, 2, 3, 5, 4], ⟨by omega, .inr (by omega)⟩, by show l.length + 5 - 1 < l.length + 5 - 0; omega, ?_, ⟨.same _ trivial, leOwn rfl rfl rfl, leI rfl, leI e2, trivial⟩⟩
      show LeH 4 _ _ (dkN (cmJ l b d 1) ++ [.row (l.length + 5) (clF b l)])
      rw [← hd1]
      exact lehK (n := 4) (by decide) (by decide) (by decide) ⟨⟨_, rfl, leDkA rfl rfl rfl rfl rfl⟩, ⟨_, rfl, leMap (by simp only [ren_fmV])⟩, ⟨_, rfl, leMap (by simp only [ren_fmV])⟩, ⟨_, rfl, .dead _⟩, ⟨_, rfl, leRowQ rfl (by simp only [ren_rowP])⟩, ⟨_, rfl, .row _ _ _ _ (Nat.le_refl _) fun j hj => leClF b l j rfl⟩, trivial⟩
    · have f4 : ¬ ((0 : Nat) : Int) < ((l.length + 5 : Nat) : Int) := no c
      omega
  | 1, hi, hst, e2 =>
    refine ⟨fun c => ?_, fun c => ?_⟩
    · have f4 : ((1 : Nat) : Int) < ((l.length + 5 : Nat) : Int) := yes c
      have hsy := sync_p (cmJ l b d 1)
      have hd2 : syncF (cmJ l b d 1) = cmJ l b d 2 := rfl
      refine ⟨⟨by omega, by omega⟩, by show 0 + 1 * 1 < _; omega, ?_⟩
      rw [hq 1 _ hC1]
      rotate_left
      · rfl
      refine ⟨fun c => ?_, fun c => ?_⟩
      · have f5 : ((1 : Nat) : Int) ≥ steps := yes c
        refine ⟨[0, 1, 2, 3, 4], dkN (cmJ l b d 1), .tup 2 (pair (bool false) (int .i64 0)), lehK (n := 4) (by decide) (by decide) (by decide) ⟨⟨_, rfl, leDkA rfl rfl rfl rfl rfl⟩, ⟨_, rfl, leMap rfl⟩, ⟨_, rfl, leMap rfl⟩, ⟨_, rfl, .dead _⟩, ⟨_, rfl, leRowQ rfl rfl⟩, trivial⟩, le_pair .ffr (leI rfl), hR 1 _ _ (by omega) (by rw [hnot 1 (by omega) (by omega)]) rfl⟩
      have f5 : ¬ ((1 : Nat) : Int) ≥ steps := no c
      refine ⟨[0, 1, 2, 4], _, (by (try simp only [ren_fmV]); exact fmVFree _), (by (try simp only [ren_fmV]); exact fmVFree _), (by (try simp only [ren_rowP]); exact fun i _ => rowPFree _ i), at_h ?_ (hsy), ?_⟩
      · exact dkH_eq (by first | simp only [ren_fmV] | rfl) (by first | simp only [ren_fmV] | rfl) (by first | simp only [ren_rowP] | rfl)
      rintro r hh ⟨rfl, rfl⟩
      refine ⟨.inl rfl, ?_⟩
      refine ⟨trivial, 1 + 1, [0, 1, 2, 3, 4, 6, 5], ⟨by omega, .inr (by omega)⟩, by show l.length + 5 - 2 < l.length + 5 - 1; omega, ?_, ⟨.same _ trivial, leOwn rfl rfl rfl, leI rfl, leI e2, trivial⟩⟩
      show LeH 4 _ _ (dkT (cmJ l b d 2) ++ [.row (l.length + 5) (clF b l)])
      rw [← hd2]
      exact lehK (n := 4) (by decide) (by decide) (by decide) ⟨⟨_, rfl, leDkA rfl rfl rfl rfl rfl⟩, ⟨_, rfl, leMap (by simp only [ren_fmV])⟩, ⟨_, rfl, .dead _⟩, ⟨_, rfl, .dead _⟩, ⟨_, rfl, leRowQ rfl (by simp only [ren_rowP])⟩, ⟨_, rfl, leMap (by simp only [ren_fmV])⟩, ⟨_, rfl, .row _ _ _ _ (Nat.le_refl _) fun j hj => leClF b l j rfl⟩, trivial⟩
    · have f4 : ¬ ((1 : Nat) : Int) < ((l.length + 5 : Nat) : Int) := no c
      omega
  | i + 2, hi, hst, e2 =>
    refine ⟨fun c => ?_, fun c => ?_⟩
    · have f4 : ((i + 2 : Nat) : Int) < ((l.length + 5 : Nat) : Int) := yes c
      have hs0 := fit_size (hfit (i + 2))
      have hl0 := fit_len (hfit (i + 2))
      have hun : cmJ l b d (i + 2 + 1) = stJ l b (i + 2) (cmJ l b d (i + 2)) := rfl
      refine ⟨⟨by omega, by omega⟩, by show 0 + ((i + 2 : Nat) : Int).toNat * 1 < _; omega, ?_⟩
      by_cases k1 : i < l.length
      · have hCi := hCm i k1
        rw [Nat.add_comm 2 i] at hCi
        have hmem : l.getD i fl0 ∈ l := get_mem k1
        have hw1 := write1_p (cmJ l b d (i + 2)) (l.getD i fl0) (by omega) (by have := (hokl _ hmem).1; omega) (by omega)
        have hun : cmJ l b d (i + 2 + 1) = doF (cmJ l b d (i + 2)) (.wr (l.getD i fl0).path (l.getD i fl0).data) := by
          rw [hun]; unfold stJ
          rw [if_neg (by omega), if_neg (by omega), if_pos (by omega), show i + 2 - 2 = i by omega]
        rw [hq (i + 2) _ hCi]
        rotate_left
        · show 0 + ((i + 2 : Nat) : Int).toNat * 1 = _
          omega
        refine ⟨fun c => ?_, fun c => ?_⟩
        · have f5 : ((i + 2 : Nat) : Int) ≥ steps := yes c
          refine ⟨[0, 1, 2, 3, 4, 5], dkT (cmJ l b d (i + 2)), .tup 2 (pair (bool false) (int .i64 0)), lehK (n := 4) (by decide) (by decide) (by decide) ⟨⟨_, rfl, leDkA rfl rfl rfl rfl rfl⟩, ⟨_, rfl, leMap rfl⟩, ⟨_, rfl, .dead _⟩, ⟨_, rfl, .dead _⟩, ⟨_, rfl, leRowQ rfl rfl⟩, ⟨_, rfl, leMap rfl⟩, trivial⟩, le_pair .ffr (leI rfl), hR (i + 2) _ _ (by omega) (by rw [hnot (i + 2) (by omega) (by omega)]) rfl⟩
        have f5 : ¬ ((i + 2 : Nat) : Int) ≥ steps := no c
        refine ⟨[0, 1, 5, 4], _, (by (try simp only [ren_fmV]); exact fmVFree _), (by (try simp only [ren_fmV]); exact fmVFree _), (by (try simp only [ren_rowP]); exact fun i _ => rowPFree _ i), at_h ?_ (hw1), ?_⟩
        · exact dkH_eq (by first | simp only [ren_fmV] | rfl) (by first | simp only [ren_fmV] | rfl) (by first | simp only [ren_rowP] | rfl)
        rintro r hh ⟨rfl, (⟨he, rfl⟩ | ⟨he, rfl⟩)⟩
        · have hE2 : noteF (cmJ l b d (i + 2)) (.wr (l.getD i fl0).path (l.getD i fl0).data) = cmJ l b d (i + 2 + 1) := by
            rw [hun]; unfold doF; rw [if_pos he]; rfl
          refine ⟨.inl rfl, ?_⟩
          refine ⟨trivial, i + 2 + 1, [0, 1, 2, 3, 7, 5, 6], ⟨by omega, .inr (by omega)⟩, by show l.length + 5 - (i + 2 + 1) < l.length + 5 - (i + 2); omega, ?_, ⟨.same _ trivial, leOwn rfl rfl rfl, leI rfl, leI e2, trivial⟩⟩
          show LeH 4 _ _ (dkT (cmJ l b d (i + 2 + 1)) ++ [.row (l.length + 5) (clF b l)])
          rw [← hE2]
          exact lehK (n := 4) (by decide) (by decide) (by decide) ⟨⟨_, rfl, leDkA rfl rfl rfl rfl rfl⟩, ⟨_, rfl, leMap (by first | rfl | simp only [ren_fmV])⟩, ⟨_, rfl, .dead _⟩, ⟨_, rfl, .dead _⟩, ⟨_, rfl, leRowQ rfl (by first | rfl | simp only [ren_rowP])⟩, ⟨_, rfl, leMap (by first | rfl | simp only [ren_fmV])⟩, ⟨_, rfl, .row _ _ _ _ (Nat.le_refl _) fun j hj => leClF b l j rfl⟩, trivial⟩
        · have hE2 : cmJ l b d (i + 2) = cmJ l b d (i + 2 + 1) := by
            rw [hun]; unfold doF; rw [if_neg he]
          refine ⟨.inl rfl, ?_⟩
          refine ⟨trivial, i + 2 + 1, [0, 1, 2, 3, 4, 5, 6], ⟨by omega, .inr (by omega)⟩, by show l.length + 5 - (i + 2 + 1) < l.length + 5 - (i + 2); omega, ?_, ⟨.same _ trivial, leOwn rfl rfl rfl, leI rfl, leI e2, trivial⟩⟩
          show LeH 4 _ _ (dkT (cmJ l b d (i + 2 + 1)) ++ [.row (l.length + 5) (clF b l)])
          rw [← hE2]
          exact lehK (n := 4) (by decide) (by decide) (by decide) ⟨⟨_, rfl, leDkA rfl rfl rfl rfl rfl⟩, ⟨_, rfl, leMap (by first | rfl | simp only [ren_fmV])⟩, ⟨_, rfl, .dead _⟩, ⟨_, rfl, .dead _⟩, ⟨_, rfl, leRowQ rfl (by first | rfl | simp only [ren_rowP])⟩, ⟨_, rfl, leMap (by first | rfl | simp only [ren_fmV])⟩, ⟨_, rfl, .row _ _ _ _ (Nat.le_refl _) fun j hj => leClF b l j rfl⟩, trivial⟩
      by_cases k2 : i = l.length
      · have hCi : clF b l (i + 2) = clY := by
          unfold clF
          rw [if_neg (by omega), if_neg (by omega), if_neg (by omega), if_pos (by omega)]
        have hsy := sync_p (cmJ l b d (i + 2))
        have hun : cmJ l b d (i + 2 + 1) = syncF (cmJ l b d (i + 2)) := by
          rw [hun]; unfold stJ
          rw [if_neg (by omega), if_neg (by omega), if_neg (by omega), if_pos (by omega)]
        rw [hq (i + 2) _ hCi]
        rotate_left
        · show 0 + ((i + 2 : Nat) : Int).toNat * 1 = _
          omega
        refine ⟨fun c => ?_, fun c => ?_⟩
        · have f5 : ((i + 2 : Nat) : Int) ≥ steps := yes c
          refine ⟨[0, 1, 2, 3, 4, 5], dkT (cmJ l b d (i + 2)), .tup 2 (pair (bool false) (int .i64 0)), lehK (n := 4) (by decide) (by decide) (by decide) ⟨⟨_, rfl, leDkA rfl rfl rfl rfl rfl⟩, ⟨_, rfl, leMap rfl⟩, ⟨_, rfl, .dead _⟩, ⟨_, rfl, .dead _⟩, ⟨_, rfl, leRowQ rfl rfl⟩, ⟨_, rfl, leMap rfl⟩, trivial⟩, le_pair .ffr (leI rfl), hR (i + 2) _ _ (by omega) (by rw [hnot (i + 2) (by omega) (by omega)]) rfl⟩
        have f5 : ¬ ((i + 2 : Nat) : Int) ≥ steps := no c
        refine ⟨[0, 1, 5, 4], _, (by (try simp only [ren_fmV]); exact fmVFree _), (by (try simp only [ren_fmV]); exact fmVFree _), (by (try simp only [ren_rowP]); exact fun i _ => rowPFree _ i), at_h ?_ (hsy), ?_⟩
        · exact dkH_eq (by first | simp only [ren_fmV] | rfl) (by first | simp only [ren_fmV] | rfl) (by first | simp only [ren_rowP] | rfl)
        rintro r hh ⟨rfl, rfl⟩
        refine ⟨.inl rfl, ?_⟩
        refine ⟨trivial, i + 2 + 1, [0, 1, 2, 3, 4, 7, 6], ⟨by omega, .inr (by omega)⟩, by show l.length + 5 - (i + 2 + 1) < l.length + 5 - (i + 2); omega, ?_, ⟨.same _ trivial, leOwn rfl rfl rfl, leI rfl, leI e2, trivial⟩⟩
        show LeH 4 _ _ (dkT (cmJ l b d (i + 2 + 1)) ++ [.row (l.length + 5) (clF b l)])
        rw [← hun]
        exact lehK (n := 4) (by decide) (by decide) (by decide) ⟨⟨_, rfl, leDkA rfl rfl rfl rfl rfl⟩, ⟨_, rfl, leMap (by first | rfl | simp only [ren_fmV])⟩, ⟨_, rfl, .dead _⟩, ⟨_, rfl, .dead _⟩, ⟨_, rfl, leRowQ rfl (by first | rfl | simp only [ren_rowP])⟩, ⟨_, rfl, leMap (by first | rfl | simp only [ren_fmV])⟩, ⟨_, rfl, .row _ _ _ _ (Nat.le_refl _) fun j hj => leClF b l j rfl⟩, trivial⟩
      by_cases k3 : i = l.length + 1
      · have hCi : clF b l (i + 2) = clR := by
          unfold clF
          rw [if_neg (by omega), if_neg (by omega), if_neg (by omega), if_neg (by omega), if_pos (by omega)]
        have hrm := rm2_p (cmJ l b d (i + 2)) (by omega)
        have hun : cmJ l b d (i + 2 + 1) = doF (cmJ l b d (i + 2)) (.rm intN) := by
          rw [hun]; unfold stJ
          rw [if_neg (by omega), if_neg (by omega), if_neg (by omega), if_neg (by omega), if_pos (by omega)]
        rw [hq (i + 2) _ hCi]
        rotate_left
        · show 0 + ((i + 2 : Nat) : Int).toNat * 1 = _
          omega
        refine ⟨fun c => ?_, fun c => ?_⟩
        · have f5 : ((i + 2 : Nat) : Int) ≥ steps := yes c
          refine ⟨[0, 1, 2, 3, 4, 5], dkT (cmJ l b d (i + 2)), .tup 2 (pair (bool false) (int .i64 0)), lehK (n := 4) (by decide) (by decide) (by decide) ⟨⟨_, rfl, leDkA rfl rfl rfl rfl rfl⟩, ⟨_, rfl, leMap rfl⟩, ⟨_, rfl, .dead _⟩, ⟨_, rfl, .dead _⟩, ⟨_, rfl, leRowQ rfl rfl⟩, ⟨_, rfl, leMap rfl⟩, trivial⟩, le_pair .ffr (leI rfl), hR (i + 2) _ _ (by omega) (by rw [hnot (i + 2) (by omega) (by omega)]) rfl⟩
        have f5 : ¬ ((i + 2 : Nat) : Int) ≥ steps := no c
        refine ⟨[0, 1, 5, 4], _, (by (try simp only [ren_fmV]); exact fmVFree _), (by (try simp only [ren_fmV]); exact fmVFree _), (by (try simp only [ren_rowP]); exact fun i _ => rowPFree _ i), at_h ?_ (hrm), ?_⟩
        · exact dkH_eq (by first | simp only [ren_fmV] | rfl) (by first | simp only [ren_fmV] | rfl) (by first | simp only [ren_rowP] | rfl)
        rintro r hh ⟨rfl, (⟨he, rfl⟩ | ⟨he, rfl⟩)⟩
        · have hE2 : noteF (cmJ l b d (i + 2)) (.rm intN) = cmJ l b d (i + 2 + 1) := by
            rw [hun]; unfold doF; rw [if_pos he]; rfl
          refine ⟨.inl rfl, ?_⟩
          refine ⟨trivial, i + 2 + 1, [0, 1, 2, 3, 7, 5, 6], ⟨by omega, .inr (by omega)⟩, by show l.length + 5 - (i + 2 + 1) < l.length + 5 - (i + 2); omega, ?_, ⟨.same _ trivial, leOwn rfl rfl rfl, leI rfl, leI e2, trivial⟩⟩
          show LeH 4 _ _ (dkT (cmJ l b d (i + 2 + 1)) ++ [.row (l.length + 5) (clF b l)])
          rw [← hE2]
          exact lehK (n := 4) (by decide) (by decide) (by decide) ⟨⟨_, rfl, leDkA rfl rfl rfl rfl rfl⟩, ⟨_, rfl, leMap (by first | rfl | simp only [ren_fmV])⟩, ⟨_, rfl, .dead _⟩, ⟨_, rfl, .dead _⟩, ⟨_, rfl, leRowQ rfl (by first | rfl | simp only [ren_rowP])⟩, ⟨_, rfl, leMap (by first | rfl | simp only [ren_fmV])⟩, ⟨_, rfl, .row _ _ _ _ (Nat.le_refl _) fun j hj => leClF b l j rfl⟩, trivial⟩
        · have hE2 : cmJ l b d (i + 2) = cmJ l b d (i + 2 + 1) := by
            rw [hun]; unfold doF; rw [if_neg he]
          refine ⟨.inl rfl, ?_⟩
          refine ⟨trivial, i + 2 + 1, [0, 1, 2, 3, 4, 5, 6], ⟨by omega, .inr (by omega)⟩, by show l.length + 5 - (i + 2 + 1) < l.length + 5 - (i + 2); omega, ?_, ⟨.same _ trivial, leOwn rfl rfl rfl, leI rfl, leI e2, trivial⟩⟩
          show LeH 4 _ _ (dkT (cmJ l b d (i + 2 + 1)) ++ [.row (l.length + 5) (clF b l)])
          rw [← hE2]
          exact lehK (n := 4) (by decide) (by decide) (by decide) ⟨⟨_, rfl, leDkA rfl rfl rfl rfl rfl⟩, ⟨_, rfl, leMap (by first | rfl | simp only [ren_fmV])⟩, ⟨_, rfl, .dead _⟩, ⟨_, rfl, .dead _⟩, ⟨_, rfl, leRowQ rfl (by first | rfl | simp only [ren_rowP])⟩, ⟨_, rfl, leMap (by first | rfl | simp only [ren_fmV])⟩, ⟨_, rfl, .row _ _ _ _ (Nat.le_refl _) fun j hj => leClF b l j rfl⟩, trivial⟩
      · have hCi : clF b l (i + 2) = clY := by
          unfold clF
          rw [if_neg (by omega), if_neg (by omega), if_neg (by omega), if_neg (by omega), if_neg (by omega)]
        have hsy := sync_p (cmJ l b d (i + 2))
        have hun : cmJ l b d (i + 2 + 1) = syncF (cmJ l b d (i + 2)) := by
          rw [hun]; unfold stJ
          rw [if_neg (by omega), if_neg (by omega), if_neg (by omega), if_neg (by omega), if_neg (by omega)]
        rw [hq (i + 2) _ hCi]
        rotate_left
        · show 0 + ((i + 2 : Nat) : Int).toNat * 1 = _
          omega
        refine ⟨fun c => ?_, fun c => ?_⟩
        · have f5 : ((i + 2 : Nat) : Int) ≥ steps := yes c
          refine ⟨[0, 1, 2, 3, 4, 5], dkT (cmJ l b d (i + 2)), .tup 2 (pair (bool false) (int .i64 0)), lehK (n := 4) (by decide) (by decide) (by decide) ⟨⟨_, rfl, leDkA rfl rfl rfl rfl rfl⟩, ⟨_, rfl, leMap rfl⟩, ⟨_, rfl, .dead _⟩, ⟨_, rfl, .dead _⟩, ⟨_, rfl, leRowQ rfl rfl⟩, ⟨_, rfl, leMap rfl⟩, trivial⟩, le_pair .ffr (leI rfl), hR (i + 2) _ _ (by omega) (by rw [hnot (i + 2) (by omega) (by omega)]) rfl⟩
        have f5 : ¬ ((i + 2 : Nat) : Int) ≥ steps := no c
        refine ⟨[0, 1, 5, 4], _, (by (try simp only [ren_fmV]); exact fmVFree _), (by (try simp only [ren_fmV]); exact fmVFree _), (by (try simp only [ren_rowP]); exact fun i _ => rowPFree _ i), at_h ?_ (hsy), ?_⟩
        · exact dkH_eq (by first | simp only [ren_fmV] | rfl) (by first | simp only [ren_fmV] | rfl) (by first | simp only [ren_rowP] | rfl)
        rintro r hh ⟨rfl, rfl⟩
        refine ⟨.inl rfl, ?_⟩
        refine ⟨trivial, i + 2 + 1, [0, 1, 2, 3, 4, 7, 6], ⟨by omega, .inr (by omega)⟩, by show l.length + 5 - (i + 2 + 1) < l.length + 5 - (i + 2); omega, ?_, ⟨.same _ trivial, leOwn rfl rfl rfl, leI rfl, leI e2, trivial⟩⟩
        show LeH 4 _ _ (dkT (cmJ l b d (i + 2 + 1)) ++ [.row (l.length + 5) (clF b l)])
        rw [← hun]
        exact lehK (n := 4) (by decide) (by decide) (by decide) ⟨⟨_, rfl, leDkA rfl rfl rfl rfl rfl⟩, ⟨_, rfl, leMap (by first | rfl | simp only [ren_fmV])⟩, ⟨_, rfl, .dead _⟩, ⟨_, rfl, .dead _⟩, ⟨_, rfl, leRowQ rfl (by first | rfl | simp only [ren_rowP])⟩, ⟨_, rfl, leMap (by first | rfl | simp only [ren_fmV])⟩, ⟨_, rfl, .row _ _ _ _ (Nat.le_refl _) fun j hj => leClF b l j rfl⟩, trivial⟩
    · have f4 : ¬ ((i + 2 : Nat) : Int) < ((l.length + 5 : Nat) : Int) := no c
      have e5 : i + 2 = l.length + 5 := by omega
      have hT : decide (((l.length + 5 : Nat) : Int) ≤ steps) = true := decide_eq_true (by omega)
      exact ⟨[0, 1, 2, 3, 4, 5], dkT (cmJ l b d (i + 2)), .tup 2 (pair (bool true) (int .i64 0)), lehK (n := 4) (by decide) (by decide) (by decide) ⟨⟨_, rfl, leDkA rfl rfl rfl rfl rfl⟩, ⟨_, rfl, leMap rfl⟩, ⟨_, rfl, .dead _⟩, ⟨_, rfl, .dead _⟩, ⟨_, rfl, leRowQ rfl rfl⟩, ⟨_, rfl, leMap rfl⟩, trivial⟩, le_pair .ttr (leI rfl), hR (i + 2) _ _ (by omega) (by rw [hT]) rfl⟩
end
end Go.Proofs.YtflclafbieokiaaGreatDoor.Jr

/-
  The journal: what recovery is, wherever a commit was broken off. No walk in sight.
-/
set_option linter.unusedVariables false
set_option linter.unusedSectionVars false
set_option linter.unusedSimpArgs false
namespace Go.Proofs.YtflclafbieokiaaGreatDoor.Jr
open Go AL Us Dk Sh

theorem getL_bytes {b : List Int} (hb : ∀ x ∈ b, 0 ≤ x ∧ x < 256) : okBytes (getL b) := by
  rcases getE_cases b with ⟨l, h, e, _⟩ | ⟨_, e, _⟩
  · rw [e]
    intro f hf x hx
    refine hb x ?_
    rw [h.1.2]
    refine List.mem_append_left _ (List.mem_flatMap.2 ⟨f, hf, ?_⟩)
    unfold fileR
    exact List.mem_append_right _ (List.mem_append_left _ hx)
  · rw [e]; intro f hf; cases hf
theorem getL_fit (b : List Int) : fitL (getL b) := by
  rcases getE_cases b with ⟨l, h, e, _⟩ | ⟨_, e, _⟩
  · rw [e]; exact h.2.2
  · rw [e]; exact ⟨Nat.zero_le _, Nat.zero_le _⟩
theorem told_fit {b : List Int} (hb : okB b) : (toldL b).length ≤ 400 ∧ ∀ f ∈ toldL b, okV 10000000 f.data := by
  unfold toldL
  split
  · have h1 := getL_fit (inB b)
    have h2 := getL_bytes (b := inB b) fun x hx => hb x (List.mem_of_mem_take hx)
    refine ⟨h1.1, fun f hf => ⟨?_, h2 f hf⟩⟩
    have := data_mem hf
    have := h1.2
    omega
  · exact ⟨Nat.zero_le _, fun f hf => by cases hf⟩
def wrJ (L : List Fl) (d : DkF) : Nat → DkF
  | 0 => d
  | k + 1 => doF (wrJ L d k) (.wr (L.getD k fl0).path (L.getD k fl0).data)
theorem fit_wr {B k : Nat} {d : DkF} {L : List Fl} (h : FitP B k d) (hl : ∀ f ∈ L, okV B f.data) : ∀ i, i ≤ L.length → FitP B (k + i) (wrJ L d i)
  | 0, _ => h
  | i + 1, hi => by
    have := fit_do (e := .wr (L.getD i fl0).path (L.getD i fl0).data) (fit_wr h hl i (by omega)) fun e => ok_wr (hl _ (get_mem (by omega))) e
    rwa [Nat.add_assoc] at this
theorem wr_keeps {n : ByteArray} {L : List Fl} {d : DkF} (h : getF n d.now ≠ none) : ∀ i, getF n (wrJ L d i).now ≠ none
  | 0 => h
  | i + 1 => by
    have ih := wr_keeps (L := L) h i
    show getF n (doF (wrJ L d i) _).now ≠ none
    unfold doF
    split
    · show getF n (setF _ _ (wrJ L d i).now) ≠ none
      by_cases e : n = (L.getD i fl0).path
      · rw [← e, get_set_same]; exact fun h => by cases h
      · rw [get_set_other e]; exact ih
    · exact ih
noncomputable def recJ (d : DkF) : DkF :=
  syncF (doF (if toldW ((getF intN d.now).getD []) then syncF (wrJ (toldL ((getF intN d.now).getD [])) d (toldL ((getF intN d.now).getD [])).length) else d) (.rm intN))

/-! Files, one over another. -/
def setsJ (l : List Fl) (m : FM) : FM := l.foldl (fun m f => setF f.path f.data m) m
def inP (l : List Fl) (p : ByteArray) : Prop := ∃ f ∈ l, f.path = p
theorem sets_snoc (l : List Fl) (f : Fl) (m : FM) : setsJ (l ++ [f]) m = setF f.path f.data (setsJ l m) := by unfold setsJ; rw [List.foldl_append]; rfl
theorem sets_other {p : ByteArray} : ∀ {l : List Fl} {m : FM}, ¬ inP l p → getF p (setsJ l m) = getF p m
  | [], m, _ => rfl
  | f :: r, m, h => by
    show getF p (setsJ r (setF f.path f.data m)) = _
    rw [sets_other (l := r) fun ⟨g, hg, e⟩ => h ⟨g, List.mem_cons_of_mem _ hg, e⟩, get_set_other (fun e => h ⟨f, List.mem_cons_self .., e.symm⟩)]
theorem sets_agree {p : ByteArray} : ∀ {l : List Fl} {m m' : FM}, (getF p m = getF p m' ∨ inP l p) → getF p (setsJ l m) = getF p (setsJ l m')
  | [], m, m', h => by
    rcases h with h | ⟨f, hf, _⟩
    · exact h
    · cases hf
  | f :: r, m, m', h => by
    show getF p (setsJ r (setF f.path f.data m)) = getF p (setsJ r (setF f.path f.data m'))
    refine sets_agree (l := r) ?_
    by_cases e : p = f.path
    · left; rw [e, get_set_same, get_set_same]
    · rcases h with h | ⟨g, hg, eg⟩
      · left; rw [get_set_other e, get_set_other e]; exact h
      · rcases List.mem_cons.1 hg with rfl | hg
        · exact absurd eg.symm e
        · right; exact ⟨g, hg, eg⟩
theorem sets_keys : ∀ {l : List Fl} {m : FM}, (keysF m).Nodup → (keysF (setsJ l m)).Nodup
  | [], _, h => h
  | f :: r, m, h => sets_keys (l := r) (m := setF f.path f.data m) (setF_keys h)
theorem sets_size : ∀ (l : List Fl) (m : FM), sizeF (setsJ l m) ≤ sizeF m + dataN l
  | [], m => Nat.le_refl _
  | f :: r, m => by
    have h1 := sets_size r (setF f.path f.data m)
    have h2 := size_set f.path f.data m
    have h3 : dataN (f :: r) = f.data.length + dataN r := rfl
    show sizeF (setsJ r (setF f.path f.data m)) ≤ _
    omega
theorem rel_ext {m n : FM} {L M : List Fl} (h : RelF m L) (g : RelF n M) (e : ∀ p, getF p m = getF p n) : L = M := by
  refine rel_uniq h ⟨h.keys, g.rise, g.perm.trans ?_⟩
  have nd : ∀ {x : FM}, (keysF x).Nodup → x.Nodup := fun {x} hx => (List.pairwise_map.1 (show (x.map Prod.fst).Pairwise (· ≠ ·) from hx)).imp fun h e => h (by rw [e])
  refine (List.perm_ext_iff_of_nodup (nd g.keys) (nd h.keys)).2 fun ⟨p, v⟩ => ?_
  rw [← getF_mem g.keys, ← getF_mem h.keys, e p]

/-! Deeds that write. -/
def deedOf (l : List Fl) (e : Dee) : Prop := ∃ f ∈ l, e = .wr f.path f.data
def lenE : Dee → Nat
  | .wr _ b => b.length
  | _ => 0
theorem next_mem {ds : List Dee} {keep : Int} {e : Dee} (h : nextD ds keep = some e) : e ∈ ds := by
  unfold nextD at h
  split at h
  · exact List.mem_of_getElem? h
  · cases h
theorem wrs_fold {l : List Fl} {p : ByteArray} (hp : ¬ inP l p) : ∀ {ds : List Dee} {m : FM}, (∀ e ∈ ds, deedOf l e) → getF p (ds.foldl (fun m e => actF e m) m) = getF p m
  | [], _, _ => rfl
  | e :: r, m, h => by
    obtain ⟨f, hf, rfl⟩ := h e (List.mem_cons_self ..)
    show getF p (r.foldl (fun m e => actF e m) (setF f.path f.data m)) = _
    rw [wrs_fold hp fun x hx => h x (List.mem_cons_of_mem _ hx), get_set_other fun x => hp ⟨f, hf, x.symm⟩]
theorem wrs_crash {l : List Fl} {p : ByteArray} {d : DkF} (h : ∀ e ∈ d.deeds, deedOf l e) (keep bytes : Int) (hp : ¬ inP l p) : getF p (crashM d keep bytes) = getF p d.synced := by
  have h1 := wrs_fold hp (m := d.synced) (ds := d.deeds.take keep.toNat) fun e he => h e (List.mem_of_mem_take he)
  unfold crashM lostF
  split
  · rename_i n b hn
    obtain ⟨f, hf, e⟩ := h _ (next_mem hn)
    injection e with e1 e2
    split
    · rw [get_set_other fun x => hp ⟨f, hf, by rw [x, e1]⟩]; exact h1
    · exact h1
  · exact h1
theorem act_grow (m : FM) (e : Dee) : sizeF (actF e m) ≤ sizeF m + lenE e := by
  cases e with
  | wr n b => have := size_set n b m; show sizeF (setF n b m) ≤ sizeF m + b.length; omega
  | mv a t => exact size_mv a t m
  | rm a => exact size_rm a m
theorem acts_grow : ∀ (ds : List Dee) (m : FM), sizeF (ds.foldl (fun m e => actF e m) m) ≤ sizeF m + (ds.map lenE).sum
  | [], m => Nat.le_refl _
  | e :: r, m => by
    have h1 := acts_grow r (actF e m)
    have h2 := act_grow m e
    show sizeF (r.foldl (fun m e => actF e m) (actF e m)) ≤ sizeF m + (lenE e + (r.map lenE).sum)
    omega
theorem sum_take (ds : List Dee) (k : Nat) : ((ds.take k).map lenE).sum ≤ (ds.map lenE).sum := by
  conv => rhs; rw [← List.take_append_drop k ds, List.map_append, List.sum_append]
  omega
theorem crash_grow (d : DkF) (keep bytes : Int) : sizeF (crashM d keep bytes) ≤ sizeF d.synced + (d.deeds.map lenE).sum := by
  have h1 := acts_grow (d.deeds.take keep.toNat) d.synced
  have h2 := sum_take d.deeds keep.toNat
  have h3 := sum_take d.deeds (keep.toNat + 1)
  unfold crashM nextD lostF
  generalize (d.deeds.take keep.toNat).foldl (fun m e => actF e m) d.synced = m at *
  split
  · rename_i n b hn
    split at hn
    · have hlt := (List.getElem?_eq_some_iff.1 hn).1
      have he := (List.getElem?_eq_some_iff.1 hn).2
      split
      · rw [List.take_succ_eq_append_getElem hlt, he, List.map_append, List.sum_append] at h3
        have h4 := size_set n (b.take bytes.toNat) m
        have h5 : (b.take bytes.toNat).length ≤ b.length := by rw [List.length_take]; omega
        have h6 : (List.map lenE [Dee.wr n b]).sum = b.length := by simp [lenE]
        omega
      · omega
    · cases hn
  · omega

theorem wrJ_props (L : List Fl) (d : DkF) : ∀ i, i ≤ L.length → (wrJ L d i).synced = d.synced ∧ (wrJ L d i).room = d.room ∧ (∀ e ∈ (wrJ L d i).deeds, e ∈ d.deeds ∨ deedOf L e) ∧ ((wrJ L d i).deeds.map lenE).sum ≤ (d.deeds.map lenE).sum + dataN (L.take i)
  | 0, _ => ⟨rfl, rfl, fun e he => .inl he, Nat.le_add_right ..⟩
  | i + 1, hi => by
    obtain ⟨h1, h2, h3, h4⟩ := wrJ_props L d i (by omega)
    have h5 := data_succ (l := L) (k := i) (by omega)
    show (doF (wrJ L d i) _).synced = _ ∧ (doF (wrJ L d i) _).room = _ ∧ (∀ e ∈ (doF (wrJ L d i) _).deeds, _) ∧ ((doF (wrJ L d i) _).deeds.map lenE).sum ≤ _
    unfold doF
    split
    · refine ⟨h1, h2, fun e he => ?_, ?_⟩
      · rcases List.mem_append.1 he with he | he
        · exact h3 e he
        · exact .inr ⟨_, get_mem (by omega), List.mem_singleton.1 he⟩
      · rw [List.map_append, List.sum_append]
        have h6 : (List.map lenE [Dee.wr (L.getD i fl0).path (L.getD i fl0).data]).sum = (L.getD i fl0).data.length := by simp [lenE]
        omega
    · exact ⟨h1, h2, h3, by omega⟩
theorem wrJ_all {L : List Fl} {d : DkF} (hm : ∀ f ∈ L, mayN f.path) (hs : ((sizeF d.now + dataN L : Nat) : Int) ≤ d.room) : ∀ i, i ≤ L.length → (wrJ L d i).now = setsJ (L.take i) d.now
  | 0, _ => by rw [List.take_zero]; rfl
  | i + 1, hi => by
    have ih := wrJ_all hm hs i (by omega)
    have h2 := (wrJ_props L d i (by omega)).2.1
    have h5 := data_succ (l := L) (k := i) (by omega)
    have h6 := data_le L (i + 1)
    have h7 := sets_size (L.take i) d.now
    have he : errF (wrJ L d i) (.wr (L.getD i fl0).path (L.getD i fl0).data) = 0 := wr_fits (hm _ (get_mem (by omega))) (by rw [ih, h2]; omega)
    show (doF (wrJ L d i) _).now = _
    unfold doF
    rw [if_pos he, take_succ_fl (by omega), sets_snoc, ← ih]; rfl
theorem good_wrJ {L : List Fl} {d : DkF} (h : GoodD d) : ∀ i, GoodD (wrJ L d i)
  | 0 => h
  | i + 1 => good_do (good_wrJ h i) _
theorem good_st {l : List Fl} {b : List Int} {d : DkF} (h : GoodD d) (i : Nat) : GoodD (stJ l b i d) := by
  unfold stJ
  repeat' split
  all_goals first
    | exact good_do h _
    | exact good_sync h
theorem good_cm {l : List Fl} {b : List Int} {d : DkF} (h : GoodD d) : ∀ i, GoodD (cmJ l b d i)
  | 0 => h
  | i + 1 => good_st (good_cm h i) i
theorem room_wrJ (L : List Fl) (d : DkF) : ∀ i, (wrJ L d i).room = d.room
  | 0 => rfl
  | i + 1 => by
    show (doF (wrJ L d i) _).room = _
    unfold doF
    split
    · exact room_wrJ L d i
    · exact room_wrJ L d i
theorem room_do (d : DkF) (e : Dee) : (doF d e).room = d.room := by
  unfold doF; split <;> rfl
theorem room_cm (l : List Fl) (b : List Int) (d : DkF) : ∀ i, (cmJ l b d i).room = d.room
  | 0 => rfl
  | i + 1 => by
    show (stJ l b i (cmJ l b d i)).room = _
    have ih := room_cm l b d i
    unfold stJ
    repeat' split
    all_goals first
      | exact ih
      | exact (room_do _ _).trans ih
theorem cm_wr (l : List Fl) (b : List Int) (d : DkF) : ∀ j, j ≤ l.length → cmJ l b d (j + 2) = wrJ l (syncF (doF d (.wr intN b))) j
  | 0, _ => rfl
  | j + 1, h => by
    show stJ l b (j + 2) (cmJ l b d (j + 2)) = doF (wrJ l _ j) _
    rw [cm_wr l b d j (by omega)]
    unfold stJ
    rw [if_neg (by omega), if_neg (by omega), if_pos (by omega), show j + 2 - 2 = j by omega]
theorem cm_3 (l : List Fl) (b : List Int) (d : DkF) : cmJ l b d (l.length + 3) = syncF (cmJ l b d (l.length + 2)) := by
  show stJ l b (l.length + 2) (cmJ l b d (l.length + 2)) = _
  unfold stJ
  rw [if_neg (by omega), if_neg (by omega), if_neg (by omega), if_pos (by omega)]
theorem cm_4 (l : List Fl) (b : List Int) (d : DkF) : cmJ l b d (l.length + 4) = doF (cmJ l b d (l.length + 3)) (.rm intN) := by
  show stJ l b (l.length + 3) (cmJ l b d (l.length + 3)) = _
  unfold stJ
  rw [if_neg (by omega), if_neg (by omega), if_neg (by omega), if_neg (by omega), if_pos (by omega)]
theorem cm_5 (l : List Fl) (b : List Int) (d : DkF) : cmJ l b d (l.length + 5) = syncF (cmJ l b d (l.length + 4)) := by
  show stJ l b (l.length + 4) (cmJ l b d (l.length + 4)) = _
  unfold stJ
  rw [if_neg (by omega), if_neg (by omega), if_neg (by omega), if_neg (by omega), if_neg (by omega)]

/-! What an intent tells. -/
theorem sumS_len0 (b : List Int) : (sumS b).length = 32 := digS_len _
theorem in_int (l : List Fl) : inB (intL l) = putR l ∧ (intL l).drop ((intL l).length - 32) = sumS (putR l) := by
  have h1 : (intL l).length - 32 = (putR l).length := by unfold intL; rw [List.length_append, sumS_len0]; omega
  unfold inB
  rw [h1]
  unfold intL
  exact ⟨List.take_left, List.drop_left⟩
theorem told_int {l : List Fl} (hf : fitL l) (h : putE l = 0) : toldL (intL l) = l ∧ toldW (intL l) = true := by
  obtain ⟨h1, h2⟩ := in_int l
  have h3 := get_is (put_get hf h)
  have hs : sameB (intL l) := by
    refine ⟨by unfold intL; rw [List.length_append, sumS_len0]; omega, ?_⟩
    rw [h1, h2]
  unfold toldL toldW
  rw [if_pos hs, decide_eq_true hs, h1, h3.1, h3.2]
  exact ⟨rfl, rfl⟩
theorem told_small {b : List Int} (h : b.length < 1024) : toldW b = false := by
  unfold toldW
  have : ¬ getE (inB b) = 0 := fun e => by
    rcases getE_cases (inB b) with ⟨l, g, _⟩ | ⟨_, _, g⟩
    · have h1 := (arc_len g.1).1
      unfold inB at h1
      rw [List.length_take] at h1
      omega
    · omega
  rw [decide_eq_false this, Bool.and_false]

theorem told_fit2 {B : Nat} {b : List Int} (hb : okV B b) : (toldL b).length * 512 ≤ b.length ∧ ∀ f ∈ toldL b, okV B f.data := by
  unfold toldL
  split
  · have h2 := getL_bytes (b := inB b) fun x hx => hb.2 x (List.mem_of_mem_take hx)
    have hl : (inB b).length ≤ b.length := by unfold inB; rw [List.length_take]; omega
    rcases getE_cases (inB b) with ⟨l, h, e, _⟩ | ⟨_, e, _⟩
    · rw [e] at h2 ⊢
      have h3 := body_data h.1.1
      have h4 : (inB b).length = (bodyR l).length + 1024 := by
        conv => lhs; rw [h.1.2]
        rw [List.length_append, zer_len]
      refine ⟨by omega, fun f hf => ⟨?_, h2 f hf⟩⟩
      have := data_mem hf
      have := hb.1
      omega
    · rw [e]
      exact ⟨Nat.zero_le _, fun f hf => by cases hf⟩
  · exact ⟨Nat.zero_le _, fun f hf => by cases hf⟩
/-! Where a commit may be broken off. -/
structure CmOk (l : List Fl) (d : DkF) : Prop where
  sy : d.synced = d.now
  de : d.deeds = []
  no : getF intN d.now = none
  bad : ∀ f ∈ l, ¬ badF f
  pe : putE l = 0
  fit : fitL l
  room : ((sizeF d.now + (intL l).length + dataN l : Nat) : Int) ≤ d.room
  good : GoodD d
def qOld (M m : FM) : Prop := (∀ p, p ≠ intN → getF p m = getF p M) ∧ ∀ v, getF intN m = some v → toldW v = false
def qMid (l : List Fl) (M m : FM) : Prop := (∀ p, p ≠ intN → ¬ inP l p → getF p m = getF p M) ∧ getF intN m = some (intL l)
def qNew (l : List Fl) (M m : FM) : Prop := (∀ p, p ≠ intN → getF p m = getF p (setsJ l M)) ∧ getF intN m = none
theorem CmOk.not {l : List Fl} {d : DkF} (h : CmOk l d) : ¬ inP l intN := fun ⟨f, hf, e⟩ => h.bad f hf (.inl e)
theorem CmOk.may {l : List Fl} {d : DkF} (h : CmOk l d) : ∀ f ∈ l, mayN f.path := fun f hf => may_of (h.bad f hf)
theorem cm_first {l : List Fl} {d : DkF} (h : CmOk l d) : doF d (.wr intN (intL l)) = ⟨setF intN (intL l) d.now, d.synced, d.deeds ++ [.wr intN (intL l)], d.room⟩ := by
  unfold doF
  rw [if_pos (wr_fits intN_may (by have := h.room; omega))]; rfl
theorem size_W {l : List Fl} {d : DkF} : sizeF (setF intN (intL l) d.now) ≤ sizeF d.now + (intL l).length := by
  have := size_set intN (intL l) d.now; omega
theorem cm_now {l : List Fl} {d : DkF} (h : CmOk l d) : (cmJ l (intL l) d (l.length + 2)).now = setsJ l (setF intN (intL l) d.now) := by
  rw [cm_wr l _ d l.length (Nat.le_refl _), cm_first h]
  have hr := h.room
  have := wrJ_all (L := l) (d := syncF ⟨setF intN (intL l) d.now, d.synced, d.deeds ++ [.wr intN (intL l)], d.room⟩) h.may (by
    have := size_W (l := l) (d := d)
    show ((sizeF (setF intN (intL l) d.now) + dataN l : Nat) : Int) ≤ d.room
    omega) l.length (Nat.le_refl _)
  rw [List.take_length] at this
  exact this
theorem get_W {l : List Fl} {M : FM} {p : ByteArray} (hp : p ≠ intN) : getF p (setsJ l (setF intN (intL l) M)) = getF p (setsJ l M) := sets_agree (.inl (get_set_other hp _ _))
theorem mid_W {l : List Fl} {d : DkF} (h : CmOk l d) : qMid l d.now (setsJ l (setF intN (intL l) d.now)) :=
  ⟨fun p hp hl => by rw [sets_other hl, get_set_other hp], by rw [sets_other h.not, get_set_same]⟩
theorem cm_rm {l : List Fl} {d : DkF} (h : CmOk l d) : cmJ l (intL l) d (l.length + 4) = ⟨delF intN (setsJ l (setF intN (intL l) d.now)), setsJ l (setF intN (intL l) d.now), [.rm intN], d.room⟩ := by
  rw [cm_4, cm_3]
  have h1 := cm_now h
  have h2 := room_cm l (intL l) d (l.length + 2)
  generalize cmJ l (intL l) d (l.length + 2) = D at *
  unfold doF
  have he : errF (syncF D) (.rm intN) = 0 := by
    show (if getF intN D.now = none then (6 : Int) else 0) = 0
    rw [if_neg (by rw [h1, (mid_W h).2]; exact fun x => by cases x)]
  rw [if_pos he]
  show (⟨delF intN D.now, D.now, [] ++ [.rm intN], D.room⟩ : DkF) = _
  rw [h1, h2]; rfl
theorem new_W {l : List Fl} {d : DkF} (h : CmOk l d) : qNew l d.now (delF intN (setsJ l (setF intN (intL l) d.now))) :=
  ⟨fun p hp => by rw [get_del_other hp, get_W hp], get_del_same (sets_keys (setF_keys (good_all h.good).2))⟩
theorem cm_end {l : List Fl} {d : DkF} (h : CmOk l d) : cmJ l (intL l) d (l.length + 5) = ⟨delF intN (setsJ l (setF intN (intL l) d.now)), delF intN (setsJ l (setF intN (intL l) d.now)), [], d.room⟩ := by
  rw [cm_5, cm_rm h]; rfl
theorem crash_none {d : DkF} (h : d.deeds = []) (keep bytes : Int) : crashM d keep bytes = d.synced := by
  unfold crashM nextD
  rw [h, List.take_nil]
  have : (if 0 ≤ keep then ([] : List Dee)[keep.toNat]? else none) = none := by split <;> rfl
  rw [this]; rfl
theorem cm_crash {l : List Fl} {d : DkF} (h : CmOk l d) {k keep bytes : Nat} (hk : k ≤ l.length + 5) (hb : bytes ≤ 255) :
    ∀ m, m = crashM (cmJ l (intL l) d k) keep bytes →
    (k < l.length + 5 ∧ qOld d.now m ∨ k < l.length + 5 ∧ qMid l d.now m ∨ qNew l d.now m) ∧ sizeF m ≤ sizeF d.now + (intL l).length + dataN l := by
  intro m hm
  have hW := size_W (l := l) (d := d)
  have hcg := crash_grow (cmJ l (intL l) d k) keep bytes
  rw [← hm] at hcg
  match k, hk, hm, hcg with
  | 0, _, hm, hcg =>
    have e : m = d.now := hm.trans ((crash_none h.de keep bytes).trans h.sy)
    rw [e]
    exact ⟨.inl ⟨by omega, fun p hp => rfl, fun v hv => by rw [h.no] at hv; cases hv⟩, by omega⟩
  | 1, _, hm, hcg =>
    have e1 : cmJ l (intL l) d 1 = ⟨setF intN (intL l) d.now, d.now, [.wr intN (intL l)], d.room⟩ := by
      show doF d (.wr intN (intL l)) = _
      rw [cm_first h, h.de, h.sy]; rfl
    rw [e1] at hm
    have hs : sizeF m ≤ sizeF d.now + (intL l).length := by
      rw [hm]
      refine Nat.le_trans (crash_grow _ _ _) ?_
      show sizeF d.now + ([Dee.wr intN (intL l)].map lenE).sum ≤ _
      simp [lenE]
    refine ⟨?_, by omega⟩
    rcases Nat.eq_zero_or_pos keep with h0 | h0
    · left
      subst h0
      have e2 : m = setF intN ((intL l).take bytes) d.now := by
        rw [hm]
        show (if (0 : Int) ≤ (bytes : Int) then setF intN ((intL l).take (bytes : Int).toNat) d.now else d.now) = _
        rw [if_pos (by omega), Int.toNat_natCast]
      rw [e2]
      refine ⟨by omega, fun p hp => get_set_other hp _ _, fun v hv => ?_⟩
      rw [get_set_same] at hv
      cases hv
      exact told_small (by rw [List.length_take]; omega)
    · right; left
      have e2 : m = setF intN (intL l) d.now := by
        rw [hm]
        obtain ⟨q, rfl⟩ : ∃ q, keep = q + 1 := ⟨keep - 1, by omega⟩
        show lostF ((([Dee.wr intN (intL l)]).take ((q + 1 : Nat) : Int).toNat).foldl (fun m e => actF e m) d.now) (nextD [.wr intN (intL l)] ((q + 1 : Nat) : Int)) _ = _
        have e3 : nextD [.wr intN (intL l)] ((q + 1 : Nat) : Int) = none := by
          unfold nextD
          rw [if_pos (by omega), Int.toNat_natCast]; rfl
        rw [e3, Int.toNat_natCast, List.take_of_length_le (show [Dee.wr intN (intL l)].length ≤ q + 1 from Nat.succ_le_succ (Nat.zero_le q))]; rfl
      rw [e2]
      exact ⟨by omega, fun p hp _ => get_set_other hp _ _, get_set_same _ _ _⟩
  | k + 2, hk, hm, hcg =>
    by_cases k1 : k ≤ l.length
    · have e1 := cm_wr l (intL l) d k k1
      rw [cm_first h] at e1
      obtain ⟨p1, p2, p3, p4⟩ := wrJ_props l (syncF ⟨setF intN (intL l) d.now, d.synced, d.deeds ++ [.wr intN (intL l)], d.room⟩) k k1
      rw [← e1] at p1 p2 p3 p4
      have p3 : ∀ e ∈ (cmJ l (intL l) d (k + 2)).deeds, deedOf l e := fun e he => by
        rcases p3 e he with x | x
        · cases x
        · exact x
      have p4 : ((cmJ l (intL l) d (k + 2)).deeds.map lenE).sum ≤ 0 + dataN (l.take k) := p4
      have p1 : (cmJ l (intL l) d (k + 2)).synced = setF intN (intL l) d.now := p1
      have p5 := data_le l k
      rw [p1] at hcg
      refine ⟨.inr (.inl ⟨by omega, fun p hp hl => ?_, ?_⟩), by omega⟩
      · rw [hm, wrs_crash p3 _ _ hl, p1, get_set_other hp]
      · rw [hm, wrs_crash p3 _ _ h.not, p1, get_set_same]
    · have hZ := sets_size l (setF intN (intL l) d.now)
      by_cases k2 : k = l.length + 1
      · subst k2
        have e1 : m = setsJ l (setF intN (intL l) d.now) := by
          rw [hm]
          show crashM (cmJ l (intL l) d (l.length + 3)) keep bytes = _
          rw [cm_3, crash_none rfl, ← cm_now h]; rfl
        rw [e1]
        exact ⟨.inr (.inl ⟨by omega, mid_W h⟩), by omega⟩
      by_cases k3 : k = l.length + 2
      · subst k3
        have e0 := cm_rm h
        have e1 : m = crashM ⟨delF intN (setsJ l (setF intN (intL l) d.now)), setsJ l (setF intN (intL l) d.now), [.rm intN], d.room⟩ keep bytes := by rw [← e0]; exact hm
        have hs : sizeF m ≤ sizeF (setsJ l (setF intN (intL l) d.now)) := by
          rw [e1]
          exact Nat.le_trans (crash_grow _ _ _) (Nat.le_refl _)
        refine ⟨?_, by omega⟩
        rcases Nat.eq_zero_or_pos keep with h0 | h0
        · subst h0
          have e2 : m = setsJ l (setF intN (intL l) d.now) := e1
          rw [e2]
          exact .inr (.inl ⟨by omega, mid_W h⟩)
        · have e2 : m = delF intN (setsJ l (setF intN (intL l) d.now)) := by
            rw [e1]
            obtain ⟨q, rfl⟩ : ∃ q, keep = q + 1 := ⟨keep - 1, by omega⟩
            show lostF ((([Dee.rm intN]).take ((q + 1 : Nat) : Int).toNat).foldl (fun m e => actF e m) _) (nextD [.rm intN] ((q + 1 : Nat) : Int)) _ = _
            have e3 : nextD [.rm intN] ((q + 1 : Nat) : Int) = none := by
              unfold nextD
              rw [if_pos (by omega), Int.toNat_natCast]; rfl
            rw [e3, Int.toNat_natCast, List.take_of_length_le (show [Dee.rm intN].length ≤ q + 1 from Nat.succ_le_succ (Nat.zero_le q))]; rfl
          rw [e2]
          exact .inr (.inr (new_W h))
      · obtain rfl : k = l.length + 3 := by omega
        have e1 : m = delF intN (setsJ l (setF intN (intL l) d.now)) := by
          rw [hm]
          show crashM (cmJ l (intL l) d (l.length + 5)) keep bytes = _
          rw [cm_end h]; exact crash_none rfl _ _
        rw [e1]
        have := size_rm intN (setsJ l (setF intN (intL l) d.now))
        have this : sizeF (delF intN (setsJ l (setF intN (intL l) d.now))) ≤ _ := this
        exact ⟨.inr (.inr (new_W h)), by omega⟩

noncomputable def rcJ (d : DkF) : DkF := if getF intN d.now = none then d else recJ d
theorem good_rec {d : DkF} (h : GoodD d) : GoodD (recJ d) := by
  unfold recJ
  refine good_sync (good_do ?_ _)
  split
  · exact good_sync (good_wrJ h _)
  · exact h
theorem rm_key {D : DkF} (h1 : getF intN D.now ≠ none) {p : ByteArray} (hp : p ≠ intN) : getF p (syncF (doF D (.rm intN))).now = getF p D.now := by
  have he : errF D (.rm intN) = 0 := by
    show (if getF intN D.now = none then (6 : Int) else 0) = 0
    rw [if_neg h1]
  unfold doF
  rw [if_pos he]
  exact get_del_other hp _
theorem rc_mid {l : List Fl} {M : FM} {d : DkF} (hf : fitL l) (hp : putE l = 0) (hm : ∀ f ∈ l, mayN f.path) (h : qMid l M d.now) (hr : ((sizeF d.now + dataN l : Nat) : Int) ≤ d.room) {p : ByteArray} (hp' : p ≠ intN) : getF p (rcJ d).now = getF p (setsJ l M) := by
  unfold rcJ
  rw [if_neg (by rw [h.2]; exact fun x => by cases x)]
  unfold recJ
  rw [h.2]
  show getF p (syncF (doF (if toldW (intL l) = true then syncF (wrJ (toldL (intL l)) d (toldL (intL l)).length) else d) (.rm intN))).now = _
  rw [(told_int hf hp).1, (told_int hf hp).2, if_pos rfl, rm_key ?_ hp']
  · show getF p (wrJ l d l.length).now = _
    rw [wrJ_all hm hr l.length (Nat.le_refl _), List.take_length]
    refine sets_agree ?_
    by_cases hl : inP l p
    · exact .inr hl
    · exact .inl (h.1 p hp' hl)
  · exact wr_keeps (n := intN) (L := l) (d := d) (by rw [h.2]; exact fun x => by cases x) l.length
end Go.Proofs.YtflclafbieokiaaGreatDoor.Jr

/-
  The journal, walked: Recover.
-/
set_option linter.unusedVariables false
set_option linter.unusedSectionVars false
set_option linter.unusedSimpArgs false
set_option maxRecDepth 10000
namespace Go.Proofs.YtflclafbieokiaaGreatDoor.Jr
open Go AL Us Dk Sh

def recR (d : DkF) (r : AV) (h : List AO) : Prop := r = .top ∧ ((getF intN d.now = none ∧ h = dkH d) ∨ (getF intN d.now ≠ none ∧ h = dkT (recJ d)))
section
variable [Globs]

set_option maxHeartbeats 4000000 in
theorem recover_p (d : DkF) (hd : FitP 10000000 1500 d) : ACalls Tryz.prog 20 [.ptr 0 0] (dkH d) (recR d) := by
  have hv : okV 10000000 ((getF intN d.now).getD []) := okM_get hd.now
  have hg := get_ro d intN fun v h => by rw [h] at hv; exact Nat.le_trans hv.1 (by decide)
  have hno : getF intN d.now = none → recR d .top (dkH d) := fun h => ⟨rfl, .inl ⟨h, rfl⟩⟩
  have hyes : getF intN d.now ≠ none → recR d .top (dkT (recJ d)) := fun h => ⟨rfl, .inr ⟨h, rfl⟩⟩
  have hkeep := fun L i => wr_keeps (n := intN) (L := L) (d := d) (i := i)
  unfold recJ at hyes
  obtain ⟨G, hG⟩ : ∃ G, getF intN d.now = G := ⟨_, rfl⟩
  rw [hG] at hv hg hno hyes
  obtain ⟨b, hb⟩ : ∃ b, G.getD [] = b := ⟨_, rfl⟩
  rw [hb] at hv hg hyes
  have htold := told_p b hv.2 (by have := hv.1; omega)
  have hrm := fun D hl => remove_p D intN hl
  have htf := told_fit hv.2
  unfold toldR at htold
  refine rcalls Tryz.func20 rfl (by decide) ?_
  refine ⟨[0, 1, 2, 3], _, (by (try simp only [ren_fmV]); exact fmVFree _), (by (try simp only [ren_fmV]); exact fmVFree _), (by (try simp only [ren_rowP]); exact fun i _ => rowPFree _ i), at_h ?_ (hg), ?_⟩
  · exact dkH_eq (by first | simp only [ren_fmV] | rfl) (by first | simp only [ren_fmV] | rfl) (by first | simp only [ren_rowP] | rfl)
  rintro r hh ⟨rfl, rfl⟩
  refine ⟨.inl rfl, ?_⟩
  refine ⟨fun c => ?_, fun c => ?_⟩
  · have f1 : G = none := by
      cases G with
      | none => rfl
      | some v => cases c
    exact ⟨[0, 1, 2, 3], dkH d, .top, lehDk rfl rfl rfl rfl (by simp only [ren_fmV]) (by simp only [ren_fmV]) rfl (by simp only [ren_rowP]), .top _, hno f1⟩
  have f1 : G ≠ none := fun h => by rw [h] at c; cases c
  clear c
  have hyes := hyes f1
  have hkeep := fun L i => hkeep L i (by rw [hG]; exact f1)
  generalize toldL b = L at *
  generalize toldW b = W at *
  refine ⟨[], _, htold, ?_⟩
  rintro r hh ⟨rfl, rfl⟩
  refine ⟨.inl rfl, ?_⟩
  refine ⟨fun c => ?_, fun c => ?_⟩
  · have hW : W = true := by
      cases W with
      | true => rfl
      | false => cases c
    rw [hW, if_pos rfl] at hyes
    have hfw := fit_wr (L := L) hd htf.2
    refine ⟨Nat × Bool, fun x => [(0, .ptr 0 0), (21, flsV L), (22, int .i64 (L.length : Int)), (23, int .i64 (x.1 : Int))], fun x => if x.2 then dkN (wrJ L d x.1) else dkH (wrJ L d x.1), fun x => x.1 ≤ L.length, fun x => L.length - x.1,
      ⟨(0, false), [0, 1, 2, 3], Nat.zero_le _, lehDk rfl rfl rfl rfl (by simp only [ren_fmV]; rfl) (by simp only [ren_fmV]; rfl) rfl (by simp only [ren_rowP]; rfl), ?_⟩, ?_⟩
    · exact ⟨.ptr 0 rfl, .seen (.giveR (rowF L) rfl (by decide) (by omega) (fun i hi => by rw [Nat.zero_add, ren_rowF]; exact .same _ (rowFree _ i)) fun i hi => rowFree _ i) (vrsU (l := L) rfl fun i hi => rfl), leI rfl, leI rfl, trivial⟩
    rintro ⟨k, t⟩ hk
    have hk : k ≤ L.length := hk
    have e1 : IntKind.i64.wrap ((k : Int) + 1) = ((k + 1 : Nat) : Int) := by rw [w64 (by omega) (by omega)]; omega
    have hfk := hfw k hk
    have hs0 := fit_size hfk
    have hl0 := fit_len hfk
    cases t with
    | false =>
      refine ⟨fun c => ?_, fun c => ?_⟩
      · have f2 : (k : Int) < L.length := yes c
        have h1 : ∀ c, c < 2 → rowF L ((k : Int).toNat * 2 + c) = flC (L.getD k fl0) c := fun c hc => by rw [Int.toNat_natCast]; exact rowF_at L hc
        have hmem := htf.2 _ (get_mem (l := L) (k := k) (by omega))
        have hstep : wrJ L d (k + 1) = doF (wrJ L d k) (.wr (L.getD k fl0).path (L.getD k fl0).data) := rfl
        refine ⟨⟨by omega, f2⟩, flC (L.getD k fl0), fun c hc => h1 c hc, ?_⟩
        generalize L.getD k fl0 = F at *
        have hw1 := write_p (wrJ L d k) F.path F.data (by omega) (by have := hmem.1; omega) (by omega)
        have hun : wrJ L d (k + 1) = doF (wrJ L d k) (.wr F.path F.data) := hstep
        refine ⟨[0, 1, 2, 3], _, (by (try simp only [ren_fmV]); exact fmVFree _), (by (try simp only [ren_fmV]); exact fmVFree _), (by (try simp only [ren_rowP]); exact fun i _ => rowPFree _ i), at_h ?_ (hw1), ?_⟩
        · exact dkH_eq (by first | simp only [ren_fmV] | rfl) (by first | simp only [ren_fmV] | rfl) (by first | simp only [ren_rowP] | rfl)
        rintro r hh (⟨he, rfl, rfl⟩ | ⟨he, rfl, rfl⟩)
        · refine ⟨.inl rfl, ?_⟩
          have hE2 : noteF (wrJ L d k) (.wr F.path F.data) = wrJ L d (k + 1) := by
            rw [hun]; unfold doF; rw [if_pos he]; rfl
          refine ⟨trivial, (k + 1, true), [0, 1, 2, 3, 5], by show k + 1 ≤ L.length; omega, by show L.length - (k + 1) < L.length - k; omega, ?_, ⟨.ptr 0 rfl, .same _ trivial, leI rfl, leI e1, trivial⟩⟩
          show LeH 4 _ _ (dkN (wrJ L d (k + 1)))
          rw [← hE2]
          exact lehK (n := 4) (by decide) (by decide) (by decide) ⟨⟨_, rfl, leDkA rfl rfl rfl rfl rfl⟩, ⟨_, rfl, leMap (by simp only [ren_fmV])⟩, ⟨_, rfl, leMap (by simp only [ren_fmV])⟩, ⟨_, rfl, .dead _⟩, ⟨_, rfl, leRowQ rfl (by simp only [ren_rowP])⟩, trivial⟩
        · refine ⟨.inl rfl, ?_⟩
          have hE2 : wrJ L d k = wrJ L d (k + 1) := by
            rw [hun]; unfold doF; rw [if_neg he]
          refine ⟨trivial, (k + 1, false), [0, 1, 2, 3], by show k + 1 ≤ L.length; omega, by show L.length - (k + 1) < L.length - k; omega, ?_, ⟨.ptr 0 rfl, .same _ trivial, leI rfl, leI e1, trivial⟩⟩
          show LeH 4 _ _ (dkH (wrJ L d (k + 1)))
          rw [← hE2]
          exact lehK (n := 4) (by decide) (by decide) (by decide) ⟨⟨_, rfl, leDkL rfl rfl rfl rfl rfl⟩, ⟨_, rfl, leMap (by simp only [ren_fmV])⟩, ⟨_, rfl, leMap (by simp only [ren_fmV])⟩, ⟨_, rfl, leRowQ rfl (by simp only [ren_rowP])⟩, trivial⟩
      have f2 : ¬ (k : Int) < L.length := no c
      obtain rfl : k = L.length := by omega
      have hsy := sync_p (wrJ L d L.length)
      refine ⟨[0, 1, 2, 3], _, (by (try simp only [ren_fmV]); exact fmVFree _), (by (try simp only [ren_fmV]); exact fmVFree _), (by (try simp only [ren_rowP]); exact fun i _ => rowPFree _ i), at_h ?_ (hsy), ?_⟩
      · exact dkH_eq (by first | simp only [ren_fmV] | rfl) (by first | simp only [ren_fmV] | rfl) (by first | simp only [ren_rowP] | rfl)
      rintro r hh ⟨rfl, rfl⟩
      refine ⟨.inl rfl, ?_⟩
      have hs0 : errF (syncF (wrJ L d L.length)) (.rm intN) = 0 := if_neg (hkeep L L.length)
      have e9 : syncF (noteF (syncF (wrJ L d L.length)) (.rm intN)) = syncF (doF (syncF (wrJ L d L.length)) (.rm intN)) := by
        unfold doF
        rw [if_pos hs0]; rfl
      have hr0 := hrm (syncF (wrJ L d L.length)) (Nat.zero_le _)
      refine ⟨[0, 1, 4, 3], _, (by (try simp only [ren_fmV]); exact fmVFree _), (by (try simp only [ren_fmV]); exact fmVFree _), (by (try simp only [ren_rowP]); exact fun i _ => rowPFree _ i), at_h ?_ (hr0), ?_⟩
      · exact dkH_eq (by first | simp only [ren_fmV] | rfl) (by first | simp only [ren_fmV] | rfl) (by first | simp only [ren_rowP] | rfl)
      rintro r hh (⟨he, rfl, rfl⟩ | ⟨he, rfl, rfl⟩)
      rotate_left
      · exact absurd hs0 he
      refine ⟨.inl rfl, ?_⟩
      have hsy9 := sync_p (noteF (syncF (wrJ L d L.length)) (.rm intN))
      refine ⟨[0, 1, 4, 5], _, (by (try simp only [ren_fmV]); exact fmVFree _), (by (try simp only [ren_fmV]); exact fmVFree _), (by (try simp only [ren_rowP]); exact fun i _ => rowPFree _ i), at_h ?_ (hsy9), ?_⟩
      · exact dkH_eq (by first | simp only [ren_fmV] | rfl) (by first | simp only [ren_fmV] | rfl) (by first | simp only [ren_rowP] | rfl)
      rintro r hh ⟨rfl, rfl⟩
      refine ⟨.inl rfl, ?_⟩
      rw [e9]
      exact ⟨[0, 1, 2, 3, 5, 6], dkT (syncF (doF (syncF (wrJ L d L.length)) (.rm intN))), .top, lehK (n := 4) (by decide) (by decide) (by decide) ⟨⟨_, rfl, leDkA rfl rfl rfl rfl rfl⟩, ⟨_, rfl, leMap (by simp only [ren_fmV])⟩, ⟨_, rfl, .dead _⟩, ⟨_, rfl, .dead _⟩, ⟨_, rfl, leRowQ rfl (by simp only [ren_rowP])⟩, ⟨_, rfl, leMap (by simp only [ren_fmV])⟩, trivial⟩, .top _, hyes⟩
    | true =>
      refine ⟨fun c => ?_, fun c => ?_⟩
      · have f2 : (k : Int) < L.length := yes c
        have h1 : ∀ c, c < 2 → rowF L ((k : Int).toNat * 2 + c) = flC (L.getD k fl0) c := fun c hc => by rw [Int.toNat_natCast]; exact rowF_at L hc
        have hmem := htf.2 _ (get_mem (l := L) (k := k) (by omega))
        have hstep : wrJ L d (k + 1) = doF (wrJ L d k) (.wr (L.getD k fl0).path (L.getD k fl0).data) := rfl
        refine ⟨⟨by omega, f2⟩, flC (L.getD k fl0), fun c hc => h1 c hc, ?_⟩
        generalize L.getD k fl0 = F at *
        have hw1 := write_p (wrJ L d k) F.path F.data (by omega) (by have := hmem.1; omega) (by omega)
        have hun : wrJ L d (k + 1) = doF (wrJ L d k) (.wr F.path F.data) := hstep
        refine ⟨[0, 1, 2, 4], _, (by (try simp only [ren_fmV]); exact fmVFree _), (by (try simp only [ren_fmV]); exact fmVFree _), (by (try simp only [ren_rowP]); exact fun i _ => rowPFree _ i), at_h ?_ (hw1), ?_⟩
        · exact dkH_eq (by first | simp only [ren_fmV] | rfl) (by first | simp only [ren_fmV] | rfl) (by first | simp only [ren_rowP] | rfl)
        rintro r hh (⟨he, rfl, rfl⟩ | ⟨he, rfl, rfl⟩)
        · refine ⟨.inl rfl, ?_⟩
          have hE2 : noteF (wrJ L d k) (.wr F.path F.data) = wrJ L d (k + 1) := by
            rw [hun]; unfold doF; rw [if_pos he]; rfl
          refine ⟨trivial, (k + 1, true), [0, 1, 2, 3, 6], by show k + 1 ≤ L.length; omega, by show L.length - (k + 1) < L.length - k; omega, ?_, ⟨.ptr 0 rfl, .same _ trivial, leI rfl, leI e1, trivial⟩⟩
          show LeH 4 _ _ (dkN (wrJ L d (k + 1)))
          rw [← hE2]
          exact lehK (n := 4) (by decide) (by decide) (by decide) ⟨⟨_, rfl, leDkA rfl rfl rfl rfl rfl⟩, ⟨_, rfl, leMap (by simp only [ren_fmV])⟩, ⟨_, rfl, leMap (by simp only [ren_fmV])⟩, ⟨_, rfl, .dead _⟩, ⟨_, rfl, leRowQ rfl (by simp only [ren_rowP])⟩, trivial⟩
        · refine ⟨.inl rfl, ?_⟩
          have hE2 : wrJ L d k = wrJ L d (k + 1) := by
            rw [hun]; unfold doF; rw [if_neg he]
          refine ⟨trivial, (k + 1, true), [0, 1, 2, 3, 4], by show k + 1 ≤ L.length; omega, by show L.length - (k + 1) < L.length - k; omega, ?_, ⟨.ptr 0 rfl, .same _ trivial, leI rfl, leI e1, trivial⟩⟩
          show LeH 4 _ _ (dkN (wrJ L d (k + 1)))
          rw [← hE2]
          exact lehK (n := 4) (by decide) (by decide) (by decide) ⟨⟨_, rfl, leDkA rfl rfl rfl rfl rfl⟩, ⟨_, rfl, leMap (by simp only [ren_fmV])⟩, ⟨_, rfl, leMap (by simp only [ren_fmV])⟩, ⟨_, rfl, .dead _⟩, ⟨_, rfl, leRowQ rfl (by simp only [ren_rowP])⟩, trivial⟩
      have f2 : ¬ (k : Int) < L.length := no c
      obtain rfl : k = L.length := by omega
      have hsy := sync_p (wrJ L d L.length)
      refine ⟨[0, 1, 2, 4], _, (by (try simp only [ren_fmV]); exact fmVFree _), (by (try simp only [ren_fmV]); exact fmVFree _), (by (try simp only [ren_rowP]); exact fun i _ => rowPFree _ i), at_h ?_ (hsy), ?_⟩
      · exact dkH_eq (by first | simp only [ren_fmV] | rfl) (by first | simp only [ren_fmV] | rfl) (by first | simp only [ren_rowP] | rfl)
      rintro r hh ⟨rfl, rfl⟩
      refine ⟨.inl rfl, ?_⟩
      have hs0 : errF (syncF (wrJ L d L.length)) (.rm intN) = 0 := if_neg (hkeep L L.length)
      have e9 : syncF (noteF (syncF (wrJ L d L.length)) (.rm intN)) = syncF (doF (syncF (wrJ L d L.length)) (.rm intN)) := by
        unfold doF
        rw [if_pos hs0]; rfl
      have hr0 := hrm (syncF (wrJ L d L.length)) (Nat.zero_le _)
      refine ⟨[0, 1, 5, 4], _, (by (try simp only [ren_fmV]); exact fmVFree _), (by (try simp only [ren_fmV]); exact fmVFree _), (by (try simp only [ren_rowP]); exact fun i _ => rowPFree _ i), at_h ?_ (hr0), ?_⟩
      · exact dkH_eq (by first | simp only [ren_fmV] | rfl) (by first | simp only [ren_fmV] | rfl) (by first | simp only [ren_rowP] | rfl)
      rintro r hh (⟨he, rfl, rfl⟩ | ⟨he, rfl, rfl⟩)
      rotate_left
      · exact absurd hs0 he
      refine ⟨.inl rfl, ?_⟩
      have hsy9 := sync_p (noteF (syncF (wrJ L d L.length)) (.rm intN))
      refine ⟨[0, 1, 5, 6], _, (by (try simp only [ren_fmV]); exact fmVFree _), (by (try simp only [ren_fmV]); exact fmVFree _), (by (try simp only [ren_rowP]); exact fun i _ => rowPFree _ i), at_h ?_ (hsy9), ?_⟩
      · exact dkH_eq (by first | simp only [ren_fmV] | rfl) (by first | simp only [ren_fmV] | rfl) (by first | simp only [ren_rowP] | rfl)
      rintro r hh ⟨rfl, rfl⟩
      refine ⟨.inl rfl, ?_⟩
      rw [e9]
      exact ⟨[0, 1, 2, 3, 6, 7], dkT (syncF (doF (syncF (wrJ L d L.length)) (.rm intN))), .top, lehK (n := 4) (by decide) (by decide) (by decide) ⟨⟨_, rfl, leDkA rfl rfl rfl rfl rfl⟩, ⟨_, rfl, leMap (by simp only [ren_fmV])⟩, ⟨_, rfl, .dead _⟩, ⟨_, rfl, .dead _⟩, ⟨_, rfl, leRowQ rfl (by simp only [ren_rowP])⟩, ⟨_, rfl, leMap (by simp only [ren_fmV])⟩, trivial⟩, .top _, hyes⟩
  · have hW : W = false := by
      cases W with
      | false => rfl
      | true => cases c
    rw [hW, if_neg (by decide)] at hyes
    have hl0 := fit_len hd
    have hs0 : errF d (.rm intN) = 0 := if_neg ((by rw [hG]; exact f1))
    have e9 : syncF (noteF d (.rm intN)) = syncF (doF d (.rm intN)) := by
      unfold doF
      rw [if_pos hs0]; rfl
    have hr0 := hrm d (by omega)
    refine ⟨[0, 1, 2, 3], _, (by (try simp only [ren_fmV]); exact fmVFree _), (by (try simp only [ren_fmV]); exact fmVFree _), (by (try simp only [ren_rowP]); exact fun i _ => rowPFree _ i), at_h ?_ (hr0), ?_⟩
    · exact dkH_eq (by first | simp only [ren_fmV] | rfl) (by first | simp only [ren_fmV] | rfl) (by first | simp only [ren_rowP] | rfl)
    rintro r hh (⟨he, rfl, rfl⟩ | ⟨he, rfl, rfl⟩)
    rotate_left
    · exact absurd hs0 he
    refine ⟨.inl rfl, ?_⟩
    have hsy9 := sync_p (noteF d (.rm intN))
    refine ⟨[0, 1, 2, 5], _, (by (try simp only [ren_fmV]); exact fmVFree _), (by (try simp only [ren_fmV]); exact fmVFree _), (by (try simp only [ren_rowP]); exact fun i _ => rowPFree _ i), at_h ?_ (hsy9), ?_⟩
    · exact dkH_eq (by first | simp only [ren_fmV] | rfl) (by first | simp only [ren_fmV] | rfl) (by first | simp only [ren_rowP] | rfl)
    rintro r hh ⟨rfl, rfl⟩
    refine ⟨.inl rfl, ?_⟩
    rw [e9]
    exact ⟨[0, 1, 2, 3, 5, 6], dkT (syncF (doF d (.rm intN))), .top, lehK (n := 4) (by decide) (by decide) (by decide) ⟨⟨_, rfl, leDkA rfl rfl rfl rfl rfl⟩, ⟨_, rfl, leMap (by simp only [ren_fmV])⟩, ⟨_, rfl, .dead _⟩, ⟨_, rfl, .dead _⟩, ⟨_, rfl, leRowQ rfl (by simp only [ren_rowP])⟩, ⟨_, rfl, leMap (by simp only [ren_fmV])⟩, trivial⟩, .top _, hyes⟩
end
end Go.Proofs.YtflclafbieokiaaGreatDoor.Jr

/-
  The journal, walked: Load; the laws' own functions.
-/
set_option linter.unusedVariables false
set_option linter.unusedSectionVars false
set_option linter.unusedSimpArgs false
set_option maxRecDepth 10000
namespace Go.Proofs.YtflclafbieokiaaGreatDoor.Jr
open Go AL Us Dk Sh
theorem without_snoc (l : List Fl) (F : Fl) : withoutR intN (l ++ [F]) = if F.path = intN then withoutR intN l else withoutR intN l ++ [F] := by
  unfold withoutR
  rw [List.filter_append]
  split
  · rename_i h
    rw [List.filter_cons_of_neg (by simp [h])]
    simp
  · rename_i h
    have : List.filter (fun f => decide (f.path ≠ intN)) [F] = [F] := List.filter_cons_of_pos (p := fun f : Fl => decide (f.path ≠ intN)) (decide_eq_true h)
    rw [this]
theorem without_le (s : ByteArray) (l : List Fl) : (withoutR s l).length ≤ l.length := List.length_filter_le _ _
def smallF (l : List Fl) : Prop := (∀ f ∈ l.take 9, f.data.length ≤ 100) ∧ l.length ≤ 8
instance (l : List Fl) : Decidable (smallF l) := by unfold smallF; infer_instance
theorem small_all {l : List Fl} (h : smallF l) : ∀ f ∈ l, f.data.length ≤ 100 := fun f hf => h.1 f (by rw [List.take_of_length_le (by have := h.2; omega)]; exact hf)
def laidJ (l : List Fl) (room : Int) : DkF := syncF (wrJ l (newF room) l.length)
section
variable [Globs]

set_option maxHeartbeats 1000000 in
theorem files_j (d : DkF) (L : List Fl) (hL : RelF d.now L) (hk : ∀ p ∈ d.now, p.1.size ≤ 40 ∧ p.2.length ≤ 140737488355328) (hl : d.now.length ≤ 100000) :
    ACalls Tryz.prog 17 [.ptr 0 0] (dkH d) (fun r h => r = flsV L ∧ h = dkH d) := by
  have h1 := list_p d hL.keys (fun p hp => Nat.le_trans (hk p hp).1 (by decide)) (by omega)
  have h2 : ∀ k, k < L.length → ACalls Tryz.prog 25 [.ptr 0 0, str (L.getD k fl0).path] (dkH d) (fun r h => r = .tup 2 (pair (.roI .u8 (L.getD k fl0).data) (bool true)) ∧ h = dkH d) := fun k hk' => by
    have hg := rel_file hL hk'
    have := get_ro d (L.getD k fl0).path fun v hv => by
      have : (_, v) ∈ d.now := (getF_mem hL.keys).1 hv
      exact (hk _ this).2
    rw [hg] at this
    exact this
  have hll := rel_len hL
  have hna : ∀ ns, NamesOf d.now ns → ns = L.map Fl.path := fun ns h => names_are hL h
  refine rcalls Tryz.func17 rfl (by decide) ?_
  refine ⟨[0, 1, 2, 3], _, (by (try simp only [ren_fmV]); exact fmVFree _), (by (try simp only [ren_fmV]); exact fmVFree _), (by (try simp only [ren_rowP]); exact fun i _ => rowPFree _ i), at_h ?_ (h1), ?_⟩
  · exact dkH_eq (by first | simp only [ren_fmV] | rfl) (by first | simp only [ren_fmV] | rfl) (by first | simp only [ren_rowP] | rfl)
  rintro r hh ⟨ns, hns, rfl, rfl⟩
  refine ⟨.inl rfl, ?_⟩
  have hns := hna ns hns
  have hnl : ns.length = L.length := by rw [hns, List.length_map]
  have hng : ∀ k, k < L.length → ns.getD k ByteArray.empty = (L.getD k fl0).path := fun k hk => by
    rw [hns, List.getD_eq_getElem?_getD, List.getD_eq_getElem?_getD, List.getElem?_map, List.getElem?_eq_getElem hk]; rfl
  clear hns hna
  refine ⟨Nat, fun k => [(0, .ptr 0 0), (3, .own 4 0 k 2), (4, namesV ns), (5, int .i64 k)], fun k => dkH d ++ [.row (k * 2) (rowF (L.take k))], fun k => k ≤ L.length, fun k => L.length - k,
    ⟨0, [0, 1, 2, 3, 4], Nat.zero_le _, ?_, ?_⟩, ?_⟩
  · exact leh_relN (by decide) ⟨⟨_, rfl, leDkL rfl rfl rfl rfl rfl⟩, ⟨_, rfl, leMap (by simp only [ren_fmV])⟩, ⟨_, rfl, leMap (by simp only [ren_fmV])⟩, ⟨_, rfl, leRowQ rfl (by simp only [ren_rowP])⟩, trivial⟩ ⟨.inr ⟨Nat.le_refl 4, .inr (.inr ⟨_, rfl⟩)⟩, trivial⟩
  · exact ⟨.ptr 0 rfl, .nil _ _ (by decide), .same _ trivial, leI rfl, trivial⟩
  intro k hk
  have hk : k ≤ L.length := hk
  have e1 : IntKind.i64.wrap ((k : Int) + 1) = ((k + 1 : Nat) : Int) := by rw [w64 (by omega) (by omega)]; omega
  refine ⟨fun c => ?_, fun c => ?_⟩
  · have f1 : (k : Int) < ns.length := yes c
    have hlt : k < L.length := by omega
    have h2 := h2 k hlt
    have hng := hng k hlt
    have hts := take_succ_fl hlt
    generalize L.getD k fl0 = F at *
    have hlk : (L.take k).length = k := by rw [List.length_take]; omega
    have hold := fun {i : Nat} (h : i < k * 2) => rowF_old (L.take k) F (i := i) (by omega)
    have hnew := fun {i : Nat} (h : i < 2) => rowF_new (L.take k) F h
    rw [hlk] at hnew
    have hng2 : ∀ j, j = k → ns.getD j ByteArray.empty = F.path := fun j e => by rw [e]; exact hng
    have h2' : ∀ X, X = F.path → ACalls Tryz.prog 25 [.ptr 0 0, str X] (dkH d) (fun r h => r = .tup 2 (pair (.roI .u8 F.data) (bool true)) ∧ h = dkH d) := fun X e => by rw [e]; exact h2
    refine ⟨⟨by omega, by omega⟩, ?_⟩
    refine ⟨[0, 1, 2, 3], _, (by (try simp only [ren_fmV]); exact fmVFree _), (by (try simp only [ren_fmV]); exact fmVFree _), (by (try simp only [ren_rowP]); exact fun i _ => rowPFree _ i), at_h ?_ (h2' _ ((congrArg (fun j => ns.getD j ByteArray.empty) (by omega)).trans hng)), ?_⟩
    · exact dkH_eq (by first | simp only [ren_fmV] | rfl) (by first | simp only [ren_fmV] | rfl) (by first | simp only [ren_rowP] | rfl)
    rintro r hh ⟨rfl, rfl⟩
    refine ⟨.inl rfl, ?_⟩
    refine ⟨⟨by omega, by omega⟩, ?_⟩
    refine ⟨rfl, fun i _ => rowCell1 (L.take k) i, Nat.le_refl 2, by show (k + 1) * 40 ≤ _; omega, fun i hi => ?_, rowF (L.take k ++ [F]), fun i hi => hold hi, fun i hi => ?_, ?_⟩
    · match i, hi with
      | 0, _ => rfl
      | 1, _ => rfl
    · show rowF (L.take k ++ [F]) (k * 2 + i) = _
      rw [hnew (by omega)]
      match i, hi with
      | 0, _ => exact congrArg str (hng2 _ (by omega)).symm
      | 1, _ => rfl
    refine ⟨trivial, k + 1, [0, 1, 2, 3, 6], by show k + 1 ≤ L.length; omega, by show L.length - (k + 1) < L.length - k; omega, leh_rel (Nat.le_of_ble_eq_true rfl) (first4 rfl rfl rfl rfl) (by decide)
      ⟨⟨_, rfl, leDkL rfl rfl rfl rfl rfl⟩, ⟨_, rfl, leMap (by simp only [ren_fmV])⟩, ⟨_, rfl, leMap (by simp only [ren_fmV])⟩, ⟨_, rfl, leRowQ rfl (by simp only [ren_rowP])⟩, ⟨_, rfl, ?_⟩, trivial⟩,
      ⟨.ptr 0 rfl, leOwn rfl rfl rfl, .same _ trivial, leI e1, trivial⟩⟩
    show LeO _ _ _ (.row ((k + 1) * 2) (rowF (L.take (k + 1))))
    rw [hts]
    exact .row _ _ _ _ (Nat.le_refl _) fun i hi => .same _ (rowFree _ i)
  · have f1 : ¬ (k : Int) < ns.length := no c
    have eT : L.take k = L := List.take_of_length_le (by omega)
    exact ⟨[0, 1, 2, 3], dkH d, flsV L, lehDk rfl rfl rfl rfl rfl rfl rfl rfl, .seen (.giveR (rowF (L.take k)) rfl (by simp) (by omega) (fun i hi => by rw [Nat.zero_add]; exact .same _ (rowFree _ i)) fun i hi => rowFree _ i) (vrsU (l := L) (by omega) fun i hi => by rw [eT]), rfl, rfl⟩

set_option maxHeartbeats 1000000 in
theorem load_p (d : DkF) (L : List Fl) (hL : RelF d.now L) (hk : ∀ p ∈ d.now, p.1.size ≤ 40 ∧ p.2.length ≤ 140737488355328) (hl : d.now.length ≤ 100000) :
    ACalls Tryz.prog 18 [.ptr 0 0] (dkH d) (fun r h => r = flsV (withoutR intN L) ∧ h = dkH d) := by
  have h1 := list_p d hL.keys (fun p hp => Nat.le_trans (hk p hp).1 (by decide)) (by omega)
  have h2 : ∀ k, k < L.length → ACalls Tryz.prog 25 [.ptr 0 0, str (L.getD k fl0).path] (dkH d) (fun r h => r = .tup 2 (pair (.roI .u8 (L.getD k fl0).data) (bool true)) ∧ h = dkH d) := fun k hk' => by
    have hg := rel_file hL hk'
    have := get_ro d (L.getD k fl0).path fun v hv => by
      have : (_, v) ∈ d.now := (getF_mem hL.keys).1 hv
      exact (hk _ this).2
    rw [hg] at this
    exact this
  have hll := rel_len hL
  have hna : ∀ ns, NamesOf d.now ns → ns = L.map Fl.path := fun ns h => names_are hL h
  refine rcalls Tryz.func18 rfl (by decide) ?_
  refine ⟨[0, 1, 2, 3], _, (by (try simp only [ren_fmV]); exact fmVFree _), (by (try simp only [ren_fmV]); exact fmVFree _), (by (try simp only [ren_rowP]); exact fun i _ => rowPFree _ i), at_h ?_ (h1), ?_⟩
  · exact dkH_eq (by first | simp only [ren_fmV] | rfl) (by first | simp only [ren_fmV] | rfl) (by first | simp only [ren_rowP] | rfl)
  rintro r hh ⟨ns, hns, rfl, rfl⟩
  refine ⟨.inl rfl, ?_⟩
  have hns := hna ns hns
  have hnl : ns.length = L.length := by rw [hns, List.length_map]
  have hng : ∀ k, k < L.length → ns.getD k ByteArray.empty = (L.getD k fl0).path := fun k hk => by
    rw [hns, List.getD_eq_getElem?_getD, List.getD_eq_getElem?_getD, List.getElem?_map, List.getElem?_eq_getElem hk]; rfl
  clear hns hna
  have hwl := fun k => without_le intN (L.take k)
  refine ⟨Nat × List Fl, fun x => [(0, .ptr 0 0), (3, .own 4 0 x.2.length 2), (9, namesV ns), (10, int .i64 (ns.length : Int)), (11, int .i64 (x.1 : Int))], fun x => dkH d ++ [.row (x.2.length * 2) (rowF x.2)], fun x => x.1 ≤ L.length ∧ x.2 = withoutR intN (L.take x.1), fun x => L.length - x.1,
    ⟨(0, []), [0, 1, 2, 3, 4], ⟨Nat.zero_le _, by rw [List.take_zero]; rfl⟩, ?_, ?_⟩, ?_⟩
  · exact leh_relN (by decide) ⟨⟨_, rfl, leDkL rfl rfl rfl rfl rfl⟩, ⟨_, rfl, leMap (by simp only [ren_fmV])⟩, ⟨_, rfl, leMap (by simp only [ren_fmV])⟩, ⟨_, rfl, leRowQ rfl (by simp only [ren_rowP])⟩, trivial⟩ ⟨.inr ⟨Nat.le_refl 4, .inr (.inr ⟨_, rfl⟩)⟩, trivial⟩
  · exact ⟨.ptr 0 rfl, .nil _ _ (by decide), .same _ trivial, leI rfl, leI rfl, trivial⟩
  rintro ⟨k, A⟩ ⟨hk, hA⟩
  have hk : k ≤ L.length := hk
  have hA : A = withoutR intN (L.take k) := hA
  have e1 : IntKind.i64.wrap ((k : Int) + 1) = ((k + 1 : Nat) : Int) := by rw [w64 (by omega) (by omega)]; omega
  refine ⟨fun c => ?_, fun c => ?_⟩
  · have f1 : (k : Int) < ns.length := yes c
    have hlt : k < L.length := by omega
    have h2 := h2 k hlt
    have hng := hng k hlt
    have hts := take_succ_fl hlt
    have hlk : (L.take k).length = k := by rw [List.length_take]; omega
    have hwk := hwl k
    have hsn := without_snoc (L.take k) (L.getD k fl0)
    rw [← hts] at hsn
    generalize L.getD k fl0 = F at *
    rw [← hA] at hsn hwk
    have hold := fun {i : Nat} (h : i < A.length * 2) => rowF_old A F (i := i) h
    have hnew := fun {i : Nat} (h : i < 2) => rowF_new A F h
    have hng2 : ∀ j, j = k → ns.getD j ByteArray.empty = F.path := fun j e => by rw [e]; exact hng
    have h2' : ∀ X, X = F.path → ACalls Tryz.prog 25 [.ptr 0 0, str X] (dkH d) (fun r h => r = .tup 2 (pair (.roI .u8 F.data) (bool true)) ∧ h = dkH d) := fun X e => by rw [e]; exact h2
    refine ⟨⟨by omega, by omega⟩, ?_⟩
    refine ⟨[0, 1, 2, 3], _, (by (try simp only [ren_fmV]); exact fmVFree _), (by (try simp only [ren_fmV]); exact fmVFree _), (by (try simp only [ren_rowP]); exact fun i _ => rowPFree _ i), at_h ?_ (h2' _ ((congrArg (fun j => ns.getD j ByteArray.empty) (by omega)).trans hng)), ?_⟩
    · exact dkH_eq (by first | simp only [ren_fmV] | rfl) (by first | simp only [ren_fmV] | rfl) (by first | simp only [ren_rowP] | rfl)
    rintro r hh ⟨rfl, rfl⟩
    refine ⟨.inl rfl, ?_⟩
    refine ⟨fun c => ?_, fun c => ?_⟩
    · have f3 : ¬ F.path = intN := fun h => yes c ((hng2 _ (by omega)).trans h)
      rw [if_neg f3] at hsn
      refine ⟨rfl, fun i _ => rowCell1 A i, Nat.le_refl 2, by show (A.length + 1) * 40 ≤ _; omega, fun i hi => ?_, rowF (A ++ [F]), fun i hi => hold hi, fun i hi => ?_, ?_⟩
      · match i, hi with
        | 0, _ => rfl
        | 1, _ => rfl
      · show rowF (A ++ [F]) (A.length * 2 + i) = _
        rw [hnew (by omega)]
        match i, hi with
        | 0, _ => exact congrArg str (hng2 _ (by omega)).symm
        | 1, _ => rfl
      refine ⟨trivial, (k + 1, A ++ [F]), [0, 1, 2, 3, 6], ⟨by show k + 1 ≤ L.length; omega, hsn.symm⟩, by show L.length - (k + 1) < L.length - k; omega, ?_, ?_⟩
      · exact leh_rel (Nat.le_of_ble_eq_true rfl) (first4 rfl rfl rfl rfl) (by decide)
          ⟨⟨_, rfl, leDkL rfl rfl rfl rfl rfl⟩, ⟨_, rfl, leMap (by simp only [ren_fmV])⟩, ⟨_, rfl, leMap (by simp only [ren_fmV])⟩, ⟨_, rfl, leRowQ rfl (by simp only [ren_rowP])⟩, ⟨_, rfl, .row _ _ _ _ (by rw [List.length_append, List.length_singleton]; exact Nat.le_refl _) fun i hi => .same _ (rowFree _ i)⟩, trivial⟩
      · exact ⟨.ptr 0 rfl, leOwn rfl rfl (by show _ = (A ++ [F]).length; rw [List.length_append, List.length_singleton]), .same _ trivial, leI rfl, leI e1, trivial⟩
    · have f3 : F.path = intN := Classical.byContradiction fun x => no c fun h => x ((hng2 _ (by omega)).symm.trans h)
      rw [if_pos f3] at hsn
      refine ⟨trivial, (k + 1, A), [0, 1, 2, 3, 4], ⟨by show k + 1 ≤ L.length; omega, hsn.symm⟩, by show L.length - (k + 1) < L.length - k; omega, ?_, ?_⟩
      · exact leh_rel (Nat.le_of_ble_eq_true rfl) (first4 rfl rfl rfl rfl) (by decide)
          ⟨⟨_, rfl, leDkL rfl rfl rfl rfl rfl⟩, ⟨_, rfl, leMap (by simp only [ren_fmV])⟩, ⟨_, rfl, leMap (by simp only [ren_fmV])⟩, ⟨_, rfl, leRowQ rfl (by simp only [ren_rowP])⟩, ⟨_, rfl, .row _ _ _ _ (Nat.le_refl _) fun i hi => .same _ (rowFree _ i)⟩, trivial⟩
      · exact ⟨.ptr 0 rfl, leOwn rfl rfl rfl, .same _ trivial, leI rfl, leI e1, trivial⟩
  · have f1 : ¬ (k : Int) < ns.length := no c
    have eT : L.take k = L := List.take_of_length_le (by omega)
    have hwk := hwl k
    rw [← hA] at hwk
    rw [eT] at hA
    exact ⟨[0, 1, 2, 3], dkH d, flsV (withoutR intN L), lehDk rfl rfl rfl rfl rfl rfl rfl rfl, .seen (.giveR (rowF A) rfl (by simp) (by omega) (fun i hi => by rw [Nat.zero_add]; exact .same _ (rowFree _ i)) fun i hi => rowFree _ i) (vrsU (l := withoutR intN L) (by rw [hA]) fun i hi => by rw [hA]), rfl, rfl⟩

theorem small_j (l : List Fl) : ACalls Tryz.prog 9 [flsV l] [] (fun r h => r = bool (decide (smallF l)) ∧ h = []) := by
  refine rcalls Tryz.func9 rfl (by decide) ?_
  refine ⟨Nat, fun k => [(0, flsV l), (3, int .i64 (k : Int))], fun _ => [], fun k => k ≤ l.length ∧ k ≤ 9 ∧ ∀ f ∈ l.take k, f.data.length ≤ 100, fun k => 9 - k,
    ⟨0, [], ⟨Nat.zero_le _, Nat.zero_le _, fun e he => by simp at he⟩, lehN _, ⟨.same _ trivial, leI rfl, trivial⟩⟩, ?_⟩
  rintro k ⟨hk, h60, hkk⟩
  have e1 : IntKind.i64.wrap ((k : Int) + 1) = ((k + 1 : Nat) : Int) := by rw [w64 (by omega) (by omega)]; omega
  have fin : (∀ f ∈ l.take 9, f.data.length ≤ 100) → LeV [] [] (bool (decide ((l.length : Int) ≤ 8))) (bool (decide (smallF l))) := fun h => AL.leB (decide_eq_decide.2 ⟨fun g => ⟨h, by omega⟩, fun g => by have := g.2; omega⟩)
  refine ⟨fun c => ?_, fun c => ?_⟩
  · have f1 : (k : Int) < l.length := yes c
    refine ⟨fun c => ?_, fun c => ?_⟩
    · have f2 : (k : Int) < 9 := yes c
      have ht := take_succ_fl (l := l) (k := k) (by omega)
      have h6 : ∀ c, c < 2 → rowF l ((k : Int).toNat * 2 + c) = flC (l.getD k fl0) c := fun c hc => by rw [Int.toNat_natCast]; exact rowF_at l hc
      have hin : l.getD k fl0 ∈ l.take 9 := by
        have hlt : k < l.length := by omega
        have e : (l.take 9)[k]? = l[k]? := List.getElem?_take_of_lt (by omega)
        rw [List.getElem?_eq_getElem hlt] at e
        rw [List.getD_eq_getElem?_getD, List.getElem?_eq_getElem hlt]
        exact List.mem_of_getElem? e
      generalize l.getD k fl0 = E at *
      refine ⟨⟨by omega, by omega⟩, flC E, fun c hc => h6 c hc, ?_⟩
      refine ⟨fun c => ?_, fun c => ?_⟩
      · have f3 : (E.data.length : Int) > 100 := yes c
        exact ⟨[], [], _, lehN _, leFP fun h => by have := h.1 E hin; omega, rfl, rfl⟩
      have f3 : ¬ (E.data.length : Int) > 100 := no c
      refine ⟨trivial, k + 1, [], ⟨by omega, by omega, fun e he => ?_⟩, by show 9 - (k + 1) < 9 - k; omega, lehN _, ⟨.same _ trivial, leI e1, trivial⟩⟩
      rw [ht] at he
      rcases List.mem_append.1 he with he | he
      · exact hkk e he
      · rw [List.mem_singleton.1 he]; omega
    · have f2 : ¬ (k : Int) < 9 := no c
      exact ⟨[], [], _, lehN _, fin (by rw [show (9 : Nat) = k by omega]; exact hkk), rfl, rfl⟩
  · have f1 : ¬ (k : Int) < l.length := no c
    exact ⟨[], [], _, lehN _, fin (by rw [List.take_of_length_le (by omega)] at hkk ⊢; exact hkk), rfl, rfl⟩

set_option maxHeartbeats 1000000 in
theorem laid_p (l : List Fl) (room : Int) (hs : smallF l) (hb : okBytes l) : ACalls Tryz.prog 10 [flsV l, int .i64 room] [] (fun r h => r = .ptr 0 0 ∧ h = dkH (laidJ l room)) := by
  have h0 := new_p room
  have hsm := small_all hs
  have h8 := hs.2
  have hfw := fit_wr (L := l) (fit_new 100 room) fun f hf => ⟨hsm f hf, hb f hf⟩
  unfold laidJ
  refine rcalls Tryz.func10 rfl (by decide) ?_
  refine ⟨[], _, h0, ?_⟩
  rintro r hh ⟨rfl, rfl⟩
  refine ⟨.inl rfl, ?_⟩
  refine ⟨Nat, fun k => [(0, flsV l), (5, .ptr 0 0), (6, int .i64 (k : Int))], fun k => dkH (wrJ l (newF room) k), fun k => k ≤ l.length, fun k => l.length - k,
    ⟨0, [0, 1, 2, 3], Nat.zero_le _, ?_, ?_⟩, ?_⟩
  · show LeH 0 _ _ (dkH (newF room))
    exact leh_relG (by decide) ⟨.inl ⟨_, rfl, leDkL rfl rfl rfl rfl rfl⟩, .inl ⟨_, rfl, leMap (by simp only [ren_fmV])⟩, .inl ⟨_, rfl, leMap (by simp only [ren_fmV])⟩, .inl ⟨_, rfl, leRowQ rfl (by simp only [ren_rowP])⟩, trivial⟩
  · exact ⟨.same _ trivial, .ptr 0 rfl, leI rfl, trivial⟩
  intro k hk
  have hk : k ≤ l.length := hk
  have e1 : IntKind.i64.wrap ((k : Int) + 1) = ((k + 1 : Nat) : Int) := by rw [w64 (by omega) (by omega)]; omega
  have hfk := hfw k hk
  have hs0 := fit_size hfk
  have hl0 := fit_len hfk
  have hsy := sync_p (wrJ l (newF room) k)
  refine ⟨fun c => ?_, fun c => ?_⟩
  · have f1 : (k : Int) < l.length := yes c
    refine ⟨fun c => ?_, fun c => ?_⟩
    · have h6 : ∀ c, c < 2 → rowF l ((k : Int).toNat * 2 + c) = flC (l.getD k fl0) c := fun c hc => by rw [Int.toNat_natCast]; exact rowF_at l hc
      have hmem := hsm _ (get_mem (l := l) (k := k) (by omega))
      have hun : wrJ l (newF room) (k + 1) = doF (wrJ l (newF room) k) (.wr (l.getD k fl0).path (l.getD k fl0).data) := rfl
      generalize l.getD k fl0 = F at *
      have hw1 := write_p (wrJ l (newF room) k) F.path F.data (by omega) (by omega) (by omega)
      have b1 : 0 ≤ (k : Int) ∧ (k : Int) < l.length := ⟨by omega, f1⟩
      refine .inr ⟨11, by decide +kernel, ?_⟩
      refine ⟨_, rfl, ?_⟩
      refine ⟨_, rfl, ?_⟩
      refine ⟨_, rfl, ?_⟩
      refine ⟨_, ⟨b1, flC F, fun c hc => h6 c hc, rfl⟩, ?_⟩
      refine ⟨_, rfl, ?_⟩
      refine ⟨_, rfl, ?_⟩
      refine ⟨_, rfl, ?_⟩
      refine ⟨_, rfl, ?_⟩
      refine ⟨_, ⟨b1, flC F, fun c hc => h6 c hc, rfl⟩, ?_⟩
      refine ⟨_, rfl, ?_⟩
      refine ⟨_, rfl, ?_⟩
      refine ⟨[0, 1, 2, 3], _, (by (try simp only [ren_fmV]); exact fmVFree _), (by (try simp only [ren_fmV]); exact fmVFree _), (by (try simp only [ren_rowP]); exact fun i _ => rowPFree _ i), at_h ?_ (hw1), ?_⟩
      · exact dkH_eq (by first | simp only [ren_fmV] | rfl) (by first | simp only [ren_fmV] | rfl) (by first | simp only [ren_rowP] | rfl)
      rintro r hh (⟨he, rfl, rfl⟩ | ⟨he, rfl, rfl⟩)
      · refine ⟨.inl rfl, ?_⟩
        have hE2 : noteF (wrJ l (newF room) k) (.wr F.path F.data) = wrJ l (newF room) (k + 1) := by
          rw [hun]; unfold doF; rw [if_pos he]; rfl
        refine ⟨trivial, k + 1, [0, 1, 2, 4], by show k + 1 ≤ l.length; omega, by show l.length - (k + 1) < l.length - k; omega, ?_, ⟨.same _ trivial, .ptr 0 rfl, leI e1, trivial⟩⟩
        show LeH 0 _ _ (dkH (wrJ l (newF room) (k + 1)))
        rw [← hE2]
        exact leh_relG (by decide) ⟨.inl ⟨_, rfl, leDkL rfl rfl rfl rfl rfl⟩, .inl ⟨_, rfl, leMap (by simp only [ren_fmV])⟩, .inl ⟨_, rfl, leMap (by simp only [ren_fmV])⟩, .inl ⟨_, rfl, leRowQ rfl (by simp only [ren_rowP])⟩, trivial⟩
      · refine ⟨.inl rfl, ?_⟩
        have hE2 : wrJ l (newF room) k = wrJ l (newF room) (k + 1) := by
          rw [hun]; unfold doF; rw [if_neg he]
        refine ⟨trivial, k + 1, [0, 1, 2, 3], by show k + 1 ≤ l.length; omega, by show l.length - (k + 1) < l.length - k; omega, ?_, ⟨.same _ trivial, .ptr 0 rfl, leI e1, trivial⟩⟩
        show LeH 0 _ _ (dkH (wrJ l (newF room) (k + 1)))
        rw [← hE2]
        exact leh_relG (by decide) ⟨.inl ⟨_, rfl, leDkL rfl rfl rfl rfl rfl⟩, .inl ⟨_, rfl, leMap (by simp only [ren_fmV])⟩, .inl ⟨_, rfl, leMap (by simp only [ren_fmV])⟩, .inl ⟨_, rfl, leRowQ rfl (by simp only [ren_rowP])⟩, trivial⟩
    · have f2 : ¬ (k : Int) < 12 := no c
      omega
  · have f1 : ¬ (k : Int) < l.length := no c
    obtain rfl : k = l.length := by omega
    refine ⟨[0, 1, 2, 3], _, (by (try simp only [ren_fmV]); exact fmVFree _), (by (try simp only [ren_fmV]); exact fmVFree _), (by (try simp only [ren_rowP]); exact fun i _ => rowPFree _ i), at_h ?_ (hsy), ?_⟩
    · exact dkH_eq (by first | simp only [ren_fmV] | rfl) (by first | simp only [ren_fmV] | rfl) (by first | simp only [ren_rowP] | rfl)
    rintro r hh ⟨rfl, rfl⟩
    refine ⟨.inl rfl, ?_⟩
    exact ⟨[0, 1, 4, 3], dkH (syncF (wrJ l (newF room) l.length)), .ptr 0 0, leh_relG (by decide) ⟨.inl ⟨_, rfl, leDkL rfl rfl rfl rfl rfl⟩, .inl ⟨_, rfl, leMap (by simp only [ren_fmV])⟩, .inl ⟨_, rfl, leMap (by simp only [ren_fmV])⟩, .inl ⟨_, rfl, leRowQ rfl (by simp only [ren_rowP])⟩, trivial⟩, .ptr 0 rfl, rfl, rfl⟩
end
end Go.Proofs.YtflclafbieokiaaGreatDoor.Jr

/-
  The journal, walked: the laws' own functions: with, and what a recovery that is broken off writes.
-/
set_option linter.unusedVariables false
set_option linter.unusedSectionVars false
set_option linter.unusedSimpArgs false
set_option maxRecDepth 10000
namespace Go.Proofs.YtflclafbieokiaaGreatDoor.Jr
open Go AL Us Dk Sh

theorem rowN {o : List Fl} {F : Fl} {n : Nat} (hn : o.length = n) : (∀ i, i < n * 2 → rowF (o ++ [F]) i = rowF o i) ∧ ∀ i, i < 2 → rowF (o ++ [F]) (n * 2 + i) = flC F i := by
  subst hn
  exact ⟨fun i hi => rowF_old o F hi, fun i hi => rowF_new o F hi⟩
theorem len1 (o : List Fl) (F : Fl) : (o ++ [F]).length = o.length + 1 := by rw [List.length_append, List.length_singleton]
section
variable [Globs]

end
end Go.Proofs.YtflclafbieokiaaGreatDoor.Jr

/-
  The contract of the document's archives.
-/
set_option linter.unusedVariables false
set_option linter.unusedSectionVars false
namespace Go.Proofs.YtflclafbieokiaaGreatDoor.Us
open Go AL Oc Pa Spl Hd

theorem nodup_paths (l : List Fl) : ¬ dupF l ↔ ∀ a, a < l.length → ∀ b, b < a → (l.getD a fl0).path ≠ (l.getD b fl0).path := by
  unfold dupF
  rw [Classical.not_not]
  unfold List.Nodup
  rw [List.pairwise_iff_getElem]
  have get : ∀ i, i < l.length → ∀ h, (l.map Fl.path)[i]'h = (l.getD i fl0).path := fun i hi h => by
    rw [List.getElem_map, List.getD_eq_getElem?_getD, List.getElem?_eq_getElem hi]; rfl
  constructor
  · intro h a ha b hb e
    have := h b a (by rw [List.length_map]; omega) (by rw [List.length_map]; exact ha) hb
    rw [get b (by omega), get a ha] at this
    exact this e.symm
  · intro h i j hi hj hij e
    rw [List.length_map] at hi hj
    rw [get i hi, get j hj] at e
    exact h j hj i hij e.symm
section
variable [Globs]

theorem less {P : Program} {f : FuncId} {xs : List AV} {hp : List AO} {R R' : AV → List AO → Prop} (hc : ACalls P f xs hp R) (hr : ∀ r h', R r h' → ∃ l h1 b, LeH hp.length h' l h1 ∧ LeV h' l r b ∧ R' b h1) : ACalls P f xs hp R' :=
  ⟨hc.1, fun S0 L w vs hh hS hn hv => (hc.2 S0 L w vs hh hS hn hv).mono fun e w' ⟨v, r, h', L', h1, h2, h3, h4⟩ => by
    obtain ⟨l, h1', b, g1, g2, g3⟩ := hr _ _ h2
    exact ⟨v, b, h1', L'.view l, h1, g3, leh_rel h3 g1, LeV.den h3 (leh_seen h3 g1) g2 h4⟩⟩
theorem put_ro (s : ByteArray) (n : Int) (hs : s.size ≤ 9223372036854775805) : ACalls Tryz.prog 79 [str s, int .i64 n] [] (fun r h => r = .tup 2 (pair (.roI .u8 (headR s n)) (int .i64 (headE s n))) ∧ h = []) :=
  less (put_rhead s n hs) fun r h' ⟨e1, e2⟩ => by
    subst e1 e2
    exact ⟨[], [], _, lehN _, le_pair (.giveI (headR s n) rfl (by simp) (Nat.le_of_eq (Nat.zero_add _)) (by rw [List.drop_zero, List.take_length])) (leI rfl), rfl, rfl⟩

set_option maxHeartbeats 4000000 in
set_option maxRecDepth 10000 in
theorem uput_ref (l : List Fl) (hf : fitL l) (hs : okSizes l) : ACalls Tryz.prog 65 [flsV l] [] (UPutR l) := by
  obtain ⟨hl, hd⟩ := hf
  have hds := @data_succ l
  have hdl := data_le l
  have hnd := nodup_paths l
  have hat := fun (k : Nat) {c : Nat} (h : c < 2) => rowF_at l (k := k) h
  unfold UPutR
  refine rcalls Tryz.func65 rfl (by decide) ?_
  refine ⟨Nat, fun k => [(0, flsV l), (4, int .i64 (dataN (l.take k) : Nat)), (5, int .i64 k)], fun _ => [], fun k => k ≤ l.length, fun k => l.length - k,
    ⟨0, [], Nat.zero_le _, lehN _, ⟨.same _ trivial, leI rfl, leI rfl, trivial⟩⟩, ?_⟩
  intro k hk
  have hk : k ≤ l.length := hk
  have e1 : IntKind.i64.wrap ((k : Int) + 1) = ((k + 1 : Nat) : Int) := by rw [w64 (by omega) (by omega)]; omega
  refine ⟨fun c => ?_, fun c => ?_⟩
  · have f1 : (k : Int) < l.length := yes c
    have hds := hds (k := k) (by omega)
    have hle := hdl (k + 1)
    obtain ⟨F, hF⟩ : ∃ F, l.getD k fl0 = F := ⟨_, rfl⟩
    rw [hF] at hds
    have ek : (k : Int).toNat = k := by omega
    refine ⟨⟨by omega, by omega⟩, flC F, fun c hc => by rw [ek, hat k hc, hF], ?_⟩
    refine ⟨trivial, k + 1, [], by show k + 1 ≤ l.length; omega, by show l.length - (k + 1) < l.length - k; omega, lehN _, ⟨.same _ trivial, leI ?_, leI e1, trivial⟩⟩
    rw [w64 (by omega) (by omega)]; omega
  have f1 : ¬ (k : Int) < l.length := no c
  obtain rfl : k = l.length := by omega
  rw [List.take_length]
  refine ⟨fun c => ?_, fun c => ?_⟩
  · have := yes c; omega
  refine ⟨fun c => ?_, fun c => ?_⟩
  · have := yes c; omega
  have hbs := @body_succ l
  have hbad : ∀ f ∈ l, 0 ≤ (f.data.length : Int) ∧ (f.data.length : Int) ≤ 4194304 → ¬ headE f.path f.data.length = 0 → putE l = 9 ∧ putR l = [] ∧ headE f.path f.data.length = 9 := fun f hm hb h => by
    have h9 : ¬ okSplit f.path := fun x => h (headE_iff.2 ⟨x, hb.1, hb.2⟩)
    have e9 : putE l = 9 := if_neg fun x => h9 (x f hm)
    refine ⟨e9, ?_, ?_⟩
    · unfold putR; rw [if_neg (by rw [e9]; decide)]
    · unfold headE; rw [if_pos h9]
  have hmem := fun {k : Nat} (h : k < l.length) => get_mem h
  have hbl : ∀ k, (∀ f ∈ l.take k, okF f) → (bodyR (l.take k)).length ≤ 4194304 + 400 * 1535 := fun k h => by
    have h1 := body_max h
    have h2 := data_le l k
    have h3 : (l.take k).length ≤ 400 := by rw [List.length_take]; omega
    omega
  refine ⟨Nat, fun k => [(0, flsV l), (6, .own 0 0 (bodyR (l.take k)).length 1), (7, int .i64 k)], fun k => [.ints .u8 (bodyR (l.take k))], fun k => k ≤ l.length ∧ ∀ f ∈ l.take k, okF f, fun k => l.length - k,
    ⟨0, [0], ⟨Nat.zero_le _, fun f hf => by simp at hf⟩, lehE (Nat.le_refl _) .u8, ⟨.same _ trivial, .nil _ _ (by decide), leI rfl, trivial⟩⟩, ?_⟩
  rintro k ⟨hk, hall⟩
  have e1 : IntKind.i64.wrap ((k : Int) + 1) = ((k + 1 : Nat) : Int) := by rw [w64 (by omega) (by omega)]; omega
  refine ⟨fun c => ?_, fun c => ?_⟩
  · have f1 : (k : Int) < l.length := yes c
    have hbs := hbs (k := k) (by omega)
    have hm := hmem (k := k) (by omega)
    have ek : (k : Int).toNat = k := by omega
    have hat : ∀ c, c < 2 → rowF l ((k : Int).toNat * 2 + c) = flC (l.getD k fl0) c := fun c hc => by rw [ek]; exact hat k hc
    have hfl := hs _ hm
    have hdm := data_mem hm
    have htk := take_succ_fl (l := l) (k := k) (by omega)
    have hbl1 := hbl (k + 1)
    have hbl0 := hbl k hall
    generalize l.getD k fl0 = F at *
    have h1 := put_ro F.path F.data.length (by omega)
    have h2 := round_ref (F.data.length : Int) (by omega)
    rw [rndZ_nat] at h2
    have bI : 0 ≤ (k : Int) ∧ (k : Int) < l.length := ⟨by omega, f1⟩
    refine .inr ⟨16, by decide +kernel, ?_⟩
    refine ⟨_, rfl, ?_⟩
    refine ⟨_, rfl, ?_⟩
    refine ⟨_, ⟨bI, flC F, fun c hc => hat c hc, rfl⟩, ?_⟩
    refine ⟨_, rfl, ?_⟩
    refine ⟨_, rfl, ?_⟩
    refine ⟨_, rfl, ?_⟩
    refine ⟨_, rfl, ?_⟩
    refine ⟨_, ⟨bI, flC F, fun c hc => hat c hc, rfl⟩, ?_⟩
    refine ⟨_, rfl, ?_⟩
    refine ⟨_, rfl, ?_⟩
    refine ⟨_, rfl, ?_⟩
    refine ⟨_, ⟨[], _, h1, by rintro r h ⟨rfl, rfl⟩; exact ⟨.inl rfl, rfl, rfl⟩⟩, ?_⟩
    refine ⟨_, rfl, ?_⟩
    refine ⟨_, rfl, ?_⟩
    refine ⟨_, rfl, ?_⟩
    refine ⟨_, rfl, ?_⟩
    refine ⟨fun c2 => ?_, fun c2 => ?_⟩
    · have f2 : ¬ headE F.path F.data.length = 0 := yes c2
      obtain ⟨q1, q2, q3⟩ := hbad F hm (by omega) f2
      rw [q1, q2]
      exact ⟨[20], [.ints .u8 []], _, lehE (Nat.le_of_ble_eq_true rfl) .u8, le_pair (.nil _ _ (by decide)) (leI q3), rfl, rfl⟩
    have f2 : headE F.path F.data.length = 0 := Classical.byContradiction fun x => no c2 x
    have hokF : okF F := headE_iff.1 f2
    have hrl := head_len hokF
    have hrn := rnd_ge F.data.length
    have hr511 : rnd F.data.length ≤ F.data.length + 511 := by unfold rnd; omega
    have e2 : IntKind.i64.wrap (((rnd F.data.length : Nat) : Int) - (F.data.length : Int)) = ((rnd F.data.length - F.data.length : Nat) : Int) := by
      rw [w64 (by omega) (by omega)]; omega
    have hall' : ∀ f ∈ l.take (k + 1), okF f := by
      intro f hfm
      rw [htk] at hfm
      rcases List.mem_append.1 hfm with h | h
      · exact hall f h
      · rw [List.mem_singleton.1 h]; exact hokF
    have hbl1 := hbl1 hall'
    refine ⟨rfl, by show ((bodyR (l.take k)).length + _) * 1 ≤ _; omega, ?_⟩
    refine ⟨bI, flC F, fun c hc => hat c hc, ?_⟩
    refine ⟨by rw [List.length_append], by show ((bodyR (l.take k) ++ headR F.path F.data.length).length + F.data.length) * 1 ≤ _; rw [List.length_append]; omega, ?_⟩
    refine .inr ⟨15, by decide +kernel, ?_⟩
    refine ⟨_, rfl, ?_⟩
    refine ⟨_, rfl, ?_⟩
    refine ⟨_, rfl, ?_⟩
    refine ⟨_, ⟨bI, flC F, fun c hc => hat c hc, rfl⟩, ?_⟩
    refine ⟨_, rfl, ?_⟩
    refine ⟨_, rfl, ?_⟩
    refine ⟨_, rfl, ?_⟩
    refine ⟨_, ⟨[], _, h2, by rintro r h ⟨rfl, rfl⟩; exact ⟨.inl rfl, rfl, rfl⟩⟩, ?_⟩
    refine ⟨_, rfl, ?_⟩
    refine ⟨_, rfl, ?_⟩
    refine ⟨_, ⟨bI, flC F, fun c hc => hat c hc, rfl⟩, ?_⟩
    refine ⟨_, rfl, ?_⟩
    refine ⟨_, rfl, ?_⟩
    refine ⟨_, rfl, ?_⟩
    refine ⟨_, rfl, ?_⟩
    refine ⟨by simp only [List.length_append], ⟨by rw [e2]; omega, by rw [e2]; omega⟩, rfl, ?_, ?_⟩
    · show ((bodyR (l.take k) ++ headR F.path F.data.length ++ F.data).length + (List.replicate _ (0 : Int)).length) * 1 ≤ _
      rw [List.length_append, List.length_append, List.length_replicate, e2]; omega
    have hC : bodyR (l.take k) ++ headR F.path F.data.length ++ F.data ++ List.replicate (IntKind.i64.wrap (((rnd F.data.length : Nat) : Int) - (F.data.length : Int))).toNat 0 = bodyR (l.take (k + 1)) := by
      rw [hbs, e2]
      unfold fileR zer
      simp
    refine ⟨trivial, k + 1, [3], ⟨by omega, hall'⟩, by show l.length - (k + 1) < l.length - k; omega, leh1 rfl (leOint hC), ⟨.same _ trivial, leOwn rfl rfl ?_, leI e1, trivial⟩⟩
    rw [← hC]; simp only [List.length_append]
  have f1 : ¬ (k : Int) < l.length := no c
  obtain rfl : k = l.length := by omega
  have hb := hbl l.length hall
  have eT : l.take l.length = l := List.take_length
  rw [eT] at hb hall
  have hP : okP l := okP_of hall
  refine ⟨Nat, fun i => [(0, flsV l), (6, .own 0 0 (bodyR l).length 1), (10, int .i64 i)], fun _ => [.ints .u8 (bodyR l)], fun i => i ≤ l.length ∧ ∀ a, a < i → ∀ b, b < a → (l.getD a fl0).path ≠ (l.getD b fl0).path, fun i => l.length - i,
    ⟨0, [0], ⟨Nat.zero_le _, fun a ha => by omega⟩, leh1 rfl (leOint (by rw [eT])), ⟨.same _ trivial, leOwn rfl rfl (by rw [eT]), leI rfl, trivial⟩⟩, ?_⟩
  rintro i ⟨hi, hfree⟩
  have ei : IntKind.i64.wrap ((i : Int) + 1) = ((i + 1 : Nat) : Int) := by rw [w64 (by omega) (by omega)]; omega
  refine ⟨fun c => ?_, fun c => ?_⟩
  · have f2 : (i : Int) < l.length := yes c
    refine ⟨Nat, fun j => [(0, flsV l), (6, .own 0 0 (bodyR l).length 1), (10, int .i64 i), (11, int .i64 j)], fun _ => [.ints .u8 (bodyR l)], fun j => j ≤ i ∧ ∀ b, b < j → (l.getD i fl0).path ≠ (l.getD b fl0).path, fun j => i - j,
      ⟨0, [0], ⟨Nat.zero_le _, fun a ha => by omega⟩, leh1 rfl (leOint rfl), ⟨.same _ trivial, leOwn rfl rfl rfl, leI rfl, leI rfl, trivial⟩⟩, ?_⟩
    rintro j ⟨hj, hfj⟩
    have ej : IntKind.i64.wrap ((j : Int) + 1) = ((j + 1 : Nat) : Int) := by rw [w64 (by omega) (by omega)]; omega
    refine ⟨fun c => ?_, fun c => ?_⟩
    · have f3 : (j : Int) < i := yes c
      have h1 : ∀ c, c < 2 → rowF l ((i : Int).toNat * 2 + c) = flC (l.getD i fl0) c := fun c hc => by rw [show (i : Int).toNat = i by omega]; exact hat i hc
      have h2 : ∀ c, c < 2 → rowF l ((j : Int).toNat * 2 + c) = flC (l.getD j fl0) c := fun c hc => by rw [show (j : Int).toNat = j by omega]; exact hat j hc
      refine .inr ⟨10, by decide +kernel, ?_⟩
      refine ⟨_, rfl, ?_⟩
      refine ⟨_, rfl, ?_⟩
      refine ⟨_, ⟨⟨by omega, by omega⟩, flC (l.getD i fl0), fun c hc => h1 c hc, rfl⟩, ?_⟩
      refine ⟨_, rfl, ?_⟩
      refine ⟨_, rfl, ?_⟩
      refine ⟨_, rfl, ?_⟩
      refine ⟨_, rfl, ?_⟩
      refine ⟨_, ⟨⟨by omega, by omega⟩, flC (l.getD j fl0), fun c hc => h2 c hc, rfl⟩, ?_⟩
      refine ⟨_, rfl, ?_⟩
      refine ⟨_, rfl, ?_⟩
      refine ⟨fun c4 => ?_, fun c4 => ?_⟩
      · have f4 : (l.getD i fl0).path = (l.getD j fl0).path := yes c4
        have hdup : dupF l := Classical.byContradiction fun h => hnd.1 h i (by omega) j (by omega) f4
        have e7 : putE l = 7 := by unfold putE; rw [if_pos hP, if_pos hdup]
        have r7 : putR l = [] := by unfold putR; rw [if_neg (by rw [e7]; decide)]
        rw [e7, r7]
        exact ⟨[20], [.ints .u8 []], _, lehE (Nat.le_of_ble_eq_true rfl) .u8, le_pair (.nil _ _ (by decide)) (leI rfl), rfl, rfl⟩
      · have f4 : ¬ (l.getD i fl0).path = (l.getD j fl0).path := no c4
        refine ⟨trivial, j + 1, [0], ⟨by omega, fun b hb => ?_⟩, by show i - (j + 1) < i - j; omega, leh1 rfl (leOint rfl), ⟨.same _ trivial, leOwn rfl rfl rfl, leI rfl, leI ej, trivial⟩⟩
        by_cases e : b = j
        · rw [e]; exact f4
        · exact hfj b (by omega)
    · have f3 : ¬ (j : Int) < i := no c
      refine ⟨trivial, i + 1, [0], ⟨by omega, fun a ha b hb => ?_⟩, by show l.length - (i + 1) < l.length - i; omega, leh1 rfl (leOint rfl), ⟨.same _ trivial, leOwn rfl rfl rfl, leI ei, trivial⟩⟩
      by_cases e : a = i
      · rw [e]; exact hfj b (by omega)
      · exact hfree a (by omega) b hb
  · have f2 : ¬ (i : Int) < l.length := no c
    have hdup : ¬ dupF l := hnd.2 fun a ha b hb => hfree a (by omega) b hb
    have e0 : putE l = 0 := putE_ok.2 ⟨hP, hdup⟩
    have r0 : putR l = bodyR l ++ zer 1024 := by unfold putR; rw [if_pos e0]
    rw [e0, r0]
    refine ⟨rfl, ⟨by decide, by decide⟩, rfl, ?_, ?_⟩
    · show ((bodyR l).length + (List.replicate (1024 : Int).toNat (0 : Int)).length) * 1 ≤ _
      rw [List.length_replicate]; omega
    exact ⟨[1], [.ints .u8 (bodyR l ++ zer 1024)], _, leh1 rfl (leOint rfl), le_pair (leOwn rfl rfl (by rw [List.length_append]; rfl)) (leI rfl), rfl, rfl⟩
end
end Go.Proofs.YtflclafbieokiaaGreatDoor.Us

/-
  The contracts of the document's Get, Size, and Same, and of ustar.Size.
-/
set_option linter.unusedVariables false
set_option linter.unusedSectionVars false
namespace Go.Proofs.YtflclafbieokiaaGreatDoor.Us
open Go AL Oc Pa Spl Hd

section
variable [Globs]

end
end Go.Proofs.YtflclafbieokiaaGreatDoor.Us

/-
  The laws of header, walked: HeaderApart, HeaderTurned, HeaderSums.
-/
set_option linter.unusedVariables false
set_option linter.unusedSectionVars false
namespace Go.Proofs.YtflclafbieokiaaGreatDoor.Hd
open Go AL Oc Pa Spl
section
variable [Globs]

end

end Go.Proofs.YtflclafbieokiaaGreatDoor.Hd

/-
  One byte turned, and turned back.
-/
set_option linter.unusedVariables false
namespace Go.Proofs.YtflclafbieokiaaGreatDoor.Hd
open Go

end Go.Proofs.YtflclafbieokiaaGreatDoor.Hd

/-
  The law HeaderTurned, walked.
-/
set_option linter.unusedVariables false
set_option linter.unusedSectionVars false
namespace Go.Proofs.YtflclafbieokiaaGreatDoor.Hd
open Go AL Oc Pa Spl
section
variable [Globs]

theorem own_cast {k : IntKind} {f : Nat} {xs ys : List Int} {R : AV → List AO → Prop} {tl : List AV} (e : xs = ys) (h : ACalls Tryz.prog f (.roI k ys :: tl) [] R) : ACalls Tryz.prog f (.roI k xs :: tl) [] R := by
  rw [e]; exact h
end

end Go.Proofs.YtflclafbieokiaaGreatDoor.Hd

/-
  The contract of the document's Get.
-/
set_option linter.unusedVariables false
set_option linter.unusedSectionVars false
namespace Go.Proofs.YtflclafbieokiaaGreatDoor.Us
open Go AL Oc Pa Spl Hd

structure InvD (b : List Int) (fs : List Fl) (at' : Nat) : Prop where
  ok : ∀ f ∈ fs, okF f
  bytes : okBytes fs
  size : 512 * fs.length + dataN fs ≤ at'
  most : at' ≤ b.length + 511
  arc : ∀ m, isArc b m → ∃ m', m = fs ++ m' ∧ at' = (bodyR fs).length
theorem inv_zero (b : List Int) : InvD b [] 0 := ⟨fun f hf => (by cases hf), fun f hf => (by cases hf), Nat.le_refl _, Nat.zero_le _, fun m _ => ⟨m, rfl, rfl⟩⟩
theorem inv_arc {b : List Int} {fs : List Fl} {at' : Nat} (h : InvD b fs at') {m : List Fl} (hm : isArc b m) : ∃ m', m = fs ++ m' ∧ at' = (bodyR fs).length ∧ Us.arc (b.drop at') m' := by
  obtain ⟨m', e, ea⟩ := h.arc m hm
  refine ⟨m', e, ea, fun f hf => hm.1.1 f (by rw [e]; exact List.mem_append_right _ hf), ?_⟩
  rw [hm.1.2, e, body_app, List.append_assoc, ea, List.drop_left]
theorem inv_end {b : List Int} {fs : List Fl} {at' : Nat} (h : InvD b fs at') (he : b.length ≤ at' + 1024) {m : List Fl} (hm : isArc b m) : m = fs := by
  obtain ⟨m', e, ea, h2⟩ := inv_arc h hm
  have : m' = [] := Classical.byContradiction fun x => by
    have := (arc_len h2).2.2 x
    rw [List.length_drop] at this
    omega
  rw [e, this, List.append_nil]
theorem inv_one {b : List Int} {fs : List Fl} {at' : Nat} (h : InvD b fs at') (he : at' + 1024 < b.length) {m : List Fl} (hm : isArc b m) : one (b.drop at') := by
  obtain ⟨m', e, ea, h2⟩ := inv_arc h hm
  match m', h2 with
  | [], h2 =>
    have := congrArg List.length (arc_nil.1 h2)
    rw [List.length_drop, zer_len] at this
    omega
  | f :: m', h2 => exact (arc_cons.1 h2).1
theorem inv_step {b : List Int} (hb : ∀ x ∈ b, 0 ≤ x ∧ x < 256) {fs : List Fl} {at' : Nat} (h : InvD b fs at') (he : at' + 1024 < b.length) {N : Nat} {F : Fl} (hE : getEr ((b.drop at').take 512) = 0) (hN : getN ((b.drop at').take 512) = (N : Int)) (hs : at' + 512 + N ≤ b.length)
    (p1 : F.path = getS ((b.drop at').take 512)) (p2 : F.data = (b.take (at' + 512 + N)).drop (at' + 512)) : InvD b (fs ++ [F]) (at' + 512 + rnd N) := by
  have hlen : F.data.length = N := by rw [p2, List.length_drop, List.length_take]; omega
  have hg := get_ok hE
  rw [hN] at hg
  have hF : okF F := by
    show okHd F.path (F.data.length : Int)
    rw [hlen, p1]; exact hg.1
  have hfl := file_len hF
  rw [hlen] at hfl
  have hr := rnd_ge N
  have hr5 : rnd N ≤ N + 511 := by unfold rnd; omega
  have hsz := h.size
  have hd1 : dataN [F] = F.data.length := rfl
  have hb1 : bodyR [F] = fileR F := by unfold bodyR; simp
  have of : one (b.drop at') → oneF (b.drop at') = F := fun _ => by
    have e3 : at' + 512 + N - (at' + 512) = N := by omega
    rw [List.drop_take, e3] at p2
    unfold oneF
    rw [hN, Int.toNat_natCast, List.drop_drop, ← p1, ← p2]
  generalize rnd N = RN at *
  refine ⟨fun f hf => ?_, fun f hf => ?_, ?_, by omega, fun m hm => ?_⟩
  · rcases List.mem_append.1 hf with hf | hf
    · exact h.ok f hf
    · rw [List.mem_singleton.1 hf]; exact hF
  · rcases List.mem_append.1 hf with hf | hf
    · exact h.bytes f hf
    · rw [List.mem_singleton.1 hf, p2]
      exact fun x hx => hb x (List.mem_of_mem_take (List.mem_of_mem_drop hx))
  · rw [data_app, List.length_append, hd1, hlen, List.length_singleton]
    omega
  · have h1 := inv_one h he hm
    obtain ⟨m', e, ea, h2⟩ := inv_arc h hm
    match m', h2 with
    | [], h2 =>
      have := congrArg List.length (arc_nil.1 h2)
      rw [List.length_drop, zer_len] at this
      omega
    | f :: m', h2 =>
      obtain ⟨_, ef, _⟩ := arc_cons.1 h2
      have eF : F = f := (of h1).symm.trans ef
      refine ⟨m', by rw [e, eF, List.append_assoc]; rfl, ?_⟩
      rw [body_app, List.length_append, hb1, hfl]
      omega
theorem put_bytes {l : List Fl} (h : okBytes l) : ∀ x ∈ putR l, 0 ≤ x ∧ x < 256 := by
  have zr : ∀ n, ∀ x ∈ zer n, 0 ≤ x ∧ x < 256 := fun n x hx => by have := (List.mem_replicate.1 hx).2; omega
  intro x hx
  unfold putR at hx
  split at hx
  · rcases List.mem_append.1 hx with hx | hx
    · unfold bodyR at hx
      obtain ⟨f, hf, hx⟩ := List.mem_flatMap.1 hx
      unfold fileR at hx
      rcases List.mem_append.1 hx with hx | hx
      · exact head_range _ _ x hx
      · rcases List.mem_append.1 hx with hx | hx
        · exact h f hf x hx
        · exact zr _ x hx
    · exact zr _ x hx
  · cases hx
section
variable [Globs]

def UGetD (b : List Int) (r : AV) (h : List AO) : Prop := r = .tup 2 (pair (.own 0 0 (getL b).length 2) (int .i64 (getE b))) ∧ h = [.row ((getL b).length * 2) (rowF (getL b))]

set_option maxHeartbeats 4000000 in
set_option maxRecDepth 10000 in
theorem uget_ref (b : List Int) (hb : ∀ x ∈ b, 0 ≤ x ∧ x < 256) (hl : b.length ≤ 60000) : ACalls Tryz.prog 70 [.roI .u8 b] [] (UGetD b) := by
  unfold UGetD
  refine rcalls Tryz.func70 rfl (by decide) ?_
  refine ⟨List Fl × Nat, fun x => [(0, .roI .u8 b), (4, .own 0 0 x.1.length 2), (5, int .i64 (x.2 : Nat))], fun x => [.row (x.1.length * 2) (rowF x.1)], fun x => InvD b x.1 x.2, fun x => b.length + 511 - x.2,
    ⟨([], 0), [0], inv_zero b, lehRow0 (Nat.le_refl _) _, ⟨leRo rfl, .nil _ _ (by decide), leI rfl, trivial⟩⟩, ?_⟩
  rintro ⟨fs, k⟩ hi
  have hi : InvD b fs k := hi
  have hsz := hi.size
  have hmost := hi.most
  have e1 : IntKind.i64.wrap ((k : Int) + 1024) = (k : Int) + 1024 := w64 (by omega) (by omega)
  have e2 : IntKind.i64.wrap ((k : Int) + 512) = ((k + 512 : Nat) : Int) := by rw [w64 (by omega) (by omega)]; omega
  have bad : ∀ (X : List AO), (∀ m, ¬ isArc b m) → ∃ l h1 r, LeH 0 X l h1 ∧ LeV X l (.tup 2 fun i => [.raw (.slice none 0 0), int .i64 2].getD i .top) r ∧ (r = .tup 2 (pair (.own 0 0 (getL b).length 2) (int .i64 (getE b))) ∧ h1 = [.row ((getL b).length * 2) (rowF (getL b))]) := fun X hn => by
    obtain ⟨q1, q2⟩ := get_not (b := b) fun ⟨m, h⟩ => hn m h
    rw [q1, q2]
    exact ⟨[X.length], [.row 0 (rowF [])], _, lehRow0 (Nat.le_refl _) _, le_pair (.nil _ _ (Nat.zero_lt_one)) (leI rfl), rfl, rfl⟩
  refine ⟨fun c => ?_, fun c => ?_⟩
  · have f1 : IntKind.i64.wrap ((k : Int) + 1024) < (b.length : Int) := yes c
    rw [e1] at f1
    have hsl : ((b.take (k + 512)).drop k) = (b.drop k).take 512 := by rw [List.drop_take]; congr 1; omega
    have hNr := getN_range ((b.drop k).take 512)
    obtain ⟨N, hN⟩ : ∃ N : Nat, getN ((b.drop k).take 512) = (N : Int) := ⟨(getN ((b.drop k).take 512)).toNat, by omega⟩
    have h1 := hget_ref ((b.drop k).take 512) (fun x hx => hb x (List.mem_of_mem_drop (List.mem_of_mem_take hx))) (by rw [List.length_take]; omega)
    unfold HGetR at h1
    have hstep := fun (F : Fl) (hE : getEr ((b.drop k).take 512) = 0) (hs : k + 512 + N ≤ b.length) (p1 : F.path = getS ((b.drop k).take 512)) (p2 : F.data = (b.take (k + 512 + N)).drop (k + 512)) => inv_step hb hi (by omega) hE hN hs p1 p2
    have hone := fun (m : List Fl) (h : isArc b m) => inv_one hi (by omega) h
    have hod : ∀ x : one (b.drop k), getEr ((b.drop k).take 512) = 0 ∧ k + 512 + N ≤ b.length := fun x => by
      obtain ⟨_, x2, x3, _⟩ := x
      rw [hN, Int.toNat_natCast, List.length_drop] at x3
      have := rnd_ge N
      exact ⟨x2, by omega⟩
    rw [← hsl] at h1 hN hNr hstep hod
    rw [hN] at h1 hNr
    have h2 := round_ref (N : Int) (by omega)
    rw [rndZ_nat] at h2
    generalize getS ((b.take (k + 512)).drop k) = S at *
    generalize getEr ((b.take (k + 512)).drop k) = E at *
    have E1 : (b.take (IntKind.i64.wrap ((k : Int) + 512)).toNat).drop (k : Int).toNat = (b.take (k + 512)).drop k := by rw [e2]; rfl
    have B1 : 0 ≤ IntKind.i64.wrap ((k : Int) + 512) ∧ IntKind.i64.wrap ((k : Int) + 512) ≤ (b.length : Int) := by rw [e2]; omega
    have B2 : 0 ≤ (k : Int) ∧ (k : Int) ≤ ((IntKind.i64.wrap ((k : Int) + 512)).toNat : Int) := by rw [e2]; omega
    have e3 : IntKind.i64.wrap (IntKind.i64.wrap ((k : Int) + 512) + (N : Int)) = ((k + 512 + N : Nat) : Int) := by rw [e2, w64 (by omega) (by omega)]; omega
    refine ⟨B1, B2, ?_⟩
    refine ⟨[], _, own_cast E1 h1, ?_⟩
    rintro r hh ⟨rfl, rfl⟩
    refine ⟨.inl rfl, ?_⟩
    refine ⟨fun c2 => ?_, fun c2 => ?_⟩
    · have f2 : ¬ E = 0 := yes c2
      exact bad _ fun m h => f2 (hod (hone m h)).1
    have f2 : E = 0 := Classical.byContradiction fun x => no c2 x
    refine ⟨fun c3 => ?_, fun c3 => ?_⟩
    · have f3 : (b.length : Int) < IntKind.i64.wrap (IntKind.i64.wrap ((k : Int) + 512) + (N : Int)) := yes c3
      rw [e3] at f3
      exact bad _ fun m h => by have := (hod (hone m h)).2; omega
    have f3 : ¬ (b.length : Int) < IntKind.i64.wrap (IntKind.i64.wrap ((k : Int) + 512) + (N : Int)) := no c3
    rw [e3] at f3
    have eD : (b.take (IntKind.i64.wrap (IntKind.i64.wrap ((k : Int) + 512) + (N : Int))).toNat).drop (IntKind.i64.wrap ((k : Int) + 512)).toNat = (b.take (k + 512 + N)).drop (k + 512) := by rw [e3, e2]; rfl
    have B3 : 0 ≤ IntKind.i64.wrap (IntKind.i64.wrap ((k : Int) + 512) + (N : Int)) ∧ IntKind.i64.wrap (IntKind.i64.wrap ((k : Int) + 512) + (N : Int)) ≤ (b.length : Int) := by rw [e3]; omega
    have B4 : 0 ≤ IntKind.i64.wrap ((k : Int) + 512) ∧ IntKind.i64.wrap ((k : Int) + 512) ≤ ((IntKind.i64.wrap (IntKind.i64.wrap ((k : Int) + 512) + (N : Int))).toNat : Int) := by rw [e3, e2]; omega
    obtain ⟨F, hF⟩ : ∃ F : Fl, F = ⟨S, (b.take (k + 512 + N)).drop (k + 512)⟩ := ⟨_, rfl⟩
    have hst := hstep F f2 (by omega) (by rw [hF]) (by rw [hF])
    have hF1 : F.path = S := by rw [hF]
    have hF2 : F.data = (b.take (IntKind.i64.wrap (IntKind.i64.wrap ((k : Int) + 512) + (N : Int))).toNat).drop (IntKind.i64.wrap ((k : Int) + 512)).toNat := by rw [eD, hF]
    have hold := fun {i : Nat} (h : i < fs.length * 2) => rowF_old fs F h
    have hnew := fun {i : Nat} (h : i < 2) => rowF_new fs F h
    have hr511 : rnd N ≤ N + 511 := by unfold rnd; omega
    have hr0 := rnd_ge N
    refine ⟨B3, B4, ?_⟩
    refine ⟨rfl, fun i _ => rowCell1 fs i, Nat.le_refl 2, by show (fs.length + 1) * 40 ≤ _; omega, fun i hi => ?_, rowF (fs ++ [F]), fun i hi => hold hi, fun i hi => ?_, ?_⟩
    · match i, hi with
      | 0, _ => rfl
      | 1, _ => rfl
    · show rowF (fs ++ [F]) (fs.length * 2 + i) = _
      rw [hnew (by omega)]
      match i, hi with
      | 0, _ => show AV.raw _ = _; rw [hF1]; rfl
      | 1, _ => show AV.roI _ _ = _; rw [hF2]; rfl
    refine ⟨[], _, h2, ?_⟩
    rintro r hh ⟨rfl, rfl⟩
    refine ⟨.inl rfl, ?_⟩
    refine ⟨trivial, (fs ++ [F], k + 512 + rnd N), [2], hst, by show b.length + 511 - (k + 512 + rnd N) < b.length + 511 - k; omega, leh1 rfl (.row _ _ _ _ ?_ fun i hi => .same _ (rowFree _ i)), ⟨leRo rfl, leOwn rfl rfl ?_, leI ?_, trivial⟩⟩
    · show (fs ++ [F]).length * 2 ≤ (fs.length + 1) * 2
      rw [List.length_append]; exact Nat.le_refl _
    · show fs.length + 1 = (fs ++ [F]).length
      rw [List.length_append]; rfl
    · show IntKind.i64.wrap (IntKind.i64.wrap ((k : Int) + 512) + ((rnd N : Nat) : Int)) = ((k + 512 + rnd N : Nat) : Int)
      rw [e2, w64 (by omega) (by omega)]; omega
  · have f1 : ¬ IntKind.i64.wrap ((k : Int) + 1024) < (b.length : Int) := no c
    rw [e1] at f1
    have hend := fun (m : List Fl) (h : isArc b m) => inv_end hi (by omega) h
    have hfit : fitL fs := ⟨by omega, by omega⟩
    have hsizes : okSizes fs := fun f hf => ⟨by have := (hi.ok f hf).1.2.1; omega, hi.bytes f hf⟩
    have h1 := uput_ref fs hfit hsizes
    have hpb := put_bytes hi.bytes
    have hpg := fun h => put_get (l := fs) hfit h
    have hgp := fun (m : List Fl) (h : isArc b m) => get_put h
    unfold UPutR at h1
    generalize hP : putR fs = P at *
    generalize hE : putE fs = E at *
    refine ⟨[], _, Nat.le_of_eq (Nat.zero_add _), fun i hi => rowFree _ _, h1.args ⟨vrsU rfl fun i hi => by rw [Nat.zero_add], trivial⟩, ?_⟩
    rintro r hh ⟨rfl, rfl⟩
    refine ⟨.inr ⟨fun i hi => ?_, fun o ho => ?_⟩, ?_⟩
    · match i, hi with
      | 0, _ => trivial
      | 1, _ => trivial
    · rw [List.mem_singleton.1 ho]; trivial
    refine ⟨fun c2 => ?_, fun c2 => ?_⟩
    · have f2 : ¬ E = 0 := yes c2
      exact bad _ fun m h => f2 (by rw [← hE, ← hend m h]; exact (hgp m h).1)
    have f2 : E = 0 := Classical.byContradiction fun x => no c2 x
    refine ⟨by omega, ?_⟩
    refine ⟨fun c3 => ?_, fun c3 => ?_⟩
    · have f3 : ¬ bytesOf ((P.drop 0).take P.length) = bytesOf b := yes c3
      rw [List.drop_zero, List.take_length] at f3
      exact bad _ fun m h => f3 (by have := (hgp m h).2; rw [hend m h, hP] at this; rw [this])
    · have f3 : bytesOf ((P.drop 0).take P.length) = bytesOf b := Classical.byContradiction fun x => no c3 x
      rw [List.drop_zero, List.take_length] at f3
      have f4 := (bytes_eq hpb hb).1 f3
      have ha := hpg f2
      rw [f4] at ha
      obtain ⟨q1, q2⟩ := get_is ha
      rw [q1, q2]
      exact ⟨[0], [.row (fs.length * 2) (rowF fs)], _, leh1 rfl (.row _ _ _ _ (Nat.le_refl _) fun i hi => .same _ (rowFree fs i)), le_pair (leOwn rfl rfl rfl) (leI rfl), rfl, rfl⟩
end
end Go.Proofs.YtflclafbieokiaaGreatDoor.Us

/-
  The journal, walked: what the document tells of an intent; a recovery that is broken off.
-/
set_option linter.unusedVariables false
set_option linter.unusedSectionVars false
set_option linter.unusedSimpArgs false
set_option maxRecDepth 10000
namespace Go.Proofs.YtflclafbieokiaaGreatDoor.Jr
open Go AL Us Dk Sh
theorem wrap_u8 (x : Int) : 0 ≤ IntKind.u8.wrap x ∧ IntKind.u8.wrap x < 256 := by
  have : IntKind.u8.wrap x = x % 256 := rfl
  omega
theorem sumS_rng (b : List Int) : ∀ x ∈ sumS b, 0 ≤ x ∧ x < 256 := fun x hx => by
  obtain ⟨i, _, rfl⟩ := List.mem_map.1 (show x ∈ (List.range 32).map _ from hx)
  exact wrap_u8 _
theorem okV_B {b : List Int} (h : okV 20000 b) : okV 10000000 b := ⟨Nat.le_trans h.1 (by decide), h.2⟩
theorem okM_B {m : FM} (h : okM 20000 m) : okM 10000000 m := fun p hp => ⟨(h p hp).1, okV_B (h p hp).2⟩
theorem fit_B {k : Nat} {d : DkF} (h : FitP 20000 k d) : FitP 10000000 k d := ⟨okM_B h.now, okM_B h.synced, fun e he => by
  have := h.deeds e he
  cases e with
  | wr n b => exact ⟨this.1, okV_B this.2⟩
  | mv a t => exact this
  | rm a => trivial, h.nowL, h.synL⟩
section
variable [Globs]

set_option maxHeartbeats 1000000 in
theorem told_r (b : List Int) (hb : ∀ x ∈ b, 0 ≤ x ∧ x < 256) (hl : b.length ≤ 60000) : ACalls Tryz.prog 48 [.roI .u8 b] [] (toldR b) := by
  unfold toldR
  have hno := told_no (b := b)
  refine rcalls Tryz.func48 rfl (by decide) ?_
  refine ⟨fun c => ?_, fun c => ?_⟩
  · have f1 : (b.length : Int) < 32 := yes c
    obtain ⟨g1, g2⟩ := hno fun h => by have := h.1; omega
    rw [g1, g2]
    exact ⟨[0], [.row (0 * 2) (rowF [])], .tup 2 (pair (.own 0 0 0 2) (bool false)), leh_relG (by decide) ⟨.inr ⟨Nat.zero_le _, .inr (.inr ⟨_, rfl⟩)⟩, trivial⟩, le_pair (.nil _ _ (by decide)) (.ffr), rfl, rfl⟩
  have f1 : ¬ (b.length : Int) < 32 := no c
  have e1 : IntKind.i64.wrap ((b.length : Int) - 32) = ((b.length - 32 : Nat) : Int) := by rw [w64 (by omega) (by omega)]; omega
  refine ⟨by rw [e1]; omega, ?_⟩
  rw [e1]
  have hin : List.drop 0 (List.take ((b.length - 32 : Nat) : Int).toNat b) = inB b := rfl
  have hil : (List.drop 0 (List.take ((b.length - 32 : Nat) : Int).toNat b)).length = b.length - 32 := by rw [hin]; unfold inB; rw [List.length_take]; omega
  have hrI : ∀ x ∈ inB b, 0 ≤ x ∧ x < 256 := fun x hx => hb x (List.mem_of_mem_take hx)
  have hsum : ∀ X, X = inB b → ACalls Tryz.prog 66 [.roI .u8 X] [] (fun r h => r = .aggI .u8 (sumS (inB b)) ∧ h = []) := fun X e => by
    rw [e]; exact sum_r _ (by unfold inB; rw [List.length_take]; omega) hrI
  refine ⟨[], _, hsum _ hin, ?_⟩
  rintro r hh ⟨rfl, rfl⟩
  refine ⟨.inl rfl, ?_⟩
  have hdl := sumS_len (inB b)
  have hcat : List.take 0 (List.replicate 32 (0 : Int)) ++ sumS (inB b) ++ List.drop (0 + (sumS (inB b)).length) (List.replicate 32 (0 : Int)) = sumS (inB b) := by rw [hdl]; simp
  refine ⟨rfl, hdl.symm, by show 0 + 32 ≤ (List.replicate 32 (0 : Int)).length; simp, ?_⟩
  rw [hcat]
  refine .inr ⟨8, by decide +kernel, ?_⟩
  refine ⟨_, ⟨by omega, rfl⟩, ?_⟩
  have htk : List.take (32 - 0) (List.drop (addOff 0 0 1) (sumS (inB b))) = sumS (inB b) := by
    show List.take 32 (sumS (inB b)) = _
    exact List.take_of_length_le (by omega)
  refine ⟨_, ⟨by show addOff 0 0 1 + (32 - 0) * 1 ≤ _; show 0 + 32 ≤ _; omega, rfl⟩, ?_⟩
  rw [htk]
  refine ⟨_, rfl, ?_⟩
  refine ⟨_, rfl, ?_⟩
  refine ⟨_, rfl, ?_⟩
  refine ⟨_, rfl, ?_⟩
  rw [e1]
  refine ⟨_, ⟨by omega, rfl⟩, ?_⟩
  refine ⟨_, rfl, ?_⟩
  have hdr : List.drop ((b.length - 32 : Nat) : Int).toNat (List.take b.length b) = b.drop (b.length - 32) := by rw [List.take_length, Int.toNat_natCast]
  have hbe : bytesOf (sumS (inB b)) = bytesOf (List.drop ((b.length - 32 : Nat) : Int).toNat (List.take b.length b)) ↔ sumS (inB b) = b.drop (b.length - 32) := by
    rw [hdr]
    exact bytes_eqU (sumS_rng _) fun x hx => hb x (List.mem_of_mem_drop hx)
  have hget := uget_ref (inB b) hrI (by rw [← hin, hil]; omega)
  have hget : ∀ X, X = inB b → ACalls Tryz.prog 70 [.roI .u8 X] [] (UGetD (inB b)) := fun X e => by rw [e]; exact hget
  unfold UGetD at hget
  refine ⟨fun c => ?_, fun c => ?_⟩
  · have f2 : ¬ bytesOf (sumS (inB b)) = bytesOf (List.drop ((b.length - 32 : Nat) : Int).toNat (List.take b.length b)) := yes c
    obtain ⟨g1, g2⟩ := hno fun h => f2 (hbe.2 h.2)
    rw [g1, g2]
    exact ⟨[1], [.row (0 * 2) (rowF [])], .tup 2 (pair (.own 0 0 0 2) (bool false)), leh_relG (by decide) ⟨.inr ⟨Nat.le_refl 1, .inr (.inr ⟨_, rfl⟩)⟩, trivial⟩, le_pair (.nil _ _ (by decide)) (.ffr), rfl, rfl⟩
  have f2 : bytesOf (sumS (inB b)) = bytesOf (List.drop ((b.length - 32 : Nat) : Int).toNat (List.take b.length b)) := Classical.byContradiction fun x => no c x
  have hsame : sameB b := ⟨by omega, hbe.1 f2⟩
  have hTL : toldL b = getL (inB b) := if_pos hsame
  have hTW : toldW b = decide (getE (inB b) = 0) := by unfold toldW; rw [decide_eq_true hsame, Bool.true_and]
  refine ⟨by rw [e1]; omega, ?_⟩
  rw [e1]
  refine ⟨[], _, hget _ hin, ?_⟩
  rintro r hh ⟨rfl, rfl⟩
  refine ⟨.inl rfl, ?_⟩
  rw [hTL, hTW]
  exact ⟨[1], [.row ((getL (inB b)).length * 2) (rowF (getL (inB b)))], .tup 2 (pair (.own 0 0 (getL (inB b)).length 2) (bool (decide (getE (inB b) = 0)))),
    leh_relG (by decide) ⟨.inl ⟨_, rfl, .row _ _ _ _ (Nat.le_refl _) fun i hi => by rw [ren_rowF]; exact .same _ (rowFree _ i)⟩, trivial⟩, le_pair (leOwn rfl rfl rfl) (AL.leB rfl), rfl, rfl⟩

end
end Go.Proofs.YtflclafbieokiaaGreatDoor.Jr

/-
  The program's disk: what is lost.
-/
set_option linter.unusedVariables false
set_option linter.unusedSectionVars false
set_option linter.unusedSimpArgs false
namespace Go.Proofs.YtflclafbieokiaaGreatDoor.Dk
open Go AL Us

def isMv : Dee → Bool
  | .mv _ _ => true
  | _ => false
def wrote (e : Dee) (bytes : Int) (m : FM) : FM := lostF m (some e) bytes
def roundM (keep bytes : Int) (k : Nat) (e : Dee) (m : FM) : FM := if (k : Int) = keep then wrote e bytes m else if (k : Int) < keep then actF e m else m
def curM (keep bytes : Int) (D : List Dee) (m : FM) : Nat → FM
  | 0 => m
  | k + 1 => roundM keep bytes k (D.getD k dee0) (curM keep bytes D m k)
theorem cur_lt {keep bytes : Int} {D : List Dee} {m : FM} : ∀ k : Nat, k ≤ D.length → (k : Int) ≤ keep → curM keep bytes D m k = (D.take k).foldl (fun m e => actF e m) m
  | 0, _, _ => by rw [List.take_zero]; rfl
  | k + 1, hk, hkk => by
    show roundM keep bytes k (D.getD k dee0) (curM keep bytes D m k) = _
    unfold roundM
    rw [if_neg (by omega), if_pos (by omega), cur_lt k (by omega) (by omega), List.take_succ_eq_append_getElem (by omega), List.foldl_append, List.getD_eq_getElem?_getD, List.getElem?_eq_getElem (by omega)]
    rfl
theorem cur_gt {keep bytes : Int} {D : List Dee} {m : FM} : ∀ k : Nat, k ≤ D.length → 0 ≤ keep → keep < k → curM keep bytes D m k = lostF ((D.take keep.toNat).foldl (fun m e => actF e m) m) D[keep.toNat]? bytes
  | 0, _, h0, hkk => by omega
  | k + 1, hk, h0, hkk => by
    show roundM keep bytes k (D.getD k dee0) (curM keep bytes D m k) = _
    unfold roundM
    by_cases h : (k : Int) = keep
    · have e : keep.toNat = k := by omega
      rw [if_pos h, e, cur_lt k (by omega) (by omega), List.getD_eq_getElem?_getD, List.getElem?_eq_getElem (by omega)]
      rfl
    · rw [if_neg h, if_neg (by omega), cur_gt k (by omega) h0 (by omega)]
theorem cur_neg {keep bytes : Int} {D : List Dee} {m : FM} (h : keep < 0) : ∀ k : Nat, curM keep bytes D m k = m
  | 0 => rfl
  | k + 1 => by
    show roundM keep bytes k (D.getD k dee0) (curM keep bytes D m k) = _
    unfold roundM
    rw [if_neg (by omega), if_neg (by omega), cur_neg h k]
theorem cur_end (d : DkF) (keep bytes : Int) : curM keep bytes d.deeds d.synced d.deeds.length = crashM d keep bytes := by
  unfold crashM nextD
  by_cases h : 0 ≤ keep
  · rw [if_pos h]
    by_cases h2 : keep < d.deeds.length
    · rw [cur_gt _ (Nat.le_refl _) h h2]
    · rw [cur_lt _ (Nat.le_refl _) (by omega), List.take_of_length_le (Nat.le_refl _), List.take_of_length_le (by omega), List.getElem?_eq_none (by omega)]
      rfl
  · rw [if_neg h, cur_neg (by omega), show keep.toNat = 0 by omega, List.take_zero]
    rfl
def cut4 (a b c d : AV) (f : Nat → AV) : Nat → AV
  | 0 => a
  | 1 => b
  | 2 => c
  | 3 => d
  | n + 4 => f (n + 4)
theorem cut4_eq {f : Nat → AV} {a b c d : AV} (h0 : f 0 = a) (h1 : f 1 = b) (h2 : f 2 = c) (h3 : f 3 = d) : f = cut4 a b c d f := funext fun i => by
  match i with
  | 0 => exact h0
  | 1 => exact h1
  | 2 => exact h2
  | 3 => exact h3
  | _ + 4 => rfl
section
variable [Globs]

abbrev dkZ (d : DkF) : List AO := [dkA 4 5 3 d, .dead, .dead, .row (d.deeds.length * 4) (rowP d.deeds), .map (fmV d.now), .map (fmV d.synced)]

set_option maxHeartbeats 1000000 in
set_option maxRecDepth 10000 in
theorem crash_p (d : DkF) (keep bytes : Int) (hl : d.deeds.length ≤ 100000) (hmv : ∀ e ∈ d.deeds, isMv e = false) :
    ACalls Tryz.prog 26 [.ptr 0 0, int .i64 keep, int .i64 bytes] (dkH d) (fun r h => r = .top ∧ h = dkZ (crashF d keep bytes)) := by
  have hc := clone_m d.synced
  have hend := cur_end d keep bytes
  have hcs : ∀ k, curM keep bytes d.deeds d.synced (k + 1) = roundM keep bytes k (d.deeds.getD k dee0) (curM keep bytes d.deeds d.synced k) := fun k => rfl
  have hc0 : curM keep bytes d.deeds d.synced 0 = d.synced := rfl
  have hF : crashF d keep bytes = syncF ⟨crashM d keep bytes, d.synced, d.deeds, d.room⟩ := rfl
  rw [hF, ← hend]
  have hsy := fun m => sync_p ⟨m, d.synced, d.deeds, d.room⟩
  generalize curM keep bytes d.deeds d.synced = cur at *
  clear hend hF
  obtain ⟨N, S, D, R⟩ := d
  simp only at hsy hcs hc0 hc hl
  refine rcalls Tryz.func26 rfl (by decide) ?_
  refine ⟨[2], _, fmVFree _, hc, ?_⟩
  rintro r hh ⟨rfl, rfl⟩
  refine ⟨.inl rfl, ?_⟩
  refine ⟨Nat, fun k => [(0, .ptr 0 0), (1, int .i64 keep), (2, int .i64 bytes), (22, .own 3 0 D.length 4), (23, int .i64 D.length), (24, int .i64 k)],
    fun k => [.lst [.mp 4, .mp 2, .own 3 0 D.length 4, int .i64 R], .dead, .map (fmV S), .row (D.length * 4) (rowP D), .map (fmV (cur k))], fun k => k ≤ D.length, fun k => D.length - k,
    ⟨0, [0, 1, 2, 3, 4], Nat.zero_le _, leh_rel (Nat.le_of_ble_eq_true rfl) (first4 rfl rfl rfl rfl) (by decide) ⟨⟨_, rfl, leDkA rfl rfl rfl rfl rfl⟩, ⟨_, rfl, .dead _⟩, ⟨_, rfl, leMap (by simp only [ren_fmV])⟩, ⟨_, rfl, leRowP D⟩, ⟨_, rfl, leMap (by simp only [ren_fmV]; rw [hc0])⟩, trivial⟩,
    ⟨.ptr 0 rfl, leI rfl, leI rfl, leOwn rfl rfl rfl, leI rfl, leI rfl, trivial⟩⟩, ?_⟩
  intro k hk
  have hk : k ≤ D.length := hk
  have e1 : IntKind.i64.wrap ((k : Int) + 1) = ((k + 1 : Nat) : Int) := by rw [w64 (by omega) (by omega)]; omega
  refine ⟨fun c => ?_, fun c => ?_⟩
  · have f1 : (k : Int) < D.length := yes c
    have hcs := hcs k
    have b1 : 0 ≤ (k : Int) ∧ (k : Int) < D.length := ⟨by omega, f1⟩
    have h4 : ∀ c, c < 4 → rowP D ((k : Int).toNat * 4 + c) = pdC (D.getD k dee0) c := fun c hc => by rw [Int.toNat_natCast]; exact rowP_at D hc
    have hkl : k < D.length := by omega
    have hmvk : isMv (D.getD k dee0) = false := hmv _ (by rw [List.getD_eq_getElem?_getD, List.getElem?_eq_getElem hkl]; exact List.getElem_mem hkl)
    have hmvk : ∀ {a t}, D.getD k dee0 = .mv a t → isMv (.mv a t) = false := fun h => by rw [← h]; exact hmvk
    generalize D.getD k dee0 = e at *
    refine ⟨b1, by show 0 + (k : Int).toNat * 4 + 4 ≤ _; omega, ?_⟩
    have h5 : ∀ c, c < 4 → rowP D (addOff 0 (k : Int).toNat 4 + c) = pdC e c := fun c hc => by
      show rowP D (0 + (k : Int).toNat * 4 + c) = _
      rw [Nat.zero_add]; exact h4 c hc
    rw [cut4_eq (f := fun i => rowP D (addOff 0 (k : Int).toNat 4 + i)) (h5 0 (by decide)) (h5 1 (by decide)) (h5 2 (by decide)) (h5 3 (by decide))]
    rcases e with ⟨n, b⟩ | ⟨a, t⟩ | ⟨a⟩
    · have hdo := wr_p (cur k) n b
      refine ⟨fun c => ?_, fun c => ?_⟩
      · have f2 : (k : Int) < keep := yes c
        have hcs : cur (k + 1) = actF (.wr n b) (cur k) := by rw [hcs]; unfold roundM; rw [if_neg (by omega), if_pos f2]
        refine .inr ⟨6, by decide +kernel, ?_⟩
        refine ⟨_, rfl, ?_⟩
        refine ⟨_, rfl, ?_⟩
        refine ⟨_, rfl, ?_⟩
        refine ⟨_, rfl, ?_⟩
        refine ⟨_, rfl, ?_⟩
        refine ⟨_, rfl, ?_⟩
        refine ⟨[4], _, fmVFree _, hdo, ?_⟩
        rintro r hh ⟨rfl, rfl⟩
        refine ⟨.inl rfl, ?_⟩
        refine ⟨fun c => ?_, fun c => ?_⟩
        · have f3 : (k : Int) = keep := yes c
          omega
        exact ⟨trivial, k + 1, [0, 1, 2, 3, 4], by show k + 1 ≤ D.length; omega, by show D.length - (k + 1) < D.length - k; omega, leh_rel (Nat.le_of_ble_eq_true rfl) (first4 rfl rfl rfl rfl) (by decide)
          ⟨⟨_, rfl, leDkA rfl rfl rfl rfl rfl⟩, ⟨_, rfl, .dead _⟩, ⟨_, rfl, leMap rfl⟩, ⟨_, rfl, leRowP D⟩, ⟨_, rfl, leMap (by rw [hcs] <;> simp only [ren_fmV])⟩, trivial⟩,
          ⟨.ptr 0 rfl, leI rfl, leI rfl, leOwn rfl rfl rfl, leI rfl, leI e1, trivial⟩⟩
      · have f2 : ¬ (k : Int) < keep := no c
        refine ⟨fun c => ?_, fun c => ?_⟩
        · have f3 : (k : Int) = keep := yes c
          have hcs : cur (k + 1) = lostF (cur k) (some (.wr n b)) bytes := by rw [hcs]; unfold roundM; rw [if_pos f3]; rfl
          refine ⟨fun _ => ?_, fun c => (by cases c)⟩
          refine ⟨fun c => ?_, fun c => ?_⟩
          · have f4 : 0 ≤ bytes := yes c
            have hcs : cur (k + 1) = setF n (b.take bytes.toNat) (cur k) := by rw [hcs]; show (if 0 ≤ bytes then _ else _) = _; rw [if_pos f4]
            have hset := set_fmV n (b.take bytes.toNat) (cur k)
            refine .inr ⟨11, by decide +kernel, ?_⟩
            refine ⟨_, rfl, ?_⟩
            refine ⟨_, rfl, ?_⟩
            refine ⟨_, rfl, ?_⟩
            refine ⟨_, rfl, ?_⟩
            refine ⟨_, rfl, ?_⟩
            refine ⟨_, rfl, ?_⟩
            refine ⟨_, rfl, ?_⟩
            refine ⟨_, rfl, ?_⟩
            refine ⟨_, rfl, ?_⟩
            refine ⟨_, rfl, ?_⟩
            refine ⟨_, ⟨⟨by omega, by omega, by omega⟩, rfl⟩, ?_⟩
            have et : b.take (min bytes (b.length : Int)).toNat = b.take bytes.toNat := by
              rcases Int.le_total bytes b.length with g | g
              · rw [Int.min_eq_left g]
              · rw [Int.min_eq_right g, List.take_of_length_le (by omega), List.take_of_length_le (by omega)]
            have hput : setM n (.roI .u8 (b.take (min bytes (b.length : Int)).toNat)) (fmV (cur k)) = fmV (cur (k + 1)) := by rw [et, hset, hcs]
            exact ⟨trivial, k + 1, [0, 1, 2, 3, 4], by show k + 1 ≤ D.length; omega, by show D.length - (k + 1) < D.length - k; omega, leh_rel (Nat.le_of_ble_eq_true rfl) (first4 rfl rfl rfl rfl) (by decide)
              ⟨⟨_, rfl, leDkA rfl rfl rfl rfl rfl⟩, ⟨_, rfl, .dead _⟩, ⟨_, rfl, leMap rfl⟩, ⟨_, rfl, leRowP D⟩, ⟨_, rfl, leMap hput⟩, trivial⟩,
              ⟨.ptr 0 rfl, leI rfl, leI rfl, leOwn rfl rfl rfl, leI rfl, leI e1, trivial⟩⟩
          · have f4 : ¬ 0 ≤ bytes := no c
            have hcs : cur (k + 1) = cur k := by rw [hcs]; show (if 0 ≤ bytes then _ else _) = _; rw [if_neg f4]
            exact ⟨trivial, k + 1, [0, 1, 2, 3, 4], by show k + 1 ≤ D.length; omega, by show D.length - (k + 1) < D.length - k; omega, leh_rel (Nat.le_of_ble_eq_true rfl) (first4 rfl rfl rfl rfl) (by decide)
              ⟨⟨_, rfl, leDkA rfl rfl rfl rfl rfl⟩, ⟨_, rfl, .dead _⟩, ⟨_, rfl, leMap rfl⟩, ⟨_, rfl, leRowP D⟩, ⟨_, rfl, leMap (by rw [hcs] <;> simp only [ren_fmV])⟩, trivial⟩,
              ⟨.ptr 0 rfl, leI rfl, leI rfl, leOwn rfl rfl rfl, leI rfl, leI e1, trivial⟩⟩
        have f3 : ¬ (k : Int) = keep := no c
        have hcs : cur (k + 1) = cur k := by rw [hcs]; unfold roundM; rw [if_neg f3, if_neg f2]
        exact ⟨trivial, k + 1, [0, 1, 2, 3, 4], by show k + 1 ≤ D.length; omega, by show D.length - (k + 1) < D.length - k; omega, leh_rel (Nat.le_of_ble_eq_true rfl) (first4 rfl rfl rfl rfl) (by decide)
          ⟨⟨_, rfl, leDkA rfl rfl rfl rfl rfl⟩, ⟨_, rfl, .dead _⟩, ⟨_, rfl, leMap rfl⟩, ⟨_, rfl, leRowP D⟩, ⟨_, rfl, leMap (by rw [hcs] <;> simp only [ren_fmV])⟩, trivial⟩,
          ⟨.ptr 0 rfl, leI rfl, leI rfl, leOwn rfl rfl rfl, leI rfl, leI e1, trivial⟩⟩
    · exact absurd (hmvk rfl) Bool.noConfusion
    · have hdo := rm_p (cur k) a
      refine ⟨fun c => ?_, fun c => ?_⟩
      · have f2 : (k : Int) < keep := yes c
        have hcs : cur (k + 1) = actF (.rm a) (cur k) := by rw [hcs]; unfold roundM; rw [if_neg (by omega), if_pos f2]
        refine .inr ⟨6, by decide +kernel, ?_⟩
        refine ⟨_, rfl, ?_⟩
        refine ⟨_, rfl, ?_⟩
        refine ⟨_, rfl, ?_⟩
        refine ⟨_, rfl, ?_⟩
        refine ⟨_, rfl, ?_⟩
        refine ⟨_, rfl, ?_⟩
        refine ⟨[4], _, fmVFree _, hdo, ?_⟩
        rintro r hh ⟨rfl, rfl⟩
        refine ⟨.inl rfl, ?_⟩
        refine ⟨fun c => ?_, fun c => ?_⟩
        · have f3 : (k : Int) = keep := yes c
          omega
        exact ⟨trivial, k + 1, [0, 1, 2, 3, 4], by show k + 1 ≤ D.length; omega, by show D.length - (k + 1) < D.length - k; omega, leh_rel (Nat.le_of_ble_eq_true rfl) (first4 rfl rfl rfl rfl) (by decide)
          ⟨⟨_, rfl, leDkA rfl rfl rfl rfl rfl⟩, ⟨_, rfl, .dead _⟩, ⟨_, rfl, leMap rfl⟩, ⟨_, rfl, leRowP D⟩, ⟨_, rfl, leMap (by rw [hcs] <;> simp only [ren_fmV])⟩, trivial⟩,
          ⟨.ptr 0 rfl, leI rfl, leI rfl, leOwn rfl rfl rfl, leI rfl, leI e1, trivial⟩⟩
      · have f2 : ¬ (k : Int) < keep := no c
        refine ⟨fun c => ?_, fun c => ?_⟩
        · have f3 : (k : Int) = keep := yes c
          have hcs : cur (k + 1) = cur k := by rw [hcs]; unfold roundM; rw [if_pos f3]; rfl
          refine ⟨fun c => (by cases c), fun _ => ?_⟩
          exact ⟨trivial, k + 1, [0, 1, 2, 3, 4], by show k + 1 ≤ D.length; omega, by show D.length - (k + 1) < D.length - k; omega, leh_rel (Nat.le_of_ble_eq_true rfl) (first4 rfl rfl rfl rfl) (by decide)
            ⟨⟨_, rfl, leDkA rfl rfl rfl rfl rfl⟩, ⟨_, rfl, .dead _⟩, ⟨_, rfl, leMap rfl⟩, ⟨_, rfl, leRowP D⟩, ⟨_, rfl, leMap (by rw [hcs] <;> simp only [ren_fmV])⟩, trivial⟩,
            ⟨.ptr 0 rfl, leI rfl, leI rfl, leOwn rfl rfl rfl, leI rfl, leI e1, trivial⟩⟩
        have f3 : ¬ (k : Int) = keep := no c
        have hcs : cur (k + 1) = cur k := by rw [hcs]; unfold roundM; rw [if_neg f3, if_neg f2]
        exact ⟨trivial, k + 1, [0, 1, 2, 3, 4], by show k + 1 ≤ D.length; omega, by show D.length - (k + 1) < D.length - k; omega, leh_rel (Nat.le_of_ble_eq_true rfl) (first4 rfl rfl rfl rfl) (by decide)
          ⟨⟨_, rfl, leDkA rfl rfl rfl rfl rfl⟩, ⟨_, rfl, .dead _⟩, ⟨_, rfl, leMap rfl⟩, ⟨_, rfl, leRowP D⟩, ⟨_, rfl, leMap (by rw [hcs] <;> simp only [ren_fmV])⟩, trivial⟩,
          ⟨.ptr 0 rfl, leI rfl, leI rfl, leOwn rfl rfl rfl, leI rfl, leI e1, trivial⟩⟩
  · have f1 : ¬ (k : Int) < D.length := no c
    obtain rfl : k = D.length := by omega
    have hsy := hsy (cur D.length)
    refine ⟨[0, 4, 2, 3], _, fmVFree _, fmVFree _, fun i _ => rowPFree _ i, hsy, ?_⟩
    rintro r hh ⟨rfl, rfl⟩
    refine ⟨.inl rfl, ?_⟩
    exact ⟨[0, 1, 2, 3, 4, 5], dkZ (syncF ⟨cur D.length, S, D, R⟩), .top, leh_rel (Nat.le_of_ble_eq_true rfl) (first4 rfl rfl rfl rfl) (by decide)
      ⟨⟨_, rfl, leDkA rfl rfl rfl rfl rfl⟩, ⟨_, rfl, .dead _⟩, ⟨_, rfl, .dead _⟩, ⟨_, rfl, leRow0⟩, ⟨_, rfl, leMap (by simp only [ren_fmV])⟩, ⟨_, rfl, leMap (by simp only [ren_fmV])⟩, trivial⟩, .top _, rfl, rfl⟩
end
end Go.Proofs.YtflclafbieokiaaGreatDoor.Dk

/-
  The journal, walked: recovery that is broken off so many times, and then isn't.
-/
set_option linter.unusedVariables false
set_option linter.unusedSectionVars false
set_option linter.unusedSimpArgs false
set_option maxRecDepth 10000
namespace Go.Proofs.YtflclafbieokiaaGreatDoor.Jr
open Go AL Us Dk Sh

structure BrJ where
  steps : Nat
  keep : Nat
  bytes : Nat
  again : List (Nat × Nat)
structure okBr (B : BrJ) : Prop where
  steps : B.steps < 256
  keep : B.keep < 256
  bytes : B.bytes < 256
  again : ∀ a ∈ B.again, a.1 < 256 ∧ a.2 < 256
def NoMv (d : DkF) : Prop := ∀ e ∈ d.deeds, isMv e = false
theorem nomv_wrJ {L : List Fl} {d : DkF} (h : NoMv d) {i : Nat} (hi : i ≤ L.length) : NoMv (wrJ L d i) := fun e he => by
  rcases (wrJ_props L d i hi).2.2.1 e he with x | ⟨f, _, rfl⟩
  · exact h e x
  · rfl
section
variable [Globs]

end
end Go.Proofs.YtflclafbieokiaaGreatDoor.Jr

/-
  The laws of archives: what all of them begin with.
-/
set_option linter.unusedVariables false
set_option linter.unusedSectionVars false
namespace Go.Proofs.YtflclafbieokiaaGreatDoor.Us
open Go AL Oc Pa Spl Hd

def smallL (l : List Fl) : Prop := l.length ≤ 40 ∧ dataN l ≤ 20000
instance (l : List Fl) : Decidable (smallL l) := by unfold smallL; infer_instance
theorem data_szB {B : Nat} {l : List Fl} (h : ∀ f ∈ l, f.data.length ≤ B) : ∀ k, dataN (l.take k) ≤ k * B
  | 0 => by simp [dataN]
  | k + 1 => by
    have ih := data_szB h k
    rw [Nat.succ_mul]
    rcases Nat.lt_or_ge k l.length with hk | hk
    · rw [data_succ hk]
      have := h _ (get_mem hk)
      omega
    · rw [List.take_of_length_le (by omega)] at ih ⊢
      omega
section
variable [Globs]

end

end Go.Proofs.YtflclafbieokiaaGreatDoor.Us

/-
  The journal's laws: lists of files; what all laws begin with. Plain, but for the calls at the end.
-/
set_option linter.unusedVariables false
set_option linter.unusedSectionVars false
set_option linter.unusedSimpArgs false
set_option maxRecDepth 10000
namespace Go.Proofs.YtflclafbieokiaaGreatDoor.Jr
open Go AL Us Dk Sh

/-! Files of a disk, rising. -/
def lsJ (m : FM) : List Fl := m.foldr (fun p L => withR p.1 p.2 L) []
theorem del_none {s : ByteArray} : ∀ {m : FM}, s ∉ keysF m → delF s m = m
  | [], _ => rfl
  | p :: r, h => by
    unfold delF
    rw [if_neg (fun e => h (by rw [← e]; exact List.mem_cons_self ..)), del_none fun x => h (List.mem_cons_of_mem _ x)]
theorem ls_rel : ∀ {m : FM}, (keysF m).Nodup → RelF m (lsJ m)
  | [], _ => rel_nil
  | p :: r, h => by
    obtain ⟨h1, h2⟩ := List.nodup_cons.1 (show (p.1 :: keysF r).Nodup from h)
    have h3 := rel_set (ls_rel h2) p.1 p.2
    refine ⟨h, h3.rise, h3.perm.trans ?_⟩
    have := setF_perm p.1 p.2 h2
    rw [del_none h1] at this
    exact this
def ldJ (m : FM) : List Fl := withoutR intN (lsJ m)
theorem ld_rel {m : FM} (h : (keysF m).Nodup) : RelF (delF intN m) (ldJ m) := rel_del (ls_rel h) intN
theorem ld_ext {m n : FM} (h : (keysF m).Nodup) (g : (keysF n).Nodup) (e : ∀ p, p ≠ intN → getF p m = getF p n) : ldJ m = ldJ n := rel_ext (ld_rel h) (ld_rel g) fun p => by
  by_cases hp : p = intN
  · rw [hp, get_del_same h, get_del_same g]
  · rw [get_del_other hp, get_del_other hp, e p hp]
/-! A disk that was laid; a commit on it. -/
theorem fit_laid {l : List Fl} {room : Int} (hs : smallF l) (hb : okBytes l) : FitP 20000 8 (laidJ l room) := by
  have h8 := hs.2
  refine fit_sync (fit_more (fit_wr (fit_new 20000 room) (fun f hf => ⟨by have := small_all hs f hf; omega, hb f hf⟩) l.length (Nat.le_refl _)) (by omega))
theorem good_laid (l : List Fl) (room : Int) : GoodD (laidJ l room) := good_sync (good_wrJ (good_new room) _)
theorem room_laid (l : List Fl) (room : Int) : (laidJ l room).room = max room 0 := room_wrJ l (newF room) _
theorem data_small {l : List Fl} (hs : smallF l) : dataN l ≤ 800 := by
  have := data_szB (B := 100) (small_all hs) l.length
  rw [List.take_length] at this
  have := hs.2
  omega
theorem size_laid {l : List Fl} {room : Int} (hs : smallF l) : sizeF (laidJ l room).now ≤ 800 := by
  have h1 := (wrJ_props l (newF room) l.length (Nat.le_refl _)).2.2.2
  have h2 := acts_grow (wrJ l (newF room) l.length).deeds (wrJ l (newF room) l.length).synced
  have hg := (good_wrJ (L := l) (good_new room) l.length).is
  rw [← hg] at h2
  have h3 := (wrJ_props l (newF room) l.length (Nat.le_refl _)).1
  rw [List.take_length] at h1
  have h4 := data_small hs
  have h5 : sizeF (wrJ l (newF room) l.length).synced = 0 := by rw [h3]; rfl
  have h6 : ((newF room).deeds.map lenE).sum = 0 := rfl
  show sizeF (wrJ l (newF room) l.length).now ≤ 800
  omega
theorem small_fitL {l : List Fl} (hs : smallF l) : fitL l := ⟨by have := hs.2; omega, by have := data_small hs; omega⟩
theorem int_ok {l : List Fl} (hs : smallF l) (hb : okBytes l) (h : putE l = 0) : (intL l).length ≤ 10100 ∧ okV 20000 (intL l) := by
  letI : Globs := ⟨[]⟩
  have h1 := putR_le (small_fitL hs) h
  have h2 := data_small hs
  have h3 := hs.2
  have hl : (intL l).length ≤ 10100 := by unfold intL; rw [List.length_append, sumS_len0]; omega
  refine ⟨hl, by omega, fun x hx => ?_⟩
  rcases List.mem_append.1 (show x ∈ putR l ++ sumS (putR l) from hx) with hx | hx
  · exact put_bytes hb x hx
  · exact sumS_rng _ x hx
theorem nomv_do {d : DkF} (h : NoMv d) {e : Dee} (he : isMv e = false) : NoMv (doF d e) := by
  unfold doF
  split
  · intro x hx
    rcases List.mem_append.1 hx with hx | hx
    · exact h x hx
    · rw [List.mem_singleton.1 hx]; exact he
  · exact h
theorem nomv_cm {l : List Fl} {b : List Int} {d : DkF} (h : NoMv d) : ∀ i, NoMv (cmJ l b d i)
  | 0 => h
  | i + 1 => by
    show NoMv (stJ l b i (cmJ l b d i))
    have ih := nomv_cm (l := l) (b := b) h i
    unfold stJ
    repeat' split
    all_goals first
      | exact nomv_do ih rfl
      | exact fun e he => by cases he
theorem nomv_none {d : DkF} (h : d.deeds = []) : NoMv d := fun e he => by rw [h] at he; cases he
structure FineJ (k : Nat) (d : DkF) : Prop where
  fit : FitP 20000 k d
  good : GoodD d
  nomv : NoMv d
theorem FineJ.keys {k : Nat} {d : DkF} (h : FineJ k d) : (keysF d.now).Nodup := (good_all h.good).2
theorem fine_laid {l : List Fl} {room : Int} (hs : smallF l) (hb : okBytes l) : FineJ 8 (laidJ l room) := ⟨fit_laid hs hb, good_laid l room, nomv_none rfl⟩
theorem fine_more {k n : Nat} {d : DkF} (h : FineJ k d) (hn : k ≤ n) : FineJ n d := ⟨fit_more h.fit hn, h.good, h.nomv⟩
theorem fine_cm {k : Nat} {l : List Fl} {d : DkF} (h : FineJ k d) (hs : smallF l) (hb : okBytes l) (hp : putE l = 0) (i : Nat) : FineJ (k + i) (cmJ l (intL l) d i) :=
  ⟨fit_cm h.fit (int_ok hs hb hp).2 (fun f hf => ⟨by have := small_all hs f hf; omega, hb f hf⟩) i, good_cm h.good i, nomv_cm h.nomv i⟩
theorem fine_crash {k : Nat} {d : DkF} (h : FineJ k d) (a b : Int) : FineJ k (crashF d a b) := ⟨fit_crash h.fit a b, good_crash h.good a b, nomv_none rfl⟩
theorem fit_rec {k : Nat} {d : DkF} (h : FitP 20000 k d) : FitP 20000 (k + 40) (recJ d) := by
  unfold recJ
  have key : ∀ {D : DkF}, FitP 20000 (k + 39) D → FitP 20000 (k + 40) (syncF (doF D (.rm intN))) := fun {D} hD => fit_sync (fit_do hD fun _ => trivial)
  refine key ?_
  split
  · have hv : okV 20000 ((getF intN d.now).getD []) := okM_get h.now
    have ht := told_fit2 hv
    have h1 := hv.1
    exact fit_sync (fit_more (fit_wr h ht.2 _ (Nat.le_refl _)) (by omega))
  · exact fit_more h (by omega)
theorem fine_rec {k : Nat} {d : DkF} (h : FineJ k d) : FineJ (k + 40) (recJ d) := ⟨fit_rec h.fit, good_rec h.good, nomv_none rfl⟩
theorem fine_rc {k : Nat} {d : DkF} (h : FineJ k d) : FineJ (k + 40) (rcJ d) := by
  unfold rcJ
  split
  · exact fine_more h (by omega)
  · exact fine_rec h
theorem com_cases {d : DkF} {l : List Fl} {steps : Int} {r : AV} {h : List AO} (hc : comR d l steps r h) :
    (comE d l (putE l) (intL l).length ≠ 0 ∧ r = .tup 2 (pair (bool false) (int .i64 (comE d l (putE l) (intL l).length))) ∧ h = dkH d) ∨
    (comE d l (putE l) (intL l).length = 0 ∧ putE l = 0 ∧ ∃ k, k = min (l.length + 5) steps.toNat ∧ r = .tup 2 (pair (bool (decide (((l.length + 5 : Nat) : Int) ≤ steps))) (int .i64 0)) ∧
      ((k = 0 ∧ h = dkH d) ∨ (k = 1 ∧ h = dkN (cmJ l (intL l) d 1)) ∨ (2 ≤ k ∧ h = dkT (cmJ l (intL l) d k)))) := by
  rcases hc with h1 | ⟨h1, h2, k, h3, h4, h5⟩
  · exact .inl h1
  · refine .inr ⟨h1, h2, k, h3, h4, ?_⟩
    match k, h5 with
    | 0, h5 => exact .inl ⟨rfl, h5⟩
    | 1, h5 => exact .inr (.inl ⟨rfl, h5⟩)
    | k + 2, h5 => exact .inr (.inr ⟨by omega, h5⟩)
theorem com_zero {l : List Fl} {d : DkF} (h : CmOk l d) : comE d l (putE l) (intL l).length = 0 := by
  unfold comE
  rw [if_neg (fun ⟨f, hf, g⟩ => h.bad f hf g), if_neg (fun x => x h.pe), if_neg (by have := h.room; omega)]
section
variable [Globs]

theorem load_q {k : Nat} (d : DkF) (h : FineJ k d) (hk : k ≤ 1000) : ACalls Tryz.prog 18 [.ptr 0 0] (dkH d) (fun r h => r = flsV (ldJ d.now) ∧ h = dkH d) :=
  load_p d _ (ls_rel h.keys) (fun p hp => ⟨(h.fit.now p hp).1, Nat.le_trans (h.fit.now p hp).2.1 (by decide)⟩) (by have := h.fit.nowL; omega)
theorem commit_q {k : Nat} (d : DkF) (l : List Fl) (steps : Int) (h : FineJ k d) (hk : k ≤ 1000) (hs : smallF l) (hz : okSizes l) : ACalls Tryz.prog 14 [.ptr 0 0, flsV l, int .i64 steps] (dkH d) (comR d l steps) :=
  commit_p d l steps (small_fitL hs) hz (fit_more (fit_B h.fit) hk) (fun f hf => ⟨by have := small_all hs f hf; omega, (hz f hf).2⟩) fun hp => okV_B (int_ok hs (fun f hf => (hz f hf).2) hp).2
theorem recover_q {k : Nat} (d : DkF) (h : FineJ k d) (hk : k ≤ 1000) : ACalls Tryz.prog 20 [.ptr 0 0] (dkH d) (recR d) := recover_p d (fit_more (fit_B h.fit) (by omega))
theorem same_q {a b : List Fl} (ha : okBytes a) (hb : okBytes b) (hl : a.length ≤ 100000) (hm : b.length ≤ 100000) (e : a = b) : ACalls Tryz.prog 16 [flsV a, flsV b] [] (fun r h => r = .tt ∧ h = []) :=
  (same_ref a b ha hb (by omega) (by omega)).yes (decide_eq_true e)
end
end Go.Proofs.YtflclafbieokiaaGreatDoor.Jr

/-
  The journal's laws: what all of them begin with, walked.
-/
set_option linter.unusedVariables false
set_option linter.unusedSectionVars false
set_option linter.unusedSimpArgs false
set_option maxRecDepth 10000
namespace Go.Proofs.YtflclafbieokiaaGreatDoor.Jr
open Go AL Oc Pa Spl Hd Us Dk Sh

def aA : ByteArray := "a".toUTF8
def bB : ByteArray := "b".toUTF8
def aw0 : List Fl := [⟨aA, [49]⟩]
def aw1 : List Fl := [⟨aA, [50]⟩, ⟨bB, [51]⟩]
theorem ok_a : okSplit aA := by
  refine ⟨?_, by decide, .inl (by decide)⟩
  intro p hp
  have : p = [97] := by
    have : pieces 47 aA.data.toList = [[97]] := by decide +kernel
    rw [this] at hp
    simpa using hp
  subst this
  decide +kernel
theorem ok_b : okSplit bB := by
  refine ⟨?_, by decide, .inl (by decide)⟩
  intro p hp
  have : p = [98] := by
    have : pieces 47 bB.data.toList = [[98]] := by decide +kernel
    rw [this] at hp
    simpa using hp
  subst this
  decide +kernel
theorem ab_ne : aA ≠ bB := by decide
theorem aw_put : putE aw1 = 0 := putE_ok.2 ⟨fun f hf => by
  rcases List.mem_cons.1 hf with rfl | hf
  · exact ok_a
  · rw [List.mem_singleton.1 hf]; exact ok_b, fun h => h (by
    show [aA, bB].Nodup
    exact List.nodup_cons.2 ⟨by simp [ab_ne], List.nodup_cons.2 ⟨by simp, .nil⟩⟩)⟩
theorem aw_s0 : smallF aw0 := by decide
theorem aw_s1 : smallF aw1 := by decide
theorem aw_b0 : okBytes aw0 := fun f hf x hx => by
  rw [List.mem_singleton.1 hf] at hx
  rw [List.mem_singleton.1 hx]; decide
theorem aw_z1 : okSizes aw1 := fun f hf => by
  rcases List.mem_cons.1 hf with rfl | hf
  · exact ⟨by decide, fun x hx => by rw [List.mem_singleton.1 hx]; decide⟩
  · rw [List.mem_singleton.1 hf]
    exact ⟨by decide, fun x hx => by rw [List.mem_singleton.1 hx]; decide⟩
theorem aw_now : (laidJ aw0 100000).now = [(aA, [49])] := by
  have h := wrJ_all (L := aw0) (d := newF 100000) (fun f hf => by rw [List.mem_singleton.1 hf]; decide) (by decide) 1 (Nat.le_refl _)
  exact h
theorem aw_cm : CmOk aw1 (laidJ aw0 100000) := by
  refine ⟨rfl, rfl, ?_, ?_, aw_put, ⟨by decide, by decide⟩, ?_, good_laid _ _⟩
  · rw [aw_now]; decide
  · intro f hf
    rcases List.mem_cons.1 hf with rfl | hf
    · decide
    · rw [List.mem_singleton.1 hf]; decide
  · have h1 := (int_ok aw_s1 (fun f hf => (aw_z1 f hf).2) aw_put).1
    have h2 := size_laid (l := aw0) (room := 100000) aw_s0
    have h3 := data_small aw_s1
    rw [room_laid]
    show _ ≤ (100000 : Int)
    omega
theorem cm_2 (l : List Fl) (b : List Int) (d : DkF) : cmJ l b d 2 = syncF (doF d (.wr intN b)) := rfl
theorem syncF_deeds (d : DkF) : (syncF d).deeds = [] := rfl
theorem crash_now {d : DkF} (h : d.deeds = []) (a b : Int) : (crashF d a b).now = d.synced := crash_none h a b
theorem crashF_now (d : DkF) (a b : Int) : (crashF d a b).now = crashM d a b := rfl
theorem room_crash (d : DkF) (a b : Int) : (crashF d a b).room = d.room := rfl
noncomputable def awD : DkF := crashF (cmJ aw1 (intL aw1) (laidJ aw0 100000) 2) ((0 : Nat) : Int) ((0 : Nat) : Int)
theorem aw_mid : qMid aw1 (laidJ aw0 100000).now awD.now := by
  have e : cmJ aw1 (intL aw1) (laidJ aw0 100000) 2 = syncF (doF (laidJ aw0 100000) (.wr intN (intL aw1))) := cm_2 _ _ _
  have h : awD.now = setF intN (intL aw1) (laidJ aw0 100000).now := by
    unfold awD
    rw [e, cm_first aw_cm]
    exact crash_now (syncF_deeds _) _ _
  rw [h]
  exact ⟨fun p hp _ => get_set_other hp _ _, get_set_same _ _ _⟩
theorem aw_fine : FineJ 10 (cmJ aw1 (intL aw1) (laidJ aw0 100000) 2) := fine_cm (fine_laid aw_s0 aw_b0) aw_s1 (fun f hf => (aw_z1 f hf).2) aw_put 2
theorem aw_ld : ldJ (recJ awD).now = aw1 := by
  have hf : FineJ 10 awD := fine_crash aw_fine 0 0
  have hm := aw_mid
  have e1 : rcJ awD = recJ awD := if_neg (by rw [hm.2]; exact fun x => by cases x)
  have hsz : sizeF awD.now ≤ sizeF (laidJ aw0 100000).now + (intL aw1).length + dataN aw1 := (cm_crash aw_cm (k := 2) (keep := 0) (bytes := 0) (Nat.le_add_left 2 5) (Nat.zero_le _) _ (crashF_now _ _ _)).2
  have hrm : awD.room = 100000 := (room_crash _ _ _).trans ((room_cm aw1 (intL aw1) (laidJ aw0 100000) 2).trans ((room_laid aw0 100000).trans (Int.max_eq_left (by decide))))
  have h1 := (int_ok aw_s1 (fun f hf => (aw_z1 f hf).2) aw_put).1
  have h2 := size_laid (l := aw0) (room := 100000) aw_s0
  have h3 := data_small aw_s1
  have h4 : ldJ (recJ awD).now = ldJ (setsJ aw1 (laidJ aw0 100000).now) := by
    refine ld_ext (good_all (good_rec hf.good)).2 (sets_keys (good_all (good_laid aw0 100000)).2) fun p hp => ?_
    rw [← e1]
    exact rc_mid ⟨by decide, by decide⟩ aw_put aw_cm.may hm (by rw [hrm]; omega) hp
  have hn : setsJ aw1 (laidJ aw0 100000).now = [(aA, [50]), (bB, [51])] := by rw [aw_now]; rfl
  rw [h4, hn]
  have hk : (keysF [(aA, ([50] : List Int)), (bB, [51])]).Nodup := by
    show [aA, bB].Nodup
    exact List.nodup_cons.2 ⟨by simp [ab_ne], List.nodup_cons.2 ⟨by simp, .nil⟩⟩
  have g := ld_rel hk
  have hd : delF intN [(aA, ([50] : List Int)), (bB, [51])] = [(aA, [50]), (bB, [51])] := by rfl
  rw [hd] at g
  refine rel_uniq g ⟨hk, ?_, .refl _⟩
  refine List.pairwise_cons.2 ⟨fun f hf => ?_, List.pairwise_singleton _ _⟩
  rw [List.mem_singleton.1 hf]
  exact ltS_iff.2 (by rw [Lib.toList_data, Lib.toList_data]; decide)
theorem four4 {P : Nat → Prop} (h0 : P 0) (h1 : P 1) (h2 : P 2) (h3 : P 3) : ∀ i, i < 2 * 2 → P i := fun i hi => by
  match i, hi with
  | 0, _ => exact h0
  | 1, _ => exact h1
  | 2, _ => exact h2
  | 3, _ => exact h3
theorem four1 {P : Nat → Prop} (h0 : P 0) (h1 : P 1) (h2 : P 2) (h3 : P 3) : ∀ i, i < 4 → P i := fun i hi => by
  match i, hi with
  | 0, _ => exact h0
  | 1, _ => exact h1
  | 2, _ => exact h2
  | 3, _ => exact h3
section
variable [Globs]
set_option maxHeartbeats 4000000 in
theorem awake_p : ACalls Tryz.prog 8 [] [] (fun r h => r = .tt ∧ h = []) := by
  have h0 := laid_p aw0 100000 aw_s0 aw_b0
  have h1 := commit_q (laidJ aw0 100000) aw1 2 (fine_laid aw_s0 aw_b0) (by decide) aw_s1 aw_z1
  have h2 := crash_p (cmJ aw1 (intL aw1) (laidJ aw0 100000) 2) 0 0 (by have := (fit_len aw_fine.fit).1; omega) aw_fine.nomv
  have hA : crashF (cmJ aw1 (intL aw1) (laidJ aw0 100000) 2) 0 0 = awD := by unfold awD; rw [Int.natCast_zero]
  rw [hA] at h2
  have h3 := recover_q awD (fine_crash aw_fine 0 0) (by decide)
  have h4 := load_q (recJ awD) (fine_rec (fine_crash aw_fine 0 0)) (by decide)
  rw [aw_ld] at h4
  have h5 := steps_p 2 (by decide)
  refine rcalls Tryz.func8 rfl (by decide) ?_
  refine ⟨by decide, ?_⟩
  refine ⟨[1001], _, by decide, h0.args ⟨vrsU rfl fun i hi => ?_, VLe.refl _, trivial⟩, ?_⟩
  · match i, hi with
    | 0, _ => rfl
    | 1, _ => rfl
  rintro r hh ⟨rfl, rfl⟩
  refine ⟨.inl rfl, ?_⟩
  refine ⟨by decide, ?_⟩
  refine ⟨by decide, ?_⟩
  have hv : ∀ i, i < 2 * 2 → (rowF aw1 i) = rowF aw1 i := fun i hi => rfl
  refine ⟨[2, 3, 4, 5, 1008], _, by decide, (by (try simp only [ren_fmV]); exact fmVFree _), (by (try simp only [ren_fmV]); exact fmVFree _), (by (try simp only [ren_rowP]); exact fun i _ => rowPFree _ i), at_h ?_ (h1.args ⟨VLe.refl _, vrsU rfl (four4 rfl rfl rfl rfl), VLe.refl _, trivial⟩), ?_⟩
  · exact dkH_eq (by first | simp only [ren_fmV] | rfl) (by first | simp only [ren_fmV] | rfl) (by first | simp only [ren_rowP] | rfl)
  rintro r hh hc
  rcases com_cases hc with ⟨hE, _, _⟩ | ⟨_, _, k, hk, hr, hh1⟩
  · exact absurd (com_zero aw_cm) hE
  have hdec : decide (((aw1.length + 5 : Nat) : Int) ≤ 2) = false := by decide
  rw [hdec] at hr
  subst hr
  have hk2 : k = 2 := hk
  subst hk2
  rcases hh1 with ⟨h, _⟩ | ⟨h, _⟩ | ⟨_, rfl⟩
  · cases h
  · cases h
  refine ⟨.inl rfl, ?_⟩
  refine ⟨[2, 3, 10, 9], _, (by (try simp only [ren_fmV]); exact fmVFree _), (by (try simp only [ren_fmV]); exact fmVFree _), (by (try simp only [ren_rowP]); exact fun i _ => rowPFree _ i), at_h ?_ (h2), ?_⟩
  · exact dkH_eq (by first | simp only [ren_fmV] | rfl) (by first | simp only [ren_fmV] | rfl) (by first | simp only [ren_rowP] | rfl)
  rintro r hh ⟨rfl, rfl⟩
  refine ⟨.inl rfl, ?_⟩
  unfold recR at h3
  refine ⟨[2, 11, 12, 9], _, (by (try simp only [ren_fmV]); exact fmVFree _), (by (try simp only [ren_fmV]); exact fmVFree _), (by (try simp only [ren_rowP]); exact fun i _ => rowPFree _ i), at_h ?_ (h3), ?_⟩
  · exact dkH_eq (by first | simp only [ren_fmV] | rfl) (by first | simp only [ren_fmV] | rfl) (by first | simp only [ren_rowP] | rfl)
  rintro r hh ⟨rfl, (⟨hn, rfl⟩ | ⟨hn, rfl⟩)⟩
  · exact absurd hn (by rw [aw_mid.2]; exact fun x => by cases x)
  refine ⟨.inl rfl, ?_⟩
  refine ⟨[2, 11, 14, 13], _, (by (try simp only [ren_fmV]); exact fmVFree _), (by (try simp only [ren_fmV]); exact fmVFree _), (by (try simp only [ren_rowP]); exact fun i _ => rowPFree _ i), at_h ?_ (h4), ?_⟩
  · exact dkH_eq (by first | simp only [ren_fmV] | rfl) (by first | simp only [ren_fmV] | rfl) (by first | simp only [ren_rowP] | rfl)
  rintro r hh ⟨rfl, rfl⟩
  refine ⟨.inl rfl, ?_⟩
  refine ⟨fun _ => ?_, fun e => by cases e⟩
  refine ⟨fun _ => ?_, fun e => by cases e⟩
  refine ⟨fun _ => ?_, fun e => by cases e⟩
  refine ⟨⟨by decide, by decide⟩, flC ⟨aA, [50]⟩, (fun c hc => by match c, hc with | 0, _ => rfl | 1, _ => rfl), ?_⟩
  refine ⟨fun _ => ?_, fun e => absurd (show bytesOf [50] = ⟨#[50]⟩ by decide) (no e)⟩
  refine ⟨⟨by decide, by decide⟩, flC ⟨bB, [51]⟩, (fun c hc => by match c, hc with | 0, _ => rfl | 1, _ => rfl), ?_⟩
  refine ⟨fun _ => ?_, fun e => absurd (show bB = ⟨#[98]⟩ by decide) (no e)⟩
  refine ⟨[], _, h5, ?_⟩
  rintro r hh ⟨rfl, rfl⟩
  refine ⟨.inl rfl, ?_⟩
  exact ⟨[], [], .tt, lehN _, leTT (decide_eq_true (by decide)), rfl, rfl⟩
end
end Go.Proofs.YtflclafbieokiaaGreatDoor.Jr

/-
  The document's journal, walked.
-/
set_option linter.unusedVariables false
set_option linter.unusedSectionVars false
set_option linter.unusedSimpArgs false
set_option maxRecDepth 10000
namespace Go.Proofs.YtflclafbieokiaaGreatDoor.Jr
open Go AL Us Dk Sh

def eWr (n : ByteArray) (b : List Int) : De4 := ⟨1, n, ByteArray.empty, b⟩
def eRm (n : ByteArray) : De4 := ⟨3, n, ByteArray.empty, []⟩
def wrD (x : DkD) (n : ByteArray) (b : List Int) : DkD := doD x (eWr n b)
def rmD (x : DkD) (n : ByteArray) : DkD := doD x (eRm n)
theorem rel_wr {d : DkF} {x : DkD} (h : RelD d (dkdR x)) (n : ByteArray) (b : List Int) : RelD (doF d (.wr n b)) (dkdR (wrD x n b)) := by
  unfold wrD
  rw [dkdR_do]; exact rel_do h _
theorem rel_rm {d : DkF} {x : DkD} (h : RelD d (dkdR x)) (n : ByteArray) : RelD (doF d (.rm n)) (dkdR (rmD x n)) := by
  unfold rmD
  rw [dkdR_do]; exact rel_do h _
theorem rel_syD {d : DkF} {x : DkD} (h : RelD d (dkdR x)) : RelD (syncF d) (dkdR (syncD x)) := rel_sync h
def stpD (l : List Fl) (b : List Int) (i : Nat) (x : DkD) : DkD :=
  if i = 0 then wrD x intN b else if 2 ≤ i ∧ i < l.length + 2 then wrD x (l.getD (i - 2) fl0).path (l.getD (i - 2) fl0).data else if i = l.length + 3 then rmD x intN else syncD x
theorem rel_stp {d : DkF} {x : DkD} (h : RelD d (dkdR x)) (l : List Fl) (b : List Int) (i : Nat) : RelD (stJ l b i d) (dkdR (stpD l b i x)) := by
  unfold stJ stpD
  by_cases h0 : i = 0
  · rw [if_pos h0, if_pos h0]; exact rel_wr h _ _
  rw [if_neg h0, if_neg h0]
  by_cases h1 : i = 1
  · rw [if_pos h1, if_neg (show ¬ (2 ≤ i ∧ i < l.length + 2) by omega), if_neg (show ¬ i = l.length + 3 by omega)]; exact rel_syD h
  rw [if_neg h1]
  by_cases h2 : i < l.length + 2
  · rw [if_pos h2, if_pos ⟨by omega, h2⟩]; exact rel_wr h _ _
  rw [if_neg h2, if_neg (show ¬ (2 ≤ i ∧ i < l.length + 2) by omega)]
  by_cases h3 : i = l.length + 2
  · rw [if_pos h3, if_neg (show ¬ i = l.length + 3 by omega)]; exact rel_syD h
  rw [if_neg h3]
  by_cases h4 : i = l.length + 3
  · rw [if_pos h4, if_pos h4]; exact rel_rm h _
  rw [if_neg h4, if_neg h4]; exact rel_syD h
def cmD (l : List Fl) (b : List Int) (x : DkD) : Nat → DkD
  | 0 => x
  | i + 1 => stpD l b i (cmD l b x i)
theorem rel_cm {d : DkF} {x : DkD} (h : RelD d (dkdR x)) (l : List Fl) (b : List Int) : ∀ i, RelD (cmJ l b d i) (dkdR (cmD l b x i))
  | 0 => h
  | i + 1 => rel_stp (rel_cm h l b i) l b i
section
variable [Globs]

theorem vnilD : VLe (.raw (.slice none 0 0)) (.roI .u8 []) := fun w S L v hv => by
  obtain rfl := hv
  exact ⟨none, 0, rfl, Nat.le_refl _, fun i hi => by simp at hi⟩

theorem write_d (x : DkD) (n : ByteArray) (b : List Int) (hf : FitD x) (hb : b.length ≤ 1000000000000) (hr0 : 0 ≤ x.room) : ACalls Tryz.prog 49 [dkdV x, str n, .roI .u8 b] [] (fun r h => r = dkdV (wrD x n b) ∧ h = []) := by
  have h1 := do_r x (eWr n b) hf hb hr0
  unfold tupR at h1
  rw [show doD x (eWr n b) = wrD x n b from rfl] at h1
  generalize wrD x n b = X at *
  refine rcalls Tryz.func49 rfl (by decide) ?_
  refine ⟨[], _, (fun i hi => fr4 (dkdC_free x) hi), four1 trivial trivial trivial trivial, h1.args ⟨vdk fun i hi => ld4 hi, vde (four1 rfl rfl rfl rfl), trivial⟩, ?_⟩
  rintro r hh ⟨rfl, rfl⟩
  refine ⟨.inl rfl, ?_⟩
  exact ⟨[], [], _, lehN _, leDk rfl rfl rfl rfl rfl, rfl, rfl⟩

theorem remove_d (x : DkD) (n : ByteArray) (hf : FitD x) (hr0 : 0 ≤ x.room) : ACalls Tryz.prog 50 [dkdV x, str n] [] (fun r h => r = dkdV (rmD x n) ∧ h = []) := by
  have h1 := do_r x (eRm n) hf (Nat.zero_le _) hr0
  unfold tupR at h1
  rw [show doD x (eRm n) = rmD x n from rfl] at h1
  generalize rmD x n = X at *
  refine rcalls Tryz.func50 rfl (by decide) ?_
  refine ⟨[], _, (fun i hi => fr4 (dkdC_free x) hi), four1 trivial trivial trivial trivial, h1.args ⟨vdk fun i hi => ld4 hi, vagg (vfour (VLe.refl _) (VLe.refl _) (VLe.refl _) vnilD), trivial⟩, ?_⟩
  rintro r hh ⟨rfl, rfl⟩
  refine ⟨.inl rfl, ?_⟩
  exact ⟨[], [], _, lehN _, leDk rfl rfl rfl rfl rfl, rfl, rfl⟩

theorem intent_d (l : List Fl) (hf : fitL l) (hs : okSizes l) : ACalls Tryz.prog 44 [flsV l] [] (fun r h => (putE l = 0 ∧ r = .tup 2 (pair (.own 0 0 (intL l).length 1) (int .i64 0)) ∧ h = [.ints .u8 (intL l)]) ∨ (putE l ≠ 0 ∧ r = .tup 2 (pair (.raw (.slice none 0 0)) (int .i64 (putE l))) ∧ h = [])) := by
  have h1 := uput_ref l hf hs
  refine rcalls Tryz.func44 rfl (by decide) ?_
  refine ⟨[], _, h1, ?_⟩
  rintro r hh ⟨rfl, rfl⟩
  refine ⟨.inl rfl, ?_⟩
  refine ⟨fun c => ?_, fun c => ?_⟩
  · have f1 : ¬ putE l = 0 := yes c
    exact ⟨[], [], _, lehN _, le_pair (.raw _) (leI rfl), .inr ⟨f1, rfl, rfl⟩⟩
  have f1 : putE l = 0 := Classical.byContradiction fun x => no c x
  have hpl := putR_le hf f1
  have hf1 := hf.1
  have hf2 := hf.2
  have h2 := Jr.own_take (sum_r (putR l) (by omega) (put_bytes fun f hf => (hs f hf).2))
  refine ⟨[], _, by omega, h2, ?_⟩
  rintro r hh ⟨rfl, rfl⟩
  refine ⟨.inr ⟨trivial, fun o ho => by cases ho⟩, ?_⟩
  have hdl := sumS_len (putR l)
  refine ⟨rfl, ?_⟩
  have hcat : List.take 0 (List.replicate 32 (0 : Int)) ++ sumS (putR l) ++ List.drop (0 + (sumS (putR l)).length) (List.replicate 32 (0 : Int)) = sumS (putR l) := by rw [hdl]; simp
  refine ⟨hdl.symm, by show 0 + 32 ≤ (List.replicate 32 (0 : Int)).length; simp, ?_⟩
  rw [hcat]
  have htk : List.take (32 * 1) (List.drop 0 (sumS (putR l))) = sumS (putR l) := by rw [List.drop_zero]; exact List.take_of_length_le (by omega)
  refine ⟨by omega, ?_⟩
  have htk3 : List.take (32 - 0) (List.drop (addOff 0 0 1) (sumS (putR l))) = sumS (putR l) := htk
  refine ⟨rfl, ⟨by show 0 + 32 ≤ _; omega, by show _ * 1 ≤ 140737488355328; rw [htk3]; omega, ?_⟩⟩
  rw [htk3]
  exact ⟨[2], [.ints .u8 (intL l)], .tup 2 (pair (.own 0 0 (intL l).length 1) (int .i64 0)), leh1 rfl (leOint rfl), le_pair (leOwn rfl rfl (by unfold intL; rw [List.length_append])) (leI rfl), .inl ⟨f1, rfl, rfl⟩⟩

theorem step_d (x : DkD) (l : List Fl) (b : List Int) (i : Nat) (hf : FitD x) (hb : b.length ≤ 1000000000000) (hl : ∀ f ∈ l, f.data.length ≤ 1000000000000) (hn : l.length ≤ 1000000) (hi : i < l.length + 5) (hr0 : 0 ≤ x.room) : ACalls Tryz.prog 45 [dkdV x, flsV l, .roI .u8 b, int .i64 (i : Int)] [] (fun r h => r = dkdV (stpD l b i x) ∧ h = []) := by
  have hw0 := write_d x intN b hf hb hr0
  have hr := remove_d x intN hf hr0
  have hsy := sync_r x
  rw [show (⟨x.files, x.files, [], x.room⟩ : DkD) = syncD x from rfl] at hsy
  have e0 : i = 0 → stpD l b i x = wrD x intN b := fun h => if_pos h
  have e2 : ¬ i = 0 → (2 ≤ i ∧ i < l.length + 2) → stpD l b i x = wrD x (l.getD (i - 2) fl0).path (l.getD (i - 2) fl0).data := fun h g => (if_neg h).trans (if_pos g)
  have e3 : ¬ i = 0 → ¬ (2 ≤ i ∧ i < l.length + 2) → i = l.length + 3 → stpD l b i x = rmD x intN := fun h g k => (if_neg h).trans ((if_neg g).trans (if_pos k))
  have e4 : ¬ i = 0 → ¬ (2 ≤ i ∧ i < l.length + 2) → ¬ i = l.length + 3 → stpD l b i x = syncD x := fun h g k => (if_neg h).trans ((if_neg g).trans (if_neg k))
  generalize stpD l b i x = X at *
  refine rcalls Tryz.func45 rfl (by decide) ?_
  refine ⟨fun c => ?_, fun c => ?_⟩
  · have f1 : (i : Int) = 0 := yes c
    rw [e0 (by omega)]
    generalize wrD x intN b = Y at *
    refine ⟨[], _, (fun i hi => fr4 (dkdC_free x) hi), hw0.args ⟨vdk fun i hi => ld4 hi, VLe.refl _, VLe.refl _, trivial⟩, ?_⟩
    rintro r hh ⟨rfl, rfl⟩
    refine ⟨.inl rfl, ?_⟩
    exact ⟨[], [], _, lehN _, leDk rfl rfl rfl rfl rfl, rfl, rfl⟩
  have f1 : ¬ (i : Int) = 0 := no c
  have ew : IntKind.i64.wrap ((l.length : Int) + 2) = ((l.length + 2 : Nat) : Int) := by rw [w64 (by omega) (by omega)]; omega
  have ew3 : IntKind.i64.wrap ((l.length : Int) + 3) = ((l.length + 3 : Nat) : Int) := by rw [w64 (by omega) (by omega)]; omega
  refine ⟨fun c2 => ?_, fun c2 => ?_⟩
  · have f2 : (i : Int) ≥ 2 := yes c2
    refine ⟨fun c3 => ?_, fun c3 => ?_⟩
    · have f3 : (i : Int) < IntKind.i64.wrap ((l.length : Int) + 2) := yes c3
      rw [ew] at f3
      have ew2 : IntKind.i64.wrap ((i : Int) - 2) = ((i - 2 : Nat) : Int) := by rw [w64 (by omega) (by omega)]; omega
      have hlt : i - 2 < l.length := by omega
      rw [e2 (by omega) (by omega)]
      have h6 : ∀ c, c < 2 → rowF l (((i - 2 : Nat) : Int).toNat * 2 + c) = flC (l.getD (i - 2) fl0) c := fun c hc => by rw [Int.toNat_natCast]; exact rowF_at l hc
      have hmem := hl _ (get_mem (l := l) (k := i - 2) hlt)
      have b1 : 0 ≤ ((i - 2 : Nat) : Int) ∧ ((i - 2 : Nat) : Int) < l.length := ⟨by omega, by omega⟩
      generalize l.getD (i - 2) fl0 = F at *
      have hw1 := write_d x F.path F.data hf hmem hr0
      generalize wrD x F.path F.data = Y at *
      refine .inr ⟨13, by decide +kernel, ?_⟩
      refine ⟨_, rfl, ?_⟩
      refine ⟨_, rfl, ?_⟩
      refine ⟨_, rfl, ?_⟩
      refine ⟨_, rfl, ?_⟩
      rw [ew2]
      refine ⟨_, ⟨b1, flC F, fun c hc => h6 c hc, rfl⟩, ?_⟩
      refine ⟨_, rfl, ?_⟩
      refine ⟨_, rfl, ?_⟩
      refine ⟨_, rfl, ?_⟩
      refine ⟨_, rfl, ?_⟩
      refine ⟨_, rfl, ?_⟩
      rw [ew2]
      refine ⟨_, ⟨b1, flC F, fun c hc => h6 c hc, rfl⟩, ?_⟩
      refine ⟨_, rfl, ?_⟩
      refine ⟨_, rfl, ?_⟩
      refine ⟨[], _, (fun i hi => fr4 (dkdC_free x) hi), hw1.args ⟨vdk fun i hi => ld4 hi, VLe.refl _, VLe.refl _, trivial⟩, ?_⟩
      rintro r hh ⟨rfl, rfl⟩
      refine ⟨.inl rfl, ?_⟩
      exact ⟨[], [], _, lehN _, leDk rfl rfl rfl rfl rfl, rfl, rfl⟩
    · have f3 : ¬ (i : Int) < IntKind.i64.wrap ((l.length : Int) + 2) := no c3
      rw [ew] at f3
      refine ⟨fun c4 => ?_, fun c4 => ?_⟩
      · have f4 : (i : Int) = IntKind.i64.wrap ((l.length : Int) + 3) := yes c4
        rw [ew3] at f4
        rw [e3 (by omega) (by omega) (by omega)]
        generalize rmD x intN = Y at *
        refine ⟨[], _, (fun i hi => fr4 (dkdC_free x) hi), hr.args ⟨vdk fun i hi => ld4 hi, VLe.refl _, trivial⟩, ?_⟩
        rintro r hh ⟨rfl, rfl⟩
        refine ⟨.inl rfl, ?_⟩
        exact ⟨[], [], _, lehN _, leDk rfl rfl rfl rfl rfl, rfl, rfl⟩
      · have f4 : ¬ (i : Int) = IntKind.i64.wrap ((l.length : Int) + 3) := no c4
        rw [ew3] at f4
        rw [e4 (by omega) (by omega) (by omega)]
        generalize syncD x = Y at *
        refine ⟨[], _, (fun i hi => fr4 (dkdC_free x) hi), hsy.args ⟨vdk fun i hi => ld4 hi, trivial⟩, ?_⟩
        rintro r hh ⟨rfl, rfl⟩
        refine ⟨.inl rfl, ?_⟩
        exact ⟨[], [], _, lehN _, leDk rfl rfl rfl rfl rfl, rfl, rfl⟩
  · have f2 : ¬ (i : Int) ≥ 2 := no c2
    refine ⟨fun c4 => ?_, fun c4 => ?_⟩
    · have f4 : (i : Int) = IntKind.i64.wrap ((l.length : Int) + 3) := yes c4
      rw [ew3] at f4
      rw [e3 (by omega) (by omega) (by omega)]
      generalize rmD x intN = Y at *
      refine ⟨[], _, (fun i hi => fr4 (dkdC_free x) hi), hr.args ⟨vdk fun i hi => ld4 hi, VLe.refl _, trivial⟩, ?_⟩
      rintro r hh ⟨rfl, rfl⟩
      refine ⟨.inl rfl, ?_⟩
      exact ⟨[], [], _, lehN _, leDk rfl rfl rfl rfl rfl, rfl, rfl⟩
    · have f4 : ¬ (i : Int) = IntKind.i64.wrap ((l.length : Int) + 3) := no c4
      rw [ew3] at f4
      rw [e4 (by omega) (by omega) (by omega)]
      generalize syncD x = Y at *
      refine ⟨[], _, (fun i hi => fr4 (dkdC_free x) hi), hsy.args ⟨vdk fun i hi => ld4 hi, trivial⟩, ?_⟩
      rintro r hh ⟨rfl, rfl⟩
      refine ⟨.inl rfl, ?_⟩
      exact ⟨[], [], _, lehN _, leDk rfl rfl rfl rfl rfl, rfl, rfl⟩
end
end Go.Proofs.YtflclafbieokiaaGreatDoor.Jr

/-
  The document's journal, walked: Commit, Recover, Load.
-/
set_option linter.unusedVariables false
set_option linter.unusedSectionVars false
set_option linter.unusedSimpArgs false
set_option maxRecDepth 10000
namespace Go.Proofs.YtflclafbieokiaaGreatDoor.Jr
open Go AL Us Dk Sh

theorem room_D (x : DkD) (e : De4) : (doD x e).room = x.room := by
  unfold doD
  split <;> rfl
theorem room_stp (l : List Fl) (b : List Int) (i : Nat) (x : DkD) : (stpD l b i x).room = x.room := by
  unfold stpD
  repeat' split
  all_goals first
    | exact room_D _ _
    | rfl
theorem room_cmD (l : List Fl) (b : List Int) (x : DkD) : ∀ i, (cmD l b x i).room = x.room
  | 0 => rfl
  | i + 1 => (room_stp l b i _).trans (room_cmD l b x i)
def wrsD (L : List Fl) (x : DkD) : Nat → DkD
  | 0 => x
  | k + 1 => wrD (wrsD L x k) (L.getD k fl0).path (L.getD k fl0).data
theorem rel_wrs {d : DkF} {x : DkD} (h : RelD d (dkdR x)) (L : List Fl) : ∀ i, RelD (wrJ L d i) (dkdR (wrsD L x i))
  | 0 => h
  | i + 1 => rel_wr (rel_wrs h L i) _ _
theorem room_wrs (L : List Fl) (x : DkD) : ∀ i, (wrsD L x i).room = x.room
  | 0 => rfl
  | i + 1 => (room_D _ _).trans (room_wrs L x i)
noncomputable def recD (x : DkD) : DkD :=
  if getR intN x.files = none then x else
    syncD (rmD (if toldW ((getR intN x.files).getD []) then syncD (wrsD (toldL ((getR intN x.files).getD [])) x (toldL ((getR intN x.files).getD [])).length) else x) intN)
theorem rel_rcD {d : DkF} {x : DkD} (h : RelD d (dkdR x)) : RelD (rcJ d) (dkdR (recD x)) := by
  have hg : getR intN x.files = getF intN d.now := rel_get h.now intN
  unfold rcJ recD
  rw [hg]
  split
  · exact h
  · unfold recJ
    refine rel_syD (rel_rm ?_ _)
    split
    · exact rel_syD (rel_wrs h _ _)
    · exact h
def comDR (d : DkF) (x : DkD) (l : List Fl) (steps : Int) (r : AV) (h : List AO) : Prop := h = [] ∧
  ((comE d l (putE l) (intL l).length ≠ 0 ∧ r = .tup 3 (triple (dkdV x) (bool false) (int .i64 (comE d l (putE l) (intL l).length)))) ∨
   (comE d l (putE l) (intL l).length = 0 ∧ r = .tup 3 (triple (dkdV (cmD l (intL l) x (min (l.length + 5) steps.toNat))) (bool (decide (((l.length + 5 : Nat) : Int) ≤ steps))) (int .i64 0))))
theorem leTop4 {h : List AO} {m : List Nat} {xs : List AV} (e : xs.length = 4) : LeO h m (.lst xs) (.lst [.top, .top, .top, .top]) := .lst _ _ e.symm fun i hi => by
  have hi : i < 4 := by rw [← e]; exact hi
  match i, hi with
  | 0, _ => exact .top _
  | 1, _ => exact .top _
  | 2, _ => exact .top _
  | 3, _ => exact .top _
theorem leF4 {h : List AO} {m : List Nat} {xs : List AV} {a : AV} (e0 : LeV h m (xs.getD 0 .top) a) (e : xs.length = 4 := by rfl) : LeO h m (.lst xs) (.lst [a, .top, .top, .top]) := .lst _ _ e.symm fun i hi => by
  have hi : i < 4 := by rw [← e]; exact hi
  match i, hi with
  | 0, _ => exact e0
  | 1, _ => exact .top _
  | 2, _ => exact .top _
  | 3, _ => exact .top _
section
variable [Globs]
theorem leX {h : List AO} {l : List Nat} {xs : List AV} {X : DkD} (hl : xs.length = 4) (h0 : xs.getD 0 .top = dkdC X 0) (h1 : xs.getD 1 .top = dkdC X 1) (h2 : xs.getD 2 .top = dkdC X 2) (h3 : xs.getD 3 .top = dkdC X 3) : LeO h l (.lst xs) (.lst ((List.range 4).map (dkdC X))) := .lst _ _ (by rw [hl]; rfl) fun i hi => by
  have hi : i < 4 := by rw [← hl]; exact hi
  match i, hi with
  | 0, _ => rw [h0]; exact .same _ (dkdC_free X 0)
  | 1, _ => rw [h1]; exact .same _ (dkdC_free X 1)
  | 2, _ => rw [h2]; exact .same _ (dkdC_free X 2)
  | 3, _ => rw [h3]; exact .same _ (dkdC_free X 3)

set_option maxHeartbeats 4000000 in
theorem commit_d (d : DkF) (x : DkD) (l : List Fl) (steps : Int) (hr : RelD d (dkdR x)) (hfd : FineJ 50 d) (hs : smallF l) (hz : okSizes l) (hr0 : 0 ≤ x.room) : ACalls Tryz.prog 15 [dkdV x, flsV l, int .i64 steps] [] (comDR d x l steps) := by
  have h8 := hs.2
  have hb : okBytes l := fun f hf => (hz f hf).2
  have hint := intent_d l (small_fitL hs) hz
  have hrels := rel_cm hr l (intL l)
  have hroom := room_cmD l (intL l) x
  have hfits := fun (hp : putE l = 0) i => fine_cm hfd hs hb hp i
  have hsz : sizeF d.now = dataN x.files := rel_size hr.now
  have hrm : d.room = x.room := hr.room
  have hszf := fit_size hfd.fit
  have hlen : x.files.length ≤ 1000 := by have := rel_len hr.now; have e : (dkdR x).files = x.files := rfl; rw [e] at this; have := hfd.fit.nowL; omega
  have hd8 := data_small hs
  unfold comDR
  refine rcalls Tryz.func15 rfl (by decide) ?_
  refine ⟨Nat, fun k => [(1, flsV l), (2, int .i64 steps), (3, .ptr 0 0), (6, .ptr 1 0), (9, int .i64 (k : Int))], fun k => [.lst ((List.range 4).map (dkdC x)), .lst [.top, .top, .top, .top]], fun k => k ≤ l.length ∧ ∀ j, j < k → ¬ badF (l.getD j fl0), fun k => l.length - k,
    ⟨0, [0, 1], ⟨Nat.zero_le _, fun j hj => absurd hj (Nat.not_lt_zero _)⟩, leh_relG (by decide) ⟨.inl ⟨_, rfl, leX rfl rfl rfl rfl rfl⟩, .inl ⟨_, rfl, leTop4 rfl⟩, trivial⟩, ⟨.same _ trivial, .same _ trivial, .ptr 0 rfl, .ptr 0 rfl, leI rfl, trivial⟩⟩, ?_⟩
  rintro k ⟨hk, hkb⟩
  have hk : k ≤ l.length := hk
  have e1 : IntKind.i64.wrap ((k : Int) + 1) = ((k + 1 : Nat) : Int) := by rw [w64 (by omega) (by omega)]; omega
  refine ⟨fun c => ?_, fun c => ?_⟩
  · have f1 : (k : Int) < l.length := yes c
    have b1 : 0 ≤ (k : Int) ∧ (k : Int) < l.length := ⟨by omega, f1⟩
    have hmem := get_mem (l := l) (k := k) (by omega)
    have h6 : ∀ c, c < 2 → rowF l ((k : Int).toNat * 2 + c) = flC (l.getD k fl0) c := fun c hc => by rw [Int.toNat_natCast]; exact rowF_at l hc
    obtain ⟨F, hF⟩ : ∃ F, l.getD k fl0 = F := ⟨_, rfl⟩
    rw [hF] at hmem h6
    refine ⟨b1, flC F, fun c hc => h6 c hc, ?_⟩
    refine ⟨fun c1 => ?_, fun c1 => ?_⟩
    · have g1 : F.path = intN := yes c1
      have hE : comE d l (putE l) (intL l).length = 1 := if_pos ⟨_, hmem, (.inl g1)⟩
      exact ⟨[], [], .tup 3 (triple (dkdV x) (bool false) (int .i64 1)), lehN _, le_triple (leDk rfl rfl rfl rfl rfl) .ffr (leI rfl), rfl, .inl ⟨by rw [hE]; decide, by rw [hE]⟩⟩
    have g1 : ¬ F.path = intN := no c1
    refine ⟨b1, flC F, fun c hc => h6 c hc, ?_⟩
    refine ⟨fun c2 => ?_, fun c2 => ?_⟩
    · have g2 : F.path = ByteArray.empty := yes c2
      have hE : comE d l (putE l) (intL l).length = 1 := if_pos ⟨_, hmem, (.inr (.inl g2))⟩
      exact ⟨[], [], .tup 3 (triple (dkdV x) (bool false) (int .i64 1)), lehN _, le_triple (leDk rfl rfl rfl rfl rfl) .ffr (leI rfl), rfl, .inl ⟨by rw [hE]; decide, by rw [hE]⟩⟩
    have g2 : ¬ F.path = ByteArray.empty := no c2
    refine ⟨b1, flC F, fun c hc => h6 c hc, ?_⟩
    refine ⟨fun c3 => ?_, fun c3 => ?_⟩
    · have g3 : (F.path.size : Int) > 40 := yes c3
      have hE : comE d l (putE l) (intL l).length = 1 := if_pos ⟨_, hmem, (.inr (.inr (by omega)))⟩
      exact ⟨[], [], .tup 3 (triple (dkdV x) (bool false) (int .i64 1)), lehN _, le_triple (leDk rfl rfl rfl rfl rfl) .ffr (leI rfl), rfl, .inl ⟨by rw [hE]; decide, by rw [hE]⟩⟩
    have g3 : ¬ (F.path.size : Int) > 40 := no c3
    refine ⟨trivial, k + 1, [0, 1], ⟨by show k + 1 ≤ l.length; omega, fun j hj => ?_⟩, by show l.length - (k + 1) < l.length - k; omega, leh_relG (by decide) ⟨.inl ⟨_, rfl, leX rfl rfl rfl rfl rfl⟩, .inl ⟨_, rfl, leTop4 rfl⟩, trivial⟩, ⟨.same _ trivial, .same _ trivial, .ptr 0 rfl, .ptr 0 rfl, leI e1, trivial⟩⟩
    rcases Nat.lt_or_ge j k with q | q
    · exact hkb j q
    · have hj : j < k + 1 := hj
      rw [show j = k by omega, hF]
      rintro (h | h | h)
      · exact g1 h
      · exact g2 h
      · omega
  have f1 : ¬ (k : Int) < l.length := no c
  have hnb : ¬ ∃ f ∈ l, badF f := fun ⟨f, hf, g⟩ => by
    obtain ⟨i, hi, rfl⟩ := List.getElem_of_mem hf
    have := hkb i (by show i < k; omega)
    rw [List.getD_eq_getElem?_getD, List.getElem?_eq_getElem hi] at this
    exact this g
  refine ⟨[], _, hint, ?_⟩
  rintro r hh (⟨hp0, rfl, rfl⟩ | ⟨hp0, rfl, rfl⟩)
  rotate_left
  · refine ⟨.inl rfl, ?_⟩
    have hE : comE d l (putE l) (intL l).length = putE l := by unfold comE; rw [if_neg hnb, if_pos hp0]
    refine ⟨fun c => ?_, fun c => absurd (no c) (fun x => x hp0)⟩
    exact ⟨[], [], .tup 3 (triple (dkdV x) (bool false) (int .i64 (putE l))), lehN _, le_triple (leDk rfl rfl rfl rfl rfl) .ffr (leI rfl), rfl, .inl ⟨by rw [hE]; exact hp0, by rw [hE]⟩⟩
  refine ⟨.inl rfl, ?_⟩
  refine ⟨fun c => absurd rfl (yes c), fun _ => ?_⟩
  have hE : comE d l (putE l) (intL l).length = if ((sizeF d.now + (intL l).length + dataN l : Nat) : Int) > d.room then 5 else 0 := by unfold comE; rw [if_neg hnb, if_neg (fun h => h hp0)]
  have hfits := hfits hp0
  have hbl := (int_ok hs hb hp0).1
  have hsx := size_r x.files (by omega) (by omega)
  have hsl := size_r l (by omega) (by omega)
  obtain ⟨b, hbb⟩ : ∃ b, intL l = b := ⟨_, rfl⟩
  rw [hbb] at hE hfits hrels hroom hbl ⊢
  have hw1 : IntKind.i64.wrap ((dataN x.files : Int) + (b.length : Nat)) = ((dataN x.files + b.length : Nat) : Int) := by rw [w64 (by omega) (by omega)]; omega
  have hw2 : IntKind.i64.wrap (((dataN x.files + b.length : Nat) : Int) + (dataN l : Nat)) = ((dataN x.files + b.length + dataN l : Nat) : Int) := by rw [w64 (by omega) (by omega)]; omega
  refine .inr ⟨11, by decide +kernel, ?_⟩
  refine ⟨_, rfl, ?_⟩
  refine ⟨_, rfl, ?_⟩
  refine ⟨_, ⟨[], _, hsx, by rintro r h ⟨rfl, rfl⟩; exact ⟨.inl rfl, rfl, rfl⟩⟩, ?_⟩
  refine ⟨_, rfl, ?_⟩
  refine ⟨_, rfl, ?_⟩
  refine ⟨_, rfl, ?_⟩
  rw [hw1]
  refine ⟨_, rfl, ?_⟩
  refine ⟨_, ⟨[], _, hsl, by rintro r h ⟨rfl, rfl⟩; exact ⟨.inl rfl, rfl, rfl⟩⟩, ?_⟩
  refine ⟨_, rfl, ?_⟩
  rw [hw2]
  refine ⟨_, rfl, ?_⟩
  refine ⟨_, rfl, ?_⟩
  refine ⟨fun c => ?_, fun c => ?_⟩
  · have f3 : ((dataN x.files + b.length + dataN l : Nat) : Int) > x.room := yes c
    have hE5 : comE d l (putE l) b.length = 5 := by rw [hE, hsz, hrm, if_pos f3]
    exact ⟨[], [], .tup 3 (triple (dkdV x) (bool false) (int .i64 5)), lehN _, le_triple (leDk rfl rfl rfl rfl rfl) .ffr (leI rfl), rfl, .inl ⟨by rw [hE5]; decide, by rw [hE5]⟩⟩
  have f3 : ¬ ((dataN x.files + b.length + dataN l : Nat) : Int) > x.room := no c
  have hE0 : comE d l (putE l) b.length = 0 := by rw [hE, hsz, hrm, if_neg f3]
  have hstp : ∀ i, cmD l b x (i + 1) = stpD l b i (cmD l b x i) := fun i => rfl
  have hc0 : cmD l b x 0 = x := rfl
  have hw5 : IntKind.i64.wrap ((l.length : Int) + 5) = ((l.length + 5 : Nat) : Int) := by rw [w64 (by omega) (by omega)]; omega
  refine ⟨Nat, fun i => [(1, flsV l), (2, int .i64 steps), (3, .ptr 0 0), (6, .ptr 1 0), (10, .roI .u8 b), (12, int .i64 (i : Int))], fun i => [.lst ((List.range 4).map (dkdC (cmD l b x i))), .lst [.top, .top, .top, .top]], fun i => i ≤ l.length + 5 ∧ (i = 0 ∨ (i : Int) ≤ steps), fun i => l.length + 5 - i,
    ⟨0, [0, 1], ⟨Nat.zero_le _, .inl rfl⟩, leh_relG (by decide) ⟨.inl ⟨_, rfl, leX rfl rfl rfl rfl rfl⟩, .inl ⟨_, rfl, leTop4 rfl⟩, trivial⟩, ⟨.same _ trivial, .same _ trivial, .ptr 0 rfl, .ptr 0 rfl, .giveI b rfl (by decide) (by omega) (by rw [List.drop_zero, List.take_length]), leI rfl, trivial⟩⟩, ?_⟩
  rintro i ⟨hi, hst⟩
  have hi : i ≤ l.length + 5 := hi
  have hst : i = 0 ∨ (i : Int) ≤ steps := hst
  have e2 : IntKind.i64.wrap ((i : Int) + 1) = ((i + 1 : Nat) : Int) := by rw [w64 (by omega) (by omega)]; omega
  refine ⟨fun c => ?_, fun c => ?_⟩
  rotate_left
  · have f4 : ¬ (i : Int) < IntKind.i64.wrap ((l.length : Int) + 5) := no c
    rw [hw5] at f4
    have hm : min (l.length + 5) steps.toNat = i := by omega
    exact ⟨[], [], .tup 3 (triple (dkdV (cmD l b x i)) (bool (decide (((l.length + 5 : Nat) : Int) ≤ steps))) (int .i64 0)), lehN _, le_triple (leDk rfl rfl rfl rfl rfl) (AL.leB (by rw [hw5])) (leI rfl), rfl, .inr ⟨hE0, by rw [hm]⟩⟩
  have f4 : (i : Int) < IntKind.i64.wrap ((l.length : Int) + 5) := yes c
  rw [hw5] at f4
  refine ⟨fun c => ?_, fun c => ?_⟩
  rotate_left
  · have f5 : ¬ (i : Int) < steps := no c
    have hm : min (l.length + 5) steps.toNat = i := by omega
    exact ⟨[], [], .tup 3 (triple (dkdV (cmD l b x i)) (bool (decide (((l.length + 5 : Nat) : Int) ≤ steps))) (int .i64 0)), lehN _, le_triple (leDk rfl rfl rfl rfl rfl) (AL.leB (by rw [hw5])) (leI rfl), rfl, .inr ⟨hE0, by rw [hm]⟩⟩
  have f5 : (i : Int) < steps := yes c
  have hfi := hfits i
  have hstep := step_d (cmD l b x i) l b i (fit_doc hfi.fit (hrels i) (by omega) (by omega)) (by omega) (fun f hf => by have := small_all hs f hf; omega) (by omega) (by omega) (by rw [hroom]; exact hr0)
  rw [← hstp i] at hstep
  generalize hY : cmD l b x (i + 1) = Y at *
  refine ⟨[], _, (fun j hj => fr4 (dkdC_free (cmD l b x i)) hj), hstep.args ⟨vdk fun j hj => ld4 hj, VLe.refl _, VLe.refl _, VLe.refl _, trivial⟩, ?_⟩
  rintro r hh ⟨rfl, rfl⟩
  refine ⟨.inl rfl, ?_⟩
  refine ⟨trivial, i + 1, [0, 1], ⟨by show i + 1 ≤ l.length + 5; omega, .inr (by show ((i + 1 : Nat) : Int) ≤ steps; omega)⟩, by show l.length + 5 - (i + 1) < l.length + 5 - i; omega, ?_, ⟨.same _ trivial, .same _ trivial, .ptr 0 rfl, .ptr 0 rfl, .same _ trivial, leI e2, trivial⟩⟩
  show LeH 0 _ _ [.lst ((List.range 4).map (dkdC (cmD l b x (i + 1)))), .lst [.top, .top, .top, .top]]
  rw [hY]
  exact leh_relG (by decide) ⟨.inl ⟨_, rfl, leX rfl rfl rfl rfl rfl⟩, .inl ⟨_, rfl, leTop4 rfl⟩, trivial⟩

set_option maxHeartbeats 1000000 in
theorem load_d (x : DkD) (hl : x.files.length ≤ 100000) : ACalls Tryz.prog 19 [dkdV x] [] (fun r h => r = flsV (withoutR intN x.files) ∧ h = []) := by
  obtain ⟨L, hL⟩ : ∃ L, x.files = L := ⟨_, rfl⟩
  have hfl : dkdC x 0 = flsV L := by rw [← hL]; rfl
  rw [hL] at hl ⊢
  have hwl := fun k => without_le intN (L.take k)
  refine rcalls Tryz.func19 rfl (by decide) ?_
  refine ⟨Nat × List Fl, fun y => [(1, .ptr 0 0), (3, .own 1 0 y.2.length 2), (4, int .i64 (y.1 : Int))], fun y => [.lst [flsV L, .top, .top, .top], .row (y.2.length * 2) (rowF y.2)], fun y => y.1 ≤ L.length ∧ y.2 = withoutR intN (L.take y.1), fun y => L.length - y.1,
    ⟨(0, []), [0, 1], ⟨Nat.zero_le _, by rw [List.take_zero]; rfl⟩, ?_, ⟨.ptr 0 rfl, .nil _ _ (by decide), leI rfl, trivial⟩⟩, ?_⟩
  · refine leh_relG (by decide) ⟨.inl ⟨_, rfl, leF4 ?_⟩, .inr ⟨Nat.le_refl 1, .inr (.inr ⟨_, rfl⟩)⟩, trivial⟩
    show LeV _ _ (dkdC x 0) (flsV L)
    rw [hfl]; exact .same _ trivial
  rintro ⟨k, A⟩ ⟨hk, hA⟩
  have hk : k ≤ L.length := hk
  have hA : A = withoutR intN (L.take k) := hA
  have e1 : IntKind.i64.wrap ((k : Int) + 1) = ((k + 1 : Nat) : Int) := by rw [w64 (by omega) (by omega)]; omega
  refine ⟨fun c => ?_, fun c => ?_⟩
  · have f1 : (k : Int) < L.length := yes c
    have b1 : 0 ≤ (k : Int) ∧ (k : Int) < L.length := ⟨by omega, f1⟩
    have h6 : ∀ c, c < 2 → rowF L ((k : Int).toNat * 2 + c) = flC (L.getD k fl0) c := fun c hc => by rw [Int.toNat_natCast]; exact rowF_at L hc
    have hts := take_succ_fl (l := L) (k := k) (by omega)
    have hlk : (L.take k).length = k := by rw [List.length_take]; omega
    have hwk := hwl k
    have hsn := without_snoc (L.take k) (L.getD k fl0)
    rw [← hts] at hsn
    generalize L.getD k fl0 = F at *
    rw [← hA] at hsn hwk
    refine ⟨b1, flC F, fun c hc => h6 c hc, ?_⟩
    refine ⟨fun c => ?_, fun c => ?_⟩
    · have f3 : ¬ F.path = intN := yes c
      rw [if_neg f3] at hsn
      refine ⟨b1, flC F, fun c hc => h6 c hc, ?_⟩
      refine ⟨rfl, fun i _ => rowCell1 A i, Nat.le_refl 2, by show (A.length + 1) * 40 ≤ _; omega, fun i hi => ?_, rowF (A ++ [F]), fun i hi => (rowN (o := A) (F := F) (n := A.length) rfl).1 i hi, fun i hi => ?_, ?_⟩
      · match i, hi with
        | 0, _ => rfl
        | 1, _ => rfl
      · show rowF (A ++ [F]) ((A.length) * 2 + i) = _
        rw [(rowN (o := A) (F := F) (n := A.length) rfl).2 i hi]
        match i, hi with
        | 0, _ => rfl
        | 1, _ => rfl
      refine ⟨trivial, (k + 1, A ++ [F]), [0, 3], ⟨by show k + 1 ≤ L.length; omega, hsn.symm⟩, by show L.length - (k + 1) < L.length - k; omega, leh_relG (by decide) ⟨.inl ⟨_, rfl, leF4 (.same _ trivial)⟩, .inl ⟨_, rfl, .row _ _ _ _ (by show (A ++ [F]).length * 2 ≤ _; rw [len1]; exact Nat.le_refl _) fun i hi => .same _ (rowFree _ i)⟩, trivial⟩, ⟨.ptr 0 rfl, leOwn rfl rfl (by show _ = (A ++ [F]).length; rw [len1]), leI e1, trivial⟩⟩
    · have f3 : F.path = intN := Classical.byContradiction fun x => no c x
      rw [if_pos f3] at hsn
      refine ⟨trivial, (k + 1, A), [0, 1], ⟨by show k + 1 ≤ L.length; omega, hsn.symm⟩, by show L.length - (k + 1) < L.length - k; omega, leh_relG (by decide) ⟨.inl ⟨_, rfl, leF4 (.same _ trivial)⟩, .inl ⟨_, rfl, .row _ _ _ _ (Nat.le_refl _) fun i hi => .same _ (rowFree _ i)⟩, trivial⟩, ⟨.ptr 0 rfl, leOwn rfl rfl rfl, leI e1, trivial⟩⟩
  · have f1 : ¬ (k : Int) < L.length := no c
    have eT : L.take k = L := List.take_of_length_le (by omega)
    have hwk := hwl k
    rw [← hA] at hwk
    rw [eT] at hA
    exact ⟨[], [], flsV (withoutR intN L), lehN _, .seen (.giveR (rowF A) rfl (by decide) (by omega) (fun i hi => by rw [Nat.zero_add]; exact .same _ (rowFree _ i)) fun i hi => rowFree _ i) (vrsU (l := withoutR intN L) (by rw [hA]) fun i hi => by rw [hA]), rfl, rfl⟩

set_option maxHeartbeats 4000000 in
theorem recover_d (d : DkF) (x : DkD) (hr : RelD d (dkdR x)) (hfd : FineJ 100 d) (hr0 : 0 ≤ x.room) : ACalls Tryz.prog 21 [dkdV x] [] (fun r h => r = dkdV (recD x) ∧ h = []) := by
  have hg0 : getR intN x.files = getF intN d.now := rel_get hr.now intN
  have hv : okV 20000 ((getR intN x.files).getD []) := by rw [hg0]; exact okM_get hfd.fit.now
  have hlen : x.files.length ≤ 1000 := by have := rel_len hr.now; have e : (dkdR x).files = x.files := rfl; rw [e] at this; have := hfd.fit.nowL; omega
  have hg := get_r x.files intN (by omega)
  have hno : getR intN x.files = none → recD x = x := fun h => if_pos h
  have hyes : getR intN x.files ≠ none → recD x = syncD (rmD (if toldW ((getR intN x.files).getD []) = true then syncD (wrsD (toldL ((getR intN x.files).getD [])) x (toldL ((getR intN x.files).getD [])).length) else x) intN) := fun h => if_neg h
  have htf := told_fit2 hv
  have hfx := fit_doc hfd.fit hr (by decide) (by decide)
  generalize recD x = X0 at *
  obtain ⟨G, hG⟩ : ∃ G, getR intN x.files = G := ⟨_, rfl⟩
  rw [hG] at hv hg hno hyes htf
  obtain ⟨b, hb⟩ : ∃ b, G.getD [] = b := ⟨_, rfl⟩
  rw [hb] at hv hg hyes htf
  have htold := told_r b hv.2 (by have := hv.1; omega)
  unfold toldR at htold
  have hL39 : (toldL b).length ≤ 39 := by have := hv.1; have := htf.1; omega
  have htf := htf.2
  generalize toldL b = L at *
  generalize toldW b = W at *
  have hrw := rel_wrs hr L
  have hfw := fun i (hi : i ≤ L.length) => (⟨fit_wr hfd.fit htf i hi, good_wrJ hfd.good i, nomv_wrJ hfd.nomv hi⟩ : FineJ (100 + i) (wrJ L d i))
  have hrmw := room_wrs L x
  refine rcalls Tryz.func21 rfl (by decide) ?_
  refine ⟨[], _, hg, ?_⟩
  rintro r hh ⟨rfl, rfl⟩
  refine ⟨.inl rfl, ?_⟩
  refine ⟨[], _, htold, ?_⟩
  rintro r hh ⟨rfl, rfl⟩
  refine ⟨.inl rfl, ?_⟩
  refine ⟨fun cz => ?_, fun cz => ?_⟩
  rotate_left
  · have hGn : G = none := by cases G with
      | none => rfl
      | some v => cases cz
    rw [hno hGn]
    refine ⟨fun c => (by rw [cz] at c; cases c), fun _ => ?_⟩
    exact ⟨[], [], _, lehN _, leDk rfl rfl rfl rfl rfl, rfl, rfl⟩
  have hGs : G ≠ none := fun e => by rw [e] at cz; cases cz
  rw [hyes hGs]
  refine ⟨fun cw => ?_, fun cw => ?_⟩
  rotate_left
  · rw [cw, if_neg (by decide)]
    refine ⟨fun _ => ?_, fun c => (by rw [cz] at c; cases c)⟩
    refine ⟨[], _, (fun i hi => fr4 (dkdC_free x) hi), (remove_d x intN hfx hr0).args ⟨vdk fun i hi => ld4 hi, VLe.refl _, trivial⟩, ?_⟩
    rintro r hh ⟨rfl, rfl⟩
    refine ⟨.inl rfl, ?_⟩
    have hs9 := sync_r (rmD x intN)
    rw [show (⟨(rmD x intN).files, (rmD x intN).files, [], (rmD x intN).room⟩ : DkD) = syncD (rmD x intN) from rfl] at hs9
    generalize rmD x intN = Y at *
    refine ⟨[], _, (fun i hi => fr4 (dkdC_free Y) hi), hs9.args ⟨vdk fun i hi => ld4 hi, trivial⟩, ?_⟩
    rintro r hh ⟨rfl, rfl⟩
    refine ⟨.inl rfl, ?_⟩
    generalize syncD Y = Z9 at *
    exact ⟨[], [], _, lehN _, leDk rfl rfl rfl rfl rfl, rfl, rfl⟩
  rw [cw, if_pos rfl]
  refine ⟨Nat, fun k => [(1, .ptr 0 0), (2, .ptr 1 0), (4, .tt), (5, flsV L), (7, int .i64 (k : Int))], fun k => [.lst ((List.range 4).map (dkdC (wrsD L x k))), .lst [.top, .top, .top, .top]], fun k => k ≤ L.length, fun k => L.length - k,
    ⟨0, [0, 1], Nat.zero_le _, leh_relG (by decide) ⟨.inl ⟨_, rfl, leX rfl rfl rfl rfl rfl⟩, .inl ⟨_, rfl, leTop4 rfl⟩, trivial⟩, ⟨.ptr 0 rfl, .ptr 0 rfl, leTT cz, .seen (.giveR (rowF L) rfl (by decide) (by omega) (fun i hi => by rw [Nat.zero_add, ren_rowF]; exact .same _ (rowFree _ i)) fun i hi => rowFree _ i) (vrsU (l := L) rfl fun i hi => rfl), leI rfl, trivial⟩⟩, ?_⟩
  intro k hk
  have hk : k ≤ L.length := hk
  have e1 : IntKind.i64.wrap ((k : Int) + 1) = ((k + 1 : Nat) : Int) := by rw [w64 (by omega) (by omega)]; omega
  have hfk := hfw k hk
  have hfd0 := fit_doc hfk.fit (hrw k) (by omega) (by omega)
  refine ⟨fun c => ?_, fun c => ?_⟩
  · have f1 : (k : Int) < L.length := yes c
    have b1 : 0 ≤ (k : Int) ∧ (k : Int) < L.length := ⟨by omega, f1⟩
    have h6 : ∀ c, c < 2 → rowF L ((k : Int).toNat * 2 + c) = flC (L.getD k fl0) c := fun c hc => by rw [Int.toNat_natCast]; exact rowF_at L hc
    have hmem := htf _ (get_mem (l := L) (k := k) (by omega))
    have hun : wrsD L x (k + 1) = wrD (wrsD L x k) (L.getD k fl0).path (L.getD k fl0).data := rfl
    generalize L.getD k fl0 = F at *
    have hw := write_d (wrsD L x k) F.path F.data hfd0 (by have := hmem.1; omega) (by rw [hrmw]; exact hr0)
    rw [← hun] at hw
    generalize hY : wrsD L x (k + 1) = Y at *
    refine .inr ⟨11, by decide +kernel, ?_⟩
    refine ⟨_, rfl, ?_⟩
    refine ⟨_, rfl, ?_⟩
    refine ⟨_, rfl, ?_⟩
    refine ⟨_, ⟨b1, flC F, fun c hc => h6 c hc, rfl⟩, ?_⟩
    refine ⟨_, rfl, ?_⟩
    refine ⟨_, rfl, ?_⟩
    refine ⟨_, rfl, ?_⟩
    refine ⟨_, rfl, ?_⟩
    refine ⟨_, ⟨b1, flC F, fun c hc => h6 c hc, rfl⟩, ?_⟩
    refine ⟨_, rfl, ?_⟩
    refine ⟨_, rfl, ?_⟩
    refine ⟨[], _, (fun i hi => fr4 (dkdC_free (wrsD L x k)) hi), hw.args ⟨vdk fun i hi => ld4 hi, VLe.refl _, VLe.refl _, trivial⟩, ?_⟩
    rintro r hh ⟨rfl, rfl⟩
    refine ⟨.inl rfl, ?_⟩
    refine ⟨trivial, k + 1, [0, 1], by show k + 1 ≤ L.length; omega, by show L.length - (k + 1) < L.length - k; omega, ?_, ⟨.ptr 0 rfl, .ptr 0 rfl, .same _ trivial, .same _ trivial, leI e1, trivial⟩⟩
    show LeH 0 _ _ [.lst ((List.range 4).map (dkdC (wrsD L x (k + 1)))), .lst [.top, .top, .top, .top]]
    rw [hY]
    exact leh_relG (by decide) ⟨.inl ⟨_, rfl, leX rfl rfl rfl rfl rfl⟩, .inl ⟨_, rfl, leTop4 rfl⟩, trivial⟩
  · have f1 : ¬ (k : Int) < L.length := no c
    obtain rfl : k = L.length := by omega
    have hs8 := sync_r (wrsD L x L.length)
    rw [show (⟨(wrsD L x L.length).files, (wrsD L x L.length).files, [], (wrsD L x L.length).room⟩ : DkD) = syncD (wrsD L x L.length) from rfl] at hs8
    have hfs := fit_doc (fit_sync hfk.fit) (rel_syD (hrw L.length)) (by omega) (by omega)
    have hrs : 0 ≤ (syncD (wrsD L x L.length)).room := by show 0 ≤ (wrsD L x L.length).room; rw [hrmw]; exact hr0
    generalize hV : syncD (wrsD L x L.length) = V at *
    refine ⟨[], _, (fun i hi => fr4 (dkdC_free (wrsD L x L.length)) hi), hs8.args ⟨vdk fun i hi => ld4 hi, trivial⟩, ?_⟩
    rintro r hh ⟨rfl, rfl⟩
    refine ⟨.inl rfl, ?_⟩
    refine ⟨[], _, (fun i hi => fr4 (dkdC_free V) hi), (remove_d V intN hfs hrs).args ⟨vdk fun i hi => ld4 hi, VLe.refl _, trivial⟩, ?_⟩
    rintro r hh ⟨rfl, rfl⟩
    refine ⟨.inl rfl, ?_⟩
    have hs9 := sync_r (rmD V intN)
    rw [show (⟨(rmD V intN).files, (rmD V intN).files, [], (rmD V intN).room⟩ : DkD) = syncD (rmD V intN) from rfl] at hs9
    generalize rmD V intN = Y at *
    refine ⟨[], _, (fun i hi => fr4 (dkdC_free Y) hi), hs9.args ⟨vdk fun i hi => ld4 hi, trivial⟩, ?_⟩
    rintro r hh ⟨rfl, rfl⟩
    refine ⟨.inl rfl, ?_⟩
    generalize syncD Y = Z9 at *
    exact ⟨[], [], _, lehN _, leDk rfl rfl rfl rfl rfl, rfl, rfl⟩
end
end Go.Proofs.YtflclafbieokiaaGreatDoor.Jr
