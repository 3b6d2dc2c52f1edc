/-
  The contracts of the numbers' texts: strconv's, hexa.Number, hexa.Read, and the document's own.
-/
import Derived.Test.YthckagkciefliaaGreatDoorHxM
import Derived.Test.YthckagkciefliaaGreatDoorFwD
import Derived.Test.YthckagkciefliaaGreatDoorShelfN
import Derived.Below
set_option linter.unusedVariables false
set_option linter.unusedSectionVars false
namespace Go.Proofs.YthckagkciefliaaGreatDoor.Hx
open Go AL
section
variable [Globs]

def isIfc (cs : Array Value) : Prop := ∃ T u, cs = #[.iface T u]
def isTab (cs : Array Value) : Prop := cs = (Lib.pow10Tab.map (Value.int .u64)).toArray
/-- What strconv reads is known. -/
structure NumG : Prop where
  syn : (2, isIfc) ∈ Globs.l
  rng : (3, isIfc) ∈ Globs.l
  tab : (1, isTab) ∈ Globs.l

theorem below_grow {w : World} {k : Nat} {os : Array Obj} : RowKit.Below w.heap.size w (Sort.grow (w.drewN k) os) :=
  ⟨rfl, rfl, rfl, by simp [Sort.grow], fun i hi => by simp [Sort.grow]; exact Array.getElem?_append_left hi⟩

theorem format_prog (hG : NumG) (n : Int) (h0 : -9223372036854775808 ≤ n) (h1 : n < 9223372036854775808) : ACalls Tryz.prog 99 [int .i64 n, int .i64 10] [] (fun r h => r = str (numS n) ∧ h = []) := by
  refine acalls_below (args := [.int .i64 n, .int .i64 10]) ⟨_, Tryz.func99, by decide, rfl⟩ trivial trivial fun S w hg => ?_
  obtain ⟨cs, hv, hc⟩ := hg.var (P := Tryz.prog) (n := "internal/strconv.uint64pow10") (by kernel_rfl) hG.tab
  refine (Tryz.strconv_FormatInt_10 n h0 (by omega) w (by unfold Lib.TabIs; rw [hv]; exact congrArg some hc)).mono fun e w' he => ?_
  obtain ⟨rfl, k, os, rfl⟩ := he
  exact ⟨_, rfl, rfl, below_grow⟩

/-- What ParseInt hands back. -/
def parseT (s : ByteArray) : AV := match Lib.parseIntB 64 s.data.toList with
  | .ok v => .tup 2 (pair (int .i64 v) (.raw .nilIface))
  | .range => .tup 2 (pair (int .i64 (Lib.intSat 64 s.data.toList)) .ifc)
  | _ => .tup 2 (pair (int .i64 0) .ifc)
theorem den_pair {w : World} {S : Nat → Prop} {L : AL.Loc} {a b : AV} {u v : Value} (h1 : den w S L a u) (h2 : den w S L b v) : den w S L (.tup 2 (pair a b)) (.tuple #[u, v]) :=
  ⟨_, rfl, rfl, fun i hi => by
    match i, hi with
    | 0, _ => exact ⟨u, rfl, h1⟩
    | 1, _ => exact ⟨v, rfl, h2⟩⟩
theorem parseInt_prog (hG : NumG) (s : ByteArray) (hs : s.size ≤ 281474976710656) : ACalls Tryz.prog 101 [str s, int .i64 10, int .i64 64] [] (fun r h => r = parseT s ∧ h = []) := by
  have free : ∀ a b : AV, a.free → b.free → (AV.tup 2 (pair a b)).free := fun a b ha hb i hi => by
    match i, hi with
    | 0, _ => exact ha
    | 1, _ => exact hb
  have flat : ∀ a b : AV, a.flat → b.flat → (AV.tup 2 (pair a b)).flat := fun a b ha hb i hi => by
    match i, hi with
    | 0, _ => exact ha
    | 1, _ => exact hb
  refine acalls_below (args := [.string s, .int .i64 10, .int .i64 64]) ⟨_, Tryz.func101, by decide, rfl⟩ ?_ ?_ fun S w hg => ?_
  · unfold parseT; split
    · exact free _ _ trivial trivial
    · exact free _ _ trivial trivial
    · exact free _ _ trivial trivial
  · unfold parseT; split
    · exact flat _ _ trivial trivial
    · exact flat _ _ trivial trivial
    · exact flat _ _ trivial trivial
  unfold parseT
  cases hp : Lib.parseIntB 64 s.data.toList
  · rename_i v
    refine (Tryz.strconv_ParseInt_10_at64_ok s (by omega) v hp w).mono fun e w' he => ?_
    obtain ⟨rfl, hw⟩ := he
    refine ⟨_, rfl, den_pair rfl rfl, ?_⟩
    rcases hw with rfl | ⟨t, rfl⟩
    · exact .refl _ _
    · exact Lib.bytesWorld_below _ _ _
  · obtain ⟨cs, hv, tp, u, rfl⟩ := hg.var (P := Tryz.prog) (n := "strconv.ErrSyntax") (by kernel_rfl) hG.syn
    refine (Go.Proofs.Any.strconv_ParseInt_10_at64_syntax_var Tryz.laysC174 s hs hp tp u w hv).mono fun e w' he => ?_
    obtain ⟨N, rfl, _, _, hb⟩ := he
    exact ⟨_, rfl, den_pair rfl ⟨_, _, rfl⟩, hb⟩
  · obtain ⟨cs, hv, tp, u, rfl⟩ := hg.var (P := Tryz.prog) (n := "strconv.ErrRange") (by kernel_rfl) hG.rng
    refine (Tryz.strconv_ParseInt_10_at64_range_var s hs hp tp u w hv).mono fun e w' he => ?_
    obtain ⟨N, rfl, _, _, hb⟩ := he
    exact ⟨_, rfl, den_pair rfl ⟨_, _, rfl⟩, hb⟩

set_option maxHeartbeats 1000000 in
set_option maxRecDepth 10000 in
theorem number_prog (hG : NumG) (n : Int) (h0 : -9223372036854775808 ≤ n) (h1 : n < 9223372036854775808) : ACalls Tryz.prog 56 [int .i64 n] [] (fun r h => r = str (numS n) ∧ h = []) := by
  have hf := format_prog hG n h0 h1
  generalize numS n = S at *
  refine rcalls Tryz.func56 rfl (by decide) ?_
  refine ⟨[], _, hf, ?_⟩
  rintro r h ⟨rfl, rfl⟩
  refine ⟨.inl rfl, ?_⟩
  exact ⟨[], [], _, leh0, leS rfl, rfl, rfl⟩

/-- What Read hands back. -/
def ReadR (s : ByteArray) (most : Int) (r : AV) (h : List AO) : Prop := r = .tup 2 (pair (int .i64 (readV s most)) (int .i64 (readE s most))) ∧ h = []

set_option maxHeartbeats 1000000 in
set_option maxRecDepth 10000 in
theorem read_prog (hG : NumG) (s : ByteArray) (most : Int) (hs : s.size ≤ 281474976710656) : ACalls Tryz.prog 62 [str s, int .i64 most] [] (ReadR s most) := by
  have hp := parseInt_prog hG s hs
  have bad : (∀ v, ¬ isNum s v) → ∀ h, ∃ l h1 b, LeH 0 h l h1 ∧ LeV h l (.tup 2 fun i => [int .i64 0, int .i64 2].getD i .top) b ∧ ReadR s most b h1 := fun hn h => by
    obtain ⟨e1, e2⟩ := read_none (most := most) hn
    exact ⟨[], [], _, lehN _, le_pair (leI e2.symm) (leI e1.symm), rfl, rfl⟩
  refine rcalls Tryz.func62 rfl (by decide) ?_
  unfold parseT at hp
  cases hv : Lib.parseIntB 64 s.data.toList
  · rename_i v
    rw [hv] at hp
    have hb := Lib.parseIntB_bounds hv
    have hb1 : v < 9223372036854775808 := by have := hb.2; omega
    have hb0 : -9223372036854775808 ≤ v := by have := hb.1; omega
    refine ⟨[], _, hp, ?_⟩
    rintro r h ⟨rfl, rfl⟩
    refine ⟨.inl rfl, ?_⟩
    have uniq : ∀ u, isNum s u → u = v := fun u hn => by
      rw [hn.2.2, numS_list, parse_itoa hn.1 hn.2.1] at hv
      injection hv
    refine ⟨fun c1 => ?_, fun c1 => ?_⟩
    · refine ⟨fun _ => bad (fun u hn => ?_) _, fun e => by rw [c1] at e; cases e⟩
      have := uniq u hn
      have := hn.1
      have := yes c1
      omega
    · have c2 : 0 ≤ v := by have := no c1; omega
      have hf := number_prog hG v hb0 hb1
      obtain ⟨S, hS⟩ : ∃ S, numS v = S := ⟨_, rfl⟩
      rw [hS] at hf
      refine ⟨[], _, hf, ?_⟩
      rintro r h ⟨rfl, rfl⟩
      refine ⟨.inl rfl, ?_⟩
      refine ⟨fun d1 => ?_, fun d1 => ?_⟩
      · have d2 : ¬ S = s := of_decide_eq_true d1
        refine bad (fun u hn => ?_) _
        have e := uniq u hn
        subst e
        exact d2 (hS.symm.trans hn.2.2.symm)
      · have d2 : S = s := Classical.byContradiction fun hne => of_decide_eq_false d1 hne
        have hn : isNum s v := ⟨c2, hb1, by rw [hS, d2]⟩
        refine ⟨fun e1 => ?_, fun e1 => ?_⟩
        · obtain ⟨g1, g2⟩ := read_over hn (yes e1)
          exact ⟨[], [], _, lehN _, le_pair (leI g2.symm) (leI g1.symm), rfl, rfl⟩
        · obtain ⟨g1, g2⟩ := read_ok hn (no e1)
          exact ⟨[], [], _, lehN _, le_pair (leI g2.symm) (leI g1.symm), rfl, rfl⟩
  all_goals
    rw [hv] at hp
    refine ⟨[], _, hp, ?_⟩
    rintro r h ⟨rfl, rfl⟩
    refine ⟨.inl rfl, ?_⟩
    refine bad (fun v hn => ?_) _
    rw [hn.2.2, numS_list, parse_itoa hn.1 hn.2.1] at hv
    cases hv

set_option maxHeartbeats 2000000 in
set_option maxRecDepth 10000 in
theorem number_ref : ∀ (m : Nat) (n : Int), n.natAbs ≤ m → -9223372036854775808 ≤ n → n < 9223372036854775808 → ACalls Tryz.prog 59 [int .i64 n] [] (fun r h => r = str (numS n) ∧ h = []) := by
  intro m
  induction m with
  | zero =>
    intro n hm h0 h1
    obtain rfl : n = 0 := by omega
    have e := numS_small (n := 0) (by omega) (by omega)
    generalize numS 0 = S at *
    refine rcalls Tryz.func59 rfl (by decide) ?_
    refine ⟨fun c => absurd (yes c) (by omega), fun _ => ⟨fun c => absurd (yes c) (by omega), fun _ => ⟨fun _ => ?_, fun c => absurd (by omega) (no c)⟩⟩⟩
    refine ⟨by decide, ?_⟩
    exact ⟨[], [], _, lehN _, leS (by rw [e]; rfl), rfl, rfl⟩
  | succ m ih =>
    intro n hm h0 h1
    refine rcalls Tryz.func59 rfl (by decide) ?_
    refine ⟨fun c1 => ⟨fun c2 => ?_, fun c2 => ⟨fun c3 => ?_, fun c3 => absurd (yes c1) (no c3)⟩⟩, fun c1 => ⟨fun c3 => absurd (yes c3) (no c1), fun c3 => ⟨fun c4 => ?_, fun c4 => ?_⟩⟩⟩
    · have f1 := yes c1
      have f2 := yes c2
      have e := numS_nsmall f1 f2
      generalize numS n = S at *
      have e1 : IntKind.u8.wrap (IntKind.i64.wrap (48 - n)) = 48 - n := by rw [w64 (by omega) (by omega), w8 (by omega) (by omega)]
      refine ⟨Nat.le_refl _, ?_⟩
      refine ⟨by show 1 + 1 < _; omega, ?_⟩
      exact ⟨[], [], _, lehN _, leS (by rw [e, e1]; rfl), rfl, rfl⟩
    · have f3 := yes c3
      have f2 : n ≤ -10 := by have := no c2; omega
      have e := numS_nbig f2
      have d1 : n.tdiv 10 = -(-n / 10) := by
        have h2 : (-n).tdiv 10 = -n / 10 := Int.tdiv_eq_ediv_of_nonneg (by omega)
        have h3 : n.tdiv 10 = -((-n).tdiv 10) := by rw [Int.neg_tdiv]; simp
        rw [h3, h2]
      have d2 : n.tmod 10 = -(-n % 10) := by
        have h2 : (-n).tmod 10 = -n % 10 := Int.tmod_eq_emod_of_nonneg (by omega)
        have h3 : n.tmod 10 = -((-n).tmod 10) := by rw [Int.neg_tmod]; simp
        rw [h3, h2]
      have q1 : IntKind.i64.wrap (n.tdiv 10) = -(-n / 10) := by rw [d1, w64 (by omega) (by omega)]
      have hc := ih (IntKind.i64.wrap (n.tdiv 10)) (by rw [q1]; omega) (by rw [q1]; omega) (by rw [q1]; omega)
      have hz : (numS (IntKind.i64.wrap (n.tdiv 10))).size ≤ 21 := num_size_le (by rw [q1]; omega) (by rw [q1]; omega)
      rw [← q1] at e
      have e1 : IntKind.u8.wrap (IntKind.i64.wrap (48 - n.tmod 10)) = 48 + -n % 10 := by rw [d2, w64 (by omega) (by omega), w8 (by omega) (by omega)]; omega
      generalize numS n = S at *
      generalize numS (IntKind.i64.wrap (n.tdiv 10)) = S' at *
      refine .inr ⟨10, by decide +kernel, ?_⟩
      refine ⟨_, rfl, ?_⟩
      refine ⟨_, ⟨by decide, rfl⟩, ?_⟩
      refine ⟨_, ⟨[], _, hc, by rintro r h ⟨rfl, rfl⟩; exact ⟨.inl rfl, rfl, rfl⟩⟩, ?_⟩
      refine ⟨_, rfl, ?_⟩
      refine ⟨_, ⟨by decide, rfl⟩, ?_⟩
      refine ⟨_, rfl, ?_⟩
      refine ⟨_, rfl, ?_⟩
      refine ⟨_, rfl, ?_⟩
      refine ⟨_, rfl, ?_⟩
      refine ⟨_, ⟨by show S'.size + 1 < _; omega, rfl⟩, ?_⟩
      exact ⟨[], [], _, lehN _, leS (by rw [e, ← e1]), rfl, rfl⟩
    · have f1 := no c1
      have f4 := yes c4
      have e := numS_small (n := n) (by omega) (by omega)
      generalize numS n = S at *
      have e1 : IntKind.u8.wrap (IntKind.i64.wrap (48 + n)) = 48 + n := by rw [w64 (by omega) (by omega), w8 (by omega) (by omega)]
      refine ⟨Nat.le_refl _, ?_⟩
      exact ⟨[], [], _, lehN _, leS (by rw [e, e1]; rfl), rfl, rfl⟩
    · have f1 := no c1
      have f2 : 10 ≤ n := by have := no c4; omega
      have e := numS_big f2
      have d1 : n.tdiv 10 = n / 10 := Int.tdiv_eq_ediv_of_nonneg (by omega)
      have d2 : n.tmod 10 = n % 10 := Int.tmod_eq_emod_of_nonneg (by omega)
      have q1 : IntKind.i64.wrap (n.tdiv 10) = n / 10 := by rw [d1, w64 (by omega) (by omega)]
      have hc := ih (IntKind.i64.wrap (n.tdiv 10)) (by rw [q1]; omega) (by rw [q1]; omega) (by rw [q1]; omega)
      have hz : (numS (IntKind.i64.wrap (n.tdiv 10))).size ≤ 21 := num_size_le (by rw [q1]; omega) (by rw [q1]; omega)
      rw [← q1] at e
      have e1 : IntKind.u8.wrap (IntKind.i64.wrap (48 + n.tmod 10)) = 48 + n % 10 := by rw [d2, w64 (by omega) (by omega), w8 (by omega) (by omega)]
      generalize numS n = S at *
      generalize numS (IntKind.i64.wrap (n.tdiv 10)) = S' at *
      refine .inr ⟨10, by decide +kernel, ?_⟩
      refine ⟨_, rfl, ?_⟩
      refine ⟨_, ⟨by decide, rfl⟩, ?_⟩
      refine ⟨_, ⟨[], _, hc, by rintro r h ⟨rfl, rfl⟩; exact ⟨.inl rfl, rfl, rfl⟩⟩, ?_⟩
      refine ⟨_, rfl, ?_⟩
      refine ⟨_, ⟨by decide, rfl⟩, ?_⟩
      refine ⟨_, rfl, ?_⟩
      refine ⟨_, rfl, ?_⟩
      refine ⟨_, rfl, ?_⟩
      refine ⟨_, rfl, ?_⟩
      refine ⟨_, ⟨by show S'.size + 1 < _; omega, rfl⟩, ?_⟩
      exact ⟨[], [], _, lehN _, leS (by rw [e, ← e1]), rfl, rfl⟩

end
end Go.Proofs.YthckagkciefliaaGreatDoor.Hx
