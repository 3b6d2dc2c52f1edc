/-
  The laws of hexa, walked: HexaTexts, HexaNumbers, HexaReads, HexaBack.
-/
import Derived.Test.YtlogcpcdkhmjoaaDoorHxAwake
set_option linter.unusedVariables false
set_option linter.unusedSectionVars false
namespace Go.Proofs.YtlogcpcdkhmjoaaDoor.Hx
open Go AL

theorem drop32 {d : List Int} (hl : d.length = 32) : List.take 32 (List.drop 0 d) = d := by rw [List.drop_zero, List.take_of_length_le (by omega)]
theorem neg_not {n : Int} (h : n < 0) (v : Int) : ¬ isNum (numS n) v := fun hn => by
  obtain ⟨r, e⟩ := num_neg h
  have := num_digits hn.1 45 (by rw [← hn.2.2, e]; simp)
  exact absurd this.1 (by decide)
theorem read_isNum {s : ByteArray} {m : Int} (h : readE s m = 0) : isNum s (readV s m) := by
  by_cases hx : ∃ v, isNum s v
  · obtain ⟨v, hv⟩ := hx
    by_cases hm : v > m
    · rw [(read_over hv hm).1] at h; omega
    · rw [(read_ok hv hm).2]; exact hv
  · rw [(read_none (most := m) fun v hv => hx ⟨v, hv⟩).1] at h; omega

section
variable [Globs]
set_option maxHeartbeats 2000000 in
set_option maxRecDepth 10000 in
theorem numbers_prog (hG : NumG) (n : Int) (s : ByteArray) (most : Int) (hn : -9223372036854775808 ≤ n ∧ n < 9223372036854775808) (hs : s.size ≤ 281474976710656) (hm : -9223372036854775808 ≤ most ∧ most < 9223372036854775808) :
    ACalls Tryd.prog 6 [int .i64 n, str s, int .i64 most] [] (fun r h => r = .tt ∧ h = []) := by
  have h1 := read_prog hG s most hs
  have h2 := read_ref s most hs
  have h3 := number_prog hG n hn.1 hn.2
  have h4 := number_ref _ n (Nat.le_refl _) hn.1 hn.2
  unfold ReadR at h1 h2
  generalize readV s most = V at *
  generalize readE s most = E at *
  generalize numS n = S at *
  refine rcalls Tryd.func6 rfl (by decide) ?_
  refine ⟨[], _, awake_prog hG, ?_⟩
  rintro r h ⟨rfl, rfl⟩
  refine ⟨.inl rfl, ?_⟩
  refine ⟨[], _, h1, ?_⟩
  rintro r h ⟨rfl, rfl⟩
  refine ⟨.inl rfl, ?_⟩
  refine ⟨[], _, h2, ?_⟩
  rintro r h ⟨rfl, rfl⟩
  refine ⟨.inl rfl, ?_⟩
  refine ⟨[], _, h3, ?_⟩
  rintro r h ⟨rfl, rfl⟩
  refine ⟨.inl rfl, ?_⟩
  refine ⟨[], _, h4, ?_⟩
  rintro r h ⟨rfl, rfl⟩
  refine ⟨.inl rfl, ?_⟩
  refine ⟨fun _ => ?_, fun e => absurd rfl (no e)⟩
  refine ⟨fun _ => ?_, fun e => absurd rfl (no e)⟩
  exact ⟨[], [], .tt, leh0, leTT (decide_eq_true rfl), rfl, rfl⟩

set_option maxHeartbeats 2000000 in
set_option maxRecDepth 10000 in
theorem texts_prog (hG : NumG) (d : List Int) (s : ByteArray) (hl : d.length = 32) (hd : ∀ x ∈ d, 0 ≤ x ∧ x < 256) (hs : s.size ≤ 281474976710656) :
    ACalls Tryd.prog 5 [.aggI .u8 d, str s] [] (fun r h => r = .tt ∧ h = []) := by
  have h1 := parse_prog s hs
  have h2 := parse_ref s hs
  have h3 := text_prog d hl hd
  have h4 := text_ref d hl hd
  have hD := (parseD_ok (intsOf s)).1
  unfold ParseR at h1 h2
  generalize parseD (intsOf s) = D at *
  generalize parseE (intsOf s) = E at *
  generalize textS d = T at *
  rw [← drop32 hl] at h3 h4
  refine rcalls Tryd.func5 rfl (by decide) ?_
  refine ⟨hl.symm, ?_⟩
  refine ⟨[], _, awake_prog hG, ?_⟩
  rintro r h ⟨rfl, rfl⟩
  refine ⟨.inl rfl, ?_⟩
  refine ⟨[], _, h1, ?_⟩
  rintro r h ⟨rfl, rfl⟩
  refine ⟨.inl rfl, ?_⟩
  refine ⟨rfl, ?_⟩
  refine ⟨hD.symm, by simp, ?_⟩
  refine ⟨[], _, h2, ?_⟩
  rintro r h ⟨rfl, rfl⟩
  refine ⟨.inl rfl, ?_⟩
  refine ⟨rfl, ?_⟩
  refine ⟨hD.symm, by simp, ?_⟩
  refine .inl ⟨⟨by decide +kernel, by decide +kernel⟩, ?_⟩
  refine ⟨by rw [hl]; decide, ?_⟩
  refine ⟨.string T, h3.mono fun r h ⟨e1, e2⟩ => ⟨.inl e1, e2⟩, ?_⟩
  refine ⟨by rw [hl]; decide, ?_⟩
  refine ⟨.string T, h4.mono fun r h ⟨e1, e2⟩ => ⟨.inl e1, e2⟩, ?_⟩
  refine ⟨fun _ => ?_, fun e => absurd rfl (no e)⟩
  refine ⟨by simp [hD], by simp [hD], ?_⟩
  refine ⟨by simp [hD], by simp [hD], ?_⟩
  refine ⟨fun _ => ?_, fun e => absurd rfl (no e)⟩
  exact ⟨[], [], .tt, lehN _, leTT (decide_eq_true rfl), rfl, rfl⟩

set_option maxHeartbeats 2000000 in
set_option maxRecDepth 10000 in
theorem reads_prog (hG : NumG) (n : Int) (s : ByteArray) (hn : -9223372036854775808 ≤ n ∧ n < 9223372036854775808) (hs : s.size ≤ 281474976710656) :
    ACalls Tryd.prog 8 [int .i64 n, str s] [] (fun r h => r = .tt ∧ h = []) := by
  have h1 := number_prog hG n hn.1 hn.2
  have hsz : (numS n).size ≤ 21 := num_size_le hn.1 hn.2
  have h2 := read_prog hG (numS n) n (by omega)
  have h3 := read_prog hG (numS n) (IntKind.i64.wrap (n - 1)) (by omega)
  have h4 := read_prog hG s 4611686018427387904 hs
  have k1 : n < 0 → readE (numS n) n = 2 ∧ readV (numS n) n = 0 := fun h => read_none (neg_not h)
  have k2 : ¬ n < 0 → readE (numS n) n = 0 ∧ readV (numS n) n = n := fun h => read_ok ⟨by omega, hn.2, rfl⟩ (by omega)
  have k3 : ¬ n < 0 → readE (numS n) (IntKind.i64.wrap (n - 1)) = 8 := fun h => (read_over ⟨by omega, hn.2, rfl⟩ (by rw [w64 (by omega) (by omega)]; omega)).1
  have k4 : readE s 4611686018427387904 = 0 → isNum s (readV s 4611686018427387904) := fun h => read_isNum h
  unfold ReadR at h2 h3 h4
  generalize readV s 4611686018427387904 = V3 at *
  generalize readE s 4611686018427387904 = E3 at *
  generalize readV (numS n) n = V1 at *
  generalize readE (numS n) n = E1 at *
  generalize readV (numS n) (IntKind.i64.wrap (n - 1)) = V2 at *
  generalize readE (numS n) (IntKind.i64.wrap (n - 1)) = E2 at *
  generalize numS n = S at *
  refine rcalls Tryd.func8 rfl (by decide) ?_
  refine ⟨[], _, awake_prog hG, ?_⟩
  rintro r h ⟨rfl, rfl⟩
  refine ⟨.inl rfl, ?_⟩
  refine ⟨[], _, h1, ?_⟩
  rintro r h ⟨rfl, rfl⟩
  refine ⟨.inl rfl, ?_⟩
  refine ⟨[], _, h2, ?_⟩
  rintro r h ⟨rfl, rfl⟩
  refine ⟨.inl rfl, ?_⟩
  refine ⟨[], _, h1, ?_⟩
  rintro r h ⟨rfl, rfl⟩
  refine ⟨.inl rfl, ?_⟩
  refine ⟨[], _, h3, ?_⟩
  rintro r h ⟨rfl, rfl⟩
  refine ⟨.inl rfl, ?_⟩
  refine ⟨[], _, h4, ?_⟩
  rintro r h ⟨rfl, rfl⟩
  refine ⟨.inl rfl, ?_⟩
  refine ⟨fun c => ?_, fun c => ?_⟩
  · have hnum := k4 (yes c)
    have h5 := number_prog hG V3 (by have := hnum.1; omega) hnum.2.1
    have e5 : numS V3 = s := hnum.2.2.symm
    rw [e5] at h5
    refine ⟨[], _, h5, ?_⟩
    rintro r h ⟨rfl, rfl⟩
    refine ⟨.inl rfl, ?_⟩
    refine ⟨fun e => absurd rfl (of_decide_eq_true e), fun _ => ?_⟩
    refine ⟨fun c2 => ?_, fun c2 => ?_⟩
    · obtain ⟨g1, g2⟩ := k1 (yes c2)
      refine ⟨fun _ => ?_, fun e => absurd g1 (no e)⟩
      exact ⟨[], [], .tt, leh0, leTT (decide_eq_true g2), rfl, rfl⟩
    · obtain ⟨g1, g2⟩ := k2 (no c2)
      have g3 := k3 (no c2)
      refine ⟨fun _ => ?_, fun e => absurd g1 (no e)⟩
      refine ⟨fun _ => ?_, fun e => absurd g2 (no e)⟩
      exact ⟨[], [], .tt, leh0, leTT (decide_eq_true g3), rfl, rfl⟩
  · refine ⟨fun c2 => ?_, fun c2 => ?_⟩
    · obtain ⟨g1, g2⟩ := k1 (yes c2)
      refine ⟨fun _ => ?_, fun e => absurd g1 (no e)⟩
      exact ⟨[], [], .tt, leh0, leTT (decide_eq_true g2), rfl, rfl⟩
    · obtain ⟨g1, g2⟩ := k2 (no c2)
      have g3 := k3 (no c2)
      refine ⟨fun _ => ?_, fun e => absurd g1 (no e)⟩
      refine ⟨fun _ => ?_, fun e => absurd g2 (no e)⟩
      exact ⟨[], [], .tt, leh0, leTT (decide_eq_true g3), rfl, rfl⟩

set_option maxHeartbeats 2000000 in
set_option maxRecDepth 10000 in
theorem back_prog (hG : NumG) (d : List Int) (s : ByteArray) (hl : d.length = 32) (hd : ∀ x ∈ d, 0 ≤ x ∧ x < 256) (hs : s.size ≤ 281474976710656) :
    ACalls Tryd.prog 7 [.aggI .u8 d, str s] [] (fun r h => r = .tt ∧ h = []) := by
  have h1 := text_prog d hl hd
  obtain ⟨p1, p2, p3⟩ := parse_text hl hd
  have h2 := parse_prog (textS d) (by omega)
  have h3 := parse_prog s hs
  have h4 := text_prog (parseD (intsOf s)) (parseD_ok _).1 (parseD_ok _).2
  have hD := (parseD_ok (intsOf s)).1
  have k1 : parseE (intsOf s) = 0 → textS (parseD (intsOf s)) = s := fun h => text_parse h
  have k2 := parseE_cases (intsOf s)
  unfold ParseR at h2 h3
  rw [p1, p2] at h2
  generalize textS (parseD (intsOf s)) = U at *
  generalize parseD (intsOf s) = D at *
  generalize parseE (intsOf s) = E at *
  generalize textS d = T at *
  rw [← drop32 hl] at h1
  have hZ : List.take 32 (List.drop 0 (List.take 0 (List.replicate 32 (0 : Int)) ++ D ++ List.drop (0 + D.length) (List.replicate 32 0))) = D := by simp [hD]; exact List.take_of_length_le (by omega)
  rw [← hZ] at h4
  refine rcalls Tryd.func7 rfl (by decide) ?_
  refine ⟨hl.symm, ?_⟩
  refine ⟨[], _, awake_prog hG, ?_⟩
  rintro r h ⟨rfl, rfl⟩
  refine ⟨.inl rfl, ?_⟩
  refine ⟨by rw [hl]; decide, ?_⟩
  refine ⟨[], _, h1, ?_⟩
  rintro r h ⟨rfl, rfl⟩
  refine ⟨.inl rfl, ?_⟩
  refine ⟨[], _, h2, ?_⟩
  rintro r h ⟨rfl, rfl⟩
  refine ⟨.inl rfl, ?_⟩
  refine ⟨rfl, ?_⟩
  refine ⟨hl.symm, by simp, ?_⟩
  refine ⟨[], _, h3, ?_⟩
  rintro r h ⟨rfl, rfl⟩
  refine ⟨.inl rfl, ?_⟩
  refine ⟨rfl, ?_⟩
  refine ⟨hD.symm, by simp, ?_⟩
  refine ⟨fun _ => ?_, fun e => absurd rfl (no e)⟩
  refine ⟨by simp [hl], ?_⟩
  refine ⟨by rw [hl]; decide, ?_⟩
  refine ⟨by simp [hl], by simp [hl], ?_⟩
  refine ⟨fun _ => ?_, fun e => absurd (by simp [hl]) (no e)⟩
  refine ⟨fun c => ?_, fun c => ?_⟩
  · have hu := k1 (yes c)
    refine ⟨by simp [hD], ?_⟩
    refine ⟨[], _, h4, ?_⟩
    rintro r h ⟨rfl, rfl⟩
    refine ⟨.inl rfl, ?_⟩
    refine ⟨fun _ => ?_, fun e => absurd hu (no e)⟩
    exact ⟨[], [], .tt, lehN _, .tt, rfl, rfl⟩
  · obtain ⟨g1, g2⟩ := k2.resolve_left (no c)
    refine ⟨fun _ => ?_, fun e => absurd g1 (no e)⟩
    refine ⟨by simp [hD], ?_⟩
    refine ⟨by simp [hD], by decide, ?_⟩
    exact ⟨[], [], .tt, lehN _, leTT (decide_eq_true (hZ.trans g2)), rfl, rfl⟩

end
end Go.Proofs.YtlogcpcdkhmjoaaDoor.Hx
