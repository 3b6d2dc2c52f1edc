/-
  The document's disk: what a deed is answered, and does.
-/
import Derived.Test.YtflclafbieokiaaDkR4
set_option linter.unusedVariables false
set_option linter.unusedSectionVars false
namespace Go.Proofs.Ytflclafbieokiaa.Dk
open Go AL Us

def errD (d : DkD) (e : De4) : Int := errR (dkdR d) (toDee e)
def doD (d : DkD) (e : De4) : DkD := if errD d e = 0 then noteD d e else d
theorem dkdR_do (d : DkD) (e : De4) : dkdR (doD d e) = doR (dkdR d) (toDee e) := by
  unfold doD doR errD
  split
  · show (⟨_, _, (d.deeds ++ [e]).map toDee, _⟩ : DkR) = _
    rw [List.map_append]; rfl
  · rfl
/-- How a disk must be for the document to work on it. -/
structure FitD (d : DkD) : Prop where
  files : d.files.length ≤ 100000
  synced : d.synced.length ≤ 100000
  deeds : d.deeds.length ≤ 100000
  bytes : dataN d.files ≤ 1000000000000
theorem without_data (s : ByteArray) : ∀ L : List Fl, dataN (withoutR s L) ≤ dataN L
  | [] => Nat.le_refl _
  | f :: r => by
    have ih := without_data s r
    unfold withoutR at ih ⊢
    by_cases h : f.path = s
    · rw [List.filter_cons_of_neg (by simp [h])]
      show _ ≤ f.data.length + dataN r
      omega
    · rw [List.filter_cons_of_pos (by simp [h])]
      show f.data.length + dataN _ ≤ f.data.length + dataN r
      omega
section
variable [Globs]

theorem dkdC_free (d : DkD) : ∀ c, (dkdC d c).free
  | 0 => trivial
  | 1 => trivial
  | 2 => trivial
  | _ + 3 => trivial
theorem leDk {h : List AO} {l : List Nat} {f : Nat → AV} {d e : DkD} (he : e = d) (h0 : f 0 = dkdC d 0) (h1 : f 1 = dkdC d 1) (h2 : f 2 = dkdC d 2) (h3 : f 3 = dkdC d 3) : LeV h l (.agg 4 f) (dkdV e) := by
  subst he
  refine .agg 4 _ _ fun i hi => ?_
  match i, hi with
  | 0, _ => rw [h0]; exact .same _ (dkdC_free _ _)
  | 1, _ => rw [h1]; exact .same _ (dkdC_free _ _)
  | 2, _ => rw [h2]; exact .same _ (dkdC_free _ _)
  | 3, _ => rw [h3]; exact .same _ (dkdC_free _ _)
theorem vdk {f : Nat → AV} {d : DkD} (h : ∀ i, i < 4 → f i = dkdC d i) : VLe (.agg 4 f) (dkdV d) := vagg fun i hi => by rw [h i hi]; exact VLe.refl _
def tupR (d : DkD) (n : Int) : AV := .tup 2 (pair (dkdV d) (int .i64 n))


set_option maxHeartbeats 1000000 in
set_option maxRecDepth 10000 in
theorem do_r (d : DkD) (e : De4) (hf : FitD d) (hb : e.data.length ≤ 1000000000000) (hr0 : 0 ≤ d.room) : ACalls Try.prog 39 [dkdV d, de4V e] [] (fun r h => r = tupR (doD d e) (errD d e) ∧ h = []) := by
  have hnote := note_r d e (by have := hf.files; omega) hf.deeds
  have hm1 := may_r e.name
  have hm2 := may_r e.to
  have hwo := without_r d.files e.name (by have := hf.files; omega)
  have hwl := without_len e.name d.files
  have hwd := without_data e.name d.files
  have hs := size_r (withoutR e.name d.files) (by have := hf.files; omega) (by have := hf.bytes; omega)
  have hg := get_r d.files e.name (by have := hf.files; omega)
  have hdo : errD d e = 0 → doD d e = noteD d e := fun h => by unfold doD; rw [if_pos h]
  have hno : errD d e ≠ 0 → doD d e = d := fun h => by unfold doD; rw [if_neg h]
  have e1 : e.kind = 1 → errD d e = if ¬ mayN e.name then 1 else if (dataN (withoutR e.name d.files) : Int) + e.data.length > d.room then 5 else 0 := fun h => by
    unfold errD toDee; rw [if_pos h]; rfl
  have e2 : e.kind = 2 → errD d e = if ¬ mayN e.to then 1 else if getR e.name d.files = none then 6 else 0 := fun h => by
    unfold errD toDee; rw [if_neg (by omega), if_pos h]; rfl
  have e3 : e.kind ≠ 1 → e.kind ≠ 2 → errD d e = if getR e.name d.files = none then 6 else 0 := fun h g => by
    unfold errD toDee; rw [if_neg h, if_neg g]; rfl
  have hbytes := hf.bytes
  obtain ⟨F, S, D, R⟩ := d
  obtain ⟨k, n, t, b⟩ := e
  simp only at hr0 hm1 hm2 hwo hwl hwd hs hg e1 e2 e3 hb hbytes
  obtain ⟨N, hN⟩ : ∃ N, noteD ⟨F, S, D, R⟩ ⟨k, n, t, b⟩ = N := ⟨_, rfl⟩
  obtain ⟨X, hX⟩ : ∃ X, doD ⟨F, S, D, R⟩ ⟨k, n, t, b⟩ = X := ⟨_, rfl⟩
  obtain ⟨E, hE⟩ : ∃ E, errD ⟨F, S, D, R⟩ ⟨k, n, t, b⟩ = E := ⟨_, rfl⟩
  rw [hN] at hnote hdo
  rw [hX, hE] at hdo hno
  rw [hE] at e1 e2 e3
  rw [hX, hE]
  generalize withoutR n F = M at *
  generalize getR n F = G at *
  clear hN hX hE
  refine rcalls Try.func39 rfl (by decide) ?_
  refine ⟨fun c => ?_, fun c => ?_⟩
  · have f1 : k = 1 := yes c
    have e1 := e1 f1
    refine ⟨[], _, hm1, ?_⟩
    rintro r hh ⟨rfl, rfl⟩
    refine ⟨.inl rfl, ?_⟩
    refine ⟨fun c => ?_, fun c => ?_⟩
    · have f2 : ¬ mayN n := of_decide_eq_false (by revert c; cases decide (mayN n) <;> simp)
      rw [if_pos f2] at e1
      have hno := hno (by omega)
      exact ⟨[], [], _, lehN _, le_pair (leDk hno rfl rfl rfl rfl) (leI e1.symm), rfl, rfl⟩
    have f2 : mayN n := of_decide_eq_true (by revert c; cases decide (mayN n) <;> simp)
    rw [if_neg (fun h => h f2)] at e1
    have w1 : IntKind.i64.wrap ((dataN M : Int) + b.length) = (dataN M : Int) + b.length := w64 (by omega) (by omega)
    refine .inr ⟨12, by decide +kernel, ?_⟩
    refine ⟨_, rfl, ?_⟩
    refine ⟨_, rfl, ?_⟩
    refine ⟨_, rfl, ?_⟩
    refine ⟨_, rfl, ?_⟩
    refine ⟨_, ⟨[], _, hwo, by rintro r h ⟨rfl, rfl⟩; exact ⟨.inl rfl, rfl, rfl⟩⟩, ?_⟩
    refine ⟨_, ⟨[], _, hs, by rintro r h ⟨rfl, rfl⟩; exact ⟨.inl rfl, rfl, rfl⟩⟩, ?_⟩
    refine ⟨_, rfl, ?_⟩
    refine ⟨_, rfl, ?_⟩
    refine ⟨_, rfl, ?_⟩
    refine ⟨_, rfl, ?_⟩
    refine ⟨_, rfl, ?_⟩
    refine ⟨_, rfl, ?_⟩
    refine ⟨fun c => ?_, fun c => ?_⟩
    · have f3 : IntKind.i64.wrap ((dataN M : Int) + b.length) > R := yes c
      rw [w1] at f3
      rw [if_pos f3] at e1
      have hno := hno (by omega)
      exact ⟨[], [], _, lehN _, le_pair (leDk hno rfl rfl rfl rfl) (leI e1.symm), rfl, rfl⟩
    · have f3 : ¬ IntKind.i64.wrap ((dataN M : Int) + b.length) > R := no c
      rw [w1] at f3
      rw [if_neg f3] at e1
      have hdo := hdo (by omega)
      refine ⟨[], _, (fun i hi => fr4 (dkdC_free ⟨F, S, D, R⟩) hi), (fun i hi => fr4 (de4C_free ⟨k, n, t, b⟩) hi), hnote.args ⟨vdk fun i hi => ld4 hi, vde fun i hi => ld4 hi, trivial⟩, ?_⟩
      rintro r hh ⟨rfl, rfl⟩
      refine ⟨.inl rfl, ?_⟩
      exact ⟨[], [], _, lehN _, le_pair (leDk hdo rfl rfl rfl rfl) (leI e1.symm), rfl, rfl⟩
  have f1 : ¬ k = 1 := no c
  refine ⟨fun c => ?_, fun c => ?_⟩
  · have f2 : k = 2 := yes c
    have e2 := e2 f2
    refine ⟨[], _, hm2, ?_⟩
    rintro r hh ⟨rfl, rfl⟩
    refine ⟨.inl rfl, ?_⟩
    refine ⟨fun c => ?_, fun c => ?_⟩
    · have f3 : ¬ mayN t := of_decide_eq_false (by revert c; cases decide (mayN t) <;> simp)
      rw [if_pos f3] at e2
      have hno := hno (by omega)
      exact ⟨[], [], _, lehN _, le_pair (leDk hno rfl rfl rfl rfl) (leI e2.symm), rfl, rfl⟩
    have f3 : mayN t := of_decide_eq_true (by revert c; cases decide (mayN t) <;> simp)
    rw [if_neg (fun h => h f3)] at e2
    refine ⟨[], _, hg, ?_⟩
    rintro r hh ⟨rfl, rfl⟩
    refine ⟨.inl rfl, ?_⟩
    refine ⟨fun c => ?_, fun c => ?_⟩
    · have f4 : G = none := by revert c; cases G <;> simp
      rw [if_pos f4] at e2
      have hno := hno (by omega)
      exact ⟨[], [], _, lehN _, le_pair (leDk hno rfl rfl rfl rfl) (leI e2.symm), rfl, rfl⟩
    have f4 : ¬ G = none := by revert c; cases G <;> simp
    rw [if_neg f4] at e2
    have hdo := hdo (by omega)
    refine ⟨[], _, (fun i hi => fr4 (dkdC_free ⟨F, S, D, R⟩) hi), (fun i hi => fr4 (de4C_free ⟨k, n, t, b⟩) hi), hnote.args ⟨vdk fun i hi => ld4 hi, vde fun i hi => ld4 hi, trivial⟩, ?_⟩
    rintro r hh ⟨rfl, rfl⟩
    refine ⟨.inl rfl, ?_⟩
    exact ⟨[], [], _, lehN _, le_pair (leDk hdo rfl rfl rfl rfl) (leI e2.symm), rfl, rfl⟩
  · have f2 : ¬ k = 2 := no c
    have e2 := e3 f1 f2
    refine ⟨[], _, hg, ?_⟩
    rintro r hh ⟨rfl, rfl⟩
    refine ⟨.inl rfl, ?_⟩
    refine ⟨fun c => ?_, fun c => ?_⟩
    · have f4 : G = none := by revert c; cases G <;> simp
      rw [if_pos f4] at e2
      have hno := hno (by omega)
      exact ⟨[], [], _, lehN _, le_pair (leDk hno rfl rfl rfl rfl) (leI e2.symm), rfl, rfl⟩
    have f4 : ¬ G = none := by revert c; cases G <;> simp
    rw [if_neg f4] at e2
    have hdo := hdo (by omega)
    refine ⟨[], _, (fun i hi => fr4 (dkdC_free ⟨F, S, D, R⟩) hi), (fun i hi => fr4 (de4C_free ⟨k, n, t, b⟩) hi), hnote.args ⟨vdk fun i hi => ld4 hi, vde fun i hi => ld4 hi, trivial⟩, ?_⟩
    rintro r hh ⟨rfl, rfl⟩
    refine ⟨.inl rfl, ?_⟩
    exact ⟨[], [], _, lehN _, le_pair (leDk hdo rfl rfl rfl rfl) (leI e2.symm), rfl, rfl⟩
end
end Go.Proofs.Ytflclafbieokiaa.Dk
