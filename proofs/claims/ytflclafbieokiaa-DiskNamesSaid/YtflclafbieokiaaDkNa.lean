/-
  The law DiskNames, walked.
-/
import Derived.Test.YtflclafbieokiaaDkL3
set_option linter.unusedVariables false
set_option linter.unusedSectionVars false
set_option linter.unusedSimpArgs false
namespace Go.Proofs.Ytflclafbieokiaa.Dk
open Go AL Us

abbrev nX : ByteArray := ⟨#[120]⟩
abbrev nY : ByteArray := ⟨#[121]⟩
theorem mayX : mayN nX := by decide
theorem mayY : mayN nY := by decide
theorem xy : nX ≠ nY := by decide
def nm0 : DkF := newF 1048576
def nm1 (a : List Int) : DkF := noteF nm0 (.wr nX a)
def nm2 (a b : List Int) : DkF := noteF (nm1 a) (.wr nY b)
def nm3 (a b : List Int) (f t : ByteArray) : DkF := noteF (nm2 a b) (.mv f t)
def nm4 (a b : List Int) (f t : ByteArray) : DkF := noteF (nm3 a b f t) (.rm t)
theorem nm1_now (a : List Int) : (nm1 a).now = [(nX, a)] := rfl
theorem nm2_now (a b : List Int) : (nm2 a b).now = [(nX, a), (nY, b)] := by
  show setF nY b (nm1 a).now = _
  rw [nm1_now]
  unfold setF
  rw [if_neg xy]; rfl
theorem nm_e1 {a : List Int} (h : a.length ≤ 1000) : errF nm0 (.wr nX a) = 0 := by
  show (if ¬ mayN nX then (1 : Int) else if (sizeF nm0.now : Int) - ((getF nX nm0.now).getD []).length + a.length > nm0.room then 5 else 0) = 0
  rw [if_neg (fun x => x mayX), if_neg]
  show ¬ ((0 : Nat) : Int) - (0 : Nat) + a.length > 1048576
  omega
theorem nm_e2 {a b : List Int} (h : a.length ≤ 1000) (g : b.length ≤ 1000) : errF (nm1 a) (.wr nY b) = 0 := by
  show (if ¬ mayN nY then (1 : Int) else if (sizeF (nm1 a).now : Int) - ((getF nY (nm1 a).now).getD []).length + b.length > (nm1 a).room then 5 else 0) = 0
  rw [if_neg (fun x => x mayY), if_neg]
  rw [nm1_now, show getF nY [(nX, a)] = none from if_neg xy]
  show ¬ ((a.length + 0 : Nat) : Int) - (0 : Nat) + b.length > 1048576
  omega
theorem nmx_get (a b : List Int) : getF nX (nm2 a b).now = some a ∧ getF nY (nm2 a b).now = some b := by
  rw [nm2_now]
  refine ⟨if_pos rfl, ?_⟩
  show (if nX = nY then _ else getF nY [(nY, b)]) = _
  rw [if_neg xy]
  exact if_pos rfl
theorem nm3_xy (a b : List Int) : (nm3 a b nX nY).now = [(nY, a)] := by
  show setF nY ((getF nX (nm2 a b).now).getD []) (delF nX (nm2 a b).now) = _
  rw [(nmx_get a b).1, nm2_now]
  show setF nY a (if nX = nX then [(nY, b)] else _) = _
  rw [if_pos rfl]
  exact if_pos rfl
theorem nm3_yx (a b : List Int) : (nm3 a b nY nX).now = [(nX, b)] := by
  show setF nX ((getF nY (nm2 a b).now).getD []) (delF nY (nm2 a b).now) = _
  rw [(nmx_get a b).2, nm2_now]
  show setF nX b (if nX = nY then _ else (nX, a) :: delF nY [(nY, b)]) = _
  rw [if_neg xy, show delF nY [(nY, b)] = [] from if_pos rfl]
  exact if_pos rfl
/-- What is known of the disk behind the rename. -/
structure NmOk (a b c : List Int) (f t : ByteArray) : Prop where
  e3 : errF (nm2 a b) (.mv f t) = 0
  now : (nm3 a b f t).now = [(t, c)]
  ne : t ≠ f
theorem nm_xy (a b : List Int) : NmOk a b a nX nY := by
  refine ⟨?_, nm3_xy a b, Ne.symm xy⟩
  show (if ¬ mayN nY then (1 : Int) else if getF nX (nm2 a b).now = none then 6 else 0) = 0
  rw [if_neg (fun x => x mayY), (nmx_get a b).1]; rfl
theorem nm_yx (a b : List Int) : NmOk a b b nY nX := by
  refine ⟨?_, nm3_yx a b, xy⟩
  show (if ¬ mayN nX then (1 : Int) else if getF nY (nm2 a b).now = none then 6 else 0) = 0
  rw [if_neg (fun x => x mayX), (nmx_get a b).2]; rfl
section
variable [Globs]


set_option maxHeartbeats 4000000 in
set_option maxRecDepth 10000 in
theorem names_p (a b : List Int) (turn : Bool) (ha : okB a) (hal : a.length ≤ 9223372036854775807) (hb : okB b) (hbl : b.length ≤ 9223372036854775807) : ACalls Try.prog 5 [.roI .u8 a, .roI .u8 b, bool turn] [] (fun r h => r = .tt ∧ h = []) := by
  have h0 := new_p 1048576
  rw [show newF 1048576 = nm0 from rfl] at h0
  have h1 := fun hs => write_p nm0 nX a (by decide) hs (by decide)
  have he1 := nm_e1 (a := a)
  have he2 := nm_e2 (a := a) (b := b)
  have h2 := fun hs hs2 => write_p (nm1 a) nY b hs hs2 (by show 1 ≤ 100000; decide)
  have hs1 : sizeF (nm1 a).now = a.length := rfl
  rw [hs1] at h2
  have h3 := fun f t => rename_p (nm2 a b) f t (by show 2 ≤ 100000; decide)
  have hok : ∃ f t c, NmOk a b c f t ∧ f = (if turn then nY else nX) ∧ t = (if turn then nX else nY) ∧ c = (if turn then b else a) := by
    cases turn
    · exact ⟨_, _, _, nm_xy a b, rfl, rfl, rfl⟩
    · exact ⟨_, _, _, nm_yx a b, rfl, rfl, rfl⟩
  obtain ⟨f, t, c, hok, hf, ht, hc⟩ := hok
  have h3 := h3 f t
  have hsz : sizeF (nm3 a b f t).now = c.length := by rw [hok.now]; rfl
  have hg1 : getF t (nm3 a b f t).now = some c := by rw [hok.now]; exact if_pos rfl
  have hg2 : getF f (nm3 a b f t).now = none := by rw [hok.now]; exact if_neg hok.ne
  have hcl : a.length ≤ 1000 → b.length ≤ 1000 → c.length ≤ 140737488355328 := fun g1 g2 => by
    rw [hc]
    cases turn
    · exact Nat.le_trans g1 (by decide)
    · exact Nat.le_trans g2 (by decide)
  have h4 : c.length ≤ 140737488355328 → _ := fun hcl => get_ro (nm3 a b f t) t (fun v hv => by rw [hg1] at hv; cases hv; exact hcl)
  rw [hg1] at h4
  have h5 := get_ro (nm3 a b f t) f (fun v hv => by rw [hg2] at hv; cases hv)
  rw [hg2] at h5
  have h6 := fun hs => size_p (nm3 a b f t) hs
  rw [hsz] at h6
  have h7 := remove_p (nm3 a b f t) t (by show 3 ≤ 100000; decide)
  have h8 := remove_p (nm4 a b f t) t (by show 4 ≤ 100000; decide)
  have hn4 : (nm4 a b f t).now = [] := by
    show delF t (nm3 a b f t).now = []
    rw [hok.now]; exact if_pos rfl
  have he7 : errF (nm3 a b f t) (.rm t) = 0 := by
    show (if getF t (nm3 a b f t).now = none then (6 : Int) else 0) = 0
    rw [hg1]; rfl
  have he8 : errF (nm4 a b f t) (.rm t) = 6 := by
    show (if getF t (nm4 a b f t).now = none then (6 : Int) else 0) = 6
    rw [hn4]; rfl
  have h9 := list_p (nm4 a b f t) (by rw [hn4]; exact List.nodup_nil) (fun p hp => by rw [hn4] at hp; cases hp) (by rw [hn4]; decide)
  have h9n : ∀ ns, NamesOf (nm4 a b f t).now ns → ns = [] := fun ns h => by
    have := h.1
    rw [hn4] at this
    exact this.eq_nil
  have h10 := pending_p (nm4 a b f t)
  have hp4 : (nm4 a b f t).deeds.length = 4 := rfl
  rw [hp4] at h10
  have he3 := hok.e3
  unfold doneP at h1 h2 h3 h7 h8
  rw [show noteF nm0 (.wr nX a) = nm1 a from rfl] at h1
  rw [show noteF (nm1 a) (.wr nY b) = nm2 a b from rfl] at h2
  rw [show noteF (nm2 a b) (.mv f t) = nm3 a b f t from rfl] at h3
  rw [show noteF (nm3 a b f t) (.rm t) = nm4 a b f t from rfl] at h7
  rw [he8] at h8
  clear hn4 hsz hg1 hg2 hs1 hok
  generalize nm4 a b f t = D4 at *
  generalize nm3 a b f t = D3 at *
  generalize nm2 a b = D2 at *
  generalize nm1 a = D1 at *
  generalize nm0 = D0 at *
  refine rcalls Try.func5 rfl (by decide) ?_
  refine ⟨[], _, dk_awake, ?_⟩
  rintro r hh ⟨rfl, rfl⟩
  refine ⟨.inl rfl, ?_⟩
  refine ⟨[], _, h0, ?_⟩
  rintro r hh ⟨rfl, rfl⟩
  refine ⟨.inl rfl, ?_⟩
  refine ⟨fun c1 => ?_, fun c1 => ?_⟩
  · exact ⟨[], [], .tt, lehN _, LeV.same _ trivial, rfl, rfl⟩
  have f1 : ¬ (a.length : Int) > 1000 := no c1
  refine ⟨fun c2 => ?_, fun c2 => ?_⟩
  · exact ⟨[], [], .tt, lehN _, LeV.same _ trivial, rfl, rfl⟩
  have f2 : ¬ (b.length : Int) > 1000 := no c2
  have he1 := he1 (by omega)
  have he2 := he2 (by omega) (by omega)
  have h1 := h1 (by omega)
  have h2 := h2 (by omega) (by omega)
  have hcl := hcl (by omega) (by omega)
  have h4 := h4 hcl
  have h6 := h6 (by omega)
  refine ⟨[0, 1, 2, 3], _, (by (try simp only [ren_fmV]); exact fmVFree _), (by (try simp only [ren_fmV]); exact fmVFree _), (by (try simp only [ren_rowP]); exact fun i _ => rowPFree _ i), at_h ?_ (h1), ?_⟩
  · exact dkH_eq (by first | simp only [ren_fmV] | rfl) (by first | simp only [ren_fmV] | rfl) (by first | simp only [ren_rowP] | rfl)
  rintro r hh (⟨he, rfl, rfl⟩ | ⟨he, rfl, rfl⟩)
  rotate_left
  · exact absurd he1 he
  refine ⟨.inl rfl, ?_⟩
  refine ⟨[0, 1, 2, 4], _, (by (try simp only [ren_fmV]); exact fmVFree _), (by (try simp only [ren_fmV]); exact fmVFree _), (by (try simp only [ren_rowP]); exact fun i _ => rowPFree _ i), at_h ?_ (h2), ?_⟩
  · exact dkH_eq (by first | simp only [ren_fmV] | rfl) (by first | simp only [ren_fmV] | rfl) (by first | simp only [ren_rowP] | rfl)
  rintro r hh (⟨he, rfl, rfl⟩ | ⟨he, rfl, rfl⟩)
  rotate_left
  · exact absurd he2 he
  refine ⟨.inl rfl, ?_⟩
  refine ⟨fun ct => ?_, fun ct => ?_⟩
  · subst ct
    obtain rfl : f = nY := hf
    obtain rfl : t = nX := ht
    obtain rfl : c = b := hc
    refine ⟨[0, 1, 2, 5], _, (by (try simp only [ren_fmV]); exact fmVFree _), (by (try simp only [ren_fmV]); exact fmVFree _), (by (try simp only [ren_rowP]); exact fun i _ => rowPFree _ i), at_h ?_ (h3), ?_⟩
    · exact dkH_eq (by first | simp only [ren_fmV] | rfl) (by first | simp only [ren_fmV] | rfl) (by first | simp only [ren_rowP] | rfl)
    rintro r hh (⟨he, rfl, rfl⟩ | ⟨he, rfl, rfl⟩)
    rotate_left
    · exact absurd he3 he
    refine ⟨.inl rfl, ?_⟩
    refine ⟨[0, 1, 2, 6], _, (by (try simp only [ren_fmV]); exact fmVFree _), (by (try simp only [ren_fmV]); exact fmVFree _), (by (try simp only [ren_rowP]); exact fun i _ => rowPFree _ i), at_h ?_ (h4), ?_⟩
    · exact dkH_eq (by first | simp only [ren_fmV] | rfl) (by first | simp only [ren_fmV] | rfl) (by first | simp only [ren_rowP] | rfl)
    rintro r hh ⟨rfl, rfl⟩
    refine ⟨.inl rfl, ?_⟩
    refine ⟨[0, 1, 2, 6], _, (by (try simp only [ren_fmV]); exact fmVFree _), (by (try simp only [ren_fmV]); exact fmVFree _), (by (try simp only [ren_rowP]); exact fun i _ => rowPFree _ i), at_h ?_ (h5), ?_⟩
    · exact dkH_eq (by first | simp only [ren_fmV] | rfl) (by first | simp only [ren_fmV] | rfl) (by first | simp only [ren_rowP] | rfl)
    rintro r hh ⟨rfl, rfl⟩
    refine ⟨.inl rfl, ?_⟩
    refine ⟨[0, 1, 2, 6], _, (by (try simp only [ren_fmV]); exact fmVFree _), (by (try simp only [ren_fmV]); exact fmVFree _), (by (try simp only [ren_rowP]); exact fun i _ => rowPFree _ i), at_h ?_ (h6), ?_⟩
    · exact dkH_eq (by first | simp only [ren_fmV] | rfl) (by first | simp only [ren_fmV] | rfl) (by first | simp only [ren_rowP] | rfl)
    rintro r hh ⟨rfl, rfl⟩
    refine ⟨.inl rfl, ?_⟩
    refine ⟨[0, 1, 2, 6], _, (by (try simp only [ren_fmV]); exact fmVFree _), (by (try simp only [ren_fmV]); exact fmVFree _), (by (try simp only [ren_rowP]); exact fun i _ => rowPFree _ i), at_h ?_ (h7), ?_⟩
    · exact dkH_eq (by first | simp only [ren_fmV] | rfl) (by first | simp only [ren_fmV] | rfl) (by first | simp only [ren_rowP] | rfl)
    rintro r hh (⟨he, rfl, rfl⟩ | ⟨he, rfl, rfl⟩)
    rotate_left
    · exact absurd he7 he
    refine ⟨.inl rfl, ?_⟩
    refine ⟨[0, 1, 2, 7], _, (by (try simp only [ren_fmV]); exact fmVFree _), (by (try simp only [ren_fmV]); exact fmVFree _), (by (try simp only [ren_rowP]); exact fun i _ => rowPFree _ i), at_h ?_ (h8), ?_⟩
    · exact dkH_eq (by first | simp only [ren_fmV] | rfl) (by first | simp only [ren_fmV] | rfl) (by first | simp only [ren_rowP] | rfl)
    rintro r hh (⟨he, rfl, rfl⟩ | ⟨he, rfl, rfl⟩)
    · exact absurd he (by decide)
    refine ⟨.inl rfl, ?_⟩
    refine ⟨fun _ => ?_, fun e => absurd rfl (no e)⟩
    refine ⟨fun _ => ?_, fun e => (by cases e)⟩
    refine ⟨fun _ => ?_, fun e => (by cases e)⟩
    refine ⟨fun _ => ?_, fun e => absurd rfl (no e)⟩
    refine ⟨fun _ => ?_, fun e => absurd rfl (no e)⟩
    refine ⟨fun _ => ?_, fun e => absurd rfl (no e)⟩
    refine ⟨fun _ => ?_, fun e => absurd rfl (no e)⟩
    refine ⟨[0, 1, 2, 7], _, (by (try simp only [ren_fmV]); exact fmVFree _), (by (try simp only [ren_fmV]); exact fmVFree _), (by (try simp only [ren_rowP]); exact fun i _ => rowPFree _ i), at_h ?_ (h9), ?_⟩
    · exact dkH_eq (by first | simp only [ren_fmV] | rfl) (by first | simp only [ren_fmV] | rfl) (by first | simp only [ren_rowP] | rfl)
    rintro r hh ⟨ns, hns, rfl, rfl⟩
    obtain rfl := h9n ns hns
    refine ⟨.inl rfl, ?_⟩
    refine ⟨fun _ => ?_, fun e => absurd rfl (no e)⟩
    refine ⟨[0, 1, 2, 7], _, (by (try simp only [ren_fmV]); exact fmVFree _), (by (try simp only [ren_fmV]); exact fmVFree _), (by (try simp only [ren_rowP]); exact fun i _ => rowPFree _ i), at_h ?_ (h10), ?_⟩
    · exact dkH_eq (by first | simp only [ren_fmV] | rfl) (by first | simp only [ren_fmV] | rfl) (by first | simp only [ren_rowP] | rfl)
    rintro r hh ⟨rfl, rfl⟩
    refine ⟨.inl rfl, ?_⟩
    exact ⟨[], [], .tt, lehN _, leTT (decide_eq_true rfl), rfl, rfl⟩
  · subst ct
    obtain rfl : f = nX := hf
    obtain rfl : t = nY := ht
    obtain rfl : c = a := hc
    refine ⟨[0, 1, 2, 5], _, (by (try simp only [ren_fmV]); exact fmVFree _), (by (try simp only [ren_fmV]); exact fmVFree _), (by (try simp only [ren_rowP]); exact fun i _ => rowPFree _ i), at_h ?_ (h3), ?_⟩
    · exact dkH_eq (by first | simp only [ren_fmV] | rfl) (by first | simp only [ren_fmV] | rfl) (by first | simp only [ren_rowP] | rfl)
    rintro r hh (⟨he, rfl, rfl⟩ | ⟨he, rfl, rfl⟩)
    rotate_left
    · exact absurd he3 he
    refine ⟨.inl rfl, ?_⟩
    refine ⟨[0, 1, 2, 6], _, (by (try simp only [ren_fmV]); exact fmVFree _), (by (try simp only [ren_fmV]); exact fmVFree _), (by (try simp only [ren_rowP]); exact fun i _ => rowPFree _ i), at_h ?_ (h4), ?_⟩
    · exact dkH_eq (by first | simp only [ren_fmV] | rfl) (by first | simp only [ren_fmV] | rfl) (by first | simp only [ren_rowP] | rfl)
    rintro r hh ⟨rfl, rfl⟩
    refine ⟨.inl rfl, ?_⟩
    refine ⟨[0, 1, 2, 6], _, (by (try simp only [ren_fmV]); exact fmVFree _), (by (try simp only [ren_fmV]); exact fmVFree _), (by (try simp only [ren_rowP]); exact fun i _ => rowPFree _ i), at_h ?_ (h5), ?_⟩
    · exact dkH_eq (by first | simp only [ren_fmV] | rfl) (by first | simp only [ren_fmV] | rfl) (by first | simp only [ren_rowP] | rfl)
    rintro r hh ⟨rfl, rfl⟩
    refine ⟨.inl rfl, ?_⟩
    refine ⟨[0, 1, 2, 6], _, (by (try simp only [ren_fmV]); exact fmVFree _), (by (try simp only [ren_fmV]); exact fmVFree _), (by (try simp only [ren_rowP]); exact fun i _ => rowPFree _ i), at_h ?_ (h6), ?_⟩
    · exact dkH_eq (by first | simp only [ren_fmV] | rfl) (by first | simp only [ren_fmV] | rfl) (by first | simp only [ren_rowP] | rfl)
    rintro r hh ⟨rfl, rfl⟩
    refine ⟨.inl rfl, ?_⟩
    refine ⟨[0, 1, 2, 6], _, (by (try simp only [ren_fmV]); exact fmVFree _), (by (try simp only [ren_fmV]); exact fmVFree _), (by (try simp only [ren_rowP]); exact fun i _ => rowPFree _ i), at_h ?_ (h7), ?_⟩
    · exact dkH_eq (by first | simp only [ren_fmV] | rfl) (by first | simp only [ren_fmV] | rfl) (by first | simp only [ren_rowP] | rfl)
    rintro r hh (⟨he, rfl, rfl⟩ | ⟨he, rfl, rfl⟩)
    rotate_left
    · exact absurd he7 he
    refine ⟨.inl rfl, ?_⟩
    refine ⟨[0, 1, 2, 7], _, (by (try simp only [ren_fmV]); exact fmVFree _), (by (try simp only [ren_fmV]); exact fmVFree _), (by (try simp only [ren_rowP]); exact fun i _ => rowPFree _ i), at_h ?_ (h8), ?_⟩
    · exact dkH_eq (by first | simp only [ren_fmV] | rfl) (by first | simp only [ren_fmV] | rfl) (by first | simp only [ren_rowP] | rfl)
    rintro r hh (⟨he, rfl, rfl⟩ | ⟨he, rfl, rfl⟩)
    · exact absurd he (by decide)
    refine ⟨.inl rfl, ?_⟩
    refine ⟨fun _ => ?_, fun e => absurd rfl (no e)⟩
    refine ⟨fun _ => ?_, fun e => (by cases e)⟩
    refine ⟨fun _ => ?_, fun e => (by cases e)⟩
    refine ⟨fun _ => ?_, fun e => absurd rfl (no e)⟩
    refine ⟨fun _ => ?_, fun e => absurd rfl (no e)⟩
    refine ⟨fun _ => ?_, fun e => absurd rfl (no e)⟩
    refine ⟨fun _ => ?_, fun e => absurd rfl (no e)⟩
    refine ⟨[0, 1, 2, 7], _, (by (try simp only [ren_fmV]); exact fmVFree _), (by (try simp only [ren_fmV]); exact fmVFree _), (by (try simp only [ren_rowP]); exact fun i _ => rowPFree _ i), at_h ?_ (h9), ?_⟩
    · exact dkH_eq (by first | simp only [ren_fmV] | rfl) (by first | simp only [ren_fmV] | rfl) (by first | simp only [ren_rowP] | rfl)
    rintro r hh ⟨ns, hns, rfl, rfl⟩
    obtain rfl := h9n ns hns
    refine ⟨.inl rfl, ?_⟩
    refine ⟨fun _ => ?_, fun e => absurd rfl (no e)⟩
    refine ⟨[0, 1, 2, 7], _, (by (try simp only [ren_fmV]); exact fmVFree _), (by (try simp only [ren_fmV]); exact fmVFree _), (by (try simp only [ren_rowP]); exact fun i _ => rowPFree _ i), at_h ?_ (h10), ?_⟩
    · exact dkH_eq (by first | simp only [ren_fmV] | rfl) (by first | simp only [ren_fmV] | rfl) (by first | simp only [ren_rowP] | rfl)
    rintro r hh ⟨rfl, rfl⟩
    refine ⟨.inl rfl, ?_⟩
    exact ⟨[], [], .tt, lehN _, leTT (decide_eq_true rfl), rfl, rfl⟩
end
end Go.Proofs.Ytflclafbieokiaa.Dk
