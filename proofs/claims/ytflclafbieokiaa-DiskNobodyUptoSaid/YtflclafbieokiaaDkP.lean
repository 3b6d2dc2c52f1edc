/-
  The program's disk: how it lies, and what is read of it.
-/
import Derived.Test.YtflclafbieokiaaDkC
set_option linter.unusedVariables false
set_option linter.unusedSectionVars false
set_option linter.unusedSimpArgs false
namespace Go.Proofs.Ytflclafbieokiaa.Dk
open Go AL Us

/-! Deeds, as they lie: a function value with what it holds, whether it is a write, name, bytes. -/
def one (a : AV) : AV := .rp 1 fun _ => a
def pdC : Dee → Nat → AV
  | .wr n b, 0 => .clo (.func 34) 2 (pair (one (.roI .u8 b)) (one (str n)))
  | .wr n b, 1 => bool true
  | .wr n b, 2 => str n
  | .wr n b, _ => .roI .u8 b
  | .mv a t, 0 => .clo (.func 35) 2 (pair (one (str a)) (one (str t)))
  | .rm a, 0 => .clo (.func 36) 1 (fun _ => one (str a))
  | .mv _ _, 1 => bool false
  | .rm _, 1 => bool false
  | .mv _ _, 2 => str ByteArray.empty
  | .rm _, 2 => str ByteArray.empty
  | .mv _ _, _ => .roI .u8 []
  | .rm _, _ => .roI .u8 []
def dee0 : Dee := .rm ByteArray.empty
def rowP (l : List Dee) (i : Nat) : AV := pdC (l.getD (i / 4) dee0) (i % 4)
theorem rowP_at (l : List Dee) {k c : Nat} (h : c < 4) : rowP l (k * 4 + c) = pdC (l.getD k dee0) c := by
  unfold rowP
  rw [show (k * 4 + c) / 4 = k by omega, show (k * 4 + c) % 4 = c by omega]
theorem rowP_old (l : List Dee) (e : Dee) {i : Nat} (h : i < l.length * 4) : rowP (l ++ [e]) i = rowP l i := by
  unfold rowP
  have : i / 4 < l.length := by omega
  rw [List.getD_eq_getElem?_getD, List.getElem?_append_left this, List.getD_eq_getElem?_getD]
theorem rowP_new (l : List Dee) (e : Dee) {i : Nat} (h : i < 4) : rowP (l ++ [e]) (l.length * 4 + i) = pdC e i := by
  unfold rowP
  have h1 : (l.length * 4 + i) / 4 = l.length := by omega
  have h2 : (l.length * 4 + i) % 4 = i := by omega
  rw [h1, h2, List.getD_eq_getElem?_getD, List.getElem?_append_right (Nat.le_refl _), Nat.sub_self]
  rfl
theorem pdC_free : ∀ (e : Dee) (c : Nat), (pdC e c).free
  | .wr n b, 0 => fun i hi => by
    match i, hi with
    | 0, _ => exact trivial
    | 1, _ => exact trivial
  | .mv a t, 0 => fun i hi => by
    match i, hi with
    | 0, _ => exact trivial
    | 1, _ => exact trivial
  | .rm a, 0 => fun i hi => trivial
  | .wr _ _, 1 => trivial
  | .wr _ _, 2 => trivial
  | .wr _ _, _ + 3 => trivial
  | .mv _ _, 1 => trivial
  | .mv _ _, 2 => trivial
  | .mv _ _, _ + 3 => trivial
  | .rm _, 1 => trivial
  | .rm _, 2 => trivial
  | .rm _, _ + 3 => trivial
theorem pdC_cell1 : ∀ (e : Dee) (c : Nat), cell1 (pdC e c) = true
  | .wr _ _, 0 => rfl
  | .mv _ _, 0 => rfl
  | .rm _, 0 => rfl
  | .wr _ _, 1 => rfl
  | .wr _ _, 2 => rfl
  | .wr _ _, _ + 3 => rfl
  | .mv _ _, 1 => rfl
  | .mv _ _, 2 => rfl
  | .mv _ _, _ + 3 => rfl
  | .rm _, 1 => rfl
  | .rm _, 2 => rfl
  | .rm _, _ + 3 => rfl
theorem rowPFree (l : List Dee) (i : Nat) : (rowP l i).free := pdC_free _ _
theorem rowPCell1 (l : List Dee) (i : Nat) : cell1 (rowP l i) = true := pdC_cell1 _ _

theorem fmVFree (m : FM) : ∀ i, i < (fmV m).length → ((fmV m).getD i mz).2.free := fun i hi => by
  rw [fmV_len] at hi
  rw [fmV_get hi]
  exact trivial
theorem ren_fmV (g : Nat → Nat) (m : FM) : (fmV m).map (fun p => (p.1, AV.ren g p.2)) = fmV m := by
  unfold fmV
  rw [List.map_map]
  rfl
theorem ren_pair (g : Nat → Nat) (a b : AV) (ha : a.ren g = a) (hb : b.ren g = b) : (fun i => (pair a b i).ren g) = pair a b := funext fun i => by
  match i with
  | 0 => exact ha
  | 1 => exact hb
  | _ + 2 => rfl
theorem ren_pdC (g : Nat → Nat) : ∀ (e : Dee) (c : Nat), (pdC e c).ren g = pdC e c
  | .wr n b, 0 => congrArg (AV.clo _ 2) (ren_pair g _ _ rfl rfl)
  | .mv a t, 0 => congrArg (AV.clo _ 2) (ren_pair g _ _ rfl rfl)
  | .rm a, 0 => rfl
  | .wr _ _, 1 => rfl
  | .wr _ _, 2 => rfl
  | .wr _ _, _ + 3 => rfl
  | .mv _ _, 1 => rfl
  | .mv _ _, 2 => rfl
  | .mv _ _, _ + 3 => rfl
  | .rm _, 1 => rfl
  | .rm _, 2 => rfl
  | .rm _, _ + 3 => rfl
theorem ren_rowP (g : Nat → Nat) (l : List Dee) (i : Nat) : (rowP l i).ren g = rowP l i := ren_pdC _ _ _
/-- A disk, as it lies. -/
abbrev dkL (d : DkF) : AO := .lst [.mp 1, .mp 2, .own 3 0 d.deeds.length 4, int .i64 d.room]
abbrev dkH (d : DkF) : List AO := [dkL d, .map (fmV d.now), .map (fmV d.synced), .row (d.deeds.length * 4) (rowP d.deeds)]
theorem dkH_eq {d : DkF} {x y : List (ByteArray × AV)} {f : Nat → AV} (hx : x = fmV d.now) (hy : y = fmV d.synced) (hf : f = rowP d.deeds) : [dkL d, .map x, .map y, .row (d.deeds.length * 4) f] = dkH d := by rw [hx, hy, hf]
/-- The blocks that were handed over are where they were. -/
theorem leh4 {h : List AO} {p0 p1 p2 p3 o0 o1 o2 o3 : AO} (e0 : h[0]? = some p0) (e1 : h[1]? = some p1) (e2 : h[2]? = some p2) (e3 : h[3]? = some p3)
    (l0 : LeO h [0, 1, 2, 3] p0 o0) (l1 : LeO h [0, 1, 2, 3] p1 o1) (l2 : LeO h [0, 1, 2, 3] p2 o2) (l3 : LeO h [0, 1, 2, 3] p3 o3) : LeH 4 h [0, 1, 2, 3] [o0, o1, o2, o3] :=
  ⟨rfl, Nat.le_refl _, fun i hi => by
    match i, hi with
    | 0, _ => rfl
    | 1, _ => rfl
    | 2, _ => rfl
    | 3, _ => rfl, by decide, fun i m o' hi ho => by
    match i, hi, ho with
    | 0, hi, ho => cases hi; cases ho; exact .inl ⟨_, e0, l0⟩
    | 1, hi, ho => cases hi; cases ho; exact .inl ⟨_, e1, l1⟩
    | 2, hi, ho => cases hi; cases ho; exact .inl ⟨_, e2, l2⟩
    | 3, hi, ho => cases hi; cases ho; exact .inl ⟨_, e3, l3⟩
    | i + 4, hi, ho => simp at hi⟩
section
variable [Globs]
theorem at_h {P : Program} {f : FuncId} {args : List AV} {h h' : List AO} {R : AV → List AO → Prop} (e : h' = h) (hc : ACalls P f args h R) : ACalls P f args h' R := by rw [e]; exact hc
theorem leDkL {h : List AO} {l : List Nat} {a b id n m : Nat} {r s : Int} (ea : l[1]? = some a) (eb : l[2]? = some b) (ec : l[3]? = some id) (en : n = m) (er : r = s) :
    LeO h l (.lst [.mp a, .mp b, .own id 0 n 4, int .i64 r]) (.lst [.mp 1, .mp 2, .own 3 0 m 4, int .i64 s]) := .lst _ _ rfl fun i hi => by
  have hi : i < 4 := hi
  match i, hi with
  | 0, _ => exact .mp ea
  | 1, _ => exact .mp eb
  | 2, _ => exact leOwn ec rfl en
  | 3, _ => exact leI er
theorem leRowP {h : List AO} {l : List Nat} (D : List Dee) : LeO h l (.row (D.length * 4) (rowP D)) (.row (D.length * 4) (rowP D)) := .row _ _ _ _ (Nat.le_refl _) fun i _ => .same _ (rowPFree D i)
theorem lehDk {h : List AO} {d : DkF} {x y : List (ByteArray × AV)} {n : Nat} {f : Nat → AV} (e0 : h[0]? = some (dkL d)) (e1 : h[1]? = some (.map x)) (e2 : h[2]? = some (.map y)) (e3 : h[3]? = some (.row n f))
    (hx : x = fmV d.now) (hy : y = fmV d.synced) (hn : n = d.deeds.length * 4) (hf : f = rowP d.deeds) : LeH 4 h [0, 1, 2, 3] (dkH d) := by
  subst hn hf
  exact leh4 e0 e1 e2 e3 (leDkL rfl rfl rfl rfl rfl) (leMap hx) (leMap hy) (leRowP _)

/-- .. and one block more. -/
theorem leh5 {h : List AO} {j : Nat} {p0 p1 p2 p3 o0 o1 o2 o3 o : AO} (hj : 4 ≤ j) (e0 : h[0]? = some p0) (e1 : h[1]? = some p1) (e2 : h[2]? = some p2) (e3 : h[3]? = some p3)
    (l0 : LeO h [0, 1, 2, 3, j] p0 o0) (l1 : LeO h [0, 1, 2, 3, j] p1 o1) (l2 : LeO h [0, 1, 2, 3, j] p2 o2) (l3 : LeO h [0, 1, 2, 3, j] p3 o3)
    (y : (∃ p, h[j]? = some p ∧ LeO h [0, 1, 2, 3, j] p o) ∨ (h.length ≤ j ∧ ∃ k, o = .ints k [])) : LeH 4 h [0, 1, 2, 3, j] [o0, o1, o2, o3, o] :=
  ⟨rfl, by show 4 ≤ 5; omega, fun i hi => by
    match i, hi with
    | 0, _ => rfl
    | 1, _ => rfl
    | 2, _ => rfl
    | 3, _ => rfl, by simp; omega, fun i m o' hi ho => by
    match i, hi, ho with
    | 0, hi, ho => cases hi; cases ho; exact .inl ⟨_, e0, l0⟩
    | 1, hi, ho => cases hi; cases ho; exact .inl ⟨_, e1, l1⟩
    | 2, hi, ho => cases hi; cases ho; exact .inl ⟨_, e2, l2⟩
    | 3, hi, ho => cases hi; cases ho; exact .inl ⟨_, e3, l3⟩
    | 4, hi, ho =>
      cases hi; cases ho
      rcases y with y | ⟨y1, y2⟩
      · exact .inl y
      · exact .inr ⟨Nat.le_refl _, y1, .inr (.inl y2)⟩
    | i + 5, hi, ho => simp at hi⟩
theorem lehDk5 {h : List AO} {d : DkF} {x y : List (ByteArray × AV)} {n j : Nat} {f : Nat → AV} {o : AO} (hj : 4 ≤ j) (e0 : h[0]? = some (dkL d)) (e1 : h[1]? = some (.map x)) (e2 : h[2]? = some (.map y)) (e3 : h[3]? = some (.row n f))
    (hx : x = fmV d.now) (hy : y = fmV d.synced) (hn : n = d.deeds.length * 4) (hf : f = rowP d.deeds)
    (ho : (∃ p, h[j]? = some p ∧ LeO h [0, 1, 2, 3, j] p o) ∨ (h.length ≤ j ∧ ∃ k, o = .ints k [])) : LeH 4 h [0, 1, 2, 3, j] (dkH d ++ [o]) := by
  subst hn hf
  exact leh5 hj e0 e1 e2 e3 (leDkL rfl rfl rfl rfl rfl) (leMap hx) (leMap hy) (leRowP _) ho

set_option maxRecDepth 10000 in
theorem may_p (s : ByteArray) : ACalls Try.prog 31 [str s] [] (fun r h => r = bool (decide (mayN s)) ∧ h = []) := by
  refine rcalls Try.func31 rfl (by decide) ?_
  refine ⟨fun c => ?_, fun c => ?_⟩
  · have f1 : ¬ s = ⟨#[]⟩ := yes c
    have f2 : 1 ≤ s.size := by
      refine Nat.pos_of_ne_zero fun h => f1 ?_
      cases s with | mk a => exact congrArg ByteArray.mk (Array.eq_empty_of_size_eq_zero h)
    exact ⟨[], [], _, lehN _, .same _ trivial, congrArg AL.bool (decide_eq_decide.2 (by unfold mayN; omega)), rfl⟩
  · have f1 : ¬ ¬ s = ⟨#[]⟩ := no c
    refine ⟨[], [], _, lehN _, leFP fun h => f1 fun e => ?_, rfl, rfl⟩
    rw [e] at h
    exact absurd h.1 (by decide)

set_option maxRecDepth 10000 in
theorem has_p (d : DkF) (s : ByteArray) : ACalls Try.prog 29 [.ptr 0 0, str s] (dkH d) (fun r h => r = bool (getF s d.now).isSome ∧ h = dkH d) := by
  have hg := get_fmV s d.now
  refine rcalls Try.func29 rfl (by decide) ?_
  refine ⟨fun v hv => ?_, fun hv => ?_⟩
  · refine ⟨[0, 1, 2, 3], dkH d, _, lehDk rfl rfl rfl rfl (by simp only [ren_fmV]) (by simp only [ren_fmV]) rfl (by simp only [ren_rowP]), leTB ?_, rfl, rfl⟩
    rw [hg] at hv
    cases hx : getF s d.now with
    | none => rw [hx] at hv; cases hv
    | some x => rfl
  · refine ⟨[0, 1, 2, 3], dkH d, _, lehDk rfl rfl rfl rfl (by simp only [ren_fmV]) (by simp only [ren_fmV]) rfl (by simp only [ren_rowP]), leFB ?_, rfl, rfl⟩
    rw [hg] at hv
    cases hx : getF s d.now with
    | none => rfl
    | some x => rw [hx] at hv; cases hv

set_option maxRecDepth 10000 in
theorem room_p (d : DkF) : ACalls Try.prog 27 [.ptr 0 0] (dkH d) (fun r h => r = int .i64 d.room ∧ h = dkH d) := by
  refine rcalls Try.func27 rfl (by decide) ?_
  exact ⟨[0, 1, 2, 3], dkH d, _, lehDk rfl rfl rfl rfl (by simp only [ren_fmV]) (by simp only [ren_fmV]) rfl (by simp only [ren_rowP]), leI rfl, rfl, rfl⟩

set_option maxRecDepth 10000 in
theorem pending_p (d : DkF) : ACalls Try.prog 17 [.ptr 0 0] (dkH d) (fun r h => r = int .i64 d.deeds.length ∧ h = dkH d) := by
  refine rcalls Try.func17 rfl (by decide) ?_
  exact ⟨[0, 1, 2, 3], dkH d, _, lehDk rfl rfl rfl rfl (by simp only [ren_fmV]) (by simp only [ren_fmV]) rfl (by simp only [ren_rowP]), leI rfl, rfl, rfl⟩

set_option maxRecDepth 10000 in
theorem size_p (d : DkF) (hs : sizeF d.now ≤ 4611686018427387904) : ACalls Try.prog 21 [.ptr 0 0] (dkH d) (fun r h => r = int .i64 (sizeF d.now : Nat) ∧ h = dkH d) := by
  have h1 := size_prog d.now hs
  refine rcalls Try.func21 rfl (by decide) ?_
  refine ⟨[1], _, fmVFree _, h1, ?_⟩
  rintro r h ⟨rfl, rfl⟩
  refine ⟨.inl rfl, ?_⟩
  exact ⟨[0, 1, 2, 3], dkH d, _, lehDk rfl rfl rfl rfl (by simp only [ren_fmV]) (by simp only [ren_fmV]) rfl (by simp only [ren_rowP]), leI rfl, rfl, rfl⟩

set_option maxRecDepth 10000 in
theorem get_p (d : DkF) (s : ByteArray) (hl : ∀ v, getF s d.now = some v → v.length ≤ 140737488355328) : ACalls Try.prog 18 [.ptr 0 0, str s] (dkH d)
    (fun r h => ∃ xs, xs = (getF s d.now).getD [] ∧ r = .tup 2 (pair (.own 4 0 xs.length 1) (bool (getF s d.now).isSome)) ∧ h = dkH d ++ [.ints .u8 xs]) := by
  have hg := get_fmV s d.now
  have hh := has_p d s
  refine rcalls Try.func18 rfl (by decide) ?_
  refine ⟨[0, 1, 2, 3], _, (by (try simp only [ren_fmV]); exact fmVFree _), (by (try simp only [ren_fmV]); exact fmVFree _), (by (try simp only [ren_rowP]); exact fun i _ => rowPFree _ i), at_h ?_ (hh), ?_⟩
  · exact dkH_eq (by first | simp only [ren_fmV] | rfl) (by first | simp only [ren_fmV] | rfl) (by first | simp only [ren_rowP] | rfl)
  rintro r hh ⟨rfl, rfl⟩
  refine ⟨.inl rfl, ?_⟩
  refine ⟨fun c => ?_, fun c => ?_⟩
  · have f1 : getF s d.now = none := by revert c; cases getF s d.now <;> simp
    rw [f1]
    exact ⟨[0, 1, 2, 3, 4], dkH d ++ [.ints .u8 []], _, lehDk5 (Nat.le_refl 4) rfl rfl rfl rfl (by simp only [ren_fmV]) (by simp only [ren_fmV]) rfl (by simp only [ren_rowP]) (.inr ⟨Nat.le_refl _, .u8, rfl⟩), le_pair (.nil _ _ (by decide)) (leFB rfl), [], rfl, rfl, rfl⟩
  have f1 : ¬ getF s d.now = none := by revert c; cases getF s d.now <;> simp
  obtain ⟨v, hv⟩ := Option.ne_none_iff_exists'.1 f1
  have hl := hl v hv
  rw [hv] at hg ⊢
  refine ⟨fun v' hv' => ?_, fun hv' => ?_⟩
  · simp only [ren_fmV] at hv'
    rw [hg] at hv'
    obtain rfl := Option.some.inj hv'
    have hc := clone_prog v hl
    refine ⟨[], _, hc, ?_⟩
    rintro r hh ⟨rfl, rfl⟩
    refine ⟨.inl rfl, ?_⟩
    exact ⟨[0, 1, 2, 3, 4], dkH d ++ [.ints .u8 v], _, lehDk5 (Nat.le_refl 4) rfl rfl rfl rfl (by simp only [ren_fmV]) (by simp only [ren_fmV]) rfl (by simp only [ren_rowP]) (.inl ⟨_, rfl, leOint rfl⟩), le_pair (leOwn rfl rfl rfl) (leTB rfl), v, rfl, rfl, rfl⟩
  · simp only [ren_fmV] at hv'
    rw [hg] at hv'
    cases hv'
end
end Go.Proofs.Ytflclafbieokiaa.Dk
