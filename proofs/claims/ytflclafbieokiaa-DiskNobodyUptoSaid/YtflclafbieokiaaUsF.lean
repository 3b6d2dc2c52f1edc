/-
  Files, as they lie in rows; bytes copied; two lists of files held against each other.
-/
import Derived.Test.YtflclafbieokiaaFwD
import Derived.Test.YtflclafbieokiaaProg
set_option linter.unusedVariables false
set_option linter.unusedSectionVars false
namespace Go.Proofs.Ytflclafbieokiaa.Us
open Go AL

structure Fl where
  path : ByteArray
  data : List Int
def dataN (l : List Fl) : Nat := (l.map fun f => f.data.length).sum
theorem data_mem {l : List Fl} {f : Fl} (h : f ∈ l) : f.data.length ≤ dataN l := by
  unfold dataN
  induction l with
  | nil => cases h
  | cons g l ih =>
    rw [List.map_cons, List.sum_cons]
    rcases List.mem_cons.1 h with rfl | h
    · omega
    · have := ih h; omega
def fl0 : Fl := ⟨ByteArray.empty, []⟩
def flC (f : Fl) : Nat → AV
  | 0 => str f.path
  | _ => .roI .u8 f.data
def rowF (l : List Fl) (i : Nat) : AV := flC (l.getD (i / 2) fl0) (i % 2)
abbrev flsV (l : List Fl) : AV := .rs l.length 2 (rowF l)
theorem rowF_at (l : List Fl) {k c : Nat} (h : c < 2) : rowF l (k * 2 + c) = flC (l.getD k fl0) c := by
  unfold rowF
  rw [show (k * 2 + c) / 2 = k by omega, show (k * 2 + c) % 2 = c by omega]
theorem rowF_old (l : List Fl) (e : Fl) {i : Nat} (h : i < l.length * 2) : rowF (l ++ [e]) i = rowF l i := by
  unfold rowF
  have : i / 2 < l.length := by omega
  rw [List.getD_eq_getElem?_getD, List.getElem?_append_left this, List.getD_eq_getElem?_getD]
theorem rowF_new (l : List Fl) (e : Fl) {i : Nat} (h : i < 2) : rowF (l ++ [e]) (l.length * 2 + i) = flC e i := by
  unfold rowF
  have h1 : (l.length * 2 + i) / 2 = l.length := by omega
  have h2 : (l.length * 2 + i) % 2 = i := by omega
  rw [h1, h2, List.getD_eq_getElem?_getD, List.getElem?_append_right (Nat.le_refl _), Nat.sub_self]
  rfl
theorem flC_free (f : Fl) : ∀ c, (flC f c).free
  | 0 => trivial
  | _ + 1 => trivial
theorem flC_cell1 (f : Fl) : ∀ c, cell1 (flC f c) = true
  | 0 => rfl
  | _ + 1 => rfl

theorem data_app (l m : List Fl) : dataN (l ++ m) = dataN l + dataN m := by
  unfold dataN; rw [List.map_append, List.sum_append]
theorem take_succ_fl {l : List Fl} {k : Nat} (h : k < l.length) : l.take (k + 1) = l.take k ++ [l.getD k fl0] := by
  rw [List.take_succ_eq_append_getElem h, List.getD_eq_getElem?_getD, List.getElem?_eq_getElem h]; rfl
theorem data_succ {l : List Fl} {k : Nat} (h : k < l.length) : dataN (l.take (k + 1)) = dataN (l.take k) + (l.getD k fl0).data.length := by
  rw [take_succ_fl h, data_app]; rfl
theorem data_le (l : List Fl) (k : Nat) : dataN (l.take k) ≤ dataN l := by
  have := data_app (l.take k) (l.drop k)
  rw [List.take_append_drop] at this
  omega
theorem get_mem {l : List Fl} {k : Nat} (h : k < l.length) : l.getD k fl0 ∈ l := by
  rw [List.getD_eq_getElem?_getD, List.getElem?_eq_getElem h]; exact List.getElem_mem h

theorem vrsU {n : Nat} {f : Nat → AV} {l : List Fl} (e : n = l.length) (h : ∀ i, i < n * 2 → f i = rowF l i) : VLe (.ro n 2 f) (flsV l) := fun w S L v hv => by
  subst e
  obtain ⟨A, cap, e, hc, hd⟩ := hv
  refine ⟨A, cap, e, hc, fun i hi => ?_⟩
  obtain ⟨u, h1, h2⟩ := hd i hi
  exact ⟨u, h1, by rw [← h i hi]; exact h2⟩
theorem rowFree (fs : List Fl) (i : Nat) : (rowF fs i).free := flC_free _ _
theorem rowCell1 (fs : List Fl) (i : Nat) : cell1 (rowF fs i) = true := flC_cell1 _ _
theorem lehRow0 {h : List AO} {j : Nat} (hj : h.length ≤ j) (g : Nat → AV) : LeH 0 h [j] [.row 0 g] :=
  ⟨rfl, Nat.zero_le _, fun i hi => absurd hi (Nat.not_lt_zero _), List.nodup_cons.2 ⟨by simp, .nil⟩, fun i m p hi hp => by
    cases i with
    | zero => simp at hi hp; subst hi hp; exact .inr ⟨Nat.zero_le _, hj, .inr (.inr ⟨g, rfl⟩)⟩
    | succ i => simp at hi⟩

theorem ren_row (g : Nat → Nat) (l : List Fl) (i : Nat) : AV.ren g (rowF l i) = rowF l i := by
  unfold rowF
  cases i % 2 <;> rfl
theorem rfree (g : Nat → Nat) (l : List Fl) (i : Nat) : (AV.ren g (rowF l i)).free := by rw [ren_row]; exact rowFree l i
theorem rback (g : Nat → Nat) (l : List Fl) (i : Nat) : (fun i => AV.ren g (rowF l i)) (0 + i) = rowF l i := by
  show AV.ren g (rowF l (0 + i)) = _
  rw [ren_row, Nat.zero_add]
theorem bytes_eqU {xs ys : List Int} (hx : ∀ x ∈ xs, 0 ≤ x ∧ x < 256) (hy : ∀ x ∈ ys, 0 ≤ x ∧ x < 256) : bytesOf xs = bytesOf ys ↔ xs = ys := by
  constructor
  · intro h
    rw [← intsOf_bytesOf hx, ← intsOf_bytesOf hy, h]
  · intro h; rw [h]
section
variable [Globs]

set_option maxRecDepth 10000 in
theorem clone_prog (xs : List Int) (hl : xs.length ≤ 140737488355328) : ACalls Try.prog 30 [.roI .u8 xs] [] (fun r h => r = .own 0 0 xs.length 1 ∧ h = [.ints .u8 xs]) := by
  refine rcalls Try.func30 rfl (by decide) ?_
  refine ⟨fun c => ?_, ?_⟩
  · obtain rfl := List.eq_nil_of_length_eq_zero c
    exact ⟨[0], [.ints .u8 []], .own 0 0 0 1, lehE (Nat.le_refl _) .u8, .nil _ _ (by decide), rfl, rfl⟩
  refine ⟨rfl, by show (0 + xs.length) * 1 ≤ _; omega, ?_⟩
  exact ⟨[1], [.ints .u8 xs], .own 0 0 xs.length 1, leh1 rfl (leOint rfl), leOwn rfl rfl (Nat.zero_add _), rfl, rfl⟩

noncomputable instance : DecidableEq Fl := fun _ _ => Classical.propDecidable _
def okBytes (l : List Fl) : Prop := ∀ f ∈ l, ∀ x ∈ f.data, 0 ≤ x ∧ x < 256

theorem deqTu {p : Prop} [Decidable p] (h : p) : bool (decide p) = bool true := by rw [decide_eq_true h]
theorem deqFu {p : Prop} [Decidable p] (h : ¬ p) : bool (decide p) = bool false := by rw [decide_eq_false h]

set_option maxHeartbeats 1000000 in
set_option maxRecDepth 10000 in
theorem same_ref (a b : List Fl) (ha : okBytes a) (hb : okBytes b) (hl : a.length ≤ 281474976710656) (hm : b.length ≤ 281474976710656) : ACalls Try.prog 16 [flsV a, flsV b] [] (fun r h => r = bool (decide (a = b)) ∧ h = []) := by
  refine rcalls Try.func16 rfl (by decide) ?_
  refine ⟨fun c => ?_, fun c => ?_⟩
  · have f1 : ¬ (a.length : Int) = b.length := yes c
    exact ⟨[], [], _, lehN _, leFP fun h => f1 (by rw [h]), rfl, rfl⟩
  have f1 : (a.length : Int) = b.length := Classical.byContradiction fun x => no c x
  refine ⟨Nat, fun k => [(0, flsV a), (1, flsV b), (5, int .i64 k)], fun _ => [], fun k => k ≤ a.length ∧ ∀ i, i < k → a.getD i fl0 = b.getD i fl0, fun k => a.length - k,
    ⟨0, [], ⟨Nat.zero_le _, fun i hi => by omega⟩, lehN _, ⟨.same _ trivial, .same _ trivial, leI rfl, trivial⟩⟩, ?_⟩
  rintro k ⟨hk, heq⟩
  have e1 : IntKind.i64.wrap ((k : Int) + 1) = ((k + 1 : Nat) : Int) := by rw [w64 (by omega) (by omega)]; omega
  refine ⟨fun c => ?_, fun c => ?_⟩
  · have f2 : (k : Int) < a.length := yes c
    have h1 : ∀ c, c < 2 → rowF a ((k : Int).toNat * 2 + c) = flC (a.getD k fl0) c := fun c hc => by rw [Int.toNat_natCast]; exact rowF_at a hc
    have h2 : ∀ c, c < 2 → rowF b ((k : Int).toNat * 2 + c) = flC (b.getD k fl0) c := fun c hc => by rw [Int.toNat_natCast]; exact rowF_at b hc
    have hA := ha _ (get_mem (l := a) (k := k) (by omega))
    have hB := hb _ (get_mem (l := b) (k := k) (by omega))
    have hab : a = b → a.getD k fl0 = b.getD k fl0 := fun h => by rw [h]
    obtain ⟨F, hF⟩ : ∃ F, a.getD k fl0 = F := ⟨_, rfl⟩
    obtain ⟨G, hG⟩ : ∃ G, b.getD k fl0 = G := ⟨_, rfl⟩
    rw [hF] at h1 hA hab
    rw [hG] at h2 hB hab
    have b1 : 0 ≤ (k : Int) ∧ (k : Int) < a.length := ⟨by omega, f2⟩
    have b2 : 0 ≤ (k : Int) ∧ (k : Int) < b.length := by omega
    by_cases hp : F.path = G.path
    · refine .inr ⟨24, by decide +kernel, ?_⟩
      refine ⟨_, rfl, ?_⟩
      refine ⟨_, rfl, ?_⟩
      refine ⟨_, ⟨b1, flC F, fun c hc => h1 c hc, rfl⟩, ?_⟩
      refine ⟨_, rfl, ?_⟩
      refine ⟨_, rfl, ?_⟩
      refine ⟨_, rfl, ?_⟩
      refine ⟨_, rfl, ?_⟩
      refine ⟨_, ⟨b2, flC G, fun c hc => h2 c hc, rfl⟩, ?_⟩
      refine ⟨_, rfl, ?_⟩
      refine ⟨_, rfl, ?_⟩
      refine ⟨_, deqFu (p := ¬ _) (fun h => h hp), ?_⟩
      refine ⟨_, rfl, ?_⟩
      refine ⟨_, rfl, ?_⟩
      refine ⟨_, rfl, ?_⟩
      refine ⟨_, ⟨b1, flC F, fun c hc => h1 c hc, rfl⟩, ?_⟩
      refine ⟨_, rfl, ?_⟩
      refine ⟨_, rfl, ?_⟩
      refine ⟨_, rfl, ?_⟩
      refine ⟨_, rfl, ?_⟩
      refine ⟨_, rfl, ?_⟩
      refine ⟨_, ⟨b2, flC G, fun c hc => h2 c hc, rfl⟩, ?_⟩
      refine ⟨_, rfl, ?_⟩
      refine ⟨_, rfl, ?_⟩
      refine ⟨_, rfl, ?_⟩
      refine ⟨fun e => (by cases e), fun _ => ?_⟩
      refine ⟨fun c3 => ?_, fun c3 => ?_⟩
      · have f3 : ¬ bytesOf F.data = bytesOf G.data := yes c3
        exact ⟨[], [], _, lehN _, leFP fun h => f3 (by rw [hab h]), rfl, rfl⟩
      · have f3 : bytesOf F.data = bytesOf G.data := Classical.byContradiction fun x => no c3 x
        have f4 := (bytes_eqU hA hB).1 f3
        refine ⟨trivial, k + 1, [], ⟨by omega, fun i hi => ?_⟩, by show a.length - (k + 1) < a.length - k; omega, lehN _, ⟨.same _ trivial, .same _ trivial, leI e1, trivial⟩⟩
        by_cases e : i = k
        · rw [e, hF, hG]
          cases F; cases G
          simp only at hp f4
          rw [hp, f4]
        · exact heq i (by omega)
    · refine .inr ⟨24, by decide +kernel, ?_⟩
      refine ⟨_, rfl, ?_⟩
      refine ⟨_, rfl, ?_⟩
      refine ⟨_, ⟨b1, flC F, fun c hc => h1 c hc, rfl⟩, ?_⟩
      refine ⟨_, rfl, ?_⟩
      refine ⟨_, rfl, ?_⟩
      refine ⟨_, rfl, ?_⟩
      refine ⟨_, rfl, ?_⟩
      refine ⟨_, ⟨b2, flC G, fun c hc => h2 c hc, rfl⟩, ?_⟩
      refine ⟨_, rfl, ?_⟩
      refine ⟨_, rfl, ?_⟩
      refine ⟨_, deqTu (p := ¬ _) hp, ?_⟩
      refine ⟨_, rfl, ?_⟩
      refine ⟨_, rfl, ?_⟩
      refine ⟨_, rfl, ?_⟩
      refine ⟨_, rfl, ?_⟩
      refine ⟨_, rfl, ?_⟩
      refine ⟨_, rfl, ?_⟩
      refine ⟨_, rfl, ?_⟩
      refine ⟨_, rfl, ?_⟩
      refine ⟨_, rfl, ?_⟩
      refine ⟨_, rfl, ?_⟩
      refine ⟨_, rfl, ?_⟩
      refine ⟨_, rfl, ?_⟩
      refine ⟨_, rfl, ?_⟩
      refine ⟨fun _ => ?_, fun e => (by cases e)⟩
      exact ⟨[], [], _, lehN _, leFP fun h => hp (by rw [hab h]), rfl, rfl⟩
  · have f2 : ¬ (k : Int) < a.length := no c
    refine ⟨[], [], _, lehN _, leTB (decide_eq_true ?_), rfl, rfl⟩
    apply List.ext_getElem (by omega)
    intro i h1 h2
    have := heq i (by omega)
    rw [List.getD_eq_getElem?_getD, List.getD_eq_getElem?_getD, List.getElem?_eq_getElem h1, List.getElem?_eq_getElem h2] at this
    exact this
end
end Go.Proofs.Ytflclafbieokiaa.Us
