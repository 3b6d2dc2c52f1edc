import Derived.Laws.BitsLemmas
import Derived.Test.YtflclafbieokiaaGreatDoorProg
import Derived.Shelf.SlMaps.Clone
import Derived.Test.YtflclafbieokiaaGreatDoorShelfN
import Derived.Lib.Join
import Derived.Lib.Bytealg
import Derived.Test.YtflclafbieokiaaGreatDoorBsc

/-
  SHA-256: what its words, rounds and blocks are. No program in sight.
-/
set_option linter.unusedVariables false
set_option linter.unusedSectionVars false
namespace Go.Proofs.YtflclafbieokiaaGreatDoor.Sh
open Go AL

abbrev w32 (x : Int) : Int := IntKind.u32.wrap x
def rotS (x n : Int) : Int := bits .or .u32 (x.fdiv (2 ^ min n.toNat IntKind.u32.bits)) (IntKind.u32.wrap (x * 2 ^ min (32 - n).toNat IntKind.u32.bits))
def shrS (x n : Int) : Int := x.fdiv (2 ^ min n.toNat IntKind.u32.bits)
abbrev andS (x y : Int) : Int := bits .and .u32 x y
abbrev orS (x y : Int) : Int := bits .or .u32 x y
abbrev xorS (x y : Int) : Int := bits .xor .u32 x y
abbrev notS (x : Int) : Int := bits .xor .u32 (if IntKind.u32.signed = true then -1 else IntKind.u32.max) x
def chS (x y z : Int) : Int := xorS (andS x y) (andS (notS x) z)
def majS (x y z : Int) : Int := xorS (xorS (andS x y) (andS x z)) (andS y z)
def big0S (x : Int) : Int := xorS (xorS (rotS x 2) (rotS x 13)) (rotS x 22)
def big1S (x : Int) : Int := xorS (xorS (rotS x 6) (rotS x 11)) (rotS x 25)
def small0S (x : Int) : Int := xorS (xorS (rotS x 7) (rotS x 18)) (shrS x 3)
def small1S (x : Int) : Int := xorS (xorS (rotS x 17) (rotS x 19)) (shrS x 10)
theorem mask31 {n : Int} (h : 0 ≤ n ∧ n < 32) : bits .and .u64 (IntKind.u64.wrap n) 31 = n := by
  have e : IntKind.u64.wrap n = n := by
    simp [IntKind.wrap, IntKind.bits, IntKind.signed]
    omega
  rw [e]
  have := bits_mask .u64 63 (by decide) (fun n h0 h1 => by simp [IntKind.wrap, IntKind.bits, IntKind.signed]; omega) 5 (by decide) n h.1 (by omega)
  have h5 : (2 : Int) ^ 5 - 1 = 31 := by decide
  rw [h5] at this
  rw [this]
  have h6 : (2 : Int) ^ 5 = 32 := by decide
  rw [h6]
  omega
theorem sub32 {n : Int} (h : 0 ≤ n ∧ n < 32) : IntKind.u64.wrap (32 - n) = 32 - n := by
  simp [IntKind.wrap, IntKind.bits, IntKind.signed]
  omega

/-! The two ways of the documents and the program are one. -/
abbrev B32 (x : Int) : BitVec 32 := BitVec.ofInt 32 x
theorem wrap_bv (v : BitVec 32) : IntKind.u32.wrap (v.toNat : Int) = v.toNat := by
  rw [IntKind.wrap_u32]
  have := v.isLt
  omega
theorem bv_wrap (v : BitVec 32) : B32 (v.toNat : Int) = v := by
  apply BitVec.eq_of_toNat_eq
  show (BitVec.ofInt 32 (v.toNat : Int)).toNat = _
  rw [BitVec.ofInt_natCast, BitVec.toNat_ofNat]
  exact Nat.mod_eq_of_lt v.isLt
theorem and_bv (x y : Int) : andS x y = ((B32 x &&& B32 y).toNat : Int) := wrap_bv _
theorem or_bv (x y : Int) : orS x y = ((B32 x ||| B32 y).toNat : Int) := wrap_bv _
theorem xor_bv (x y : Int) : xorS x y = ((B32 x ^^^ B32 y).toNat : Int) := wrap_bv _
theorem not_bv (x : Int) : notS x = ((BitVec.allOnes 32 ^^^ B32 x).toNat : Int) := by
  show IntKind.u32.wrap _ = _
  exact wrap_bv _
theorem ch_same (x y z : Int) : orS (andS x y) (andS (notS x) z) = chS x y z := by
  unfold chS
  rw [or_bv, xor_bv]
  simp only [and_bv, not_bv, bv_wrap]
  congr 2
  ext i hi
  simp only [BitVec.getElem_or, BitVec.getElem_xor, BitVec.getElem_and, BitVec.getElem_allOnes]
  cases (B32 x)[i] <;> cases (B32 y)[i] <;> cases (B32 z)[i] <;> rfl
theorem maj_same (x y z : Int) : orS (orS (andS x y) (andS x z)) (andS y z) = majS x y z := by
  unfold majS
  rw [or_bv, xor_bv]
  simp only [and_bv, or_bv, xor_bv, bv_wrap]
  congr 2
  ext i hi
  simp only [BitVec.getElem_or, BitVec.getElem_xor, BitVec.getElem_and]
  cases (B32 x)[i] <;> cases (B32 y)[i] <;> cases (B32 z)[i] <;> rfl

/-! Rounds and blocks. -/
def g0 (l : List Int) (i : Nat) : Int := l.getD i 0
def roundS (h : List Int) (k w : Int) : List Int :=
  let one := w32 (w32 (w32 (w32 (g0 h 7 + big1S (g0 h 4)) + chS (g0 h 4) (g0 h 5) (g0 h 6)) + k) + w)
  let two := w32 (big0S (g0 h 0) + majS (g0 h 0) (g0 h 1) (g0 h 2))
  [w32 (one + two), g0 h 0, g0 h 1, g0 h 2, w32 (g0 h 3 + one), g0 h 4, g0 h 5, g0 h 6]
def tabS : List Int := [1116352408, 1899447441, 3049323471, 3921009573, 961987163, 1508970993, 2453635748, 2870763221,
  3624381080, 310598401, 607225278, 1426881987, 1925078388, 2162078206, 2614888103, 3248222580,
  3835390401, 4022224774, 264347078, 604807628, 770255983, 1249150122, 1555081692, 1996064986,
  2554220882, 2821834349, 2952996808, 3210313671, 3336571891, 3584528711, 113926993, 338241895,
  666307205, 773529912, 1294757372, 1396182291, 1695183700, 1986661051, 2177026350, 2456956037,
  2730485921, 2820302411, 3259730800, 3345764771, 3516065817, 3600352804, 4094571909, 275423344,
  430227734, 506948616, 659060556, 883997877, 958139571, 1322822218, 1537002063, 1747873779,
  1955562222, 2024104815, 2227730452, 2361852424, 2428436474, 2756734187, 3204031479, 3329325298]
def firstS : List Int := [1779033703, 3144134277, 1013904242, 2773480762, 1359893119, 2600822924, 528734635, 1541459225]
abbrev shS (n : Int) : Nat := min n.toNat IntKind.u32.bits
def wordS (b : List Int) (t : Nat) : Int := orS (orS (orS (w32 (w32 (g0 b (4 * t)) * 2 ^ shS 24)) (w32 (w32 (g0 b (4 * t + 1)) * 2 ^ shS 16))) (w32 (w32 (g0 b (4 * t + 2)) * 2 ^ shS 8))) (w32 (g0 b (4 * t + 3)))
def nextS (w : List Int) (t : Nat) : Int := w32 (w32 (w32 (small1S (g0 w (t - 2)) + g0 w (t - 7)) + small0S (g0 w (t - 15))) + g0 w (t - 16))
def schS (b : List Int) : Nat → List Int
  | 0 => List.replicate 64 0
  | t + 1 => (schS b t).set t (if t < 16 then wordS b t else nextS (schS b t) t)
theorem schS_len (b : List Int) : ∀ t, (schS b t).length = 64
  | 0 => by unfold schS; simp
  | t + 1 => by unfold schS; rw [List.length_set]; exact schS_len b t
def rndS (h w : List Int) : Nat → List Int
  | 0 => h
  | t + 1 => roundS (rndS h w t) (g0 tabS t) (g0 w t)
theorem rndS_len {h : List Int} (hh : h.length = 8) (w : List Int) : ∀ t, (rndS h w t).length = 8
  | 0 => hh
  | t + 1 => rfl
def addS (x h : List Int) : Nat → List Int
  | 0 => x
  | i + 1 => (addS x h i).set i (w32 (g0 (addS x h i) i + g0 h i))
theorem addS_len {x : List Int} (hx : x.length = 8) (h : List Int) : ∀ i, (addS x h i).length = 8
  | 0 => hx
  | i + 1 => by unfold addS; rw [List.length_set]; exact addS_len hx h i
def blockS (h b : List Int) : List Int := addS (rndS h (schS b 64) 64) h 8
theorem blockS_len {h : List Int} (hh : h.length = 8) (b : List Int) : (blockS h b).length = 8 := addS_len (rndS_len hh _ _) _ _
end Go.Proofs.YtflclafbieokiaaGreatDoor.Sh

/-
  The words of SHA-256, walked: the program's and the document's.
-/
set_option linter.unusedVariables false
set_option linter.unusedSectionVars false
set_option linter.unusedSimpArgs false
set_option maxRecDepth 10000
namespace Go.Proofs.YtflclafbieokiaaGreatDoor.Sh
open Go AL
section
variable [Globs]

theorem rot_p (x n : Int) (h : 0 ≤ n ∧ n < 32) : ACalls Tryz.prog 186 [int .u32 x, int .i64 n] [] (fun r h => r = int .u32 (rotS x n) ∧ h = []) := by
  have hm := mask31 h
  have hw := sub32 h
  refine rcalls Tryz.func186 rfl (by decide) ?_
  refine ⟨by rw [hm]; omega, by rw [hm, hw]; omega, [], [], _, lehN _, leI ?_, rfl, rfl⟩
  rw [hm, hw]
  rfl
theorem rot_r (x n : Int) (h : 0 ≤ n ∧ n < 32) : ACalls Tryz.prog 165 [int .u32 x, int .u64 n] [] (fun r h => r = int .u32 (rotS x n) ∧ h = []) := by
  have hw := sub32 h
  refine rcalls Tryz.func165 rfl (by decide) ?_
  refine ⟨by omega, by rw [hw]; omega, [], [], _, lehN _, leI ?_, rfl, rfl⟩
  rw [hw]
  rfl
theorem ch_p (x y z : Int) : ACalls Tryz.prog 161 [int .u32 x, int .u32 y, int .u32 z] [] (fun r h => r = int .u32 (chS x y z) ∧ h = []) := by
  refine rcalls Tryz.func161 rfl (by decide) ?_
  exact ⟨[], [], _, lehN _, leI rfl, rfl, rfl⟩
theorem ch_r (x y z : Int) : ACalls Tryz.prog 131 [int .u32 x, int .u32 y, int .u32 z] [] (fun r h => r = int .u32 (chS x y z) ∧ h = []) := by
  refine rcalls Tryz.func131 rfl (by decide) ?_
  exact ⟨[], [], _, lehN _, leI (ch_same x y z), rfl, rfl⟩
theorem maj_p (x y z : Int) : ACalls Tryz.prog 163 [int .u32 x, int .u32 y, int .u32 z] [] (fun r h => r = int .u32 (majS x y z) ∧ h = []) := by
  refine rcalls Tryz.func163 rfl (by decide) ?_
  exact ⟨[], [], _, lehN _, leI rfl, rfl, rfl⟩
theorem maj_r (x y z : Int) : ACalls Tryz.prog 133 [int .u32 x, int .u32 y, int .u32 z] [] (fun r h => r = int .u32 (majS x y z) ∧ h = []) := by
  refine rcalls Tryz.func133 rfl (by decide) ?_
  exact ⟨[], [], _, lehN _, leI (maj_same x y z), rfl, rfl⟩
theorem big0_p (x : Int) : ACalls Tryz.prog 162 [int .u32 x] [] (fun r h => r = int .u32 (big0S x) ∧ h = []) := by
  refine rcalls Tryz.func162 rfl (by decide) ?_
  refine ⟨[], _, rot_p x 2 (by decide), ?_⟩
  rintro r hh ⟨rfl, rfl⟩
  refine ⟨.inl rfl, ?_⟩
  refine ⟨[], _, rot_p x 13 (by decide), ?_⟩
  rintro r hh ⟨rfl, rfl⟩
  refine ⟨.inl rfl, ?_⟩
  refine ⟨[], _, rot_p x 22 (by decide), ?_⟩
  rintro r hh ⟨rfl, rfl⟩
  refine ⟨.inl rfl, ?_⟩
  exact ⟨[], [], _, lehN _, leI rfl, rfl, rfl⟩
theorem big0_r (x : Int) : ACalls Tryz.prog 132 [int .u32 x] [] (fun r h => r = int .u32 (big0S x) ∧ h = []) := by
  refine rcalls Tryz.func132 rfl (by decide) ?_
  refine ⟨[], _, rot_r x 2 (by decide), ?_⟩
  rintro r hh ⟨rfl, rfl⟩
  refine ⟨.inl rfl, ?_⟩
  refine ⟨[], _, rot_r x 13 (by decide), ?_⟩
  rintro r hh ⟨rfl, rfl⟩
  refine ⟨.inl rfl, ?_⟩
  refine ⟨[], _, rot_r x 22 (by decide), ?_⟩
  rintro r hh ⟨rfl, rfl⟩
  refine ⟨.inl rfl, ?_⟩
  exact ⟨[], [], _, lehN _, leI rfl, rfl, rfl⟩
theorem big1_p (x : Int) : ACalls Tryz.prog 160 [int .u32 x] [] (fun r h => r = int .u32 (big1S x) ∧ h = []) := by
  refine rcalls Tryz.func160 rfl (by decide) ?_
  refine ⟨[], _, rot_p x 6 (by decide), ?_⟩
  rintro r hh ⟨rfl, rfl⟩
  refine ⟨.inl rfl, ?_⟩
  refine ⟨[], _, rot_p x 11 (by decide), ?_⟩
  rintro r hh ⟨rfl, rfl⟩
  refine ⟨.inl rfl, ?_⟩
  refine ⟨[], _, rot_p x 25 (by decide), ?_⟩
  rintro r hh ⟨rfl, rfl⟩
  refine ⟨.inl rfl, ?_⟩
  exact ⟨[], [], _, lehN _, leI rfl, rfl, rfl⟩
theorem big1_r (x : Int) : ACalls Tryz.prog 130 [int .u32 x] [] (fun r h => r = int .u32 (big1S x) ∧ h = []) := by
  refine rcalls Tryz.func130 rfl (by decide) ?_
  refine ⟨[], _, rot_r x 6 (by decide), ?_⟩
  rintro r hh ⟨rfl, rfl⟩
  refine ⟨.inl rfl, ?_⟩
  refine ⟨[], _, rot_r x 11 (by decide), ?_⟩
  rintro r hh ⟨rfl, rfl⟩
  refine ⟨.inl rfl, ?_⟩
  refine ⟨[], _, rot_r x 25 (by decide), ?_⟩
  rintro r hh ⟨rfl, rfl⟩
  refine ⟨.inl rfl, ?_⟩
  exact ⟨[], [], _, lehN _, leI rfl, rfl, rfl⟩
theorem small0_p (x : Int) : ACalls Tryz.prog 159 [int .u32 x] [] (fun r h => r = int .u32 (small0S x) ∧ h = []) := by
  refine rcalls Tryz.func159 rfl (by decide) ?_
  refine ⟨[], _, rot_p x 7 (by decide), ?_⟩
  rintro r hh ⟨rfl, rfl⟩
  refine ⟨.inl rfl, ?_⟩
  refine ⟨[], _, rot_p x 18 (by decide), ?_⟩
  rintro r hh ⟨rfl, rfl⟩
  refine ⟨.inl rfl, ?_⟩
  exact ⟨by decide, [], [], _, lehN _, leI rfl, rfl, rfl⟩
theorem small0_r (x : Int) : ACalls Tryz.prog 129 [int .u32 x] [] (fun r h => r = int .u32 (small0S x) ∧ h = []) := by
  refine rcalls Tryz.func129 rfl (by decide) ?_
  refine ⟨[], _, rot_r x 7 (by decide), ?_⟩
  rintro r hh ⟨rfl, rfl⟩
  refine ⟨.inl rfl, ?_⟩
  refine ⟨[], _, rot_r x 18 (by decide), ?_⟩
  rintro r hh ⟨rfl, rfl⟩
  refine ⟨.inl rfl, ?_⟩
  exact ⟨by decide, [], [], _, lehN _, leI rfl, rfl, rfl⟩
theorem small1_p (x : Int) : ACalls Tryz.prog 158 [int .u32 x] [] (fun r h => r = int .u32 (small1S x) ∧ h = []) := by
  refine rcalls Tryz.func158 rfl (by decide) ?_
  refine ⟨[], _, rot_p x 17 (by decide), ?_⟩
  rintro r hh ⟨rfl, rfl⟩
  refine ⟨.inl rfl, ?_⟩
  refine ⟨[], _, rot_p x 19 (by decide), ?_⟩
  rintro r hh ⟨rfl, rfl⟩
  refine ⟨.inl rfl, ?_⟩
  exact ⟨by decide, [], [], _, lehN _, leI rfl, rfl, rfl⟩
theorem small1_r (x : Int) : ACalls Tryz.prog 128 [int .u32 x] [] (fun r h => r = int .u32 (small1S x) ∧ h = []) := by
  refine rcalls Tryz.func128 rfl (by decide) ?_
  refine ⟨[], _, rot_r x 17 (by decide), ?_⟩
  rintro r hh ⟨rfl, rfl⟩
  refine ⟨.inl rfl, ?_⟩
  refine ⟨[], _, rot_r x 19 (by decide), ?_⟩
  rintro r hh ⟨rfl, rfl⟩
  refine ⟨.inl rfl, ?_⟩
  exact ⟨by decide, [], [], _, lehN _, leI rfl, rfl, rfl⟩
end
end Go.Proofs.YtflclafbieokiaaGreatDoor.Sh

/-
  Files, as they lie in rows; bytes copied; two lists of files held against each other.
-/
set_option linter.unusedVariables false
set_option linter.unusedSectionVars false
namespace Go.Proofs.YtflclafbieokiaaGreatDoor.Us
open Go AL

structure Fl where
  path : ByteArray
  data : List Int
def dataN (l : List Fl) : Nat := (l.map fun f => f.data.length).sum
theorem data_mem {l : List Fl} {f : Fl} (h : f ∈ l) : f.data.length ≤ dataN l := by
  unfold dataN
  induction l with
  | nil => cases h
  | cons g l ih =>
    rw [List.map_cons, List.sum_cons]
    rcases List.mem_cons.1 h with rfl | h
    · omega
    · have := ih h; omega
def fl0 : Fl := ⟨ByteArray.empty, []⟩
def flC (f : Fl) : Nat → AV
  | 0 => str f.path
  | _ => .roI .u8 f.data
def rowF (l : List Fl) (i : Nat) : AV := flC (l.getD (i / 2) fl0) (i % 2)
abbrev flsV (l : List Fl) : AV := .rs l.length 2 (rowF l)
theorem rowF_at (l : List Fl) {k c : Nat} (h : c < 2) : rowF l (k * 2 + c) = flC (l.getD k fl0) c := by
  unfold rowF
  rw [show (k * 2 + c) / 2 = k by omega, show (k * 2 + c) % 2 = c by omega]
theorem rowF_old (l : List Fl) (e : Fl) {i : Nat} (h : i < l.length * 2) : rowF (l ++ [e]) i = rowF l i := by
  unfold rowF
  have : i / 2 < l.length := by omega
  rw [List.getD_eq_getElem?_getD, List.getElem?_append_left this, List.getD_eq_getElem?_getD]
theorem rowF_new (l : List Fl) (e : Fl) {i : Nat} (h : i < 2) : rowF (l ++ [e]) (l.length * 2 + i) = flC e i := by
  unfold rowF
  have h1 : (l.length * 2 + i) / 2 = l.length := by omega
  have h2 : (l.length * 2 + i) % 2 = i := by omega
  rw [h1, h2, List.getD_eq_getElem?_getD, List.getElem?_append_right (Nat.le_refl _), Nat.sub_self]
  rfl
theorem flC_free (f : Fl) : ∀ c, (flC f c).free
  | 0 => trivial
  | _ + 1 => trivial
theorem flC_cell1 (f : Fl) : ∀ c, cell1 (flC f c) = true
  | 0 => rfl
  | _ + 1 => rfl

theorem data_app (l m : List Fl) : dataN (l ++ m) = dataN l + dataN m := by
  unfold dataN; rw [List.map_append, List.sum_append]
theorem take_succ_fl {l : List Fl} {k : Nat} (h : k < l.length) : l.take (k + 1) = l.take k ++ [l.getD k fl0] := by
  rw [List.take_succ_eq_append_getElem h, List.getD_eq_getElem?_getD, List.getElem?_eq_getElem h]; rfl
theorem data_succ {l : List Fl} {k : Nat} (h : k < l.length) : dataN (l.take (k + 1)) = dataN (l.take k) + (l.getD k fl0).data.length := by
  rw [take_succ_fl h, data_app]; rfl
theorem data_le (l : List Fl) (k : Nat) : dataN (l.take k) ≤ dataN l := by
  have := data_app (l.take k) (l.drop k)
  rw [List.take_append_drop] at this
  omega
theorem get_mem {l : List Fl} {k : Nat} (h : k < l.length) : l.getD k fl0 ∈ l := by
  rw [List.getD_eq_getElem?_getD, List.getElem?_eq_getElem h]; exact List.getElem_mem h

theorem vrsU {n : Nat} {f : Nat → AV} {l : List Fl} (e : n = l.length) (h : ∀ i, i < n * 2 → f i = rowF l i) : VLe (.ro n 2 f) (flsV l) := fun w S L v hv => by
  subst e
  obtain ⟨A, cap, e, hc, hd⟩ := hv
  refine ⟨A, cap, e, hc, fun i hi => ?_⟩
  obtain ⟨u, h1, h2⟩ := hd i hi
  exact ⟨u, h1, by rw [← h i hi]; exact h2⟩
theorem rowFree (fs : List Fl) (i : Nat) : (rowF fs i).free := flC_free _ _
theorem rowCell1 (fs : List Fl) (i : Nat) : cell1 (rowF fs i) = true := flC_cell1 _ _
theorem lehRow0 {h : List AO} {j : Nat} (hj : h.length ≤ j) (g : Nat → AV) : LeH 0 h [j] [.row 0 g] :=
  ⟨rfl, Nat.zero_le _, fun i hi => absurd hi (Nat.not_lt_zero _), List.nodup_cons.2 ⟨by simp, .nil⟩, fun i m p hi hp => by
    cases i with
    | zero => simp at hi hp; subst hi hp; exact .inr ⟨Nat.zero_le _, hj, .inr (.inr ⟨g, rfl⟩)⟩
    | succ i => simp at hi⟩

theorem bytes_eqU {xs ys : List Int} (hx : ∀ x ∈ xs, 0 ≤ x ∧ x < 256) (hy : ∀ x ∈ ys, 0 ≤ x ∧ x < 256) : bytesOf xs = bytesOf ys ↔ xs = ys := by
  constructor
  · intro h
    rw [← intsOf_bytesOf hx, ← intsOf_bytesOf hy, h]
  · intro h; rw [h]
section
variable [Globs]

set_option maxRecDepth 10000 in
theorem clone_prog (xs : List Int) (hl : xs.length ≤ 140737488355328) : ACalls Tryz.prog 53 [.roI .u8 xs] [] (fun r h => r = .own 0 0 xs.length 1 ∧ h = [.ints .u8 xs]) := by
  refine rcalls Tryz.func53 rfl (by decide) ?_
  refine ⟨fun c => ?_, ?_⟩
  · obtain rfl := List.eq_nil_of_length_eq_zero c
    exact ⟨[0], [.ints .u8 []], .own 0 0 0 1, lehE (Nat.le_refl _) .u8, .nil _ _ (by decide), rfl, rfl⟩
  refine ⟨rfl, by show (0 + xs.length) * 1 ≤ _; omega, ?_⟩
  exact ⟨[1], [.ints .u8 xs], .own 0 0 xs.length 1, leh1 rfl (leOint rfl), leOwn rfl rfl (Nat.zero_add _), rfl, rfl⟩

noncomputable instance : DecidableEq Fl := fun _ _ => Classical.propDecidable _
def okBytes (l : List Fl) : Prop := ∀ f ∈ l, ∀ x ∈ f.data, 0 ≤ x ∧ x < 256

theorem deqTu {p : Prop} [Decidable p] (h : p) : bool (decide p) = bool true := by rw [decide_eq_true h]
theorem deqFu {p : Prop} [Decidable p] (h : ¬ p) : bool (decide p) = bool false := by rw [decide_eq_false h]

set_option maxHeartbeats 1000000 in
set_option maxRecDepth 10000 in
theorem same_ref (a b : List Fl) (ha : okBytes a) (hb : okBytes b) (hl : a.length ≤ 281474976710656) (hm : b.length ≤ 281474976710656) : ACalls Tryz.prog 16 [flsV a, flsV b] [] (fun r h => r = bool (decide (a = b)) ∧ h = []) := by
  refine rcalls Tryz.func16 rfl (by decide) ?_
  refine ⟨fun c => ?_, fun c => ?_⟩
  · have f1 : ¬ (a.length : Int) = b.length := yes c
    exact ⟨[], [], _, lehN _, leFP fun h => f1 (by rw [h]), rfl, rfl⟩
  have f1 : (a.length : Int) = b.length := Classical.byContradiction fun x => no c x
  refine ⟨Nat, fun k => [(0, flsV a), (1, flsV b), (5, int .i64 k)], fun _ => [], fun k => k ≤ a.length ∧ ∀ i, i < k → a.getD i fl0 = b.getD i fl0, fun k => a.length - k,
    ⟨0, [], ⟨Nat.zero_le _, fun i hi => by omega⟩, lehN _, ⟨.same _ trivial, .same _ trivial, leI rfl, trivial⟩⟩, ?_⟩
  rintro k ⟨hk, heq⟩
  have e1 : IntKind.i64.wrap ((k : Int) + 1) = ((k + 1 : Nat) : Int) := by rw [w64 (by omega) (by omega)]; omega
  refine ⟨fun c => ?_, fun c => ?_⟩
  · have f2 : (k : Int) < a.length := yes c
    have h1 : ∀ c, c < 2 → rowF a ((k : Int).toNat * 2 + c) = flC (a.getD k fl0) c := fun c hc => by rw [Int.toNat_natCast]; exact rowF_at a hc
    have h2 : ∀ c, c < 2 → rowF b ((k : Int).toNat * 2 + c) = flC (b.getD k fl0) c := fun c hc => by rw [Int.toNat_natCast]; exact rowF_at b hc
    have hA := ha _ (get_mem (l := a) (k := k) (by omega))
    have hB := hb _ (get_mem (l := b) (k := k) (by omega))
    have hab : a = b → a.getD k fl0 = b.getD k fl0 := fun h => by rw [h]
    obtain ⟨F, hF⟩ : ∃ F, a.getD k fl0 = F := ⟨_, rfl⟩
    obtain ⟨G, hG⟩ : ∃ G, b.getD k fl0 = G := ⟨_, rfl⟩
    rw [hF] at h1 hA hab
    rw [hG] at h2 hB hab
    have b1 : 0 ≤ (k : Int) ∧ (k : Int) < a.length := ⟨by omega, f2⟩
    have b2 : 0 ≤ (k : Int) ∧ (k : Int) < b.length := by omega
    by_cases hp : F.path = G.path
    · refine .inr ⟨24, by decide +kernel, ?_⟩
      refine ⟨_, rfl, ?_⟩
      refine ⟨_, rfl, ?_⟩
      refine ⟨_, ⟨b1, flC F, fun c hc => h1 c hc, rfl⟩, ?_⟩
      refine ⟨_, rfl, ?_⟩
      refine ⟨_, rfl, ?_⟩
      refine ⟨_, rfl, ?_⟩
      refine ⟨_, rfl, ?_⟩
      refine ⟨_, ⟨b2, flC G, fun c hc => h2 c hc, rfl⟩, ?_⟩
      refine ⟨_, rfl, ?_⟩
      refine ⟨_, rfl, ?_⟩
      refine ⟨_, deqFu (p := ¬ _) (fun h => h hp), ?_⟩
      refine ⟨_, rfl, ?_⟩
      refine ⟨_, rfl, ?_⟩
      refine ⟨_, rfl, ?_⟩
      refine ⟨_, ⟨b1, flC F, fun c hc => h1 c hc, rfl⟩, ?_⟩
      refine ⟨_, rfl, ?_⟩
      refine ⟨_, rfl, ?_⟩
      refine ⟨_, rfl, ?_⟩
      refine ⟨_, rfl, ?_⟩
      refine ⟨_, rfl, ?_⟩
      refine ⟨_, ⟨b2, flC G, fun c hc => h2 c hc, rfl⟩, ?_⟩
      refine ⟨_, rfl, ?_⟩
      refine ⟨_, rfl, ?_⟩
      refine ⟨_, rfl, ?_⟩
      refine ⟨fun e => (by cases e), fun _ => ?_⟩
      refine ⟨fun c3 => ?_, fun c3 => ?_⟩
      · have f3 : ¬ bytesOf F.data = bytesOf G.data := yes c3
        exact ⟨[], [], _, lehN _, leFP fun h => f3 (by rw [hab h]), rfl, rfl⟩
      · have f3 : bytesOf F.data = bytesOf G.data := Classical.byContradiction fun x => no c3 x
        have f4 := (bytes_eqU hA hB).1 f3
        refine ⟨trivial, k + 1, [], ⟨by omega, fun i hi => ?_⟩, by show a.length - (k + 1) < a.length - k; omega, lehN _, ⟨.same _ trivial, .same _ trivial, leI e1, trivial⟩⟩
        by_cases e : i = k
        · rw [e, hF, hG]
          cases F; cases G
          simp only at hp f4
          rw [hp, f4]
        · exact heq i (by omega)
    · refine .inr ⟨24, by decide +kernel, ?_⟩
      refine ⟨_, rfl, ?_⟩
      refine ⟨_, rfl, ?_⟩
      refine ⟨_, ⟨b1, flC F, fun c hc => h1 c hc, rfl⟩, ?_⟩
      refine ⟨_, rfl, ?_⟩
      refine ⟨_, rfl, ?_⟩
      refine ⟨_, rfl, ?_⟩
      refine ⟨_, rfl, ?_⟩
      refine ⟨_, ⟨b2, flC G, fun c hc => h2 c hc, rfl⟩, ?_⟩
      refine ⟨_, rfl, ?_⟩
      refine ⟨_, rfl, ?_⟩
      refine ⟨_, deqTu (p := ¬ _) hp, ?_⟩
      refine ⟨_, rfl, ?_⟩
      refine ⟨_, rfl, ?_⟩
      refine ⟨_, rfl, ?_⟩
      refine ⟨_, rfl, ?_⟩
      refine ⟨_, rfl, ?_⟩
      refine ⟨_, rfl, ?_⟩
      refine ⟨_, rfl, ?_⟩
      refine ⟨_, rfl, ?_⟩
      refine ⟨_, rfl, ?_⟩
      refine ⟨_, rfl, ?_⟩
      refine ⟨_, rfl, ?_⟩
      refine ⟨_, rfl, ?_⟩
      refine ⟨_, rfl, ?_⟩
      refine ⟨fun _ => ?_, fun e => (by cases e)⟩
      exact ⟨[], [], _, lehN _, leFP fun h => hp (by rw [hab h]), rfl, rfl⟩
  · have f2 : ¬ (k : Int) < a.length := no c
    refine ⟨[], [], _, lehN _, leTB (decide_eq_true ?_), rfl, rfl⟩
    apply List.ext_getElem (by omega)
    intro i h1 h2
    have := heq i (by omega)
    rw [List.getD_eq_getElem?_getD, List.getD_eq_getElem?_getD, List.getElem?_eq_getElem h1, List.getElem?_eq_getElem h2] at this
    exact this
end
end Go.Proofs.YtflclafbieokiaaGreatDoor.Us

/-
  Files on a disk: by name, in the order in which they came, and rising. No program in sight.
-/
set_option linter.unusedVariables false
set_option linter.unusedSectionVars false
namespace Go.Proofs.YtflclafbieokiaaGreatDoor.Dk
open Go AL Us

/-! Texts, in order. -/
def ltS (x y : ByteArray) : Bool := Op.bytesLess x.toList y.toList
theorem less_iff : ∀ (x y : List UInt8), Op.bytesLess x y = true ↔ x < y
  | [], [] => by simp [Op.bytesLess]
  | _ :: _, [] => by simp [Op.bytesLess]
  | [], _ :: _ => by simp [Op.bytesLess]
  | a :: x, b :: y => by
    unfold Op.bytesLess
    rw [List.cons_lt_cons_iff, Bool.or_eq_true, Bool.and_eq_true, less_iff x y]
    simp
theorem ltS_iff {x y : ByteArray} : ltS x y = true ↔ x.toList < y.toList := less_iff _ _
theorem toList_inj {x y : ByteArray} (h : x.toList = y.toList) : x = y := by
  rw [Lib.toList_data, Lib.toList_data] at h
  cases x; cases y
  simpa using h
theorem ltS_irr (x : ByteArray) : ¬ ltS x x = true := fun h => List.lt_irrefl _ (ltS_iff.1 h)
theorem ltS_trans {x y z : ByteArray} (h : ltS x y = true) (g : ltS y z = true) : ltS x z = true := ltS_iff.2 (List.lt_trans (ltS_iff.1 h) (ltS_iff.1 g))
theorem ltS_tri {x y : ByteArray} (h : ¬ ltS x y = true) (g : ¬ ltS y x = true) : x = y := by
  rw [ltS_iff] at h g
  exact toList_inj (List.le_antisymm (List.not_lt.1 g) (List.not_lt.1 h))

/-! Files by name. -/
abbrev FM := List (ByteArray × List Int)
def setF (s : ByteArray) (v : List Int) : FM → FM
  | [] => [(s, v)]
  | p :: r => if p.1 = s then (p.1, v) :: r else p :: setF s v r
def delF (s : ByteArray) : FM → FM
  | [] => []
  | p :: r => if p.1 = s then r else p :: delF s r
def getF (s : ByteArray) : FM → Option (List Int)
  | [] => none
  | p :: r => if p.1 = s then some p.2 else getF s r
def fmV (m : FM) : List (ByteArray × AV) := m.map fun p => (p.1, .roI .u8 p.2)
def keysF (m : FM) : List ByteArray := m.map Prod.fst
def sizeF (m : FM) : Nat := (m.map fun p => p.2.length).sum
theorem set_fmV (s : ByteArray) (v : List Int) : ∀ m : FM, setM s (.roI .u8 v) (fmV m) = fmV (setF s v m)
  | [] => rfl
  | p :: r => by
    show (if p.1 = s then (p.1, _) :: fmV r else (p.1, AV.roI .u8 p.2) :: setM s _ (fmV r)) = _
    unfold setF
    by_cases h : p.1 = s
    · rw [if_pos h, if_pos h]; rfl
    · rw [if_neg h, if_neg h, set_fmV s v r]; rfl
theorem del_fmV (s : ByteArray) : ∀ m : FM, delM s (fmV m) = fmV (delF s m)
  | [] => rfl
  | p :: r => by
    show (if p.1 = s then fmV r else (p.1, AV.roI .u8 p.2) :: delM s (fmV r)) = _
    unfold delF
    by_cases h : p.1 = s
    · rw [if_pos h, if_pos h]
    · rw [if_neg h, if_neg h, del_fmV s r]; rfl
theorem get_fmV (s : ByteArray) : ∀ m : FM, getM s (fmV m) = (getF s m).map fun v => .roI .u8 v
  | [] => rfl
  | p :: r => by
    show (if p.1 = s then some (AV.roI .u8 p.2) else getM s (fmV r)) = _
    unfold getF
    by_cases h : p.1 = s
    · rw [if_pos h, if_pos h]; rfl
    · rw [if_neg h, if_neg h, get_fmV s r]
theorem fmV_len (m : FM) : (fmV m).length = m.length := List.length_map _
theorem fmV_get {m : FM} {i : Nat} (h : i < m.length) : (fmV m).getD i mz = (m[i].1, .roI .u8 m[i].2) := by
  unfold fmV
  rw [List.getD_eq_getElem?_getD, List.getElem?_map, List.getElem?_eq_getElem h]; rfl

theorem delF_filter (s : ByteArray) : ∀ {m : FM}, (keysF m).Nodup → delF s m = m.filter fun p => decide (p.1 ≠ s)
  | [], _ => rfl
  | p :: r, h => by
    obtain ⟨h1, h2⟩ := List.nodup_cons.1 (show (p.1 :: keysF r).Nodup from h)
    unfold delF
    by_cases e : p.1 = s
    · rw [if_pos e, List.filter_cons_of_neg (by simp [e])]
      refine (List.filter_eq_self.2 fun q hq => ?_).symm
      refine decide_eq_true fun x => h1 ?_
      rw [e, ← x]
      exact List.mem_map.2 ⟨q, hq, rfl⟩
    · rw [if_neg e, List.filter_cons_of_pos (by simp [e]), delF_filter s h2]
theorem setF_perm (s : ByteArray) (v : List Int) : ∀ {m : FM}, (keysF m).Nodup → (setF s v m).Perm ((s, v) :: delF s m)
  | [], _ => .refl _
  | p :: r, h => by
    obtain ⟨h1, h2⟩ := List.nodup_cons.1 (show (p.1 :: keysF r).Nodup from h)
    unfold setF delF
    by_cases e : p.1 = s
    · rw [if_pos e, if_pos e, e]
    · rw [if_neg e, if_neg e]
      exact (List.Perm.cons p (setF_perm s v h2)).trans (List.Perm.swap ..)
theorem delF_keys {s : ByteArray} {m : FM} (h : (keysF m).Nodup) : (keysF (delF s m)).Nodup ∧ s ∉ keysF (delF s m) := by
  rw [delF_filter s h]
  refine ⟨?_, fun hm => ?_⟩
  · exact List.Nodup.sublist (List.Sublist.map _ (List.filter_sublist)) h
  · obtain ⟨p, hp, e⟩ := List.mem_map.1 hm
    have := (List.mem_filter.1 hp).2
    simp [e] at this
theorem setF_keys {s : ByteArray} {v : List Int} {m : FM} (h : (keysF m).Nodup) : (keysF (setF s v m)).Nodup := by
  have h1 := (setF_perm s v h).map Prod.fst
  refine h1.nodup_iff.2 ?_
  obtain ⟨a, b⟩ := delF_keys (s := s) h
  exact List.nodup_cons.2 ⟨b, a⟩
theorem getF_mem {s : ByteArray} {v : List Int} : ∀ {m : FM}, (keysF m).Nodup → (getF s m = some v ↔ (s, v) ∈ m)
  | [], _ => by simp [getF]
  | p :: r, h => by
    obtain ⟨h1, h2⟩ := List.nodup_cons.1 (show (p.1 :: keysF r).Nodup from h)
    unfold getF
    by_cases e : p.1 = s
    · rw [if_pos e]
      constructor
      · intro x
        cases x
        rw [← e]
        exact List.mem_cons_self ..
      · intro x
        rcases List.mem_cons.1 x with x | x
        · rw [← x]
        · exact absurd (List.mem_map.2 ⟨_, x, e.symm⟩) h1
    · rw [if_neg e, getF_mem h2]
      constructor
      · exact List.mem_cons_of_mem _
      · intro x
        rcases List.mem_cons.1 x with x | x
        · exact absurd (by rw [← x]) e
        · exact x
theorem getF_none {s : ByteArray} : ∀ {m : FM}, getF s m = none ↔ s ∉ keysF m
  | [] => by simp [getF, keysF]
  | p :: r => by
    unfold getF
    have ih := getF_none (s := s) (m := r)
    have hk : keysF (p :: r) = p.1 :: keysF r := rfl
    by_cases e : p.1 = s
    · rw [if_pos e, hk]; simp [e]
    · rw [if_neg e, hk, ih]; simp [Ne.symm e]

theorem get_set_same (s : ByteArray) (v : List Int) : ∀ m : FM, getF s (setF s v m) = some v
  | [] => by unfold setF getF; rw [if_pos rfl]
  | p :: r => by
    unfold setF
    by_cases h : p.1 = s
    · rw [if_pos h]; unfold getF; rw [if_pos h]
    · rw [if_neg h]; unfold getF; rw [if_neg h, get_set_same s v r]
theorem get_set_other {s t : ByteArray} (ht : t ≠ s) (v : List Int) : ∀ m : FM, getF t (setF s v m) = getF t m
  | [] => by unfold setF getF; rw [if_neg (Ne.symm ht)]; rfl
  | p :: r => by
    unfold setF
    by_cases h : p.1 = s
    · rw [if_pos h]; unfold getF; rw [if_neg (by rw [h]; exact Ne.symm ht), if_neg (by rw [h]; exact Ne.symm ht)]
    · rw [if_neg h]; unfold getF; rw [get_set_other ht v r]
theorem get_del_other {s t : ByteArray} (ht : t ≠ s) : ∀ m : FM, getF t (delF s m) = getF t m
  | [] => rfl
  | p :: r => by
    unfold delF
    by_cases h : p.1 = s
    · rw [if_pos h]
      conv => rhs; unfold getF
      rw [if_neg (by rw [h]; exact Ne.symm ht)]
    · rw [if_neg h]; unfold getF; rw [get_del_other ht r]
theorem get_del_same {s : ByteArray} {m : FM} (h : (keysF m).Nodup) : getF s (delF s m) = none := getF_none.2 (delF_keys h).2
theorem set_len (s : ByteArray) (v : List Int) : ∀ m : FM, (setF s v m).length ≤ m.length + 1
  | [] => Nat.le_refl _
  | p :: r => by
    unfold setF
    by_cases h : p.1 = s
    · rw [if_pos h]; exact Nat.le_succ _
    · rw [if_neg h]
      have := set_len s v r
      simp only [List.length_cons]; omega

/-! The same, rising. -/
def prF (f : Fl) : ByteArray × List Int := (f.path, f.data)
def Rising (L : List Fl) : Prop := L.Pairwise fun a b => ltS a.path b.path = true
def getR (s : ByteArray) : List Fl → Option (List Int)
  | [] => none
  | f :: r => if f.path = s then some f.data else getR s r
def withoutR (s : ByteArray) (L : List Fl) : List Fl := L.filter fun f => decide (f.path ≠ s)
def withR (s : ByteArray) (v : List Int) (L : List Fl) : List Fl := (withoutR s L).takeWhile (fun f => ltS f.path s) ++ ⟨s, v⟩ :: (withoutR s L).dropWhile (fun f => ltS f.path s)
structure RelF (m : FM) (L : List Fl) : Prop where
  keys : (keysF m).Nodup
  rise : Rising L
  perm : (L.map prF).Perm m
theorem rel_nil : RelF [] [] := ⟨List.nodup_nil, List.Pairwise.nil, .refl _⟩
theorem getR_prF (s : ByteArray) : ∀ L : List Fl, getR s L = getF s (L.map prF)
  | [] => rfl
  | f :: r => by
    unfold getR
    rw [List.map_cons]
    unfold getF
    rw [getR_prF s r]; rfl
theorem perm_get {m n : FM} (hm : (keysF m).Nodup) (h : n.Perm m) (s : ByteArray) : getF s n = getF s m := by
  have hn : (keysF n).Nodup := (h.map Prod.fst).nodup_iff.2 hm
  cases e : getF s m with
  | none =>
    rw [getF_none] at e ⊢
    exact fun x => e ((h.map Prod.fst).mem_iff.1 x)
  | some v => exact (getF_mem hn).2 (h.mem_iff.2 ((getF_mem hm).1 e))
theorem rel_get {m : FM} {L : List Fl} (h : RelF m L) (s : ByteArray) : getR s L = getF s m := by
  rw [getR_prF]; exact perm_get h.keys h.perm s
theorem rel_size {m : FM} {L : List Fl} (h : RelF m L) : sizeF m = dataN L := by
  unfold sizeF dataN
  rw [← (h.perm.map fun p => p.2.length).sum_nat, List.map_map]; rfl
theorem rel_del {m : FM} {L : List Fl} (h : RelF m L) (s : ByteArray) : RelF (delF s m) (withoutR s L) := by
  refine ⟨(delF_keys h.keys).1, List.Pairwise.filter _ h.rise, ?_⟩
  rw [delF_filter s h.keys]
  have : (withoutR s L).map prF = (L.map prF).filter fun p => decide (p.1 ≠ s) := by
    unfold withoutR
    rw [List.filter_map]; rfl
  rw [this]
  exact h.perm.filter _
theorem withR_perm (s : ByteArray) (v : List Int) (L : List Fl) : (withR s v L).Perm (⟨s, v⟩ :: withoutR s L) := by
  unfold withR
  refine List.perm_middle.trans ?_
  rw [List.takeWhile_append_dropWhile]
theorem drop_ge {s : ByteArray} : ∀ {L : List Fl}, Rising L → ∀ f ∈ L.dropWhile (fun f => ltS f.path s), ¬ ltS f.path s = true
  | [], _, f, hf => by cases hf
  | g :: r, h, f, hf => by
    obtain ⟨h1, h2⟩ := List.pairwise_cons.1 h
    by_cases e : ltS g.path s = true
    · rw [List.dropWhile_cons_of_pos (p := fun f : Fl => ltS f.path s) e] at hf
      exact drop_ge h2 f hf
    · rw [List.dropWhile_cons_of_neg (p := fun f : Fl => ltS f.path s) e] at hf
      rcases List.mem_cons.1 hf with rfl | hf
      · exact e
      · exact fun x => e (ltS_trans (h1 f hf) x)
theorem take_lt {s : ByteArray} : ∀ {L : List Fl}, ∀ f ∈ L.takeWhile (fun f => ltS f.path s), ltS f.path s = true
  | [], f, hf => by cases hf
  | g :: r, f, hf => by
    by_cases e : ltS g.path s = true
    · rw [List.takeWhile_cons_of_pos (p := fun f : Fl => ltS f.path s) e] at hf
      rcases List.mem_cons.1 hf with rfl | hf
      · exact e
      · exact take_lt f hf
    · rw [List.takeWhile_cons_of_neg (p := fun f : Fl => ltS f.path s) e] at hf
      cases hf
theorem withR_rise {s : ByteArray} {v : List Int} {L : List Fl} (h : Rising L) : Rising (withR s v L) := by
  have h1 : Rising (withoutR s L) := List.Pairwise.filter _ h
  have hne : ∀ f ∈ withoutR s L, f.path ≠ s := fun f hf => by simpa using (List.mem_filter.1 hf).2
  unfold withR
  unfold Rising at h1 ⊢
  rw [List.pairwise_append]
  have hsp := @List.takeWhile_append_dropWhile _ (fun f : Fl => ltS f.path s) (withoutR s L)
  have h2 := h1
  rw [← hsp, List.pairwise_append] at h2
  obtain ⟨a, b, c⟩ := h2
  have hgt : ∀ f ∈ (withoutR s L).dropWhile (fun f => ltS f.path s), ltS s f.path = true := fun f hf => by
    have g1 := drop_ge h1 f hf
    refine Classical.byContradiction fun g2 => hne f ?_ (ltS_tri g1 g2)
    rw [← hsp]; exact List.mem_append_right _ hf
  refine ⟨a, List.pairwise_cons.2 ⟨hgt, b⟩, fun x hx y hy => ?_⟩
  rcases List.mem_cons.1 hy with rfl | hy
  · exact take_lt x hx
  · exact c x hx y hy
theorem rel_set {m : FM} {L : List Fl} (h : RelF m L) (s : ByteArray) (v : List Int) : RelF (setF s v m) (withR s v L) := by
  refine ⟨setF_keys h.keys, withR_rise h.rise, ?_⟩
  refine ((withR_perm s v L).map prF).trans ?_
  refine List.Perm.trans ?_ (setF_perm s v h.keys).symm
  exact List.Perm.cons _ (rel_del h s).perm
theorem rising_uniq : ∀ {L M : List Fl}, Rising L → Rising M → L.Perm M → L = M
  | [], M, _, _, h => by rw [h.nil_eq]
  | f :: L, [], _, _, h => by have := h.length_eq; simp at this
  | f :: L, g :: M, hl, hm, h => by
    obtain ⟨a1, a2⟩ := List.pairwise_cons.1 hl
    obtain ⟨b1, b2⟩ := List.pairwise_cons.1 hm
    have e : f = g := by
      rcases List.mem_cons.1 (h.mem_iff.1 (List.mem_cons_self ..)) with e | e
      · exact e
      · rcases List.mem_cons.1 (h.mem_iff.2 (List.mem_cons_self (a := g) (l := M))) with e2 | e2
        · exact e2.symm
        · exact absurd (ltS_trans (b1 f e) (a1 g e2)) (ltS_irr _)
    subst e
    rw [rising_uniq a2 b2 (h.cons_inv)]
theorem rel_uniq {m : FM} {L M : List Fl} (h : RelF m L) (g : RelF m M) : L = M := by
  refine rising_uniq h.rise g.rise ?_
  have hp := h.perm.trans g.perm.symm
  have := hp.map fun p : ByteArray × List Int => (⟨p.1, p.2⟩ : Fl)
  simpa [List.map_map, prF, Function.comp_def] using this

end Go.Proofs.YtflclafbieokiaaGreatDoor.Dk

/-
  A disk that loses what wasn't synced: what is done to it, and lost. No program in sight.
-/
set_option linter.unusedVariables false
set_option linter.unusedSectionVars false
namespace Go.Proofs.YtflclafbieokiaaGreatDoor.Dk
open Go AL Us

inductive Dee where
  | wr (name : ByteArray) (data : List Int)
  | mv (name to : ByteArray)
  | rm (name : ByteArray)
def actF : Dee → FM → FM
  | .wr n b, m => setF n b m
  | .mv a t, m => setF t ((getF a m).getD []) (delF a m)
  | .rm a, m => delF a m
def actR : Dee → List Fl → List Fl
  | .wr n b, L => withR n b L
  | .mv a t, L => withR t ((getR a L).getD []) (withoutR a L)
  | .rm a, L => withoutR a L
theorem rel_act {m : FM} {L : List Fl} (h : RelF m L) : ∀ d : Dee, RelF (actF d m) (actR d L)
  | .wr n b => rel_set h n b
  | .mv a t => by
    show RelF (setF t ((getF a m).getD []) (delF a m)) (withR t ((getR a L).getD []) (withoutR a L))
    rw [rel_get h a]
    exact rel_set (rel_del h a) t _
  | .rm a => rel_del h a
theorem size_cons (p : ByteArray × List Int) (m : FM) : sizeF (p :: m) = p.2.length + sizeF m := rfl
theorem size_del (s : ByteArray) : ∀ m : FM, sizeF (delF s m) + ((getF s m).getD []).length = sizeF m
  | [] => rfl
  | p :: r => by
    unfold delF getF
    by_cases h : p.1 = s
    · rw [if_pos h, if_pos h, size_cons]
      show _ + p.2.length = _
      omega
    · rw [if_neg h, if_neg h, size_cons, size_cons]
      have := size_del s r
      omega
theorem size_set (s : ByteArray) (v : List Int) : ∀ m : FM, sizeF (setF s v m) + ((getF s m).getD []).length = sizeF m + v.length
  | [] => by
    unfold setF getF
    simp [sizeF]
  | p :: r => by
    unfold setF getF
    by_cases h : p.1 = s
    · rw [if_pos h, if_pos h, size_cons, size_cons]
      show _ + p.2.length = _
      simp only
      omega
    · rw [if_neg h, if_neg h, size_cons, size_cons]
      have := size_set s v r
      omega
theorem size_mv (a t : ByteArray) (m : FM) : sizeF (actF (.mv a t) m) ≤ sizeF m := by
  show sizeF (setF t ((getF a m).getD []) (delF a m)) ≤ _
  have h1 := size_del a m
  have h2 := size_set t ((getF a m).getD []) (delF a m)
  omega
theorem size_rm (a : ByteArray) (m : FM) : sizeF (actF (.rm a) m) ≤ sizeF m := by
  have h1 := size_del a m
  show sizeF (delF a m) ≤ _
  omega
theorem set_mono {s : ByteArray} {v u : List Int} (m : FM) (h : v.length ≤ u.length) : sizeF (setF s v m) ≤ sizeF (setF s u m) := by
  have h1 := size_set s v m
  have h2 := size_set s u m
  omega

/-! A disk. -/
structure DkF where
  now : FM
  synced : FM
  deeds : List Dee
  room : Int
structure DkR where
  files : List Fl
  synced : List Fl
  deeds : List Dee
  room : Int
structure RelD (d : DkF) (x : DkR) : Prop where
  now : RelF d.now x.files
  synced : RelF d.synced x.synced
  deeds : d.deeds = x.deeds
  room : d.room = x.room
def newF (room : Int) : DkF := ⟨[], [], [], max room 0⟩
def newR (room : Int) : DkR := ⟨[], [], [], max room 0⟩
theorem rel_new (room : Int) : RelD (newF room) (newR room) := ⟨rel_nil, rel_nil, rfl, rfl⟩
def mayN (s : ByteArray) : Prop := 1 ≤ s.size ∧ s.size ≤ 40
instance (s : ByteArray) : Decidable (mayN s) := by unfold mayN; infer_instance
def errF (d : DkF) : Dee → Int
  | .wr n b => if ¬ mayN n then 1 else if (sizeF d.now : Int) - ((getF n d.now).getD []).length + b.length > d.room then 5 else 0
  | .mv a t => if ¬ mayN t then 1 else if getF a d.now = none then 6 else 0
  | .rm a => if getF a d.now = none then 6 else 0
def errR (x : DkR) : Dee → Int
  | .wr n b => if ¬ mayN n then 1 else if (dataN (withoutR n x.files) : Int) + b.length > x.room then 5 else 0
  | .mv a t => if ¬ mayN t then 1 else if getR a x.files = none then 6 else 0
  | .rm a => if getR a x.files = none then 6 else 0
def doF (d : DkF) (e : Dee) : DkF := if errF d e = 0 then ⟨actF e d.now, d.synced, d.deeds ++ [e], d.room⟩ else d
def doR (x : DkR) (e : Dee) : DkR := if errR x e = 0 then ⟨actR e x.files, x.synced, x.deeds ++ [e], x.room⟩ else x
theorem err_same {d : DkF} {x : DkR} (h : RelD d x) (e : Dee) : errF d e = errR x e := by
  cases e with
  | wr n b =>
    have h1 := size_del n d.now
    have h2 := rel_size (rel_del h.now n)
    show (if ¬ mayN n then (1 : Int) else if (sizeF d.now : Int) - ((getF n d.now).getD []).length + b.length > d.room then 5 else 0) = if ¬ mayN n then 1 else if (dataN (withoutR n x.files) : Int) + b.length > x.room then 5 else 0
    have e1 : ((sizeF d.now : Int) - ((getF n d.now).getD []).length + b.length > d.room) ↔ ((dataN (withoutR n x.files) : Int) + b.length > x.room) := by rw [h.room]; omega
    simp only [e1]
  | mv a t =>
    show (if ¬ mayN t then (1 : Int) else if getF a d.now = none then 6 else 0) = if ¬ mayN t then 1 else if getR a x.files = none then 6 else 0
    rw [rel_get h.now]
  | rm a =>
    show (if getF a d.now = none then (6 : Int) else 0) = if getR a x.files = none then 6 else 0
    rw [rel_get h.now]
theorem rel_do {d : DkF} {x : DkR} (h : RelD d x) (e : Dee) : RelD (doF d e) (doR x e) := by
  unfold doF doR
  rw [err_same h e]
  split
  · exact ⟨rel_act h.now e, h.synced, by rw [h.deeds], h.room⟩
  · exact h
def syncF (d : DkF) : DkF := ⟨d.now, d.now, [], d.room⟩
def syncR (x : DkR) : DkR := ⟨x.files, x.files, [], x.room⟩
theorem rel_sync {d : DkF} {x : DkR} (h : RelD d x) : RelD (syncF d) (syncR x) := ⟨h.now, h.now, rfl, h.room⟩
def lostF (m : FM) (e : Option Dee) (bytes : Int) : FM :=
  match e with
  | some (.wr n b) => if 0 ≤ bytes then setF n (b.take bytes.toNat) m else m
  | _ => m
def lostR (L : List Fl) (e : Option Dee) (bytes : Int) : List Fl :=
  match e with
  | some (.wr n b) => if 0 ≤ bytes then withR n (b.take bytes.toNat) L else L
  | _ => L
def nextD (ds : List Dee) (keep : Int) : Option Dee := if 0 ≤ keep then ds[keep.toNat]? else none
def crashM (d : DkF) (keep bytes : Int) : FM := lostF ((d.deeds.take keep.toNat).foldl (fun m e => actF e m) d.synced) (nextD d.deeds keep) bytes
def crashL (x : DkR) (keep bytes : Int) : List Fl := lostR ((x.deeds.take keep.toNat).foldl (fun L e => actR e L) x.synced) (nextD x.deeds keep) bytes
def crashF (d : DkF) (keep bytes : Int) : DkF := syncF { d with now := crashM d keep bytes }
/-! What is true at any time. -/
structure GoodD (d : DkF) : Prop where
  room : 0 ≤ d.room
  is : d.now = d.deeds.foldl (fun m e => actF e m) d.synced
  all : ∀ k, (sizeF ((d.deeds.take k).foldl (fun m e => actF e m) d.synced) : Int) ≤ d.room
  keys : ∀ k, (keysF ((d.deeds.take k).foldl (fun m e => actF e m) d.synced)).Nodup
theorem act_keys {m : FM} (h : (keysF m).Nodup) : ∀ e : Dee, (keysF (actF e m)).Nodup
  | .wr n b => setF_keys h
  | .mv a t => setF_keys (delF_keys h).1
  | .rm a => (delF_keys h).1
theorem act_size {d : DkF} (h : (sizeF d.now : Int) ≤ d.room) {e : Dee} (he : errF d e = 0) : (sizeF (actF e d.now) : Int) ≤ d.room := by
  cases e with
  | wr n b =>
    have h1 := size_set n b d.now
    have he : (if ¬ mayN n then (1 : Int) else if (sizeF d.now : Int) - ((getF n d.now).getD []).length + b.length > d.room then 5 else 0) = 0 := he
    show (sizeF (setF n b d.now) : Int) ≤ _
    split at he
    · omega
    · split at he
      · omega
      · omega
  | mv a t => have := size_mv a t d.now; omega
  | rm a => have := size_rm a d.now; omega
theorem good_new (room : Int) : GoodD (newF room) := by
  refine ⟨Int.le_max_right .., rfl, fun k => ?_, fun k => ?_⟩
  · show (sizeF (([] : List Dee).take k |>.foldl _ [])  : Int) ≤ max room 0
    rw [List.take_nil]
    exact Int.le_max_right ..
  · show (keysF (([] : List Dee).take k |>.foldl _ [])).Nodup
    rw [List.take_nil]
    exact List.nodup_nil
theorem good_all {d : DkF} (h : GoodD d) : (sizeF d.now : Int) ≤ d.room ∧ (keysF d.now).Nodup := by
  have h1 := h.all d.deeds.length
  have h2 := h.keys d.deeds.length
  rw [List.take_length, ← h.is] at h1 h2
  exact ⟨h1, h2⟩
theorem good_do {d : DkF} (h : GoodD d) (e : Dee) : GoodD (doF d e) := by
  unfold doF
  split
  · rename_i he
    have hs := act_size (good_all h).1 he
    have hk := act_keys (good_all h).2 e
    have key : ∀ k, (d.deeds ++ [e]).take k = d.deeds.take k ∨ (d.deeds ++ [e]).take k = d.deeds ++ [e] := fun k => by
      rcases Nat.lt_or_ge d.deeds.length k with g | g
      · exact .inr (List.take_of_length_le (by rw [List.length_append]; exact g))
      · exact .inl (List.take_append_of_le_length g)
    refine ⟨h.room, ?_, fun k => ?_, fun k => ?_⟩
    · show actF e d.now = (d.deeds ++ [e]).foldl _ d.synced
      rw [List.foldl_append, ← h.is]; rfl
    · show (sizeF (((d.deeds ++ [e]).take k).foldl _ d.synced) : Int) ≤ d.room
      rcases key k with g | g
      · rw [g]; exact h.all k
      · rw [g, List.foldl_append, ← h.is]; exact hs
    · show (keysF (((d.deeds ++ [e]).take k).foldl _ d.synced)).Nodup
      rcases key k with g | g
      · rw [g]; exact h.keys k
      · rw [g, List.foldl_append, ← h.is]; exact hk
  · exact h
theorem good_synced {d : DkF} {m : FM} (h0 : 0 ≤ d.room) (h1 : (sizeF m : Int) ≤ d.room) (h2 : (keysF m).Nodup) : GoodD (syncF { d with now := m }) :=
  ⟨h0, rfl, fun k => by show (sizeF (([] : List Dee).take k |>.foldl _ m) : Int) ≤ d.room; rw [List.take_nil]; exact h1, fun k => by show (keysF (([] : List Dee).take k |>.foldl _ m)).Nodup; rw [List.take_nil]; exact h2⟩
theorem good_sync {d : DkF} (h : GoodD d) : GoodD (syncF d) := good_synced (d := d) (m := d.now) h.room (good_all h).1 (good_all h).2
theorem good_crash {d : DkF} (h : GoodD d) (keep bytes : Int) : GoodD (crashF d keep bytes) := by
  refine good_synced h.room ?_ ?_
  · unfold crashM nextD
    have h1 := h.all keep.toNat
    have h2 := h.all (keep.toNat + 1)
    generalize hm : (d.deeds.take keep.toNat).foldl (fun m e => actF e m) d.synced = m at *
    unfold lostF
    split
    · rename_i n b hn
      split at hn
      · have hlt := (List.getElem?_eq_some_iff.1 hn).1
        split
        · rw [List.take_succ_eq_append_getElem hlt, List.foldl_append, hm] at h2
          have e1 : d.deeds[keep.toNat] = .wr n b := (List.getElem?_eq_some_iff.1 hn).2
          rw [e1] at h2
          have h3 : sizeF (setF n (b.take bytes.toNat) m) ≤ sizeF (setF n b m) := set_mono m (by rw [List.length_take]; omega)
          have h2 : (sizeF (setF n b m) : Int) ≤ d.room := h2
          omega
        · exact h1
      · cases hn
    · exact h1
  · unfold crashM lostF
    split
    · split
      · exact setF_keys (h.keys _)
      · exact h.keys _
    · exact h.keys _

end Go.Proofs.YtflclafbieokiaaGreatDoor.Dk

/-
  What a range over a map has seen. No program in sight.
-/
set_option linter.unusedVariables false
set_option linter.unusedSectionVars false
namespace Go.Proofs.YtflclafbieokiaaGreatDoor.Dk
open Go AL Us

def sumS : FM → List Nat → List Nat → Nat
  | p :: m, b :: bs, seen => (if b ∈ seen then p.2.length else 0) + sumS m bs seen
  | _, _, _ => 0
theorem sumS_nil : ∀ (m : FM) (bs : List Nat), sumS m bs [] = 0
  | [], _ => by cases ‹List Nat› <;> rfl
  | _ :: _, [] => rfl
  | p :: m, b :: bs => by
    unfold sumS
    rw [if_neg (by simp), sumS_nil m bs]
theorem sumS_all {seen : List Nat} : ∀ {m : FM} {bs : List Nat}, bs.length = m.length → (∀ i, i < m.length → bs.getD i 0 ∈ seen) → sumS m bs seen = sizeF m
  | [], [], _, _ => rfl
  | [], _ :: _, h, _ => by simp at h
  | _ :: _, [], h, _ => by simp at h
  | p :: m, b :: bs, h, g => by
    have h0 : b ∈ seen := g 0 (by simp)
    unfold sumS
    rw [if_pos h0, sumS_all (by simpa using h) fun i hi => g (i + 1) (by simpa using hi), size_cons]
theorem sumS_more {seen : List Nat} {x : Nat} : ∀ {m : FM} {bs : List Nat}, x ∉ bs → sumS m bs (seen ++ [x]) = sumS m bs seen
  | [], bs, _ => by cases bs <;> rfl
  | _ :: _, [], _ => rfl
  | p :: m, b :: bs, h => by
    have h1 : b ≠ x := fun e => h (by rw [e]; exact List.mem_cons_self ..)
    have h2 : x ∉ bs := fun e => h (List.mem_cons_of_mem _ e)
    have e : (b ∈ seen ++ [x]) ↔ b ∈ seen := by simp [h1]
    unfold sumS
    rw [sumS_more h2]
    simp only [e]
theorem sumS_step {seen : List Nat} : ∀ {m : FM} {bs : List Nat} {i : Nat}, bs.Nodup → bs.length = m.length → i < m.length → bs.getD i 0 ∉ seen → sumS m bs (seen ++ [bs.getD i 0]) = sumS m bs seen + (m.getD i (ByteArray.empty, [])).2.length
  | [], _, _, _, _, hi, _ => by simp at hi
  | _ :: _, [], _, _, h, _, _ => by simp at h
  | p :: m, b :: bs, 0, hd, hl, hi, hs => by
    obtain ⟨h1, h2⟩ := List.nodup_cons.1 hd
    have hs : b ∉ seen := hs
    show sumS (p :: m) (b :: bs) (seen ++ [b]) = _
    unfold sumS
    rw [if_pos (by simp), if_neg hs, sumS_more h1]
    show p.2.length + _ = 0 + _ + p.2.length
    omega
  | p :: m, b :: bs, i + 1, hd, hl, hi, hs => by
    obtain ⟨h1, h2⟩ := List.nodup_cons.1 hd
    have hl : bs.length = m.length := by simpa using hl
    have hi : i < m.length := by simpa using hi
    have hs : bs.getD i 0 ∉ seen := hs
    have ih := sumS_step (m := m) (bs := bs) (i := i) h2 hl hi hs
    have hne : b ≠ bs.getD i 0 := fun e => h1 (by
      rw [e, List.getD_eq_getElem?_getD, List.getElem?_eq_getElem (by omega)]; exact List.getElem_mem (by omega))
    have e : (b ∈ seen ++ [bs.getD i 0]) ↔ b ∈ seen := by
      rw [List.mem_append, List.mem_singleton]; exact ⟨fun h => h.resolve_right hne, .inl⟩
    show sumS (p :: m) (b :: bs) (seen ++ [bs.getD i 0]) = _
    unfold sumS
    rw [ih]
    simp only [e]
    show _ + (_ + _) = _ + _ + (m.getD i (ByteArray.empty, [])).2.length
    omega
theorem sumS_le {seen : List Nat} : ∀ (m : FM) (bs : List Nat), sumS m bs seen ≤ sizeF m
  | [], bs => by cases bs <;> exact Nat.zero_le _
  | _ :: _, [] => Nat.zero_le _
  | p :: m, b :: bs => by
    have ih := sumS_le (seen := seen) m bs
    unfold sumS
    rw [size_cons]
    split <;> omega
def leftS (bs seen : List Nat) : Nat := (bs.filter fun b => decide (b ∉ seen)).length
theorem leftS_step {bs seen : List Nat} {x : Nat} (hx : x ∈ bs) (hs : x ∉ seen) : leftS bs (seen ++ [x]) < leftS bs seen := by
  unfold leftS
  have e : (bs.filter fun b => decide (b ∉ seen ++ [x])) = (bs.filter fun b => decide (b ∉ seen)).filter fun b => decide (b ≠ x) := by
    rw [List.filter_filter]
    refine List.filter_congr fun b _ => ?_
    by_cases h1 : b ∈ seen <;> by_cases h2 : b = x <;> simp [h1, h2]
  rw [e]
  refine List.length_filter_lt_length_iff_exists.2 ⟨x, List.mem_filter.2 ⟨hx, by simpa using hs⟩, by simp⟩

end Go.Proofs.YtflclafbieokiaaGreatDoor.Dk

/-
  The contracts of the disk's parts.
-/
set_option linter.unusedVariables false
set_option linter.unusedSectionVars false
namespace Go.Proofs.YtflclafbieokiaaGreatDoor.Dk
open Go AL Us

theorem fmV_free (m : FM) {h : List AO} {l : List Nat} : ∀ i, i < (fmV m).length → ((fmV m).getD i mz).1 = ((fmV m).getD i mz).1 ∧ LeV h l ((fmV m).getD i mz).2 ((fmV m).getD i mz).2 := fun i hi => by
  refine ⟨rfl, ?_⟩
  rw [fmV_len] at hi
  rw [fmV_get hi]
  exact .same _ trivial
theorem leMap {h : List AO} {l : List Nat} {x : List (ByteArray × AV)} {m : FM} (e : x = fmV m) : LeO h l (.map x) (.map (fmV m)) := by
  subst e; exact .map _ _ rfl (fmV_free m)
theorem leMapB {h : List AO} {l : List Nat} {m : FM} {bs : List Nat} {c : Nat} : LeO h l (.mapB (fmV m) bs c) (.mapB (fmV m) bs c) := .mapB _ _ _ _ rfl (fmV_free m)
theorem leMapOfB {h : List AO} {l : List Nat} {m : FM} {bs : List Nat} {c : Nat} : LeO h l (.mapB (fmV m) bs c) (.map (fmV m)) := .mapOfB _ _ _ _ rfl (fmV_free m)
theorem lehH2 {h : List AO} {j : Nat} {o0 o1 p0 p1 : AO} (hj : j ≠ 0) (ha : h[0]? = some p0) (hb : h[j]? = some p1) (l0 : LeO h [0, j] p0 o0) (l1 : LeO h [0, j] p1 o1) : LeH 1 h [0, j] [o0, o1] :=
  ⟨rfl, by simp, fun i hi => by
    obtain rfl : i = 0 := by omega
    rfl, List.nodup_cons.2 ⟨by simpa using Ne.symm hj, List.nodup_cons.2 ⟨by simp, .nil⟩⟩, fun i m o' hi ho => by
    match i, hi, ho with
    | 0, hi, ho => cases hi; cases ho; exact .inl ⟨_, ha, l0⟩
    | 1, hi, ho => cases hi; cases ho; exact .inl ⟨_, hb, l1⟩
    | i + 2, hi, ho => simp at hi⟩
theorem lehH1 {h : List AO} {o0 p0 : AO} (ha : h[0]? = some p0) (l0 : LeO h [0] p0 o0) : LeH 1 h [0] [o0] :=
  ⟨rfl, by simp, fun i hi => by
    obtain rfl : i = 0 := by omega
    rfl, List.nodup_cons.2 ⟨by simp, .nil⟩, fun i m o' hi ho => by
    match i, hi, ho with
    | 0, hi, ho => cases hi; cases ho; exact .inl ⟨_, ha, l0⟩
    | i + 1, hi, ho => simp at hi⟩
section
variable [Globs]

set_option maxHeartbeats 1000000 in
set_option maxRecDepth 10000 in
theorem size_prog (m : FM) (hs : sizeF m ≤ 4611686018427387904) : ACalls Tryz.prog 56 [.mp 0] [.map (fmV m)] (fun r h => r = int .i64 (sizeF m : Nat) ∧ h = [.map (fmV m)]) := by
  refine rcalls Tryz.func56 rfl (by decide) ?_
  refine fun bs c hl hd => ?_
  rw [fmV_len] at hl
  have h0 := sumS_nil m bs
  have hle := fun seen => sumS_le (seen := seen) m bs
  refine ⟨List Nat, fun seen => [(3, int .i64 (sumS m bs seen : Nat)), (7, .ptr 1 0)], fun seen => [.mapB (fmV m) bs c, .miter 0 c seen], fun _ => True, fun seen => leftS bs seen,
    ⟨[], [0, 1], trivial, lehH2 (by decide) rfl rfl leMapB (.miter _ _ rfl Nat.zero_lt_two), ⟨leI (by rw [h0]; rfl), .ptr 0 rfl, trivial⟩⟩, ?_⟩
  rintro seen -
  refine ⟨rfl, fun i hi hns => ?_, fun hall => ?_⟩
  · rw [fmV_len] at hi
    have hmem : bs.getD i 0 ∈ bs := by rw [List.getD_eq_getElem?_getD, List.getElem?_eq_getElem (by omega)]; exact List.getElem_mem (by omega)
    have hst := sumS_step hd hl hi hns
    have hle := hle (seen ++ [bs.getD i 0])
    have hlt := leftS_step hmem hns
    have hget := fmV_get hi
    have hmi : m.getD i (ByteArray.empty, []) = m[i] := by rw [List.getD_eq_getElem?_getD, List.getElem?_eq_getElem hi]; rfl
    rw [hmi] at hst
    have e1 : IntKind.i64.wrap (((sumS m bs seen : Nat) : Int) + (m[i].2.length : Int)) = ((sumS m bs (seen ++ [bs.getD i 0]) : Nat) : Int) := by rw [hst, w64 (by omega) (by omega)]; omega
    refine ⟨rfl, i, ⟨by rw [fmV_len]; exact hi, List.getLast?_concat⟩, ?_⟩
    rw [hget]
    exact ⟨trivial, seen ++ [bs.getD i 0], [0, 1], trivial, hlt, lehH2 (by decide) rfl rfl leMapB (.miter _ _ rfl Nat.zero_lt_two), ⟨leI e1, .ptr 0 rfl, trivial⟩⟩
  · rw [fmV_len] at hall
    have ha := sumS_all hl hall
    exact ⟨[0], [.map (fmV m)], _, lehH1 rfl leMapOfB, leI (by rw [ha]), rfl, rfl⟩
end
end Go.Proofs.YtflclafbieokiaaGreatDoor.Dk

/-
  A map cloned; a map's names, sorted: the kit's contracts, as the walk has them.
-/
set_option linter.unusedVariables false
set_option linter.unusedSectionVars false
namespace Go.Proofs.YtflclafbieokiaaGreatDoor.Dk
open Go AL Us
section
variable [Globs]

theorem clone_of {P : Program} {f : FuncId} (hent : Entered P f)
    (hc : ∀ (b : Nat) (es : Array MapEntry) (clock : Nat) (w : World), w.heap[b]? = some (.map es clock) → Calls P f #[.map (some b)] w fun e w' => e = .returned (.map (some w.heap.size)) ∧ w' = w.alloc (.map es clock))
    (m : FM) : ACalls P f [.mp 0] [.map (fmV m)] (fun r h => r = .mp 1 ∧ h = [.map (fmV m), .map (fmV m)]) := by
  refine ⟨hent, fun S0 L w vs hh hS hn hv => ?_⟩
  obtain ⟨v, e0, hv0⟩ := hv 0 (.mp 0) rfl
  obtain ⟨hlt, b, hb, rfl⟩ := hv0
  have hvs : vs = #[.map (some b)] := by
    have hn : vs.size = 1 := hn
    apply Array.ext_getElem?
    intro i
    match i with
    | 0 => rw [e0]; rfl
    | i + 1 => rw [Array.getElem?_eq_none (by omega)]; simp
  subst hvs
  have ho := hh.objs 0 _ rfl
  obtain ⟨b', es, clock, hb', hw, hst, hsz, hes⟩ := ho
  have hb' : L.b 0 = some b' := hb'
  rw [hb] at hb'
  obtain rfl := Option.some.inj hb'
  refine (hc b es clock w hw).mono fun e w' ⟨he, hw'⟩ => ?_
  subst he
  have hp : w'.heap = w.heap.push (.map es clock) := by rw [hw']; rfl
  have al : AL.Alike w w' := by rw [hw']; exact ⟨rfl, rfl, rfl⟩
  have hs := step_new (o := .map (fmV m)) (sz := 0) hh al hp fun L' hL => ⟨w.heap.size, es, clock, rfl, by rw [hp]; simp, hst, hsz, fun i hi => by
    obtain ⟨e, h1, h2, h3⟩ := hes i hi
    exact ⟨e, h1, h2, den_new hh hp hL h3⟩⟩
  exact ⟨_, .mp 1, [.map (fmV m), .map (fmV m)], _, rfl, ⟨rfl, rfl⟩, hs.rel, ⟨push_n hh _ _, _, push_b hh _ _, rfl⟩⟩
end
end Go.Proofs.YtflclafbieokiaaGreatDoor.Dk

/-
  The program's disk: how it lies, and what is read of it.
-/
set_option linter.unusedVariables false
set_option linter.unusedSectionVars false
set_option linter.unusedSimpArgs false
namespace Go.Proofs.YtflclafbieokiaaGreatDoor.Dk
open Go AL Us

/-! Deeds, as they lie: a function value with what it holds, whether it is a write, name, bytes. -/
def one (a : AV) : AV := .rp 1 fun _ => a
def pdC : Dee → Nat → AV
  | .wr n b, 0 => .clo (.func 58) 2 (pair (one (.roI .u8 b)) (one (str n)))
  | .wr n b, 1 => bool true
  | .wr n b, 2 => str n
  | .wr n b, _ => .roI .u8 b
  | .mv a t, 0 => .clo (.func 0) 2 (pair (one (str a)) (one (str t)))
  | .rm a, 0 => .clo (.func 64) 1 (fun _ => one (str a))
  | .mv _ _, 1 => bool false
  | .rm _, 1 => bool false
  | .mv _ _, 2 => str ByteArray.empty
  | .rm _, 2 => str ByteArray.empty
  | .mv _ _, _ => .roI .u8 []
  | .rm _, _ => .roI .u8 []
def dee0 : Dee := .rm ByteArray.empty
def rowP (l : List Dee) (i : Nat) : AV := pdC (l.getD (i / 4) dee0) (i % 4)
theorem rowP_at (l : List Dee) {k c : Nat} (h : c < 4) : rowP l (k * 4 + c) = pdC (l.getD k dee0) c := by
  unfold rowP
  rw [show (k * 4 + c) / 4 = k by omega, show (k * 4 + c) % 4 = c by omega]
theorem rowP_old (l : List Dee) (e : Dee) {i : Nat} (h : i < l.length * 4) : rowP (l ++ [e]) i = rowP l i := by
  unfold rowP
  have : i / 4 < l.length := by omega
  rw [List.getD_eq_getElem?_getD, List.getElem?_append_left this, List.getD_eq_getElem?_getD]
theorem rowP_new (l : List Dee) (e : Dee) {i : Nat} (h : i < 4) : rowP (l ++ [e]) (l.length * 4 + i) = pdC e i := by
  unfold rowP
  have h1 : (l.length * 4 + i) / 4 = l.length := by omega
  have h2 : (l.length * 4 + i) % 4 = i := by omega
  rw [h1, h2, List.getD_eq_getElem?_getD, List.getElem?_append_right (Nat.le_refl _), Nat.sub_self]
  rfl
theorem pdC_free : ∀ (e : Dee) (c : Nat), (pdC e c).free
  | .wr n b, 0 => fun i hi => by
    match i, hi with
    | 0, _ => exact trivial
    | 1, _ => exact trivial
  | .mv a t, 0 => fun i hi => by
    match i, hi with
    | 0, _ => exact trivial
    | 1, _ => exact trivial
  | .rm a, 0 => fun i hi => trivial
  | .wr _ _, 1 => trivial
  | .wr _ _, 2 => trivial
  | .wr _ _, _ + 3 => trivial
  | .mv _ _, 1 => trivial
  | .mv _ _, 2 => trivial
  | .mv _ _, _ + 3 => trivial
  | .rm _, 1 => trivial
  | .rm _, 2 => trivial
  | .rm _, _ + 3 => trivial
theorem pdC_cell1 : ∀ (e : Dee) (c : Nat), cell1 (pdC e c) = true
  | .wr _ _, 0 => rfl
  | .mv _ _, 0 => rfl
  | .rm _, 0 => rfl
  | .wr _ _, 1 => rfl
  | .wr _ _, 2 => rfl
  | .wr _ _, _ + 3 => rfl
  | .mv _ _, 1 => rfl
  | .mv _ _, 2 => rfl
  | .mv _ _, _ + 3 => rfl
  | .rm _, 1 => rfl
  | .rm _, 2 => rfl
  | .rm _, _ + 3 => rfl
theorem rowPFree (l : List Dee) (i : Nat) : (rowP l i).free := pdC_free _ _
theorem rowPCell1 (l : List Dee) (i : Nat) : cell1 (rowP l i) = true := pdC_cell1 _ _

theorem fmVFree (m : FM) : ∀ i, i < (fmV m).length → ((fmV m).getD i mz).2.free := fun i hi => by
  rw [fmV_len] at hi
  rw [fmV_get hi]
  exact trivial
theorem ren_fmV (g : Nat → Nat) (m : FM) : (fmV m).map (fun p => (p.1, AV.ren g p.2)) = fmV m := by
  unfold fmV
  rw [List.map_map]
  rfl
theorem ren_pair (g : Nat → Nat) (a b : AV) (ha : a.ren g = a) (hb : b.ren g = b) : (fun i => (pair a b i).ren g) = pair a b := funext fun i => by
  match i with
  | 0 => exact ha
  | 1 => exact hb
  | _ + 2 => rfl
theorem ren_pdC (g : Nat → Nat) : ∀ (e : Dee) (c : Nat), (pdC e c).ren g = pdC e c
  | .wr n b, 0 => congrArg (AV.clo _ 2) (ren_pair g _ _ rfl rfl)
  | .mv a t, 0 => congrArg (AV.clo _ 2) (ren_pair g _ _ rfl rfl)
  | .rm a, 0 => rfl
  | .wr _ _, 1 => rfl
  | .wr _ _, 2 => rfl
  | .wr _ _, _ + 3 => rfl
  | .mv _ _, 1 => rfl
  | .mv _ _, 2 => rfl
  | .mv _ _, _ + 3 => rfl
  | .rm _, 1 => rfl
  | .rm _, 2 => rfl
  | .rm _, _ + 3 => rfl
theorem ren_rowP (g : Nat → Nat) (l : List Dee) (i : Nat) : (rowP l i).ren g = rowP l i := ren_pdC _ _ _
abbrev dkL (d : DkF) : AO := .lst [.mp 1, .mp 2, .own 3 0 d.deeds.length 4, int .i64 d.room]
abbrev dkH (d : DkF) : List AO := [dkL d, .map (fmV d.now), .map (fmV d.synced), .row (d.deeds.length * 4) (rowP d.deeds)]
theorem dkH_eq {d : DkF} {x y : List (ByteArray × AV)} {f : Nat → AV} (hx : x = fmV d.now) (hy : y = fmV d.synced) (hf : f = rowP d.deeds) : [dkL d, .map x, .map y, .row (d.deeds.length * 4) f] = dkH d := by rw [hx, hy, hf]
theorem leh4 {h : List AO} {p0 p1 p2 p3 o0 o1 o2 o3 : AO} (e0 : h[0]? = some p0) (e1 : h[1]? = some p1) (e2 : h[2]? = some p2) (e3 : h[3]? = some p3)
    (l0 : LeO h [0, 1, 2, 3] p0 o0) (l1 : LeO h [0, 1, 2, 3] p1 o1) (l2 : LeO h [0, 1, 2, 3] p2 o2) (l3 : LeO h [0, 1, 2, 3] p3 o3) : LeH 4 h [0, 1, 2, 3] [o0, o1, o2, o3] :=
  ⟨rfl, Nat.le_refl _, fun i hi => by
    match i, hi with
    | 0, _ => rfl
    | 1, _ => rfl
    | 2, _ => rfl
    | 3, _ => rfl, by decide, fun i m o' hi ho => by
    match i, hi, ho with
    | 0, hi, ho => cases hi; cases ho; exact .inl ⟨_, e0, l0⟩
    | 1, hi, ho => cases hi; cases ho; exact .inl ⟨_, e1, l1⟩
    | 2, hi, ho => cases hi; cases ho; exact .inl ⟨_, e2, l2⟩
    | 3, hi, ho => cases hi; cases ho; exact .inl ⟨_, e3, l3⟩
    | i + 4, hi, ho => simp at hi⟩
section
variable [Globs]
theorem at_h {P : Program} {f : FuncId} {args : List AV} {h h' : List AO} {R : AV → List AO → Prop} (e : h' = h) (hc : ACalls P f args h R) : ACalls P f args h' R := by rw [e]; exact hc
theorem leDkL {h : List AO} {l : List Nat} {a b id n m : Nat} {r s : Int} (ea : l[1]? = some a) (eb : l[2]? = some b) (ec : l[3]? = some id) (en : n = m) (er : r = s) :
    LeO h l (.lst [.mp a, .mp b, .own id 0 n 4, int .i64 r]) (.lst [.mp 1, .mp 2, .own 3 0 m 4, int .i64 s]) := .lst _ _ rfl fun i hi => by
  have hi : i < 4 := hi
  match i, hi with
  | 0, _ => exact .mp ea
  | 1, _ => exact .mp eb
  | 2, _ => exact leOwn ec rfl en
  | 3, _ => exact leI er
theorem leRowP {h : List AO} {l : List Nat} (D : List Dee) : LeO h l (.row (D.length * 4) (rowP D)) (.row (D.length * 4) (rowP D)) := .row _ _ _ _ (Nat.le_refl _) fun i _ => .same _ (rowPFree D i)
theorem lehDk {h : List AO} {d : DkF} {x y : List (ByteArray × AV)} {n : Nat} {f : Nat → AV} (e0 : h[0]? = some (dkL d)) (e1 : h[1]? = some (.map x)) (e2 : h[2]? = some (.map y)) (e3 : h[3]? = some (.row n f))
    (hx : x = fmV d.now) (hy : y = fmV d.synced) (hn : n = d.deeds.length * 4) (hf : f = rowP d.deeds) : LeH 4 h [0, 1, 2, 3] (dkH d) := by
  subst hn hf
  exact leh4 e0 e1 e2 e3 (leDkL rfl rfl rfl rfl rfl) (leMap hx) (leMap hy) (leRowP _)

theorem leh5 {h : List AO} {j : Nat} {p0 p1 p2 p3 o0 o1 o2 o3 o : AO} (hj : 4 ≤ j) (e0 : h[0]? = some p0) (e1 : h[1]? = some p1) (e2 : h[2]? = some p2) (e3 : h[3]? = some p3)
    (l0 : LeO h [0, 1, 2, 3, j] p0 o0) (l1 : LeO h [0, 1, 2, 3, j] p1 o1) (l2 : LeO h [0, 1, 2, 3, j] p2 o2) (l3 : LeO h [0, 1, 2, 3, j] p3 o3)
    (y : (∃ p, h[j]? = some p ∧ LeO h [0, 1, 2, 3, j] p o) ∨ (h.length ≤ j ∧ ∃ k, o = .ints k [])) : LeH 4 h [0, 1, 2, 3, j] [o0, o1, o2, o3, o] :=
  ⟨rfl, by show 4 ≤ 5; omega, fun i hi => by
    match i, hi with
    | 0, _ => rfl
    | 1, _ => rfl
    | 2, _ => rfl
    | 3, _ => rfl, by simp; omega, fun i m o' hi ho => by
    match i, hi, ho with
    | 0, hi, ho => cases hi; cases ho; exact .inl ⟨_, e0, l0⟩
    | 1, hi, ho => cases hi; cases ho; exact .inl ⟨_, e1, l1⟩
    | 2, hi, ho => cases hi; cases ho; exact .inl ⟨_, e2, l2⟩
    | 3, hi, ho => cases hi; cases ho; exact .inl ⟨_, e3, l3⟩
    | 4, hi, ho =>
      cases hi; cases ho
      rcases y with y | ⟨y1, y2⟩
      · exact .inl y
      · exact .inr ⟨Nat.le_refl _, y1, .inr (.inl y2)⟩
    | i + 5, hi, ho => simp at hi⟩
theorem lehDk5 {h : List AO} {d : DkF} {x y : List (ByteArray × AV)} {n j : Nat} {f : Nat → AV} {o : AO} (hj : 4 ≤ j) (e0 : h[0]? = some (dkL d)) (e1 : h[1]? = some (.map x)) (e2 : h[2]? = some (.map y)) (e3 : h[3]? = some (.row n f))
    (hx : x = fmV d.now) (hy : y = fmV d.synced) (hn : n = d.deeds.length * 4) (hf : f = rowP d.deeds)
    (ho : (∃ p, h[j]? = some p ∧ LeO h [0, 1, 2, 3, j] p o) ∨ (h.length ≤ j ∧ ∃ k, o = .ints k [])) : LeH 4 h [0, 1, 2, 3, j] (dkH d ++ [o]) := by
  subst hn hf
  exact leh5 hj e0 e1 e2 e3 (leDkL rfl rfl rfl rfl rfl) (leMap hx) (leMap hy) (leRowP _) ho

set_option maxRecDepth 10000 in
theorem may_p (s : ByteArray) : ACalls Tryz.prog 55 [str s] [] (fun r h => r = bool (decide (mayN s)) ∧ h = []) := by
  refine rcalls Tryz.func55 rfl (by decide) ?_
  refine ⟨fun c => ?_, fun c => ?_⟩
  · have f1 : ¬ s = ⟨#[]⟩ := yes c
    have f2 : 1 ≤ s.size := by
      refine Nat.pos_of_ne_zero fun h => f1 ?_
      cases s with | mk a => exact congrArg ByteArray.mk (Array.eq_empty_of_size_eq_zero h)
    exact ⟨[], [], _, lehN _, .same _ trivial, congrArg AL.bool (decide_eq_decide.2 (by unfold mayN; omega)), rfl⟩
  · have f1 : ¬ ¬ s = ⟨#[]⟩ := no c
    refine ⟨[], [], _, lehN _, leFP fun h => f1 fun e => ?_, rfl, rfl⟩
    rw [e] at h
    exact absurd h.1 (by decide)

set_option maxRecDepth 10000 in
theorem has_p (d : DkF) (s : ByteArray) : ACalls Tryz.prog 52 [.ptr 0 0, str s] (dkH d) (fun r h => r = bool (getF s d.now).isSome ∧ h = dkH d) := by
  have hg := get_fmV s d.now
  refine rcalls Tryz.func52 rfl (by decide) ?_
  refine ⟨fun v hv => ?_, fun hv => ?_⟩
  · refine ⟨[0, 1, 2, 3], dkH d, _, lehDk rfl rfl rfl rfl (by simp only [ren_fmV]) (by simp only [ren_fmV]) rfl (by simp only [ren_rowP]), leTB ?_, rfl, rfl⟩
    rw [hg] at hv
    cases hx : getF s d.now with
    | none => rw [hx] at hv; cases hv
    | some x => rfl
  · refine ⟨[0, 1, 2, 3], dkH d, _, lehDk rfl rfl rfl rfl (by simp only [ren_fmV]) (by simp only [ren_fmV]) rfl (by simp only [ren_rowP]), leFB ?_, rfl, rfl⟩
    rw [hg] at hv
    cases hx : getF s d.now with
    | none => rfl
    | some x => rw [hx] at hv; cases hv

set_option maxRecDepth 10000 in
theorem room_p (d : DkF) : ACalls Tryz.prog 40 [.ptr 0 0] (dkH d) (fun r h => r = int .i64 d.room ∧ h = dkH d) := by
  refine rcalls Tryz.func40 rfl (by decide) ?_
  exact ⟨[0, 1, 2, 3], dkH d, _, lehDk rfl rfl rfl rfl (by simp only [ren_fmV]) (by simp only [ren_fmV]) rfl (by simp only [ren_rowP]), leI rfl, rfl, rfl⟩

set_option maxRecDepth 10000 in
theorem size_p (d : DkF) (hs : sizeF d.now ≤ 4611686018427387904) : ACalls Tryz.prog 39 [.ptr 0 0] (dkH d) (fun r h => r = int .i64 (sizeF d.now : Nat) ∧ h = dkH d) := by
  have h1 := size_prog d.now hs
  refine rcalls Tryz.func39 rfl (by decide) ?_
  refine ⟨[1], _, fmVFree _, h1, ?_⟩
  rintro r h ⟨rfl, rfl⟩
  refine ⟨.inl rfl, ?_⟩
  exact ⟨[0, 1, 2, 3], dkH d, _, lehDk rfl rfl rfl rfl (by simp only [ren_fmV]) (by simp only [ren_fmV]) rfl (by simp only [ren_rowP]), leI rfl, rfl, rfl⟩

set_option maxRecDepth 10000 in
theorem get_p (d : DkF) (s : ByteArray) (hl : ∀ v, getF s d.now = some v → v.length ≤ 140737488355328) : ACalls Tryz.prog 25 [.ptr 0 0, str s] (dkH d)
    (fun r h => ∃ xs, xs = (getF s d.now).getD [] ∧ r = .tup 2 (pair (.own 4 0 xs.length 1) (bool (getF s d.now).isSome)) ∧ h = dkH d ++ [.ints .u8 xs]) := by
  have hg := get_fmV s d.now
  have hh := has_p d s
  refine rcalls Tryz.func25 rfl (by decide) ?_
  refine ⟨[0, 1, 2, 3], _, (by (try simp only [ren_fmV]); exact fmVFree _), (by (try simp only [ren_fmV]); exact fmVFree _), (by (try simp only [ren_rowP]); exact fun i _ => rowPFree _ i), at_h ?_ (hh), ?_⟩
  · exact dkH_eq (by first | simp only [ren_fmV] | rfl) (by first | simp only [ren_fmV] | rfl) (by first | simp only [ren_rowP] | rfl)
  rintro r hh ⟨rfl, rfl⟩
  refine ⟨.inl rfl, ?_⟩
  refine ⟨fun c => ?_, fun c => ?_⟩
  · have f1 : getF s d.now = none := by revert c; cases getF s d.now <;> simp
    rw [f1]
    exact ⟨[0, 1, 2, 3, 4], dkH d ++ [.ints .u8 []], _, lehDk5 (Nat.le_refl 4) rfl rfl rfl rfl (by simp only [ren_fmV]) (by simp only [ren_fmV]) rfl (by simp only [ren_rowP]) (.inr ⟨Nat.le_refl _, .u8, rfl⟩), le_pair (.nil _ _ (by decide)) (leFB rfl), [], rfl, rfl, rfl⟩
  have f1 : ¬ getF s d.now = none := by revert c; cases getF s d.now <;> simp
  obtain ⟨v, hv⟩ := Option.ne_none_iff_exists'.1 f1
  have hl := hl v hv
  rw [hv] at hg ⊢
  refine ⟨fun v' hv' => ?_, fun hv' => ?_⟩
  · simp only [ren_fmV] at hv'
    rw [hg] at hv'
    obtain rfl := Option.some.inj hv'
    have hc := clone_prog v hl
    refine ⟨[], _, hc, ?_⟩
    rintro r hh ⟨rfl, rfl⟩
    refine ⟨.inl rfl, ?_⟩
    exact ⟨[0, 1, 2, 3, 4], dkH d ++ [.ints .u8 v], _, lehDk5 (Nat.le_refl 4) rfl rfl rfl rfl (by simp only [ren_fmV]) (by simp only [ren_fmV]) rfl (by simp only [ren_rowP]) (.inl ⟨_, rfl, leOint rfl⟩), le_pair (leOwn rfl rfl rfl) (leTB rfl), v, rfl, rfl, rfl⟩
  · simp only [ren_fmV] at hv'
    rw [hg] at hv'
    cases hv'
end
end Go.Proofs.YtflclafbieokiaaGreatDoor.Dk

/-
  The program's disk: what a deed does to its files; deeds noted.
-/
set_option linter.unusedVariables false
set_option linter.unusedSectionVars false
set_option linter.unusedSimpArgs false
namespace Go.Proofs.YtflclafbieokiaaGreatDoor.Dk
open Go AL Us
section
variable [Globs]

set_option maxRecDepth 10000 in
theorem wr_p (m : FM) (n : ByteArray) (b : List Int) : ACalls Tryz.prog 58 [.mp 0, one (.roI .u8 b), one (str n)] [.map (fmV m)] (fun r h => r = .top ∧ h = [.map (fmV (actF (.wr n b) m))]) := by
  have hs := set_fmV n b m
  refine rcalls Tryz.func58 rfl (by decide) ?_
  exact ⟨[0], [.map (fmV (actF (.wr n b) m))], .top, lehH1 rfl (leMap hs), .top _, rfl, rfl⟩

set_option maxRecDepth 10000 in
theorem rm_p (m : FM) (a : ByteArray) : ACalls Tryz.prog 64 [.mp 0, one (str a)] [.map (fmV m)] (fun r h => r = .top ∧ h = [.map (fmV (actF (.rm a) m))]) := by
  have hs := del_fmV a m
  refine rcalls Tryz.func64 rfl (by decide) ?_
  exact ⟨[0], [.map (fmV (actF (.rm a) m))], .top, lehH1 rfl (leMap hs), .top _, rfl, rfl⟩

def relH (h : List AO) (l : List Nat) : List Nat → List AO → Prop
  | [], [] => True
  | j :: r, o :: s => (∃ p, h[j]? = some p ∧ LeO h l p o) ∧ relH h l r s
  | _, _ => False
theorem relH_at {h : List AO} {l : List Nat} : ∀ {r : List Nat} {s : List AO}, relH h l r s → s.length = r.length ∧ ∀ (i j : Nat) (o : AO), r[i]? = some j → s[i]? = some o → ∃ p, h[j]? = some p ∧ LeO h l p o
  | [], [], _ => ⟨rfl, fun i j o hi _ => by simp at hi⟩
  | [], _ :: _, e => e.elim
  | _ :: _, [], e => e.elim
  | j :: r, o :: s, ⟨e1, e2⟩ => by
    obtain ⟨h1, h2⟩ := relH_at e2
    refine ⟨by simp [h1], fun i k q hi hq => ?_⟩
    cases i with
    | zero => cases hi; cases hq; exact e1
    | succ i => exact h2 i k q hi hq
theorem leh_rel {np : Nat} {h : List AO} {l : List Nat} {hs : List AO} (hnp : np ≤ l.length) (hp : ∀ i, i < np → l[i]? = some i) (hd : l.Nodup) (e : relH h l l hs) : LeH np h l hs :=
  ⟨(relH_at e).1, hnp, hp, hd, fun i j o hi ho => .inl ((relH_at e).2 i j o hi ho)⟩
theorem first4 {l : List Nat} {a b c d : Nat} (ha : a = 0) (hb : b = 1) (hc : c = 2) (hd : d = 3) : ∀ i, i < 4 → (a :: b :: c :: d :: l)[i]? = some i := fun i hi => by
  subst ha hb hc hd
  match i, hi with
  | 0, _ => rfl
  | 1, _ => rfl
  | 2, _ => rfl
  | 3, _ => rfl
abbrev dkA (a b c : Nat) (d : DkF) : AO := .lst [.mp a, .mp b, .own c 0 d.deeds.length 4, int .i64 d.room]
abbrev dkN (d : DkF) : List AO := [dkA 1 2 4 d, .map (fmV d.now), .map (fmV d.synced), .dead, .row (d.deeds.length * 4) (rowP d.deeds)]
theorem leDkA {h : List AO} {l : List Nat} {a b c a' b' c' n m : Nat} {r s : Int} (ea : l[a']? = some a) (eb : l[b']? = some b) (ec : l[c']? = some c) (en : n = m) (er : r = s) :
    LeO h l (.lst [.mp a, .mp b, .own c 0 n 4, int .i64 r]) (.lst [.mp a', .mp b', .own c' 0 m 4, int .i64 s]) := .lst _ _ rfl fun i hi => by
  have hi : i < 4 := hi
  match i, hi with
  | 0, _ => exact .mp ea
  | 1, _ => exact .mp eb
  | 2, _ => exact leOwn ec rfl en
  | 3, _ => exact leI er
theorem leRowQ {h : List AO} {l : List Nat} {D : List Dee} {n : Nat} {f : Nat → AV} (hn : n = D.length * 4) (hf : f = rowP D) : LeO h l (.row n f) (.row (D.length * 4) (rowP D)) := by
  subst hn hf
  exact leRowP D
def noteF (d : DkF) (e : Dee) : DkF := ⟨actF e d.now, d.synced, d.deeds ++ [e], d.room⟩

set_option maxHeartbeats 1000000 in
set_option maxRecDepth 10000 in
theorem note_wr (d : DkF) (n : ByteArray) (b : List Int) (hl : d.deeds.length ≤ 100000) : ACalls Tryz.prog 57 [.ptr 0 0, .agg 4 (pdC (.wr n b))] (dkH d) (fun r h => r = int .i64 0 ∧ h = dkN (noteF d (.wr n b))) := by
  have hw := wr_p d.now n b
  refine rcalls Tryz.func57 rfl (by decide) ?_
  refine .inr ⟨6, by decide +kernel, ?_⟩
  refine ⟨_, rfl, ?_⟩
  refine ⟨_, rfl, ?_⟩
  refine ⟨_, rfl, ?_⟩
  refine ⟨_, rfl, ?_⟩
  refine ⟨_, rfl, ?_⟩
  refine ⟨_, rfl, ?_⟩
  refine ⟨[1], _, fmVFree _, hw, ?_⟩
  rintro r hh ⟨rfl, rfl⟩
  refine ⟨.inl rfl, ?_⟩
  refine .inr ⟨8, by decide +kernel, ?_⟩
  refine ⟨_, rfl, ?_⟩
  refine ⟨_, rfl, ?_⟩
  refine ⟨_, rfl, ?_⟩
  refine ⟨_, rfl, ?_⟩
  refine ⟨_, rfl, ?_⟩
  refine ⟨_, rfl, ?_⟩
  refine ⟨_, ⟨⟨pdC_free (.wr n b) 0, trivial, trivial, trivial, trivial⟩, rfl⟩, ?_⟩
  refine ⟨_, _, ⟨rfl, fun i hi => rowPCell1 d.deeds i, by show (d.deeds.length + 1) * 56 ≤ _; omega, fun i hi => ?_, rowP (d.deeds ++ [(.wr n b)]), fun i hi => rowP_old d.deeds (.wr n b) hi, fun i hi => ?_, rfl, rfl⟩, ?_⟩
  · match i, hi with
    | 0, _ => rfl
    | 1, _ => rfl
    | 2, _ => rfl
    | 3, _ => rfl
  · rw [rowP_new d.deeds (.wr n b) hi]
    match i, hi with
    | 0, _ => rfl
    | 1, _ => rfl
    | 2, _ => rfl
    | 3, _ => rfl
  have el : d.deeds.length + 1 = (d.deeds ++ [((.wr n b) : Dee)]).length := by rw [List.length_append, List.length_singleton]
  exact ⟨[0, 1, 2, 3, 5], dkN (noteF d (.wr n b)), _, leh_rel (Nat.le_of_ble_eq_true rfl) (first4 rfl rfl rfl rfl) (by decide)
    ⟨⟨_, rfl, leDkA rfl rfl rfl el rfl⟩, ⟨_, rfl, leMap (by simp only [ren_fmV]; rfl)⟩, ⟨_, rfl, leMap rfl⟩, ⟨_, rfl, .dead _⟩, ⟨_, rfl, leRowQ (by rw [el]; rfl) rfl⟩, trivial⟩, leI rfl, rfl, rfl⟩

set_option maxHeartbeats 1000000 in
set_option maxRecDepth 10000 in
theorem note_rm (d : DkF) (a : ByteArray) (hl : d.deeds.length ≤ 100000) : ACalls Tryz.prog 57 [.ptr 0 0, .agg 4 (pdC (.rm a))] (dkH d) (fun r h => r = int .i64 0 ∧ h = dkN (noteF d (.rm a))) := by
  have hw := rm_p d.now a
  refine rcalls Tryz.func57 rfl (by decide) ?_
  refine .inr ⟨6, by decide +kernel, ?_⟩
  refine ⟨_, rfl, ?_⟩
  refine ⟨_, rfl, ?_⟩
  refine ⟨_, rfl, ?_⟩
  refine ⟨_, rfl, ?_⟩
  refine ⟨_, rfl, ?_⟩
  refine ⟨_, rfl, ?_⟩
  refine ⟨[1], _, fmVFree _, hw, ?_⟩
  rintro r hh ⟨rfl, rfl⟩
  refine ⟨.inl rfl, ?_⟩
  refine .inr ⟨8, by decide +kernel, ?_⟩
  refine ⟨_, rfl, ?_⟩
  refine ⟨_, rfl, ?_⟩
  refine ⟨_, rfl, ?_⟩
  refine ⟨_, rfl, ?_⟩
  refine ⟨_, rfl, ?_⟩
  refine ⟨_, rfl, ?_⟩
  refine ⟨_, ⟨⟨pdC_free (.rm a) 0, trivial, trivial, trivial, trivial⟩, rfl⟩, ?_⟩
  refine ⟨_, _, ⟨rfl, fun i hi => rowPCell1 d.deeds i, by show (d.deeds.length + 1) * 56 ≤ _; omega, fun i hi => ?_, rowP (d.deeds ++ [(.rm a)]), fun i hi => rowP_old d.deeds (.rm a) hi, fun i hi => ?_, rfl, rfl⟩, ?_⟩
  · match i, hi with
    | 0, _ => rfl
    | 1, _ => rfl
    | 2, _ => rfl
    | 3, _ => rfl
  · rw [rowP_new d.deeds (.rm a) hi]
    match i, hi with
    | 0, _ => rfl
    | 1, _ => rfl
    | 2, _ => rfl
    | 3, _ => rfl
  have el : d.deeds.length + 1 = (d.deeds ++ [((.rm a) : Dee)]).length := by rw [List.length_append, List.length_singleton]
  exact ⟨[0, 1, 2, 3, 5], dkN (noteF d (.rm a)), _, leh_rel (Nat.le_of_ble_eq_true rfl) (first4 rfl rfl rfl rfl) (by decide)
    ⟨⟨_, rfl, leDkA rfl rfl rfl el rfl⟩, ⟨_, rfl, leMap (by simp only [ren_fmV]; rfl)⟩, ⟨_, rfl, leMap rfl⟩, ⟨_, rfl, .dead _⟩, ⟨_, rfl, leRowQ (by rw [el]; rfl) rfl⟩, trivial⟩, leI rfl, rfl, rfl⟩
end
end Go.Proofs.YtflclafbieokiaaGreatDoor.Dk

/-
  The program's disk: a file written.
-/
set_option linter.unusedVariables false
set_option linter.unusedSectionVars false
set_option linter.unusedSimpArgs false
namespace Go.Proofs.YtflclafbieokiaaGreatDoor.Dk
open Go AL Us
section
variable [Globs]

theorem vclo {fn : Fn} {n : Nat} {f g : Nat → AV} (h : ∀ i, i < n → VLe (f i) (g i)) : VLe (.clo fn n f) (.clo fn n g) := fun w S L v hv => by
  obtain ⟨vs, e, hn, hd⟩ := hv
  refine ⟨vs, e, hn, fun i hi => ?_⟩
  obtain ⟨u, h1, h2⟩ := hd i hi
  exact ⟨u, h1, h i hi w S L u h2⟩
theorem vone {f : Nat → AV} {a : AV} (h : VLe (f 0) a) : VLe (.rp 1 f) (one a) := fun w S L v hv => by
  obtain ⟨A, e, hd⟩ := hv
  refine ⟨A, e, fun i hi => ?_⟩
  obtain ⟨u, h1, h2⟩ := hd i hi
  obtain rfl : i = 0 := by omega
  exact ⟨u, h1, h w S .zero u h2⟩
theorem vnilI : VLe (.raw (.slice none 0 0)) (.roI .u8 []) := fun w S L v hv => by
  obtain rfl := hv
  exact ⟨none, 0, rfl, Nat.le_refl _, fun i hi => absurd hi (Nat.not_lt_zero _)⟩
theorem vtt : VLe .tt (bool true) := fun w S L v hv => hv
theorem vtwo {f g : Nat → AV} (h0 : VLe (f 0) (g 0)) (h1 : VLe (f 1) (g 1)) : ∀ i, i < 2 → VLe (f i) (g i) := fun i hi => by
  match i, hi with
  | 0, _ => exact h0
  | 1, _ => exact h1
theorem vfour {f g : Nat → AV} (h0 : VLe (f 0) (g 0)) (h1 : VLe (f 1) (g 1)) (h2 : VLe (f 2) (g 2)) (h3 : VLe (f 3) (g 3)) : ∀ i, i < 4 → VLe (f i) (g i) := fun i hi => by
  match i, hi with
  | 0, _ => exact h0
  | 1, _ => exact h1
  | 2, _ => exact h2
  | 3, _ => exact h3
theorem two {f : Nat → AV} (h0 : (f 0).free) (h1 : (f 1).free) : ∀ i, i < 2 → (f i).free := fun i hi => by
  match i, hi with
  | 0, _ => exact h0
  | 1, _ => exact h1
theorem fourF {f : Nat → AV} (h0 : (f 0).free) (h1 : (f 1).free) (h2 : (f 2).free) (h3 : (f 3).free) : ∀ i, i < 4 → (f i).free := fun i hi => by
  match i, hi with
  | 0, _ => exact h0
  | 1, _ => exact h1
  | 2, _ => exact h2
  | 3, _ => exact h3
theorem vcut {k : IntKind} {b : List Int} : VLe (.roI k ((b.drop 0).take b.length)) (.roI k b) := by
  rw [List.drop_zero, List.take_length]; exact VLe.refl _
def doneP (d : DkF) (e : Dee) (r : AV) (h : List AO) : Prop := (errF d e = 0 ∧ r = int .i64 0 ∧ h = dkN (noteF d e)) ∨ (errF d e ≠ 0 ∧ r = int .i64 (errF d e) ∧ h = dkH d)

set_option maxHeartbeats 1000000 in
set_option maxRecDepth 10000 in
theorem write_p (d : DkF) (n : ByteArray) (b : List Int) (hs : sizeF d.now ≤ 2305843009213693952) (hb : b.length ≤ 140737488355328) (hl : d.deeds.length ≤ 100000) :
    ACalls Tryz.prog 29 [.ptr 0 0, str n, .roI .u8 b] (dkH d) (doneP d (.wr n b)) := by
  have hm := may_p n
  have hsz := size_prog d.now (by omega)
  have hg := get_fmV n d.now
  have hgl := size_del n d.now
  have hn := note_wr d n b hl
  have hc := clone_prog b hb
  have he : errF d (.wr n b) = if ¬ mayN n then 1 else if (sizeF d.now : Int) - ((getF n d.now).getD []).length + b.length > d.room then 5 else 0 := rfl
  unfold doneP
  generalize errF d (.wr n b) = E at *
  refine rcalls Tryz.func29 rfl (by decide) ?_
  refine ⟨[], _, hm, ?_⟩
  rintro r hh ⟨rfl, rfl⟩
  refine ⟨.inl rfl, ?_⟩
  refine ⟨fun c => ?_, fun c => ?_⟩
  · have f1 : ¬ mayN n := of_decide_eq_false (by revert c; cases decide (mayN n) <;> simp)
    rw [if_pos f1] at he
    exact ⟨[0, 1, 2, 3], dkH d, _, lehDk rfl rfl rfl rfl rfl rfl rfl rfl, leI rfl, .inr ⟨by omega, by rw [he], rfl⟩⟩
  have f1 : mayN n := of_decide_eq_true (by revert c; cases decide (mayN n) <;> simp)
  rw [if_neg (fun h => h f1)] at he
  obtain ⟨G, hG⟩ : ∃ G, getF n d.now = G := ⟨_, rfl⟩
  rw [hG] at hg hgl he
  cases G with
  | none =>
    have hgl : sizeF (delF n d.now) + 0 = sizeF d.now := hgl
    have he : E = if (sizeF d.now : Int) - (0 : Nat) + b.length > d.room then 5 else 0 := he
    refine .inr ⟨20, by decide +kernel, ?_⟩
    refine ⟨_, rfl, ?_⟩
    refine ⟨_, rfl, ?_⟩
    refine ⟨_, rfl, ?_⟩
    refine ⟨_, rfl, ?_⟩
    refine ⟨_, ⟨[1], _, fmVFree _, hsz, by rintro r h ⟨rfl, rfl⟩; exact ⟨.inl rfl, by simp only [ren_fmV], rfl⟩⟩, ?_⟩
    refine ⟨_, rfl, ?_⟩
    refine ⟨_, rfl, ?_⟩
    refine ⟨_, rfl, ?_⟩
    refine ⟨_, rfl, ?_⟩
    refine ⟨_, rfl, ?_⟩
    refine ⟨.raw (.slice none 0 0), ⟨fun v hv => (by rw [hg] at hv; cases hv), fun _ => rfl⟩, ?_⟩
    refine ⟨_, rfl, ?_⟩
    refine ⟨_, rfl, ?_⟩
    refine ⟨_, rfl, ?_⟩
    refine ⟨_, rfl, ?_⟩
    refine ⟨_, rfl, ?_⟩
    refine ⟨_, rfl, ?_⟩
    refine ⟨_, rfl, ?_⟩
    refine ⟨_, rfl, ?_⟩
    refine ⟨_, rfl, ?_⟩
    have w1 : IntKind.i64.wrap (IntKind.i64.wrap ((sizeF d.now : Int) - 0) + (b.length : Int)) = (sizeF d.now : Int) - (0 : Nat) + b.length := by rw [w64 (n := (sizeF d.now : Int) - 0) (by omega) (by omega), w64 (by omega) (by omega)]; omega
    refine ⟨fun c => ?_, fun c => ?_⟩
    · have f3 := yes c
      rw [w1] at f3
      rw [if_pos f3] at he
      exact ⟨[0, 1, 2, 3], dkH d, _, lehDk rfl rfl rfl rfl rfl rfl rfl rfl, leI rfl, .inr ⟨by omega, by rw [he], rfl⟩⟩
    have f3 := no c
    rw [w1] at f3
    rw [if_neg f3] at he
    refine ⟨[], _, hc, ?_⟩
    rintro r hh ⟨rfl, rfl⟩
    refine ⟨.inl rfl, ?_⟩
    refine ⟨[0, 1, 2, 3, 1004, 1005, 1006], _, Nat.le_of_eq (Nat.zero_add _), Nat.le_of_eq (Nat.zero_add _), fmVFree _, fmVFree _, fun i _ => rowPFree _ i, fourF (two trivial trivial) trivial trivial trivial, hn.args ⟨VLe.refl _, vagg (vfour (vclo (vtwo (vone ?_) (vone ?_))) vtt (VLe.refl _) ?_), trivial⟩, ?_⟩
    · exact vcut
    · exact VLe.refl _
    · exact vcut
    rintro r hh ⟨rfl, rfl⟩
    refine ⟨.inl rfl, ?_⟩
    exact ⟨[0, 1, 2, 3, 7], dkN (noteF d (.wr n b)), _, leh_rel (Nat.le_of_ble_eq_true rfl) (first4 rfl rfl rfl rfl) (by decide)
      ⟨⟨_, rfl, leDkA rfl rfl rfl rfl rfl⟩, ⟨_, rfl, leMap (by simp only [ren_fmV])⟩, ⟨_, rfl, leMap (by simp only [ren_fmV])⟩, ⟨_, rfl, .dead _⟩, ⟨_, rfl, leRowQ rfl (by simp only [ren_rowP])⟩, trivial⟩, leI rfl, .inl ⟨he, rfl, rfl⟩⟩
  | some x =>
    have hgl : sizeF (delF n d.now) + x.length = sizeF d.now := hgl
    have he : E = if (sizeF d.now : Int) - x.length + b.length > d.room then 5 else 0 := he
    refine .inr ⟨20, by decide +kernel, ?_⟩
    refine ⟨_, rfl, ?_⟩
    refine ⟨_, rfl, ?_⟩
    refine ⟨_, rfl, ?_⟩
    refine ⟨_, rfl, ?_⟩
    refine ⟨_, ⟨[1], _, fmVFree _, hsz, by rintro r h ⟨rfl, rfl⟩; exact ⟨.inl rfl, by simp only [ren_fmV], rfl⟩⟩, ?_⟩
    refine ⟨_, rfl, ?_⟩
    refine ⟨_, rfl, ?_⟩
    refine ⟨_, rfl, ?_⟩
    refine ⟨_, rfl, ?_⟩
    refine ⟨_, rfl, ?_⟩
    refine ⟨.roI .u8 x, ⟨fun v hv => (by rw [hg] at hv; exact (Option.some.inj hv).symm), fun hv => (by rw [hg] at hv; cases hv)⟩, ?_⟩
    refine ⟨_, rfl, ?_⟩
    refine ⟨_, rfl, ?_⟩
    refine ⟨_, rfl, ?_⟩
    refine ⟨_, rfl, ?_⟩
    refine ⟨_, rfl, ?_⟩
    refine ⟨_, rfl, ?_⟩
    refine ⟨_, rfl, ?_⟩
    refine ⟨_, rfl, ?_⟩
    refine ⟨_, rfl, ?_⟩
    have w1 : IntKind.i64.wrap (IntKind.i64.wrap ((sizeF d.now : Int) - x.length) + (b.length : Int)) = (sizeF d.now : Int) - x.length + b.length := by rw [w64 (n := (sizeF d.now : Int) - x.length) (by omega) (by omega), w64 (by omega) (by omega)]
    refine ⟨fun c => ?_, fun c => ?_⟩
    · have f3 := yes c
      rw [w1] at f3
      rw [if_pos f3] at he
      exact ⟨[0, 1, 2, 3], dkH d, _, lehDk rfl rfl rfl rfl rfl rfl rfl rfl, leI rfl, .inr ⟨by omega, by rw [he], rfl⟩⟩
    have f3 := no c
    rw [w1] at f3
    rw [if_neg f3] at he
    refine ⟨[], _, hc, ?_⟩
    rintro r hh ⟨rfl, rfl⟩
    refine ⟨.inl rfl, ?_⟩
    refine ⟨[0, 1, 2, 3, 1004, 1005, 1006], _, Nat.le_of_eq (Nat.zero_add _), Nat.le_of_eq (Nat.zero_add _), fmVFree _, fmVFree _, fun i _ => rowPFree _ i, fourF (two trivial trivial) trivial trivial trivial, hn.args ⟨VLe.refl _, vagg (vfour (vclo (vtwo (vone ?_) (vone ?_))) vtt (VLe.refl _) ?_), trivial⟩, ?_⟩
    · exact vcut
    · exact VLe.refl _
    · exact vcut
    rintro r hh ⟨rfl, rfl⟩
    refine ⟨.inl rfl, ?_⟩
    exact ⟨[0, 1, 2, 3, 7], dkN (noteF d (.wr n b)), _, leh_rel (Nat.le_of_ble_eq_true rfl) (first4 rfl rfl rfl rfl) (by decide)
      ⟨⟨_, rfl, leDkA rfl rfl rfl rfl rfl⟩, ⟨_, rfl, leMap (by simp only [ren_fmV])⟩, ⟨_, rfl, leMap (by simp only [ren_fmV])⟩, ⟨_, rfl, .dead _⟩, ⟨_, rfl, leRowQ rfl (by simp only [ren_rowP])⟩, trivial⟩, leI rfl, .inl ⟨he, rfl, rfl⟩⟩
end
end Go.Proofs.YtflclafbieokiaaGreatDoor.Dk

/-
  The program's disk: files renamed, removed, synced; a new disk.
-/
set_option linter.unusedVariables false
set_option linter.unusedSectionVars false
set_option linter.unusedSimpArgs false
namespace Go.Proofs.YtflclafbieokiaaGreatDoor.Dk
open Go AL Us
section
variable [Globs]

theorem vsole {f g : Nat → AV} (h0 : VLe (f 0) (g 0)) : ∀ i, i < 1 → VLe (f i) (g i) := fun i hi => by
  obtain rfl : i = 0 := by omega
  exact h0
theorem sole {f : Nat → AV} (h0 : (f 0).free) : ∀ i, i < 1 → (f i).free := fun i hi => by
  obtain rfl : i = 0 := by omega
  exact h0

set_option maxHeartbeats 1000000 in
set_option maxRecDepth 10000 in
theorem remove_p (d : DkF) (a : ByteArray) (hl : d.deeds.length ≤ 100000) :
    ACalls Tryz.prog 43 [.ptr 0 0, str a] (dkH d) (doneP d (.rm a)) := by
  have hh := has_p d a
  have hn := note_rm d a hl
  have he : errF d (.rm a) = if getF a d.now = none then 6 else 0 := rfl
  unfold doneP
  generalize errF d (.rm a) = E at *
  generalize getF a d.now = G at *
  refine rcalls Tryz.func43 rfl (by decide) ?_
  refine ⟨[0, 1, 2, 3], _, (by (try simp only [ren_fmV]); exact fmVFree _), (by (try simp only [ren_fmV]); exact fmVFree _), (by (try simp only [ren_rowP]); exact fun i _ => rowPFree _ i), at_h ?_ (hh), ?_⟩
  · exact dkH_eq (by first | simp only [ren_fmV] | rfl) (by first | simp only [ren_fmV] | rfl) (by first | simp only [ren_rowP] | rfl)
  rintro r hh ⟨rfl, rfl⟩
  refine ⟨.inl rfl, ?_⟩
  refine ⟨fun c => ?_, fun c => ?_⟩
  · have f2 : G = none := by revert c; cases G <;> simp
    rw [if_pos f2] at he
    exact ⟨[0, 1, 2, 3], dkH d, _, lehDk rfl rfl rfl rfl (by simp only [ren_fmV]) (by simp only [ren_fmV]) rfl (by simp only [ren_rowP]), leI rfl, .inr ⟨by omega, by rw [he], rfl⟩⟩
  have f2 : ¬ G = none := by revert c; cases G <;> simp
  rw [if_neg f2] at he
  refine ⟨[0, 1, 2, 3, 1004], _, (by (try simp only [ren_fmV]); exact fmVFree _), (by (try simp only [ren_fmV]); exact fmVFree _), (by (try simp only [ren_rowP]); exact fun i _ => rowPFree _ i), fourF (sole trivial) trivial trivial trivial, at_h ?_ (hn.args ⟨VLe.refl _, vagg (vfour (vclo (vsole (vone (VLe.refl _)))) (VLe.refl _) (VLe.refl _) vnilI), trivial⟩), ?_⟩
  · exact dkH_eq (by simp only [ren_fmV]) (by simp only [ren_fmV]) (by simp only [ren_rowP])
  rintro r hh ⟨rfl, rfl⟩
  refine ⟨.inl rfl, ?_⟩
  exact ⟨[0, 1, 2, 3, 5], dkN (noteF d (.rm a)), _, leh_rel (Nat.le_of_ble_eq_true rfl) (first4 rfl rfl rfl rfl) (by decide)
    ⟨⟨_, rfl, leDkA rfl rfl rfl rfl rfl⟩, ⟨_, rfl, leMap (by simp only [ren_fmV])⟩, ⟨_, rfl, leMap (by simp only [ren_fmV])⟩, ⟨_, rfl, .dead _⟩, ⟨_, rfl, leRowQ rfl (by simp only [ren_rowP])⟩, trivial⟩, leI rfl, .inl ⟨he, rfl, rfl⟩⟩
end
end Go.Proofs.YtflclafbieokiaaGreatDoor.Dk

/-
  The program's own map clone, and a map's names, sorted.
-/
set_option linter.unusedVariables false
set_option linter.unusedSectionVars false
set_option linter.unusedSimpArgs false
namespace Go.Proofs.YtflclafbieokiaaGreatDoor.Dk
open Go AL Us

/-! A map, as the kit reads it: its names alone. -/
def rdK : Value → Option (DataW Nat × List MemPlace) := fun _ => some (.nil, [])
theorem rg_K {P : Program} {k : TypeId} (hk : P.underlying k = some .string) {e : MapEntry} {s : ByteArray} (he : e.key = .string s) (hs : s.size ≤ maxLen) : WideElems.rd P k rdK e = some (.string s.data.toList, .nil) := by
  unfold WideElems.rd
  rw [he, WideMaps.keyOf_string_mk hk hs]
  rfl
def NamesOf (m : FM) (ns : List ByteArray) : Prop := ns.Perm (keysF m) ∧ ns.Pairwise fun a b => ltS a b = true
def unS (l : List UInt8) : ByteArray := ⟨l.toArray⟩
theorem unS_toList (l : List UInt8) : (unS l).toList = l := by rw [Lib.toList_data]; rfl
theorem names_of {m : FM} (hm : (keysF m).Nodup) {ss : List (List UInt8)} (h : (ss.map unS).Perm (keysF m)) : NamesOf m ((ss.mergeSort fun x y => decide (x ≤ y)).map unS) := by
  have hp := (List.mergeSort_perm ss fun x y => decide (x ≤ y)).map unS
  have hq := hp.trans h
  refine ⟨hq, ?_⟩
  have hn : ((ss.mergeSort fun x y => decide (x ≤ y)).map unS).Nodup := hq.nodup_iff.2 hm
  have hs : (ss.mergeSort fun x y => decide (x ≤ y)).Pairwise fun x y => decide (x ≤ y) = true := by
    refine List.pairwise_mergeSort ?_ ?_ ss
    · intro a b c h1 h2
      simp only [decide_eq_true_eq] at *
      exact List.le_trans h1 h2
    · intro a b
      simp only [Bool.or_eq_true, decide_eq_true_eq]
      exact List.le_total a b
  rw [List.pairwise_map]
  have hn2 := List.pairwise_map.1 hn
  refine (hs.and hn2).imp fun {a b} hab => ?_
  rw [ltS_iff, unS_toList, unS_toList]
  have h1 := of_decide_eq_true hab.1
  rcases List.le_iff_lt_or_eq.1 h1 with h2 | h2
  · exact h2
  · exact absurd (congrArg unS h2) hab.2

section
variable [Globs]

theorem clone_m (m : FM) : ACalls Tryz.prog 54 [.mp 0] [.map (fmV m)] (fun r h => r = .mp 1 ∧ h = [.map (fmV m), .map (fmV m)]) :=
  clone_of ⟨_, Tryz.func54, by decide, rfl⟩ (fun b es clock w hb => Tryz.maps_Clone b es clock w hb) m

def keysV : AV := .clo (.func 85) 1 (fun _ => .ptr 1 0)

theorem keys_m (m : FM) : ACalls Tryz.prog 68 [.mp 0] [.map (fmV m)] (fun r h => r = keysV ∧ h = [.map (fmV m), .lst [.mp 0]]) := by
  refine ⟨⟨_, Tryz.func68, by decide, rfl⟩, fun S0 L w vs hh hS hn hv => ?_⟩
  obtain ⟨v, e0, hv0⟩ := hv 0 (.mp 0) rfl
  obtain ⟨hlt, b, hb, rfl⟩ := hv0
  have hvs : vs = #[.map (some b)] := by
    have hn : vs.size = 1 := hn
    apply Array.ext_getElem?
    intro i
    match i with
    | 0 => rw [e0]; rfl
    | i + 1 => rw [Array.getElem?_eq_none (by omega)]; simp
  subst hvs
  refine (Tryz.maps_Keys (some b) w).mono fun e w' ⟨he, hw'⟩ => ?_
  subst he
  have hp : w'.heap = w.heap.push (.cells #[.map (some b)] 89) := by rw [hw']; rfl
  have al : AL.Alike w w' := by rw [hw']; exact ⟨rfl, rfl, rfl⟩
  have hs := step_new (o := .lst [.mp 0]) (sz := 1) hh al hp fun L' hL => cells_new (c := #[.map (some b)]) hp (no_frozen _) (Nat.le_refl 1) fun i hi => by
    obtain rfl : i = 0 := by have : i < 1 := hi; omega
    exact ⟨.map (some b), rfl, Nat.lt_of_lt_of_le hlt hL.n, b, by rw [hL.b 0 hlt]; exact hb, rfl⟩
  refine ⟨_, keysV, [.map (fmV m), .lst [.mp 0]], _, rfl, ⟨rfl, rfl⟩, hs.rel, ⟨_, rfl, rfl, fun i hi => ?_⟩⟩
  obtain rfl : i = 0 := by omega
  exact ⟨_, rfl, push_n hh _ _, _, push_b hh _ _, rfl⟩

theorem sorted_m (m : FM) (hm : (keysF m).Nodup) (hk : ∀ p ∈ m, p.1.size ≤ maxLen) (hl : m.length ≤ 1000000) : ACalls Tryz.prog 67 [keysV] [.map (fmV m), .lst [.mp 0]]
    (fun r h => ∃ ns, NamesOf m ns ∧ r = .ro ns.length 1 (fun i => str (ns.getD i ByteArray.empty)) ∧ h = [.map (fmV m), .lst [.mp 0]]) := by
  refine ⟨⟨_, Tryz.func67, by decide, rfl⟩, fun S0 L w vs hh hS hn hv => ?_⟩
  obtain ⟨v, e0, hv0⟩ := hv 0 keysV rfl
  obtain ⟨us, rfl, hu, hd⟩ := hv0
  obtain ⟨u, eu, hu0⟩ := hd 0 Nat.zero_lt_one
  obtain ⟨hlt, c, hc, rfl⟩ := hu0
  have hus : us = #[.pointer (some ⟨c, 0, none⟩)] := by
    apply Array.ext_getElem?
    intro i
    match i with
    | 0 => rw [eu]; rfl
    | i + 1 => rw [Array.getElem?_eq_none (by omega)]; simp
  subst hus
  have hvs : vs = #[.func (.func 85) #[] #[.pointer (some ⟨c, 0, none⟩)]] := by
    have hn : vs.size = 1 := hn
    apply Array.ext_getElem?
    intro i
    match i with
    | 0 => rw [e0]; rfl
    | i + 1 => rw [Array.getElem?_eq_none (by omega)]; simp
  subst hvs
  obtain ⟨b, es, clock, hb, hw, hst, hsz, hes⟩ := hh.objs 0 _ rfl
  have hb : L.b 0 = some b := hb
  have ho1 := hh.objs 1 _ rfl
  have hcell : w.cell? ⟨c, 0, none⟩ = some (.map (some b)) ∧ c < w.heap.size := by
    rcases ho1 with ⟨h1, _⟩ | ⟨c', cs, el, lo, hi, h1, h2, h3, h4, h5, h6⟩
    · exact absurd h1 (by decide)
    have h1 : L.b 1 = some c' := h1
    rw [hc] at h1
    obtain rfl := Option.some.inj h1
    obtain ⟨u, h7, h8⟩ := h6 0 Nat.zero_lt_one
    obtain ⟨_, b2, h9, rfl⟩ := h8
    rw [hb] at h9
    obtain rfl := Option.some.inj h9
    refine ⟨?_, (Array.getElem?_eq_some_iff.1 h2).1⟩
    simp only [World.cell?, h2]
    exact h7
  have hlen : es.size = m.length := by rw [hsz, fmV_len]
  have hkey : ∀ i e, es[i]? = some e → ∃ h : i < m.length, e.key = .string m[i].1 := fun i e he => by
    have hi : i < m.length := by rw [← hlen]; exact (Array.getElem?_eq_some_iff.1 he).1
    obtain ⟨e', h1, h2, _⟩ := hes i (by rw [fmV_len]; exact hi)
    rw [he] at h1
    obtain rfl := Option.some.inj h1
    rw [fmV_get hi] at h2
    exact ⟨hi, h2⟩
  have hun : Tryz.prog.underlying 9 = some .string := Tryz.underlying9
  have hrd : ∀ i e, es[i]? = some e → ∃ h : i < m.length, WideElems.rd Tryz.prog 9 rdK e = some (.string m[i].1.data.toList, .nil) := fun i e he => by
    obtain ⟨hi, h1⟩ := hkey i e he
    exact ⟨hi, rg_K hun h1 (hk _ (List.getElem_mem hi))⟩
  obtain ⟨D0, hD0⟩ : ∃ D0, (DataW.map ((es.toList.map (WideElems.rg Tryz.prog 9 rdK)).foldr DataW.insert []) : DataW Nat) = D0 := ⟨_, rfl⟩
  have hown : w.ownsMap Tryz.prog 9 rdK b es.size D0 := ⟨es, clock, hw, ⟨by rw [hlen]; unfold maxLen; omega, hst, fun x hx => by
    obtain ⟨i, hi, hx⟩ := List.getElem_of_mem hx
    obtain ⟨_, h1⟩ := hrd i x (by rw [← hx, Array.getElem_toList, Array.getElem?_eq_getElem])
    exact ⟨_, h1⟩⟩, Nat.le_refl _, hD0.symm⟩
  have hDs : Maps.size D0 = m.length := by
    rw [← hD0, Maps.size_eq, (WideShapes.sorted_perm _).length_eq, List.length_map, Array.length_toList, hlen]
  refine (Tryz.sorted_Keys c b es.size D0 rdK w hcell.2 hcell.1 hown (by rw [hDs]; unfold maxLen; omega) (by rw [hDs]; omega)).mono fun e w' ⟨v, ss, he, hss, hrow, hnil, hbl⟩ => ?_
  subst he
  have hns : NamesOf m ((ss.mergeSort fun x y => decide (x ≤ y)).map unS) := by
    refine names_of hm ?_
    have hp : ss.Perm ((keysF m).map fun s => s.data.toList) := by
      refine hss.trans ?_
      rw [← hD0]
      show (((es.toList.map (WideElems.rg Tryz.prog 9 rdK)).foldr DataW.insert []).map fun p => strOf p.1).Perm _
      refine ((WideShapes.sorted_perm _).map _).trans ?_
      refine List.Perm.of_eq ?_
      apply List.ext_getElem
      · simp [keysF, hlen]
      · intro i h1 h2
        simp only [List.getElem_map, Array.getElem_toList, keysF]
        have h3 : i < es.size := by simpa using h1
        obtain ⟨h4, h5⟩ := hrd i es[i] (Array.getElem?_eq_getElem h3)
        unfold WideElems.rg
        rw [h5]
        rfl
    have := hp.map unS
    rw [List.map_map] at this
    have e : (unS ∘ fun s : ByteArray => s.data.toList) = id := funext fun s => rfl
    rw [e, List.map_id] at this
    exact this
  obtain ⟨ns, hN⟩ : ∃ ns, (ss.mergeSort fun x y => decide (x ≤ y)).map unS = ns := ⟨_, rfl⟩
  rw [hN] at hns
  have hnl : ns.length = ss.length := by rw [← hN, List.length_map, List.length_mergeSort]
  have hmine : ∀ i b, Live [AO.map (fmV m), .lst [.mp 0]] i → L.b i = some b → b < w.heap.size := fun i b hi e => (hh.mine i b hi e).1
  have hs := step_of (L' := L) (h' := [AO.map (fmV m), .lst [.mp 0]]) hh ⟨hbl.os, hbl.tape, hbl.output⟩ hbl.size (.refl _) hh.n (Nat.le_refl _) (fun k hk => .inl (hbl.block k hk)) (fun i b hi e => ⟨Nat.lt_of_lt_of_le (hmine i b hi e) hbl.size, .inr ⟨i, hi, e⟩⟩) hh.inj
    (fun i o ho => old_obj hh (.refl _) ho (fun k hk => hbl.block k hk.1) fun b hl e => hbl.block b (hmine i b ⟨o, ho, hl⟩ e))
  refine ⟨v, .ro ns.length 1 (fun i => str (ns.getD i ByteArray.empty)), _, L, rfl, ⟨ns, hns, rfl, rfl⟩, hs.rel, ?_⟩
  obtain ⟨hrl, hrow⟩ := hrow
  rcases hrow with ⟨rfl, h0⟩ | ⟨g, cap, cur, rfl, hg, hcur, hcap, _, hsize, htake⟩
  · refine ⟨none, 0, by rw [hnl, h0], by omega, fun i hi => by omega⟩
  · refine ⟨some ⟨g, 0, none⟩, cap, by rw [hnl], by omega, fun i hi => ?_⟩
    have hi2 : i < ns.length := by omega
    refine ⟨.string ns[i], ⟨g, 0, rfl, ⟨(Array.getElem?_eq_some_iff.1 hcur).1, .inr (.inl hg), fun j hj e => ?_⟩, ?_⟩, ?_⟩
    · have := hmine j g hj e
      omega
    · simp only [World.cell?, hcur]
      have h1 : (cur.toList.take (ss.length * 1))[i]? = some (Value.string ns[i]) := by
        rw [htake, List.getElem?_map]
        have h2 : ((ss.mergeSort fun x y => decide (x ≤ y)).map unS)[i]? = some ns[i] := by rw [hN, List.getElem?_eq_getElem hi2]
        rw [List.getElem?_map] at h2
        cases h3 : (ss.mergeSort fun x y => decide (x ≤ y))[i]? with
        | none => rw [h3] at h2; cases h2
        | some l =>
          rw [h3] at h2
          have h2 := Option.some.inj h2
          rw [← h2]; rfl
      rw [List.getElem?_take, if_pos (by omega), Array.getElem?_toList] at h1
      rw [Nat.zero_add]
      exact h1
    · show Value.string ns[i] = .string (ns.getD i ByteArray.empty)
      rw [List.getD_eq_getElem?_getD, List.getElem?_eq_getElem hi2]; rfl
end
end Go.Proofs.YtflclafbieokiaaGreatDoor.Dk

/-
  The program's disk: its names; synced; a new one.
-/
set_option linter.unusedVariables false
set_option linter.unusedSectionVars false
set_option linter.unusedSimpArgs false
namespace Go.Proofs.YtflclafbieokiaaGreatDoor.Dk
open Go AL Us
section
variable [Globs]

def freshO (o : AO) : Prop := o = .dead ∨ (∃ k, o = .ints k []) ∨ ∃ g, o = .row 0 g
def relG (h : List AO) (l : List Nat) : List Nat → List AO → Prop
  | [], [] => True
  | j :: r, o :: s => ((∃ p, h[j]? = some p ∧ LeO h l p o) ∨ (h.length ≤ j ∧ freshO o)) ∧ relG h l r s
  | _, _ => False
theorem relG_at {h : List AO} {l : List Nat} : ∀ {r : List Nat} {s : List AO}, relG h l r s → s.length = r.length ∧ ∀ (i j : Nat) (o : AO), r[i]? = some j → s[i]? = some o → (∃ p, h[j]? = some p ∧ LeO h l p o) ∨ (h.length ≤ j ∧ freshO o)
  | [], [], _ => ⟨rfl, fun i j o hi _ => by simp at hi⟩
  | [], _ :: _, e => e.elim
  | _ :: _, [], e => e.elim
  | j :: r, o :: s, ⟨e1, e2⟩ => by
    obtain ⟨h1, h2⟩ := relG_at e2
    refine ⟨by simp [h1], fun i k q hi hq => ?_⟩
    cases i with
    | zero => cases hi; cases hq; exact e1
    | succ i => exact h2 i k q hi hq
theorem leh_relG {h : List AO} {l : List Nat} {hs : List AO} (hd : l.Nodup) (e : relG h l l hs) : LeH 0 h l hs :=
  ⟨(relG_at e).1, Nat.zero_le _, fun i hi => absurd hi (Nat.not_lt_zero _), hd, fun i j o hi ho => by
    rcases (relG_at e).2 i j o hi ho with h1 | ⟨h1, h2⟩
    · exact .inl h1
    · exact .inr ⟨Nat.zero_le _, h1, h2⟩⟩
abbrev namesV (ns : List ByteArray) : AV := .ro ns.length 1 (fun i => str (ns.getD i ByteArray.empty))
abbrev dkY (d : DkF) : List AO := [dkA 1 4 3 d, .map (fmV d.now), .dead, .row (d.deeds.length * 4) (rowP d.deeds), .map (fmV d.synced)]
theorem leDkN {h : List AO} {l : List Nat} {a b a' b' c' : Nat} {r s : Int} (ea : l[a']? = some a) (eb : l[b']? = some b) (ec : c' < l.length) (er : r = s) :
    LeO h l (.lst [.mp a, .mp b, .raw (.slice none 0 0), int .i64 r]) (.lst [.mp a', .mp b', .own c' 0 0 4, int .i64 s]) := .lst _ _ rfl fun i hi => by
  have hi : i < 4 := hi
  match i, hi with
  | 0, _ => exact .mp ea
  | 1, _ => exact .mp eb
  | 2, _ => exact .nil _ _ ec
  | 3, _ => exact leI er
theorem leRow0 {h : List AO} {l : List Nat} {n : Nat} {f g : Nat → AV} : LeO h l (.row n f) (.row 0 g) := .row _ _ _ _ (Nat.zero_le _) fun i hi => absurd hi (Nat.not_lt_zero _)

set_option maxHeartbeats 1000000 in
set_option maxRecDepth 10000 in
theorem sync_p (d : DkF) : ACalls Tryz.prog 30 [.ptr 0 0] (dkH d) (fun r h => r = .top ∧ h = dkY (syncF d)) := by
  have hc := clone_m d.now
  refine rcalls Tryz.func30 rfl (by decide) ?_
  refine ⟨[1], _, fmVFree _, hc, ?_⟩
  rintro r hh ⟨rfl, rfl⟩
  refine ⟨.inl rfl, ?_⟩
  exact ⟨[0, 1, 2, 3, 4], dkY (syncF d), .top, leh_rel (Nat.le_of_ble_eq_true rfl) (first4 rfl rfl rfl rfl) (by decide)
    ⟨⟨_, rfl, leDkN rfl rfl (by decide) rfl⟩, ⟨_, rfl, leMap (by simp only [ren_fmV]; rfl)⟩, ⟨_, rfl, .dead _⟩, ⟨_, rfl, leRow0⟩, ⟨_, rfl, leMap (by simp only [ren_fmV]; rfl)⟩, trivial⟩, .top _, rfl, rfl⟩

set_option maxHeartbeats 1000000 in
set_option maxRecDepth 10000 in
theorem list_p (d : DkF) (hm : (keysF d.now).Nodup) (hk : ∀ p ∈ d.now, p.1.size ≤ maxLen) (hl : d.now.length ≤ 1000000) : ACalls Tryz.prog 46 [.ptr 0 0] (dkH d) (fun r h => ∃ ns, NamesOf d.now ns ∧ r = namesV ns ∧ h = dkH d) := by
  have hc := keys_m d.now
  have hs := sorted_m d.now hm hk hl
  refine rcalls Tryz.func46 rfl (by decide) ?_
  refine ⟨[1], _, fmVFree _, hc, ?_⟩
  rintro r hh ⟨rfl, rfl⟩
  refine ⟨.inl rfl, ?_⟩
  refine ⟨[1, 4], _, (by (try simp only [ren_fmV]); exact fmVFree _), at_h ?_ (hs.args ⟨vclo (vsole (VLe.refl _)), trivial⟩), ?_⟩
  · simp only [ren_fmV]
  rintro r hh ⟨ns, hns, rfl, rfl⟩
  refine ⟨.inl rfl, ?_⟩
  exact ⟨[0, 1, 2, 3], dkH d, _, lehDk rfl rfl rfl rfl (by simp only [ren_fmV]) rfl rfl rfl, .same _ trivial, ns, hns, rfl, rfl⟩

set_option maxHeartbeats 1000000 in
set_option maxRecDepth 10000 in
theorem new_p (room : Int) : ACalls Tryz.prog 28 [int .i64 room] [] (fun r h => r = .ptr 0 0 ∧ h = dkH (newF room)) := by
  refine rcalls Tryz.func28 rfl (by decide) ?_
  have e0 : (dkH (newF room)) = [dkA 1 2 3 (newF room), .map (fmV []), .map (fmV []), .row (0 * 4) (rowP [])] := rfl
  rw [e0]
  exact ⟨[2, 0, 1, 3], [dkA 1 2 3 (newF room), .map (fmV []), .map (fmV []), .row (0 * 4) (rowP [])], _, leh_relG (by decide)
    ⟨.inl ⟨_, rfl, leDkN rfl rfl (by decide) rfl⟩, .inl ⟨_, rfl, leMap rfl⟩, .inl ⟨_, rfl, leMap rfl⟩, .inr ⟨Nat.le_refl 3, .inr (.inr ⟨_, rfl⟩)⟩, trivial⟩, .ptr 0 rfl, rfl, rfl⟩
end
end Go.Proofs.YtflclafbieokiaaGreatDoor.Dk

/-
  Rounds and blocks of SHA-256, walked: the program's.
-/
set_option linter.unusedVariables false
set_option linter.unusedSectionVars false
set_option linter.unusedSimpArgs false
set_option maxRecDepth 10000
namespace Go.Proofs.YtflclafbieokiaaGreatDoor.Sh
open Go AL Dk
section
variable [Globs]

theorem leAI {hh : List AO} {l : List Nat} {k : IntKind} {xs ys : List Int} (e : xs = ys) : LeV hh l (.aggI k xs) (.aggI k ys) := by subst e; exact .aggI k xs
theorem len8 {h : List Int} (hl : h.length = 8) : ∃ a b c d e f g k, h = [a, b, c, d, e, f, g, k] := by
  match h, hl with
  | [a, b, c, d, e, f, g, k], _ => exact ⟨a, b, c, d, e, f, g, k, rfl⟩

set_option maxHeartbeats 1000000 in
theorem round_p (h : List Int) (k w : Int) (hl : h.length = 8) : ACalls Tryz.prog 123 [.aggI .u32 h, int .u32 k, int .u32 w] [] (fun r hh => r = .aggI .u32 (roundS h k w) ∧ hh = []) := by
  obtain ⟨a, b, c, d, e, f, g, j, rfl⟩ := len8 hl
  refine rcalls Tryz.func123 rfl (by decide) ?_
  refine ⟨rfl, ?_⟩
  refine ⟨rfl, ?_⟩
  refine .inr ⟨18, by decide +kernel, ?_⟩
  refine ⟨_, ⟨⟨by decide, by decide⟩, rfl⟩, ?_⟩
  refine ⟨_, ⟨by show 7 < 8; decide, rfl⟩, ?_⟩
  refine ⟨_, ⟨⟨by decide, by decide⟩, rfl⟩, ?_⟩
  refine ⟨_, ⟨by show 4 < 8; decide, rfl⟩, ?_⟩
  refine ⟨_, ⟨[], _, big1_p e, by rintro r h ⟨rfl, rfl⟩; exact ⟨.inl rfl, rfl, rfl⟩⟩, ?_⟩
  refine ⟨_, rfl, ?_⟩
  refine ⟨_, ⟨⟨by decide, by decide⟩, rfl⟩, ?_⟩
  refine ⟨_, ⟨by show 4 < 8; decide, rfl⟩, ?_⟩
  refine ⟨_, ⟨⟨by decide, by decide⟩, rfl⟩, ?_⟩
  refine ⟨_, ⟨by show 5 < 8; decide, rfl⟩, ?_⟩
  refine ⟨_, ⟨⟨by decide, by decide⟩, rfl⟩, ?_⟩
  refine ⟨_, ⟨by show 6 < 8; decide, rfl⟩, ?_⟩
  refine ⟨_, ⟨[], _, ch_p e f g, by rintro r h ⟨rfl, rfl⟩; exact ⟨.inl rfl, rfl, rfl⟩⟩, ?_⟩
  refine ⟨_, rfl, ?_⟩
  refine ⟨_, rfl, ?_⟩
  refine ⟨_, rfl, ?_⟩
  refine ⟨_, rfl, ?_⟩
  refine ⟨_, rfl, ?_⟩
  refine .inr ⟨11, by decide +kernel, ?_⟩
  refine ⟨_, ⟨⟨by decide, by decide⟩, rfl⟩, ?_⟩
  refine ⟨_, ⟨by show 0 < 8; decide, rfl⟩, ?_⟩
  refine ⟨_, ⟨[], _, big0_p a, by rintro r h ⟨rfl, rfl⟩; exact ⟨.inl rfl, rfl, rfl⟩⟩, ?_⟩
  refine ⟨_, ⟨⟨by decide, by decide⟩, rfl⟩, ?_⟩
  refine ⟨_, ⟨by show 0 < 8; decide, rfl⟩, ?_⟩
  refine ⟨_, ⟨⟨by decide, by decide⟩, rfl⟩, ?_⟩
  refine ⟨_, ⟨by show 1 < 8; decide, rfl⟩, ?_⟩
  refine ⟨_, ⟨⟨by decide, by decide⟩, rfl⟩, ?_⟩
  refine ⟨_, ⟨by show 2 < 8; decide, rfl⟩, ?_⟩
  refine ⟨_, ⟨[], _, maj_p a b c, by rintro r h ⟨rfl, rfl⟩; exact ⟨.inl rfl, rfl, rfl⟩⟩, ?_⟩
  refine ⟨_, rfl, ?_⟩
  refine ⟨⟨by decide, by decide⟩, by show 6 < 8; decide, ?_⟩
  refine ⟨⟨by decide, by decide⟩, by show 5 < 8; decide, ?_⟩
  refine ⟨⟨by decide, by decide⟩, by show 4 < 8; decide, ?_⟩
  refine ⟨⟨by decide, by decide⟩, by show 3 < 8; decide, ?_⟩
  refine ⟨⟨by decide, by decide⟩, by show 2 < 8; decide, ?_⟩
  refine ⟨⟨by decide, by decide⟩, by show 1 < 8; decide, ?_⟩
  refine ⟨⟨by decide, by decide⟩, by show 0 < 8; decide, ?_⟩
  refine ⟨⟨by decide, by decide⟩, by show 7 < 8; decide, ?_⟩
  refine ⟨⟨by decide, by decide⟩, by show 6 < 8; decide, ?_⟩
  refine ⟨⟨by decide, by decide⟩, by show 5 < 8; decide, ?_⟩
  refine ⟨⟨by decide, by decide⟩, by show 4 < 8; decide, ?_⟩
  refine ⟨⟨by decide, by decide⟩, by show 3 < 8; decide, ?_⟩
  refine ⟨⟨by decide, by decide⟩, by show 2 < 8; decide, ?_⟩
  refine ⟨⟨by decide, by decide⟩, by show 1 < 8; decide, ?_⟩
  refine ⟨⟨by decide, by decide⟩, by show 0 < 8; decide, ?_⟩
  refine ⟨by show 0 + 8 ≤ 8; decide, ?_⟩
  refine ⟨rfl, by show 0 + 8 ≤ 8; decide, ?_⟩
  refine ⟨by show 0 + 8 ≤ 8; decide, ?_⟩
  exact ⟨[], [], _, lehN _, leAI rfl, rfl, rfl⟩

theorem k_p (i : Nat) (hi : i < 64) : ACalls Tryz.prog 124 [int .i64 (i : Int)] [] (fun r hh => r = int .u32 (g0 tabS i) ∧ hh = []) := by
  refine rcalls Tryz.func124 rfl (by decide) ?_
  refine ⟨fun c => ?_, fun c => ?_⟩
  · have := yes c; omega
  refine ⟨fun c => ?_, fun c => ?_⟩
  · have := yes c; omega
  refine ⟨rfl, ?_⟩
  refine ⟨rfl, by show 0 + 64 ≤ 64; decide, ?_⟩
  refine ⟨⟨by omega, by omega⟩, by show 0 + (i : Int).toNat * 1 < 64; omega, ?_⟩
  refine ⟨[], [], _, lehN _, leI ?_, rfl, rfl⟩
  show tabS.getD (0 + (i : Int).toNat * 1) 0 = tabS.getD i 0
  rw [show 0 + (i : Int).toNat * 1 = i by omega]

set_option maxHeartbeats 4000000 in
theorem sched_p (b : List Int) (hb : b.length = 64) : ACalls Tryz.prog 122 [.aggI .u8 b] [] (fun r hh => r = .aggI .u32 (schS b 64) ∧ hh = []) := by
  have hS := schS_len b
  have hsu : ∀ t, schS b (t + 1) = (schS b t).set t (if t < 16 then wordS b t else nextS (schS b t) t) := fun t => rfl
  have h0 : schS b 0 = List.replicate 64 0 := rfl
  generalize schS b = SC at *
  refine rcalls Tryz.func122 rfl (by decide) ?_
  refine ⟨hb.symm, ?_⟩
  refine ⟨rfl, ?_⟩
  refine ⟨rfl, ?_⟩
  refine ⟨Nat, fun t => [(1, .ptr 0 0), (2, .ptr 1 0), (3, .ptr 2 0), (6, int .i64 (t : Int))], fun t => [.ints .u8 b, .ints .u32 (List.replicate 64 0), .ints .u32 (SC t)], fun t => t ≤ 64, fun t => 64 - t,
    ⟨0, [0, 1, 2], Nat.zero_le _, ?_, ?_⟩, ?_⟩
  · show LeH 0 _ [0, 1, 2] [.ints .u8 b, .ints .u32 (List.replicate 64 0), .ints .u32 (SC 0)]
    rw [h0]
    exact leh_relG (by decide) ⟨.inl ⟨_, rfl, leOint rfl⟩, .inl ⟨_, rfl, leOint rfl⟩, .inl ⟨_, rfl, leOint rfl⟩, trivial⟩
  · exact ⟨.ptr 0 rfl, .ptr 0 rfl, .ptr 0 rfl, leI rfl, trivial⟩
  intro t ht
  have ht : t ≤ 64 := ht
  have e1 : IntKind.i64.wrap ((t : Int) + 1) = ((t + 1 : Nat) : Int) := by rw [w64 (by omega) (by omega)]; omega
  have hSt := hS t
  refine ⟨fun c => ?_, fun c => ?_⟩
  · have f1 : (t : Int) < 64 := yes c
    have hsu := hsu t
    refine ⟨fun c => ?_, fun c => ?_⟩
    · have f2 : (t : Int) < 16 := yes c
      have w4 : IntKind.i64.wrap (4 * (t : Int)) = ((4 * t : Nat) : Int) := by rw [w64 (by omega) (by omega)]; omega
      have w5 : IntKind.i64.wrap (((4 * t : Nat) : Int) + 4) = ((4 * t + 4 : Nat) : Int) := by rw [w64 (by omega) (by omega)]; omega
      rw [if_pos (by omega)] at hsu
      refine ⟨by rw [w4, w5]; omega, by rw [w4, w5]; omega, by show 0 + 64 * 1 ≤ b.length; omega, ?_⟩
      rw [w4, w5]
      refine .inr ⟨23, by decide +kernel, ?_⟩
      refine ⟨_, rfl, ?_⟩
      refine ⟨_, rfl, ?_⟩
      refine ⟨_, ⟨⟨by omega, by omega⟩, rfl⟩, ?_⟩
      refine ⟨_, ⟨by show 0 + ((4 * t : Nat) : Int).toNat * 1 + 0 * 1 < b.length; omega, rfl⟩, ?_⟩
      refine ⟨_, rfl, ?_⟩
      refine ⟨_, ⟨by decide, rfl⟩, ?_⟩
      refine ⟨_, rfl, ?_⟩
      refine ⟨_, ⟨⟨by omega, by omega⟩, rfl⟩, ?_⟩
      refine ⟨_, ⟨by show 0 + ((4 * t : Nat) : Int).toNat * 1 + 1 * 1 < b.length; omega, rfl⟩, ?_⟩
      refine ⟨_, rfl, ?_⟩
      refine ⟨_, ⟨by decide, rfl⟩, ?_⟩
      refine ⟨_, rfl, ?_⟩
      refine ⟨_, rfl, ?_⟩
      refine ⟨_, ⟨⟨by omega, by omega⟩, rfl⟩, ?_⟩
      refine ⟨_, ⟨by show 0 + ((4 * t : Nat) : Int).toNat * 1 + 2 * 1 < b.length; omega, rfl⟩, ?_⟩
      refine ⟨_, rfl, ?_⟩
      refine ⟨_, ⟨by decide, rfl⟩, ?_⟩
      refine ⟨_, rfl, ?_⟩
      refine ⟨_, rfl, ?_⟩
      refine ⟨_, ⟨⟨by omega, by omega⟩, rfl⟩, ?_⟩
      refine ⟨_, ⟨by show 0 + ((4 * t : Nat) : Int).toNat * 1 + 3 * 1 < b.length; omega, rfl⟩, ?_⟩
      refine ⟨_, rfl, ?_⟩
      refine ⟨_, rfl, ?_⟩
      refine ⟨⟨by omega, by omega⟩, by show 0 + (t : Int).toNat * 1 < (SC t).length; omega, ?_⟩
      refine ⟨trivial, t + 1, [0, 1, 2], by show t + 1 ≤ 64; omega, by show 64 - (t + 1) < 64 - t; omega,
        leh_relG (by decide) ⟨.inl ⟨_, rfl, leOint rfl⟩, .inl ⟨_, rfl, leOint rfl⟩, .inl ⟨_, rfl, leOint ?_⟩, trivial⟩, ⟨.ptr 0 rfl, .ptr 0 rfl, .ptr 0 rfl, leI e1, trivial⟩⟩
      have hix : ∀ k : Int, addOff (addOff 0 ((4 * t : Nat) : Int).toNat 1) k.toNat 1 = 4 * t + k.toNat := fun k => by unfold addOff; omega
      rw [hsu, hix 0, hix 1, hix 2, hix 3, show addOff 0 (t : Int).toNat 1 = t from by unfold addOff; omega]
      rfl
    · have f2 : ¬ (t : Int) < 16 := no c
      rw [if_neg (by omega)] at hsu
      have v2 : IntKind.i64.wrap ((t : Int) - 2) = ((t - 2 : Nat) : Int) := by rw [w64 (by omega) (by omega)]; omega
      have v7 : IntKind.i64.wrap ((t : Int) - 7) = ((t - 7 : Nat) : Int) := by rw [w64 (by omega) (by omega)]; omega
      have v15 : IntKind.i64.wrap ((t : Int) - 15) = ((t - 15 : Nat) : Int) := by rw [w64 (by omega) (by omega)]; omega
      have v16 : IntKind.i64.wrap ((t : Int) - 16) = ((t - 16 : Nat) : Int) := by rw [w64 (by omega) (by omega)]; omega
      refine .inr ⟨22, by decide +kernel, ?_⟩
      refine ⟨_, rfl, ?_⟩
      refine ⟨_, rfl, ?_⟩
      refine ⟨_, rfl, ?_⟩
      refine ⟨_, ⟨⟨by rw [v2]; omega, by rw [v2]; omega⟩, rfl⟩, ?_⟩
      refine ⟨_, ⟨by rw [v2]; show 0 + ((t - 2 : Nat) : Int).toNat * 1 < (SC t).length; omega, rfl⟩, ?_⟩
      refine ⟨_, ⟨[], _, small1_p _, by rintro r h ⟨rfl, rfl⟩; exact ⟨.inl rfl, rfl, rfl⟩⟩, ?_⟩
      refine ⟨_, rfl, ?_⟩
      refine ⟨_, rfl, ?_⟩
      refine ⟨_, ⟨⟨by rw [v7]; omega, by rw [v7]; omega⟩, rfl⟩, ?_⟩
      refine ⟨_, ⟨by rw [v7]; show 0 + ((t - 7 : Nat) : Int).toNat * 1 < (SC t).length; omega, rfl⟩, ?_⟩
      refine ⟨_, rfl, ?_⟩
      refine ⟨_, rfl, ?_⟩
      refine ⟨_, rfl, ?_⟩
      refine ⟨_, ⟨⟨by rw [v15]; omega, by rw [v15]; omega⟩, rfl⟩, ?_⟩
      refine ⟨_, ⟨by rw [v15]; show 0 + ((t - 15 : Nat) : Int).toNat * 1 < (SC t).length; omega, rfl⟩, ?_⟩
      refine ⟨_, ⟨[], _, small0_p _, by rintro r h ⟨rfl, rfl⟩; exact ⟨.inl rfl, rfl, rfl⟩⟩, ?_⟩
      refine ⟨_, rfl, ?_⟩
      refine ⟨_, rfl, ?_⟩
      refine ⟨_, rfl, ?_⟩
      refine ⟨_, ⟨⟨by rw [v16]; omega, by rw [v16]; omega⟩, rfl⟩, ?_⟩
      refine ⟨_, ⟨by rw [v16]; show 0 + ((t - 16 : Nat) : Int).toNat * 1 < (SC t).length; omega, rfl⟩, ?_⟩
      refine ⟨_, rfl, ?_⟩
      refine ⟨⟨by omega, by omega⟩, by show 0 + (t : Int).toNat * 1 < (SC t).length; omega, ?_⟩
      refine ⟨trivial, t + 1, [0, 1, 2], by show t + 1 ≤ 64; omega, by show 64 - (t + 1) < 64 - t; omega,
        leh_relG (by decide) ⟨.inl ⟨_, rfl, leOint rfl⟩, .inl ⟨_, rfl, leOint rfl⟩, .inl ⟨_, rfl, leOint ?_⟩, trivial⟩, ⟨.ptr 0 rfl, .ptr 0 rfl, .ptr 0 rfl, leI e1, trivial⟩⟩
      have hix : ∀ k : Nat, addOff 0 ((k : Int)).toNat 1 = k := fun k => by unfold addOff; omega
      rw [hsu, v2, v7, v15, v16, hix (t - 2), hix (t - 7), hix (t - 15), hix (t - 16), hix t]
      rfl
  · have f1 : ¬ (t : Int) < 64 := no c
    obtain rfl : t = 64 := by omega
    refine ⟨by rw [hSt]; decide, ?_⟩
    refine ⟨by simp [hSt], by show 0 + 64 ≤ 64; decide, ?_⟩
    refine ⟨by simp [hSt], ?_⟩
    refine ⟨[], [], _, lehN _, leAI ?_, rfl, rfl⟩
    simp [hSt, List.take_of_length_le]
end
end Go.Proofs.YtflclafbieokiaaGreatDoor.Sh

/-
  Blocks of SHA-256, walked: the program's.
-/
set_option linter.unusedVariables false
set_option linter.unusedSectionVars false
set_option linter.unusedSimpArgs false
set_option maxRecDepth 10000
namespace Go.Proofs.YtflclafbieokiaaGreatDoor.Sh
open Go AL Dk
section
variable [Globs]

set_option maxHeartbeats 4000000 in
theorem block_p (h b : List Int) (hh : h.length = 8) (hb : b.length = 64) : ACalls Tryz.prog 95 [.aggI .u32 h, .aggI .u8 b] [] (fun r hp => r = .aggI .u32 (blockS h b) ∧ hp = []) := by
  have hsch := sched_p b hb
  have hSl := schS_len b 64
  unfold blockS
  generalize schS b 64 = W at *
  have hR := rndS_len hh W
  have hru : ∀ t, rndS h W (t + 1) = roundS (rndS h W t) (g0 tabS t) (g0 W t) := fun t => rfl
  have hr0 : rndS h W 0 = h := rfl
  have hround := fun t k w => round_p (rndS h W t) k w (hR t)
  generalize rndS h W = RS at *
  have hAl := fun i => addS_len (hR 64) h i
  have hau : ∀ i, addS (RS 64) h (i + 1) = (addS (RS 64) h i).set i (w32 (g0 (addS (RS 64) h i) i + g0 h i)) := fun i => rfl
  have ha0 : addS (RS 64) h 0 = RS 64 := rfl
  generalize addS (RS 64) h = AS at *
  refine rcalls Tryz.func95 rfl (by decide) ?_
  have hsch' : ∀ X, X = b → ACalls Tryz.prog 122 [.aggI .u8 X] [] (fun r hh => r = .aggI .u32 W ∧ hh = []) := fun X e => by rw [e]; exact hsch
  have hround' : ∀ t k w X, X = RS t → ACalls Tryz.prog 123 [.aggI .u32 X, int .u32 k, int .u32 w] [] (fun r hh => r = .aggI .u32 (roundS (RS t) k w) ∧ hh = []) := fun t k w X e => by rw [e]; exact hround t k w
  refine ⟨hh.symm, ?_⟩
  refine ⟨hb.symm, ?_⟩
  refine ⟨rfl, ?_⟩
  refine ⟨by show 0 + 8 ≤ h.length; omega, ?_⟩
  refine ⟨rfl, ?_⟩
  refine ⟨by simp [hh], by show 0 + 8 ≤ 8; decide, ?_⟩
  refine ⟨by show 0 + 64 ≤ b.length; omega, ?_⟩
  refine ⟨[], _, hsch' _ (by simp [hb, List.take_of_length_le]), ?_⟩
  rintro r hh ⟨rfl, rfl⟩
  refine ⟨.inl rfl, ?_⟩
  refine ⟨Nat, fun t => [(2, .ptr 0 0), (3, .ptr 1 0), (4, .ptr 2 0), (5, .ptr 3 0), (11, .aggI .u32 W), (12, int .i64 (t : Int))], fun t => [.ints .u32 h, .ints .u8 b, .ints .u32 (List.replicate 8 0), .ints .u32 (RS t)], fun t => t ≤ 64, fun t => 64 - t,
    ⟨0, [0, 1, 2, 3], Nat.zero_le _, ?_, ?_⟩, ?_⟩
  · show LeH 0 _ [0, 1, 2, 3] [.ints .u32 h, .ints .u8 b, .ints .u32 (List.replicate 8 0), .ints .u32 (RS 0)]
    rw [hr0]
    exact leh_relG (by decide) ⟨.inl ⟨_, rfl, leOint rfl⟩, .inl ⟨_, rfl, leOint rfl⟩, .inl ⟨_, rfl, leOint rfl⟩, .inl ⟨_, rfl, leOint (by simp [hh, List.take_of_length_le])⟩, trivial⟩
  · exact ⟨.ptr 0 rfl, .ptr 0 rfl, .ptr 0 rfl, .ptr 0 rfl, leAI rfl, leI rfl, trivial⟩
  intro t ht
  have ht : t ≤ 64 := ht
  have e1 : IntKind.i64.wrap ((t : Int) + 1) = ((t + 1 : Nat) : Int) := by rw [w64 (by omega) (by omega)]; omega
  have hRt := hR t
  refine ⟨fun c => ?_, fun c => ?_⟩
  · have f1 : (t : Int) < 64 := yes c
    have hru := hru t
    have hk := k_p t (by omega)
    refine ⟨⟨by omega, by omega⟩, by omega, ?_⟩
    refine .inr ⟨5, by decide +kernel, ?_⟩
    refine ⟨_, ⟨by show 0 + 8 ≤ (RS t).length; omega, rfl⟩, ?_⟩
    refine ⟨_, rfl, ?_⟩
    refine ⟨_, ⟨[], _, hk, by rintro r h ⟨rfl, rfl⟩; exact ⟨.inl rfl, rfl, rfl⟩⟩, ?_⟩
    refine ⟨_, rfl, ?_⟩
    refine ⟨_, ⟨[], _, hround' t (g0 tabS t) (g0 W t) _ (by simp [hRt, List.take_of_length_le]), by rintro r h ⟨rfl, rfl⟩; exact ⟨.inl rfl, rfl, rfl⟩⟩, ?_⟩
    refine ⟨rfl, by show 0 + 8 ≤ (RS t).length; omega, ?_⟩
    refine ⟨trivial, t + 1, [0, 1, 2, 3], by show t + 1 ≤ 64; omega, by show 64 - (t + 1) < 64 - t; omega,
      leh_relG (by decide) ⟨.inl ⟨_, rfl, leOint rfl⟩, .inl ⟨_, rfl, leOint rfl⟩, .inl ⟨_, rfl, leOint rfl⟩, .inl ⟨_, rfl, leOint ?_⟩, trivial⟩, ⟨.ptr 0 rfl, .ptr 0 rfl, .ptr 0 rfl, .ptr 0 rfl, leAI rfl, leI e1, trivial⟩⟩
    have hl8 : (roundS (RS t) (g0 tabS t) (g0 W t)).length = 8 := rfl
    rw [hru, hl8, List.drop_of_length_le (by omega), List.take_zero, List.nil_append, List.append_nil]
  · have f1 : ¬ (t : Int) < 64 := no c
    obtain rfl : t = 64 := by omega
    refine ⟨Nat, fun i => [(2, .ptr 0 0), (4, .ptr 2 0), (5, .ptr 3 0), (22, int .i64 (i : Int))], fun i => [.ints .u32 h, .ints .u8 b, .ints .u32 (List.replicate 8 0), .ints .u32 (AS i)], fun i => i ≤ 8, fun i => 8 - i,
      ⟨0, [0, 1, 2, 3], Nat.zero_le _, ?_, ?_⟩, ?_⟩
    · show LeH 0 _ [0, 1, 2, 3] [.ints .u32 h, .ints .u8 b, .ints .u32 (List.replicate 8 0), .ints .u32 (AS 0)]
      rw [ha0]
      exact leh_relG (by decide) ⟨.inl ⟨_, rfl, leOint rfl⟩, .inl ⟨_, rfl, leOint rfl⟩, .inl ⟨_, rfl, leOint rfl⟩, .inl ⟨_, rfl, leOint rfl⟩, trivial⟩
    · exact ⟨.ptr 0 rfl, .ptr 0 rfl, .ptr 0 rfl, leI rfl, trivial⟩
    intro i hi
    have hi : i ≤ 8 := hi
    have e2 : IntKind.i64.wrap ((i : Int) + 1) = ((i + 1 : Nat) : Int) := by rw [w64 (by omega) (by omega)]; omega
    have hAi := hAl i
    refine ⟨fun c => ?_, fun c => ?_⟩
    · have f2 : (i : Int) < 8 := yes c
      have hau := hau i
      refine .inr ⟨8, by decide +kernel, ?_⟩
      refine ⟨_, rfl, ?_⟩
      refine ⟨_, ⟨⟨by omega, by omega⟩, rfl⟩, ?_⟩
      refine ⟨_, ⟨by show 0 + (i : Int).toNat * 1 < (AS i).length; omega, rfl⟩, ?_⟩
      refine ⟨_, rfl, ?_⟩
      refine ⟨_, ⟨⟨by omega, by omega⟩, rfl⟩, ?_⟩
      refine ⟨_, ⟨by show 0 + (i : Int).toNat * 1 < h.length; omega, rfl⟩, ?_⟩
      refine ⟨_, rfl, ?_⟩
      refine ⟨_, ⟨⟨by omega, by omega⟩, rfl⟩, ?_⟩
      refine ⟨by show 0 + (i : Int).toNat * 1 < (AS i).length; omega, ?_⟩
      refine ⟨trivial, i + 1, [0, 1, 2, 3], by show i + 1 ≤ 8; omega, by show 8 - (i + 1) < 8 - i; omega,
        leh_relG (by decide) ⟨.inl ⟨_, rfl, leOint rfl⟩, .inl ⟨_, rfl, leOint rfl⟩, .inl ⟨_, rfl, leOint rfl⟩, .inl ⟨_, rfl, leOint ?_⟩, trivial⟩, ⟨.ptr 0 rfl, .ptr 0 rfl, .ptr 0 rfl, leI e2, trivial⟩⟩
      rw [hau, show addOff 0 (i : Int).toNat 1 = i from by unfold addOff; omega]
      rfl
    · have f2 : ¬ (i : Int) < 8 := no c
      obtain rfl : i = 8 := by omega
      refine ⟨by show 0 + 8 ≤ (AS 8).length; omega, ?_⟩
      refine ⟨by simp [hAi], by show 0 + 8 ≤ 8; decide, ?_⟩
      refine ⟨by simp [hAi], ?_⟩
      refine ⟨[], [], _, lehN _, leAI ?_, rfl, rfl⟩
      simp [hAi, List.take_of_length_le]
end
end Go.Proofs.YtflclafbieokiaaGreatDoor.Sh

/-
  SHA-256 under way: words, what isn't whole yet, how many bytes. No program in sight.
-/
set_option linter.unusedVariables false
set_option linter.unusedSectionVars false
namespace Go.Proofs.YtflclafbieokiaaGreatDoor.Sh
open Go AL

structure Hs where
  ws : List Int
  ps : List Int
  n : Nat
def hsC (s : Hs) (i : Nat) : AV := if i < 8 then int .u32 (g0 s.ws i) else if i < 72 then int .u8 (g0 s.ps (i - 8)) else int .i64 (s.n : Int)
theorem hsC_free (s : Hs) (i : Nat) : (hsC s i).free := by unfold hsC; split <;> (try split) <;> trivial
structure OkH (s : Hs) : Prop where
  ws : s.ws.length = 8
  ps : s.ps.length = 64
def byteS (s : Hs) (x : Int) : Hs := ⟨if (s.n + 1) % 64 = 0 then blockS s.ws (s.ps.set (s.n % 64) x) else s.ws, s.ps.set (s.n % 64) x, s.n + 1⟩
theorem byte_ok {s : Hs} (h : OkH s) (x : Int) : OkH (byteS s x) := by
  refine ⟨?_, ?_⟩
  · show (if _ then _ else _ : List Int).length = 8
    split
    · exact blockS_len h.ws _
    · exact h.ws
  · show (s.ps.set _ x).length = 64
    rw [List.length_set]; exact h.ps
def putS (s : Hs) (xs : List Int) : Hs := xs.foldl byteS s
theorem put_ok : ∀ (xs : List Int) {s : Hs}, OkH s → OkH (putS s xs)
  | [], s, h => h
  | x :: xs, s, h => put_ok xs (byte_ok h x)
theorem put_app (s : Hs) (xs ys : List Int) : putS s (xs ++ ys) = putS (putS s xs) ys := List.foldl_append ..
theorem put_n : ∀ (xs : List Int) (s : Hs), (putS s xs).n = s.n + xs.length
  | [], s => rfl
  | x :: xs, s => by
    show (putS (byteS s x) xs).n = _
    rw [put_n xs, List.length_cons]
    show s.n + 1 + xs.length = _
    omega
def layS (ps : List Int) (k : Nat) (xs : List Int) : List Int := ps.take k ++ xs ++ ps.drop (k + xs.length)
theorem lay_len {ps : List Int} {k : Nat} {xs : List Int} (h : k + xs.length ≤ ps.length) : (layS ps k xs).length = ps.length := by
  unfold layS
  rw [List.length_append, List.length_append, List.length_take, List.length_drop]; omega
theorem lay_get {ps : List Int} {k : Nat} {xs : List Int} (h : k + xs.length ≤ ps.length) (i : Nat) : g0 (layS ps k xs) i = if k ≤ i ∧ i < k + xs.length then g0 xs (i - k) else g0 ps i := by
  unfold layS g0
  have hk : (ps.take k).length = k := by rw [List.length_take]; omega
  rw [List.getD_eq_getElem?_getD, List.append_assoc]
  rcases Nat.lt_or_ge i k with h1 | h1
  · rw [if_neg (by omega), List.getElem?_append_left (by omega), List.getElem?_take_of_lt h1, List.getD_eq_getElem?_getD]
  · rw [List.getElem?_append_right (by omega), hk]
    rcases Nat.lt_or_ge i (k + xs.length) with h2 | h2
    · rw [if_pos ⟨h1, h2⟩, List.getElem?_append_left (by omega), List.getD_eq_getElem?_getD]
    · rw [if_neg (by omega), List.getElem?_append_right (by omega), List.getElem?_drop, List.getD_eq_getElem?_getD]
      congr 2
      omega
theorem lay_cons {ps : List Int} {k : Nat} {x : Int} {xs : List Int} (h : k + (xs.length + 1) ≤ ps.length) : layS (ps.set k x) (k + 1) xs = layS ps k (x :: xs) := by
  unfold layS
  have h1 : (ps.set k x).take (k + 1) = ps.take k ++ [x] := by
    rw [List.take_succ_eq_append_getElem (by rw [List.length_set]; omega), List.getElem_set_self, List.take_set_of_le (Nat.le_refl k)]
  have h2 : (ps.set k x).drop (k + 1 + xs.length) = ps.drop (k + 1 + xs.length) := List.drop_set_of_lt (by omega)
  rw [h1, h2, List.length_cons, show k + 1 + xs.length = k + (xs.length + 1) by omega]
  simp
theorem put_few : ∀ (xs : List Int) {s : Hs}, OkH s → s.n % 64 + xs.length < 64 → putS s xs = ⟨s.ws, layS s.ps (s.n % 64) xs, s.n + xs.length⟩
  | [], s, h, hl => by
    show s = _
    unfold layS
    simp
  | x :: xs, s, h, hl => by
    rw [List.length_cons] at hl
    have hb : byteS s x = ⟨s.ws, s.ps.set (s.n % 64) x, s.n + 1⟩ := by
      unfold byteS
      rw [if_neg (by omega)]
    have hm : (s.n + 1) % 64 = s.n % 64 + 1 := by omega
    show putS (byteS s x) xs = _
    rw [put_few xs (byte_ok h x) (by rw [hb]; show (s.n + 1) % 64 + xs.length < 64; omega), hb]
    show (⟨s.ws, layS (s.ps.set (s.n % 64) x) ((s.n + 1) % 64) xs, s.n + 1 + xs.length⟩ : Hs) = _
    rw [hm, lay_cons (by rw [h.ps]; omega), List.length_cons]
    congr 1
    omega
theorem put_full {xs : List Int} {s : Hs} (h : OkH s) (hl : s.n % 64 + xs.length = 64) : putS s xs = ⟨blockS s.ws (layS s.ps (s.n % 64) xs), layS s.ps (s.n % 64) xs, s.n + xs.length⟩ := by
  obtain ⟨ys, x, rfl⟩ : ∃ ys x, xs = ys ++ [x] := by
    have hne : xs ≠ [] := by intro e; rw [e] at hl; simp at hl; omega
    exact ⟨xs.dropLast, xs.getLast hne, (List.dropLast_concat_getLast hne).symm⟩
  rw [List.length_append, List.length_singleton] at hl
  rw [put_app, put_few ys h (by omega)]
  have hlay : (layS s.ps (s.n % 64) ys).set ((s.n + ys.length) % 64) x = layS s.ps (s.n % 64) (ys ++ [x]) := by
    have h1 : (s.n + ys.length) % 64 = s.n % 64 + ys.length := by omega
    have ht : (s.ps.take (s.n % 64)).length = s.n % 64 := by rw [List.length_take, h.ps]; omega
    rw [h1]
    unfold layS
    rw [List.length_append, List.length_singleton]
    have hd : s.ps.drop (s.n % 64 + ys.length) = [g0 s.ps 63] := by
      have hlt : s.n % 64 + ys.length < s.ps.length := by rw [h.ps]; omega
      rw [List.drop_eq_getElem_cons hlt, List.drop_of_length_le (by rw [h.ps]; omega)]
      unfold g0
      rw [List.getD_eq_getElem?_getD, show 63 = s.n % 64 + ys.length by omega, List.getElem?_eq_getElem hlt]; rfl
    rw [hd, List.set_append_right _ _ (by rw [List.length_append, ht]; omega), List.length_append, ht, Nat.sub_self, List.drop_of_length_le (by rw [h.ps]; omega)]
    simp
  show byteS _ x = _
  unfold byteS
  show (⟨if (s.n + ys.length + 1) % 64 = 0 then blockS s.ws ((layS s.ps (s.n % 64) ys).set ((s.n + ys.length) % 64) x) else s.ws, (layS s.ps (s.n % 64) ys).set ((s.n + ys.length) % 64) x, s.n + ys.length + 1⟩ : Hs) = _
  rw [if_pos (by omega), hlay, List.length_append, List.length_singleton]
  congr 1
/-! Cells, behind a store. -/
theorem cells_lay {S : Hs} {a m : Nat} {xs ys : List Int} (hO : OkH S) (hxl : xs.length = m) (hm : a + m ≤ 64) (hxg : ∀ i, i < m → g0 xs i = ys.getD i 0) {i : Nat} (hi : i < 73) :
    hsC ⟨S.ws, layS S.ps a xs, S.n⟩ i = if 8 + a ≤ i ∧ i < 8 + a + m then int .u8 (ys.getD (i - (8 + a)) 0) else hsC S i := by
  have hlg := lay_get (ps := S.ps) (k := a) (xs := xs) (by rw [hO.ps]; omega) (i - 8)
  rw [hxl] at hlg
  unfold hsC
  show (if i < 8 then int .u32 (g0 S.ws i) else if i < 72 then int .u8 (g0 (layS S.ps a xs) (i - 8)) else int .i64 (S.n : Int)) = _
  rw [hlg]
  by_cases h8 : i < 8
  · rw [if_pos h8, if_neg (by omega), if_pos h8]
  · rw [if_neg h8, if_neg h8]
    by_cases h72 : i < 72
    · rw [if_pos h72, if_pos h72]
      by_cases hc : 8 + a ≤ i ∧ i < 8 + a + m
      · rw [if_pos hc, if_pos (by omega), hxg _ (by omega), show i - 8 - a = i - (8 + a) by omega]
      · rw [if_neg hc, if_neg (by omega)]
    · rw [if_neg h72, if_neg h72, if_neg (by omega)]
theorem cells_n {ws ps : List Int} {n k : Nat} {i : Nat} (hi : i < 73) : hsC ⟨ws, ps, k⟩ i = if i = 72 then int .i64 (k : Int) else hsC ⟨ws, ps, n⟩ i := by
  unfold hsC
  show (if i < 8 then int .u32 (g0 ws i) else if i < 72 then int .u8 (g0 ps (i - 8)) else int .i64 (k : Int)) = if i = 72 then int .i64 (k : Int) else (if i < 8 then int .u32 (g0 ws i) else if i < 72 then int .u8 (g0 ps (i - 8)) else int .i64 (n : Int))
  by_cases h8 : i < 8
  · rw [if_pos h8, if_neg (by omega), if_pos h8]
  · by_cases h72 : i < 72
    · rw [if_neg h8, if_pos h72, if_neg (by omega), if_neg h8, if_pos h72]
    · rw [if_neg h8, if_neg h72, if_pos (by omega)]
theorem cells_w {ws vs ps : List Int} {n : Nat} {i : Nat} (hi : i < 73) : hsC ⟨vs, ps, n⟩ i = if i < 8 then int .u32 (g0 vs i) else hsC ⟨ws, ps, n⟩ i := by
  unfold hsC
  show (if i < 8 then int .u32 (g0 vs i) else if i < 72 then int .u8 (g0 ps (i - 8)) else int .i64 (n : Int)) = if i < 8 then int .u32 (g0 vs i) else (if i < 8 then int .u32 (g0 ws i) else if i < 72 then int .u8 (g0 ps (i - 8)) else int .i64 (n : Int))
  by_cases h8 : i < 8
  · rw [if_pos h8, if_pos h8]
  · rw [if_neg h8, if_neg h8, if_neg h8]
end Go.Proofs.YtflclafbieokiaaGreatDoor.Sh

/-
  What a call hands back, known less; four blocks that were handed over, and new ones.
-/
set_option linter.unusedVariables false
set_option linter.unusedSectionVars false
set_option linter.unusedSimpArgs false
namespace Go.Proofs.YtflclafbieokiaaGreatDoor.Dk
open Go AL Us
section
variable [Globs]

theorem lessD {P : Program} {f : FuncId} {xs : List AV} {hp : List AO} {R R' : AV → List AO → Prop} (hc : ACalls P f xs hp R) (hr : ∀ r h', R r h' → ∃ l h1 b, LeH hp.length h' l h1 ∧ LeV h' l r b ∧ R' b h1) : ACalls P f xs hp R' :=
  ⟨hc.1, fun S0 L w vs hh hS hn hv => (hc.2 S0 L w vs hh hS hn hv).mono fun e w' ⟨v, r, h', L', h1, h2, h3, h4⟩ => by
    obtain ⟨l, h1', b, g1, g2, g3⟩ := hr _ _ h2
    exact ⟨v, b, h1', L'.view l, h1, g3, AL.leh_rel h3 g1, LeV.den h3 (leh_seen h3 g1) g2 h4⟩⟩
theorem leh_relN {h : List AO} {r : List Nat} {o0 o1 o2 o3 : AO} {s : List AO} (hd : (0 :: 1 :: 2 :: 3 :: r).Nodup) (e1 : relH h (0 :: 1 :: 2 :: 3 :: r) [0, 1, 2, 3] [o0, o1, o2, o3]) (e2 : relG h (0 :: 1 :: 2 :: 3 :: r) r s) :
    LeH 4 h (0 :: 1 :: 2 :: 3 :: r) (o0 :: o1 :: o2 :: o3 :: s) :=
  ⟨by have := (relG_at e2).1; simp [this], by show 4 ≤ r.length + 4; omega, fun i hi => by
    match i, hi with
    | 0, _ => rfl
    | 1, _ => rfl
    | 2, _ => rfl
    | 3, _ => rfl, hd, fun i j o hi ho => by
    rcases Nat.lt_or_ge i 4 with g | g
    · refine .inl ((relH_at e1).2 i j o ?_ ?_)
      · match i, g, hi with
        | 0, _, hi => exact hi
        | 1, _, hi => exact hi
        | 2, _, hi => exact hi
        | 3, _, hi => exact hi
      · match i, g, ho with
        | 0, _, ho => exact ho
        | 1, _, ho => exact ho
        | 2, _, ho => exact ho
        | 3, _, ho => exact ho
    · obtain ⟨m, rfl⟩ : ∃ m, i = m + 4 := ⟨i - 4, by omega⟩
      rcases (relG_at e2).2 m j o hi ho with g1 | ⟨g1, g2⟩
      · exact .inl g1
      · exact .inr ⟨by omega, g1, g2⟩⟩
theorem get_ro (d : DkF) (s : ByteArray) (hl : ∀ v, getF s d.now = some v → v.length ≤ 140737488355328) : ACalls Tryz.prog 25 [.ptr 0 0, str s] (dkH d)
    (fun r h => r = .tup 2 (pair (.roI .u8 ((getF s d.now).getD [])) (bool (getF s d.now).isSome)) ∧ h = dkH d) :=
  lessD (get_p d s hl) fun r h' ⟨xs, e0, e1, e2⟩ => by
    subst e1 e2
    exact ⟨[0, 1, 2, 3], dkH d, .tup 2 (pair (.roI .u8 xs) (bool (getF s d.now).isSome)), lehDk rfl rfl rfl rfl rfl rfl rfl rfl, le_pair (.giveI xs rfl (by simp) (Nat.le_of_eq (Nat.zero_add _)) (by rw [List.drop_zero, List.take_length])) (.same _ trivial), by rw [e0], rfl⟩

end
end Go.Proofs.YtflclafbieokiaaGreatDoor.Dk

/-
  SHA-256 under way, walked: the program's Write.
-/
set_option linter.unusedVariables false
set_option linter.unusedSectionVars false
set_option linter.unusedSimpArgs false
set_option maxRecDepth 10000
namespace Go.Proofs.YtflclafbieokiaaGreatDoor.Sh
open Go AL Dk
theorem vAI {n : Nat} {k : IntKind} {f : Nat → AV} {xs : List Int} (hn : xs.length = n) (hf : ∀ i, i < n → f i = int k (g0 xs i)) : VLe (.agg n f) (.aggI k xs) := fun w S L v hv => by
  obtain ⟨vs, rfl, hs, hc⟩ := hv
  show Value.agg vs = Value.agg (xs.map (Value.int k)).toArray
  congr 1
  apply Array.ext_getElem?
  intro i
  rcases Nat.lt_or_ge i n with hi | hi
  · obtain ⟨u, g1, g2⟩ := hc i hi
    rw [hf i hi] at g2
    obtain rfl := g2
    rw [g1]
    unfold g0
    simp [List.getD_eq_getElem?_getD, hn, hi]
  · rw [Array.getElem?_eq_none (by omega), Array.getElem?_eq_none (by simp; omega)]
section
variable [Globs]

theorem block_a (h b : List Int) (hh : h.length = 8) (hb : b.length = 64) : ACalls Tryz.prog 95 [.aggI .u32 h, .aggI .u8 b] [] (fun r hp => r = .agg 8 (fun i => int .u32 (g0 (blockS h b) i)) ∧ hp = []) :=
  lessD (block_p h b hh hb) fun r h' ⟨e1, e2⟩ => by
    subst e1 e2
    refine ⟨[], [], _, lehN _, ?_, rfl, rfl⟩
    have hl := blockS_len hh b
    have := LeV.aggOfI (h := []) (l := []) .u32 (blockS h b)
    rw [hl] at this
    exact this

set_option maxHeartbeats 4000000 in
theorem hwrite_p (s : Hs) (b : List Int) (o : AO) (ho : LeO [o] [0] o (.row 73 (hsC s))) (hs : OkH s) (hn : s.n + b.length ≤ 4611686018427387904) : ACalls Tryz.prog 77 [.ptr 0 0, .roI .u8 b] [o] (fun r h => r = .top ∧ h = [.row 73 (hsC (putS s b))]) := by
  obtain ⟨PS, hPS⟩ : ∃ PS : Nat → Hs, ∀ j, PS j = putS s (b.take j) := ⟨_, fun j => rfl⟩
  refine rcalls Tryz.func77 rfl (by decide) ?_
  refine ⟨Nat, fun j => [(0, .ptr 0 0), (1, .roI .u8 (b.drop j))], fun j => [.row 73 (hsC (PS j))], fun j => j ≤ b.length, fun j => b.length - j,
    ⟨0, [0], Nat.zero_le _, ?_, ?_⟩, ?_⟩
  · have e0 : PS 0 = s := by rw [hPS, List.take_zero]; rfl
    show LeH 1 _ [0] [.row 73 (hsC (PS 0))]
    rw [e0]
    exact lehH1 rfl ho
  · exact ⟨.ptr 0 rfl, .same _ trivial, trivial⟩
  intro j hj
  have hj : j ≤ b.length := hj
  have hO : OkH (PS j) := by rw [hPS]; exact put_ok (b.take j) hs
  have hN : (PS j).n = s.n + j := by rw [hPS, put_n, List.length_take, Nat.min_eq_left hj]
  have hlen : (b.drop j).length = b.length - j := List.length_drop
  refine ⟨fun c => ?_, fun c => ?_⟩
  · have f1 : ((b.drop j).length : Int) > 0 := yes c
    have hc72 : ∀ x, x = 72 → hsC (PS j) x = int .i64 ((s.n + j : Nat) : Int) := fun x e => by rw [e, ← hN]; rfl
    have hat : ((s.n + j : Nat) : Int).tmod 64 = (((s.n + j) % 64 : Nat) : Int) := (Int.ofNat_tmod _ 64).symm
    have hlt : (s.n + j) % 64 < 64 := Nat.mod_lt _ (by decide)
    generalize ha : (s.n + j) % 64 = a at *
    obtain ⟨m, hm⟩ : ∃ m, min (b.drop j).length (64 - a) = m := ⟨_, rfl⟩
    obtain ⟨xs, hxs⟩ : ∃ xs, (b.drop j).take m = xs := ⟨_, rfl⟩
    have hxl : xs.length = m := by rw [← hxs, List.length_take]; omega
    have hm1 : 1 ≤ m := by omega
    have hm2 : a + m ≤ 64 := by omega
    have hxg : ∀ i, i < m → g0 xs i = (b.drop j).getD i 0 := fun i hi => by
      unfold g0
      rw [← hxs, List.getD_eq_getElem?_getD, List.getElem?_take_of_lt hi, List.getD_eq_getElem?_getD]
    have htk : b.take (j + m) = b.take j ++ xs := by rw [List.take_add, hxs]
    have hput : PS (j + m) = putS (PS j) xs := by rw [hPS, hPS, htk, put_app]
    have hSa : (PS j).n % 64 = a := by rw [hN]; exact ha
    have hlg := lay_get (ps := (PS j).ps) (k := a) (xs := xs) (by rw [hO.ps]; omega)
    refine ⟨by decide, ?_⟩
    rw [hc72]
    rotate_left
    · rfl
    refine ⟨by decide, ?_⟩
    rw [hat]
    refine ⟨⟨by omega, by omega⟩, by decide, ?_⟩
    refine ⟨⟨by show 0 + 8 + (a : Int).toNat * 1 + (64 - (a : Int).toNat) ≤ 73; omega, by omega⟩, hsC ⟨(PS j).ws, layS (PS j).ps a xs, (PS j).n⟩, fun i hi => ?_, ?_⟩
    · have e1 : 64 - (a : Int).toNat = 64 - a := by omega
      have e2 : ∀ k, k = 8 → addOff (0 + k) (a : Int).toNat 1 = 8 + a := fun k hk => by unfold addOff; omega
      rw [e1, hm, e2 _ rfl]
      exact cells_lay hO hxl hm2 hxg hi
    have hmm : min (b.drop j).length (64 - (a : Int).toNat) = m := by rw [← hm]; congr 1
    rw [hmm]
    have hd72 : ∀ x, x = 72 → hsC ⟨(PS j).ws, layS (PS j).ps a xs, (PS j).n⟩ x = int .i64 ((s.n + j : Nat) : Int) := fun x e => by rw [e, ← hN]; rfl
    refine ⟨⟨by omega, by omega⟩, ?_⟩
    refine ⟨by decide, ?_⟩
    rw [hd72]
    rotate_left
    · rfl
    have hwn : IntKind.i64.wrap (((s.n + j : Nat) : Int) + (m : Int)) = ((s.n + j + m : Nat) : Int) := by rw [w64 (by omega) (by omega)]; omega
    refine ⟨by decide, hsC ⟨(PS j).ws, layS (PS j).ps a xs, s.n + j + m⟩, fun i hi => ?_, ?_⟩
    · rw [hwn, cells_n (n := (PS j).n) hi]
      rfl
    have he72 : ∀ x, x = 72 → hsC ⟨(PS j).ws, layS (PS j).ps a xs, s.n + j + m⟩ x = int .i64 ((s.n + j + m : Nat) : Int) := fun x e => by rw [e]; rfl
    have hat2 : ((s.n + j + m : Nat) : Int).tmod 64 = (((s.n + j + m) % 64 : Nat) : Int) := (Int.ofNat_tmod _ 64).symm
    have hpl : (layS (PS j).ps a xs).length = 64 := by rw [lay_len (by rw [hO.ps]; omega)]; exact hO.ps
    have hdrop : List.drop (m : Int).toNat (List.take (b.drop j).length (b.drop j)) = b.drop (j + m) := by rw [List.take_length, Int.toNat_natCast, List.drop_drop]
    refine ⟨by decide, ?_⟩
    rw [he72]
    rotate_left
    · rfl
    refine ⟨by decide, ?_⟩
    rw [hat2]
    refine ⟨fun c => ?_, fun c => ?_⟩
    · have f2 : (((s.n + j + m) % 64 : Nat) : Int) = 0 := yes c
      have hfull : PS (j + m) = ⟨blockS (PS j).ws (layS (PS j).ps a xs), layS (PS j).ps a xs, s.n + j + m⟩ := by
        rw [hput, put_full hO (by rw [hSa]; omega), hSa, hN, hxl]
      have hblk := block_a (PS j).ws (layS (PS j).ps a xs) hO.ws hpl
      refine .inr ⟨12, by decide +kernel, ?_⟩
      refine ⟨_, rfl, ?_⟩
      refine ⟨_, rfl, ?_⟩
      refine ⟨_, rfl, ?_⟩
      refine ⟨_, rfl, ?_⟩
      refine ⟨_, ⟨by decide, rfl⟩, ?_⟩
      refine ⟨_, rfl, ?_⟩
      refine ⟨_, rfl, ?_⟩
      refine ⟨_, rfl, ?_⟩
      refine ⟨_, ⟨by decide, rfl⟩, ?_⟩
      refine ⟨_, ⟨[], _, (fun i hi => hsC_free _ _), (fun i hi => hsC_free _ _), hblk.args ⟨vAI hO.ws fun i (hi : i < 8) => (by show hsC _ (0 + i) = _; unfold hsC; rw [Nat.zero_add, if_pos hi]), vAI hpl fun i (hi : i < 64) => (by show hsC _ (0 + 8 + i) = _; unfold hsC; rw [if_neg (by omega), if_pos (by omega), show 0 + 8 + i - 8 = i by omega]), trivial⟩, by rintro r h ⟨rfl, rfl⟩; exact ⟨.inl rfl, rfl, rfl⟩⟩, ?_⟩
      refine ⟨_, rfl, ?_⟩
      refine ⟨_, rfl, ?_⟩
      refine ⟨by decide, fun i hi => rfl, hsC (PS (j + m)), fun i hi => ?_, ?_⟩
      · rw [hfull, cells_w (ws := (PS j).ws) hi]
        show _ = if 0 + 0 ≤ i ∧ i < 0 + 0 + 8 then int .u32 (g0 (blockS (PS j).ws (layS (PS j).ps a xs)) (i - (0 + 0))) else hsC ⟨(PS j).ws, layS (PS j).ps a xs, s.n + j + m⟩ i
        by_cases h8 : i < 8
        · rw [if_pos h8, if_pos (by omega)]; rfl
        · rw [if_neg h8, if_neg (by omega)]
      exact ⟨trivial, j + m, [0], by show j + m ≤ b.length; omega, by show b.length - (j + m) < b.length - j; omega, lehH1 rfl (.row _ _ _ _ (Nat.le_refl _) fun i hi => .same _ (hsC_free _ i)), ⟨.ptr 0 rfl, by rw [hdrop]; exact .same _ trivial, trivial⟩⟩
    · have f2 : ¬ (((s.n + j + m) % 64 : Nat) : Int) = 0 := no c
      have hfew : PS (j + m) = ⟨(PS j).ws, layS (PS j).ps a xs, s.n + j + m⟩ := by
        rw [hput, put_few xs hO (by rw [hSa]; omega), hSa, hN, hxl]
      exact ⟨trivial, j + m, [0], by show j + m ≤ b.length; omega, by show b.length - (j + m) < b.length - j; omega, lehH1 rfl (by rw [hfew]; exact .row _ _ _ _ (Nat.le_refl _) fun i hi => .same _ (hsC_free _ i)), ⟨.ptr 0 rfl, by rw [hdrop]; exact .same _ trivial, trivial⟩⟩
  · have f1 : ¬ ((b.drop j).length : Int) > 0 := no c
    have hT : PS j = putS s b := by rw [hPS, List.take_of_length_le (by omega)]
    exact ⟨[0], [.row 73 (hsC (putS s b))], .top, lehH1 rfl (by rw [← hT]; exact .row _ _ _ _ (Nat.le_refl _) fun i hi => .same _ (hsC_free _ i)), .top _, rfl, rfl⟩
end
end Go.Proofs.YtflclafbieokiaaGreatDoor.Sh

/-
  Digests, walked: the program's.
-/
set_option linter.unusedVariables false
set_option linter.unusedSectionVars false
set_option linter.unusedSimpArgs false
set_option maxRecDepth 10000
namespace Go.Proofs.YtflclafbieokiaaGreatDoor.Sh
open Go AL Dk

def hs0 : Hs := ⟨firstS, List.replicate 64 0, 0⟩
theorem hs0_ok : OkH hs0 := ⟨rfl, by show (List.replicate 64 (0 : Int)).length = 64; simp⟩
def szS (n : Nat) : Nat → List Int
  | 0 => []
  | j + 1 => szS n j ++ [IntKind.u8.wrap (((8 * n : Nat) : Int).fdiv (2 ^ min (((8 * (7 - j) : Nat) : Int)).toNat IntKind.i64.bits))]
theorem szS_len (n : Nat) : ∀ j, (szS n j).length = j
  | 0 => rfl
  | j + 1 => by unfold szS; rw [List.length_append, szS_len n j]; rfl
def padS (n : Nat) : List Int := 128 :: List.replicate ((119 - n % 64) % 64) 0 ++ szS n 8
theorem padS_len (n : Nat) : (padS n).length = 1 + (119 - n % 64) % 64 + 8 := by
  unfold padS
  rw [List.length_append, List.length_cons, List.length_replicate, szS_len]; omega
section
variable [Globs]

theorem lehH1' {h : List AO} {o0 p0 : AO} (ha : h[0]? = some p0) (l0 : LeO h [0] p0 o0) : LeH 0 h [0] [o0] := leh_relG (by decide) ⟨.inl ⟨_, ha, l0⟩, trivial⟩
theorem first_p : ACalls Tryz.prog 94 [] [] (fun r h => r = .aggI .u32 firstS ∧ h = []) := by
  refine rcalls Tryz.func94 rfl (by decide) ?_
  refine ⟨rfl, ?_⟩
  refine ⟨rfl, by show 0 + 8 ≤ 8; decide, ?_⟩
  refine ⟨by show 0 + 8 ≤ 8; decide, ?_⟩
  exact ⟨[], [], _, lehN _, leAI rfl, rfl, rfl⟩

set_option maxHeartbeats 1000000 in
theorem hnew_p : ACalls Tryz.prog 76 [] [] (fun r h => r = .ptr 0 0 ∧ h = [.row 73 (hsC hs0)]) := by
  refine rcalls Tryz.func76 rfl (by decide) ?_
  refine ⟨[], _, first_p, ?_⟩
  rintro r hh ⟨rfl, rfl⟩
  refine ⟨.inl rfl, ?_⟩
  refine ⟨rfl, ?_⟩
  refine ⟨[0], [.row 73 (hsC hs0)], .ptr 0 0, lehH1' (p0 := .lst ((List.range 73).map (hsC hs0))) rfl ?_, .ptr 0 rfl, rfl, rfl⟩
  show LeO _ [0] (.lst ((List.range 73).map (hsC hs0))) (.row ((List.range 73).map (hsC hs0)).length (hsC hs0))
  refine .rowL _ _ fun i hi => ?_
  have hi : i < 73 := hi
  rw [List.getD_eq_getElem?_getD, List.getElem?_map, List.getElem?_range hi]
  exact .same _ (hsC_free _ _)

set_option maxHeartbeats 1000000 in
theorem pad_p (n : Nat) (hn : n ≤ 1099511627776) : ACalls Tryz.prog 96 [int .i64 (n : Int)] [] (fun r h => r = .own 0 0 (padS n).length 1 ∧ h = [.ints .u8 (padS n)]) := by
  refine rcalls Tryz.func96 rfl (by decide) ?_
  refine ⟨fun c => ?_, fun c => ?_⟩
  · have := yes c; omega
  refine ⟨fun c => ?_, fun c => ?_⟩
  · have := yes c; omega
  have t1 : ((n : Nat) : Int).tmod 64 = ((n % 64 : Nat) : Int) := (Int.ofNat_tmod _ 64).symm
  have hlt : n % 64 < 64 := Nat.mod_lt _ (by decide)
  have t2 : IntKind.i64.wrap (119 - ((n % 64 : Nat) : Int)) = ((119 - n % 64 : Nat) : Int) := by rw [w64 (by omega) (by omega)]; omega
  have t3 : ((119 - n % 64 : Nat) : Int).tmod 64 = (((119 - n % 64) % 64 : Nat) : Int) := (Int.ofNat_tmod _ 64).symm
  have hz : (119 - n % 64) % 64 < 64 := Nat.mod_lt _ (by decide)
  have t4 : ∀ z : Nat, z < 64 → IntKind.i64.wrap (1 + (z : Int)) = ((z + 1 : Nat) : Int) := fun z hz => by rw [w64 (by omega) (by omega)]; omega
  have hpl := padS_len n
  have hpd : padS n = 128 :: List.replicate ((119 - n % 64) % 64) 0 ++ szS n 8 := rfl
  generalize padS n = PD at *
  refine ⟨by decide, ?_⟩
  refine ⟨by decide, ?_⟩
  rw [t1, t2, t3]
  generalize (119 - n % 64) % 64 = z at *
  have t4 := t4 z hz
  refine ⟨⟨by omega, by omega, by omega, by show _ * 1 ≤ _; omega⟩, rfl, ?_⟩
  rw [t4]
  refine ⟨⟨by omega, by omega⟩, by show 0 + 0 * 1 < (List.replicate ((z + 1 : Nat) : Int).toNat (0 : Int)).length; rw [List.length_replicate]; omega, ?_⟩
  have hset : (List.replicate ((z + 1 : Nat) : Int).toNat (0 : Int)).set (addOff 0 (Int.toNat 0) 1) 128 = 128 :: List.replicate z 0 := rfl
  rw [hset]
  have hsl := szS_len n
  have hs0 : szS n 0 = [] := rfl
  have hsu : ∀ j, szS n (j + 1) = szS n j ++ [IntKind.u8.wrap (((8 * n : Nat) : Int).fdiv (2 ^ min (((8 * (7 - j) : Nat) : Int)).toNat IntKind.i64.bits))] := fun j => rfl
  generalize szS n = SZ at *
  refine ⟨Nat, fun j => [(0, int .i64 (n : Int)), (4, .own 0 0 (z + 1 + j) 1), (5, int .i64 (7 - (j : Int)))], fun j => [.ints .u8 (128 :: List.replicate z 0 ++ SZ j)], fun j => j ≤ 8, fun j => 8 - j,
    ⟨0, [0], Nat.zero_le _, ?_, ?_⟩, ?_⟩
  · show LeH 0 _ [0] [.ints .u8 (128 :: List.replicate z 0 ++ SZ 0)]
    rw [hs0, List.append_nil]
    exact lehH1' rfl (leOint rfl)
  · exact ⟨.same _ trivial, leOwn rfl rfl (by omega), leI rfl, trivial⟩
  intro j hj
  have hj : j ≤ 8 := hj
  refine ⟨fun c => ?_, fun c => ?_⟩
  · have f1 : (0 : Int) ≤ 7 - (j : Int) := yes c
    have e8 : IntKind.i64.wrap (8 * (n : Int)) = ((8 * n : Nat) : Int) := by rw [w64 (by omega) (by omega)]; omega
    have ek : IntKind.u64.wrap (IntKind.i64.wrap (8 * (7 - (j : Int)))) = ((8 * (7 - j) : Nat) : Int) := by
      rw [w64 (by omega) (by omega)]
      have : j < 8 := by omega
      rw [show (8 * (7 - (j : Int))) = ((8 * (7 - j) : Nat) : Int) by omega]
      show ((8 * (7 - j) : Nat) : Int) % 18446744073709551616 = _
      omega
    refine ⟨by rw [ek]; exact Int.natCast_nonneg _, ?_⟩
    rw [e8, ek]
    have hlj : (128 :: List.replicate z 0 ++ SZ j).length = z + 1 + j := by rw [List.length_append, List.length_cons, List.length_replicate, hsl]
    refine ⟨hlj.symm, ⟨Nat.le_refl _, by show _ * 1 ≤ 140737488355328; rw [hlj]; show (z + 1 + j + 1) * 1 ≤ _; omega, ?_⟩⟩
    have hj7 : IntKind.i64.wrap (7 - (j : Int) - 1) = 7 - ((j + 1 : Nat) : Int) := by rw [w64 (by omega) (by omega)]; omega
    refine ⟨trivial, j + 1, [2], by show j + 1 ≤ 8; omega, by show 8 - (j + 1) < 8 - j; omega, ?_, ⟨.same _ trivial, leOwn rfl rfl ?_, leI hj7, trivial⟩⟩
    · show LeH 0 _ [2] [.ints .u8 (128 :: List.replicate z 0 ++ SZ (j + 1))]
      rw [hsu, ← List.append_assoc]
      exact leh1 rfl (leOint rfl)
    · show (128 :: List.replicate z 0 ++ SZ j).length + 1 = _
      omega
  · have f1 : ¬ (0 : Int) ≤ 7 - (j : Int) := no c
    obtain rfl : j = 8 := by omega
    refine ⟨[0], [.ints .u8 PD], .own 0 0 PD.length 1, ?_, leOwn rfl rfl (by omega), rfl, rfl⟩
    rw [hpd]
    exact lehH1' rfl (leOint rfl)
end
end Go.Proofs.YtflclafbieokiaaGreatDoor.Sh

/-
  Digests, walked: the program's Told and Sum.
-/
set_option linter.unusedVariables false
set_option linter.unusedSectionVars false
set_option linter.unusedSimpArgs false
set_option maxRecDepth 10000
namespace Go.Proofs.YtflclafbieokiaaGreatDoor.Sh
open Go AL Dk

def digB (ws : List Int) (i : Nat) : Int := IntKind.u8.wrap ((g0 ws (i / 4)).fdiv (2 ^ min (((8 * (3 - i % 4) : Nat) : Int)).toNat IntKind.u32.bits))
def digS (ws : List Int) : List Int := (List.range 32).map (digB ws)
theorem digS_len (ws : List Int) : (digS ws).length = 32 := by unfold digS; rw [List.length_map, List.length_range]
def digM (ws : List Int) (m : Nat) : List Int := (List.range 32).map fun i => if i < m then digB ws i else 0
theorem digM_len (ws : List Int) (m : Nat) : (digM ws m).length = 32 := by unfold digM; rw [List.length_map, List.length_range]
theorem digM_full (ws : List Int) : digM ws 32 = digS ws := List.map_congr_left fun i hi => if_pos (List.mem_range.1 hi)
theorem digM_set (ws : List Int) {m : Nat} (hm : m < 32) : (digM ws m).set m (digB ws m) = digM ws (m + 1) := by
  apply List.ext_getElem?
  intro i
  rw [List.getElem?_set, digM_len]
  unfold digM
  rw [List.getElem?_map, List.getElem?_map]
  by_cases hi : i < 32
  · rw [List.getElem?_range hi]
    by_cases e : m = i
    · subst e
      rw [if_pos rfl, if_pos hi]
      show some _ = some (if m < m + 1 then digB ws m else 0)
      rw [if_pos (by omega)]
    · rw [if_neg e]
      show some (if i < m then digB ws i else 0) = some (if i < m + 1 then digB ws i else 0)
      by_cases hl : i < m
      · rw [if_pos hl, if_pos (by omega)]
      · rw [if_neg hl, if_neg (by omega)]
  · rw [List.getElem?_eq_none (by rw [List.length_range]; omega), if_neg (by omega)]
    rfl
def toldS (s : Hs) : List Int := digS (putS s (padS s.n)).ws
def sumS (b : List Int) : List Int := toldS (putS hs0 b)
section
variable [Globs]

theorem hsC_flat (s : Hs) (i : Nat) : (hsC s i).flat := by unfold hsC; split <;> (try split) <;> trivial
theorem lehK {n : Nat} {h : List AO} {l : List Nat} {hs : List AO} (hn : n ≤ l.length) (hlow : ∀ i, i < n → l[i]? = some i) (hd : l.Nodup) (e : relH h l l hs) : LeH n h l hs :=
  ⟨(relH_at e).1, hn, hlow, hd, fun i j o hi ho => .inl ((relH_at e).2 i j o hi ho)⟩
theorem leAgI {h : List AO} {l : List Nat} {k : IntKind} {n : Nat} {f : Nat → AV} {xs : List Int} (hn : xs.length = n) (e : ∀ i, i < n → f i = int k (g0 xs i)) : LeV h l (.agg n f) (.aggI k xs) := by
  subst hn
  exact .iOfAgg k xs f e
theorem ren_hsC (f : Nat → Nat) (s : Hs) (i : Nat) : AV.ren f (hsC s i) = hsC s i := by unfold hsC; split <;> (try split) <;> rfl
theorem lst73 {h : List AO} {l : List Nat} (s : Hs) : LeO h l (.lst ((List.range 73).map (hsC s))) (.row 73 (hsC s)) := by
  show LeO _ l (.lst ((List.range 73).map (hsC s))) (.row ((List.range 73).map (hsC s)).length (hsC s))
  refine .rowL _ _ fun i hi => ?_
  have hi : i < 73 := hi
  rw [List.getD_eq_getElem?_getD, List.getElem?_map, List.getElem?_range hi]
  exact .same _ (hsC_free _ _)

set_option maxHeartbeats 4000000 in
theorem told_p (s : Hs) (hs : OkH s) (hn : s.n ≤ 1099511627776) : ACalls Tryz.prog 78 [.ptr 0 0] [.row 73 (hsC s)] (fun r h => r = .aggI .u8 (toldS s) ∧ h = [.row 73 (hsC s)]) := by
  refine rcalls Tryz.func78 rfl (by decide) ?_
  refine ⟨rfl, ?_⟩
  refine ⟨rfl, ?_⟩
  refine ⟨by decide, ?_⟩
  refine ⟨by decide, ?_⟩
  have h72 : ∀ x, x = 72 → hsC s x = int .i64 (s.n : Int) := fun x e => by rw [e]; rfl
  rw [h72]
  rotate_left
  · rfl
  refine ⟨[], _, (pad_p s.n hn), ?_⟩
  rintro r hh ⟨rfl, rfl⟩
  refine ⟨.inl rfl, ?_⟩
  have hpl := padS_len s.n
  have hw := hwrite_p s (padS s.n) (.lst ((List.range 73).map (hsC s))) (lst73 s) hs (by omega)
  have htk : List.take (padS s.n).length (List.drop 0 (padS s.n)) = padS s.n := List.take_length
  rw [← htk] at hw
  refine ⟨[3], _, by omega, hw, ?_⟩
  rintro r hh ⟨rfl, rfl⟩
  rw [htk]
  have hT : OkH (putS s (padS s.n)) := put_ok _ hs
  have htd : toldS s = digS (putS s (padS s.n)).ws := rfl
  generalize putS s (padS s.n) = T at *
  refine ⟨.inr ⟨trivial, by intro o ho; rw [List.mem_singleton.1 ho]; exact fun i hi => hsC_flat _ _⟩, ?_⟩
  refine ⟨by show 0 + 0 + 8 ≤ 73; decide, ?_⟩
  obtain ⟨W, hW⟩ : ∃ W, T.ws = W := ⟨_, rfl⟩
  have hWg : ∀ k, k < 8 → hsC T k = int .u32 (g0 W k) := fun k hk => by unfold hsC; rw [if_pos hk, hW]
  obtain ⟨D, hD⟩ : ∃ D : Nat → List Int, ∀ k, D k = digM W k := ⟨_, fun k => rfl⟩
  obtain ⟨B, hB⟩ : ∃ B : Nat → Int, ∀ k, B k = digB W k := ⟨_, fun k => rfl⟩
  have hDs : ∀ m, m < 32 → (D m).set m (B m) = D (m + 1) := fun m hm => by rw [hD, hD, hB]; exact digM_set W hm
  have hDl : ∀ m, (D m).length = 32 := fun m => by rw [hD]; exact digM_len _ _
  have hWl : W.length = 8 := by rw [← hW]; exact hT.ws
  refine ⟨Nat, fun k => [(2, .ptr 1 0), (3, .ptr 2 0), (21, .aggI .u32 W), (22, int .i64 k)], fun k => [.row 73 (hsC s), .ints .u8 (List.replicate 32 0), .ints .u8 (D (4 * k))], fun k => k ≤ 8, fun k => 8 - k,
    ⟨0, [0, 1, 2], Nat.zero_le _, ?_, ?_⟩, ?_⟩
  · show LeH 1 _ _ [.row 73 (hsC s), .ints .u8 (List.replicate 32 0), .ints .u8 (D (4 * 0))]
    rw [hD]
    exact lehK (by decide) (by decide) (by decide) ⟨⟨_, rfl, .row _ _ _ _ (Nat.le_refl _) fun i hi => .same _ (hsC_free _ i)⟩, ⟨_, rfl, leOint rfl⟩, ⟨_, rfl, leOint rfl⟩, trivial⟩
  · exact ⟨.ptr 0 rfl, .ptr 0 rfl, leAgI hWl fun i hi => by show AV.ren _ (hsC T _) = _; rw [ren_hsC]; exact (congrArg _ (by show 0 + 0 + i = i; omega)).trans (hWg i hi), leI rfl, trivial⟩
  intro k hk
  have hk : k ≤ 8 := hk
  refine ⟨fun c => ?_, fun c => ?_⟩
  · have f1 : (k : Int) < 8 := yes c
    refine ⟨⟨by omega, by omega⟩, by omega, ?_⟩
    obtain ⟨x, hx⟩ : ∃ x, g0 W k = x := ⟨_, rfl⟩
    refine ⟨Nat, fun m => [(2, .ptr 1 0), (3, .ptr 2 0), (21, .aggI .u32 W), (22, int .i64 k), (5, int .i64 k), (6, int .u32 (g0 W k)), (26, int .i64 m)], fun m => [.row 73 (hsC s), .ints .u8 (List.replicate 32 0), .ints .u8 (D (4 * k + m))], fun m => m ≤ 4, fun m => 4 - m,
      ⟨0, [0, 1, 2], Nat.zero_le _, ?_, ?_⟩, ?_⟩
    · exact lehK (n := 1) (by decide) (by decide) (by decide) ⟨⟨_, rfl, .row _ _ _ _ (Nat.le_refl _) fun i hi => .same _ (hsC_free _ i)⟩, ⟨_, rfl, leOint rfl⟩, ⟨_, rfl, leOint rfl⟩, trivial⟩
    · exact ⟨.ptr 0 rfl, .ptr 0 rfl, .same _ trivial, .same _ trivial, .same _ trivial, leI rfl, leI rfl, trivial⟩
    intro m hm
    have hm : m ≤ 4 := hm
    refine ⟨fun c => ?_, fun c => ?_⟩
    · have f2 : (m : Int) < 4 := yes c
      have ek : IntKind.u64.wrap (IntKind.i64.wrap (8 * IntKind.i64.wrap (3 - (m : Int)))) = ((8 * (3 - m) : Nat) : Int) := by
        rw [w64 (n := 3 - (m : Int)) (by omega) (by omega), w64 (by omega) (by omega), show (8 * (3 - (m : Int))) = ((8 * (3 - m) : Nat) : Int) by omega]
        show ((8 * (3 - m) : Nat) : Int) % 18446744073709551616 = _
        omega
      have ea : IntKind.i64.wrap (IntKind.i64.wrap (4 * (k : Int)) + (m : Int)) = ((4 * k + m : Nat) : Int) := by
        rw [w64 (n := 4 * (k : Int)) (by omega) (by omega), w64 (by omega) (by omega)]; omega
      have em : IntKind.i64.wrap ((m : Int) + 1) = ((m + 1 : Nat) : Int) := by rw [w64 (by omega) (by omega)]; omega
      have hBm : IntKind.u8.wrap ((g0 W k).fdiv (2 ^ min (((8 * (3 - m) : Nat) : Int)).toNat IntKind.u32.bits)) = B (4 * k + m) := by
        rw [hB]
        unfold digB
        rw [show (4 * k + m) / 4 = k by omega, show (4 * k + m) % 4 = m by omega]
      have hl := hDl (4 * k + m)
      have hst := hDs (4 * k + m) (by omega)
      refine ⟨by rw [ek]; exact Int.natCast_nonneg _, ?_⟩
      rw [ek, ea]
      refine ⟨⟨by omega, by omega⟩, ?_⟩
      have eo : addOff 0 ((4 * k + m : Nat) : Int).toNat 1 = 4 * k + m := by unfold addOff; omega
      refine ⟨by rw [eo]; omega, ?_⟩
      rw [eo, hBm, hst]
      exact ⟨trivial, m + 1, [0, 1, 2], by show m + 1 ≤ 4; omega, by show 4 - (m + 1) < 4 - m; omega, lehK (n := 1) (by decide) (by decide) (by decide) ⟨⟨_, rfl, .row _ _ _ _ (Nat.le_refl _) fun i hi => .same _ (hsC_free _ i)⟩, ⟨_, rfl, leOint rfl⟩, ⟨_, rfl, leOint rfl⟩, trivial⟩,
        ⟨.ptr 0 rfl, .ptr 0 rfl, .same _ trivial, .same _ trivial, .same _ trivial, .same _ trivial, leI em, trivial⟩⟩
    · have f2 : ¬ (m : Int) < 4 := no c
      obtain rfl : m = 4 := by omega
      have ek : IntKind.i64.wrap ((k : Int) + 1) = ((k + 1 : Nat) : Int) := by rw [w64 (by omega) (by omega)]; omega
      exact ⟨trivial, k + 1, [0, 1, 2], by show k + 1 ≤ 8; omega, by show 8 - (k + 1) < 8 - k; omega, lehK (n := 1) (by decide) (by decide) (by decide) ⟨⟨_, rfl, .row _ _ _ _ (Nat.le_refl _) fun i hi => .same _ (hsC_free _ i)⟩, ⟨_, rfl, leOint rfl⟩, ⟨_, rfl, leOint rfl⟩, trivial⟩,
        ⟨.ptr 0 rfl, .ptr 0 rfl, .same _ trivial, leI ek, trivial⟩⟩
  · have f1 : ¬ (k : Int) < 8 := no c
    obtain rfl : k = 8 := by omega
    have hl := hDl 32
    have hD32 : D (4 * 8) = digS W := by rw [hD]; exact digM_full W
    have hdl := digS_len W
    have htk2 : List.take 32 (List.drop 0 (D (4 * 8))) = digS W := by rw [hD32, List.drop_zero, List.take_of_length_le (by omega)]
    refine ⟨by show 0 + 32 ≤ (D 32).length; omega, ?_⟩
    have htk3 : List.take (30 + 2) (List.drop 0 (D (4 * 8))) = digS W := htk2
    rw [htk3]
    have hcat : List.take 0 (List.replicate 32 (0 : Int)) ++ digS W ++ List.drop (0 + (digS W).length) (List.replicate 32 (0 : Int)) = digS W := by rw [hdl]; simp
    refine ⟨hdl.symm, by show 0 + 32 ≤ (List.replicate 32 (0 : Int)).length; simp, ?_⟩
    rw [hcat]
    refine ⟨by show 0 + 32 ≤ (digS W).length; omega, ?_⟩
    refine ⟨[0], [.row 73 (hsC s)], .aggI .u8 (digS W), lehK (n := 1) (by decide) (by decide) (by decide) ⟨⟨_, rfl, .row _ _ _ _ (Nat.le_refl _) fun i hi => .same _ (hsC_free _ i)⟩, trivial⟩, leAI ?_, by rw [htd, hW], rfl⟩
    rw [List.drop_zero]
    exact List.take_of_length_le (Nat.le_of_eq hdl)

set_option maxHeartbeats 4000000 in
theorem sum_p (b : List Int) (hb : b.length ≤ 1099511627776) : ACalls Tryz.prog 62 [.roI .u8 b] [] (fun r h => r = .aggI .u8 (sumS b) ∧ h = []) := by
  refine rcalls Tryz.func62 rfl (by decide) ?_
  refine ⟨rfl, ?_⟩
  refine ⟨[], _, hnew_p, ?_⟩
  rintro r hh ⟨rfl, rfl⟩
  refine ⟨.inl rfl, ?_⟩
  refine ⟨[1], _, (fun i hi => by simp only [ren_hsC]; exact hsC_free _ i), hwrite_p hs0 b _ (.row _ _ _ _ (Nat.le_refl _) fun i hi => by simp only [ren_hsC]; exact .same _ (hsC_free _ i)) hs0_ok (by show 0 + b.length ≤ _; omega), ?_⟩
  rintro r hh ⟨rfl, rfl⟩
  have hT : OkH (putS hs0 b) := put_ok _ hs0_ok
  have hN : (putS hs0 b).n = b.length := by rw [put_n]; exact Nat.zero_add _
  have hS : sumS b = toldS (putS hs0 b) := rfl
  generalize putS hs0 b = T at *
  refine ⟨.inr ⟨trivial, by intro o ho; rw [List.mem_singleton.1 ho]; exact fun i hi => hsC_flat _ _⟩, ?_⟩
  refine ⟨[1], _, (fun i hi => by simp only [ren_hsC]; exact hsC_free _ i), at_h (by simp only [ren_hsC]) (told_p T hT (by omega)), ?_⟩
  rintro r hh ⟨rfl, rfl⟩
  rw [← hS]
  refine ⟨.inr ⟨trivial, by intro o ho; rw [List.mem_singleton.1 ho]; exact fun i hi => hsC_flat _ _⟩, ?_⟩
  have hdl : (sumS b).length = 32 := by rw [hS]; exact digS_len _
  have hcat : List.take 0 (List.replicate 32 (0 : Int)) ++ sumS b ++ List.drop (0 + (sumS b).length) (List.replicate 32 (0 : Int)) = sumS b := by rw [hdl]; simp
  refine ⟨hdl.symm, by show 0 + 32 ≤ (List.replicate 32 (0 : Int)).length; simp, ?_⟩
  rw [hcat]
  refine ⟨by show 0 + 32 ≤ (sumS b).length; omega, ?_⟩
  refine ⟨[], [], .aggI .u8 (sumS b), lehN _, leAI ?_, rfl, rfl⟩
  rw [List.drop_zero]
  exact List.take_of_length_le (Nat.le_of_eq hdl)
end
end Go.Proofs.YtflclafbieokiaaGreatDoor.Sh

/-
  Rounds, schedule and blocks of SHA-256, walked: the document's.
-/
set_option linter.unusedVariables false
set_option linter.unusedSectionVars false
set_option linter.unusedSimpArgs false
set_option maxRecDepth 10000
namespace Go.Proofs.YtflclafbieokiaaGreatDoor.Sh
open Go AL Dk

theorem or_add {k : Nat} (a y : Nat) (hk : k ≤ 32) (ha : 2 ^ k * a < 2 ^ 32) (hy : y < 2 ^ k) : orS ((2 ^ k * a : Nat) : Int) (y : Int) = ((2 ^ k * a + y : Nat) : Int) := by
  have hy2 : y < 2 ^ 32 := Nat.lt_of_lt_of_le hy (Nat.pow_le_pow_right (by decide) hk)
  rw [or_bv]
  congr 1
  rw [BitVec.toNat_or]
  show (BitVec.ofInt 32 ((2 ^ k * a : Nat) : Int)).toNat ||| (BitVec.ofInt 32 (y : Int)).toNat = _
  rw [BitVec.ofInt_natCast, BitVec.ofInt_natCast, BitVec.toNat_ofNat, BitVec.toNat_ofNat, Nat.mod_eq_of_lt ha, Nat.mod_eq_of_lt hy2, Nat.two_pow_add_eq_or_of_lt hy]
def refW (b : List Int) (t : Nat) : Nat → Int
  | 0 => 0
  | i + 1 => w32 (w32 (256 * refW b t i) + w32 (g0 b (4 * t + i)))
theorem w32_of {n : Nat} (h : n < 4294967296) : w32 (n : Int) = (n : Int) := by
  show IntKind.u32.wrap _ = _
  rw [IntKind.wrap_u32]; omega
theorem refW_word (b : List Int) (t : Nat) (h : ∀ i, 0 ≤ g0 b i ∧ g0 b i < 256) : refW b t 4 = wordS b t := by
  obtain ⟨x0, e0⟩ : ∃ n : Nat, g0 b (4 * t + 0) = n := ⟨(g0 b (4 * t + 0)).toNat, by have := h (4 * t + 0); omega⟩
  obtain ⟨x1, e1⟩ : ∃ n : Nat, g0 b (4 * t + 1) = n := ⟨(g0 b (4 * t + 1)).toNat, by have := h (4 * t + 1); omega⟩
  obtain ⟨x2, e2⟩ : ∃ n : Nat, g0 b (4 * t + 2) = n := ⟨(g0 b (4 * t + 2)).toNat, by have := h (4 * t + 2); omega⟩
  obtain ⟨x3, e3⟩ : ∃ n : Nat, g0 b (4 * t + 3) = n := ⟨(g0 b (4 * t + 3)).toNat, by have := h (4 * t + 3); omega⟩
  have h0 := h (4 * t + 0)
  have h1 := h (4 * t + 1)
  have h2 := h (4 * t + 2)
  have h3 := h (4 * t + 3)
  rw [e0] at h0; rw [e1] at h1; rw [e2] at h2; rw [e3] at h3
  have l : refW b t 4 = ((16777216 * x0 + 65536 * x1 + 256 * x2 + x3 : Nat) : Int) := by
    show w32 (w32 (256 * w32 (w32 (256 * w32 (w32 (256 * w32 (w32 (256 * 0) + w32 (g0 b (4 * t + 0)))) + w32 (g0 b (4 * t + 1)))) + w32 (g0 b (4 * t + 2)))) + w32 (g0 b (4 * t + 3))) = _
    rw [e0, e1, e2, e3]
    simp only [w32, IntKind.wrap_u32]
    omega
  rw [l]
  unfold wordS
  rw [show 4 * t = 4 * t + 0 from rfl, e0]
  show _ = orS (orS (orS (w32 (w32 (x0 : Int) * 2 ^ 24)) (w32 (w32 (g0 b (4 * t + 1)) * 2 ^ 16))) (w32 (w32 (g0 b (4 * t + 2)) * 2 ^ 8))) (w32 (g0 b (4 * t + 3)))
  rw [e1, e2, e3]
  have s0 : w32 (w32 (x0 : Int) * 2 ^ 24) = ((2 ^ 24 * x0 : Nat) : Int) := by simp only [w32, IntKind.wrap_u32]; omega
  have s1 : w32 (w32 (x1 : Int) * 2 ^ 16) = ((2 ^ 16 * x1 : Nat) : Int) := by simp only [w32, IntKind.wrap_u32]; omega
  have s2 : w32 (w32 (x2 : Int) * 2 ^ 8) = ((2 ^ 8 * x2 : Nat) : Int) := by simp only [w32, IntKind.wrap_u32]; omega
  have s3 : w32 (x3 : Int) = (x3 : Int) := by simp only [w32, IntKind.wrap_u32]; omega
  rw [s0, s1, s2, s3, or_add x0 (2 ^ 16 * x1) (by decide) (by omega) (by omega)]
  rw [show 2 ^ 24 * x0 + 2 ^ 16 * x1 = 2 ^ 16 * (2 ^ 8 * x0 + x1) by omega, or_add (2 ^ 8 * x0 + x1) (2 ^ 8 * x2) (by decide) (by omega) (by omega)]
  rw [show 2 ^ 16 * (2 ^ 8 * x0 + x1) + 2 ^ 8 * x2 = 2 ^ 8 * (2 ^ 8 * (2 ^ 8 * x0 + x1) + x2) by omega, or_add (2 ^ 8 * (2 ^ 8 * x0 + x1) + x2) x3 (by decide) (by omega) (by omega)]
section
variable [Globs]

set_option maxHeartbeats 1000000 in
theorem round_r (h : List Int) (k w : Int) (hl : h.length = 8) : ACalls Tryz.prog 103 [.aggI .u32 h, int .u32 k, int .u32 w] [] (fun r hh => r = .aggI .u32 (roundS h k w) ∧ hh = []) := by
  obtain ⟨a, b, c, d, e, f, g, j, rfl⟩ := len8 hl
  refine rcalls Tryz.func103 rfl (by decide) ?_
  refine ⟨rfl, ?_⟩
  refine ⟨rfl, ?_⟩
  refine .inr ⟨18, by decide +kernel, ?_⟩
  refine ⟨_, ⟨⟨by decide, by decide⟩, rfl⟩, ?_⟩
  refine ⟨_, ⟨by show 7 < 8; decide, rfl⟩, ?_⟩
  refine ⟨_, ⟨⟨by decide, by decide⟩, rfl⟩, ?_⟩
  refine ⟨_, ⟨by show 4 < 8; decide, rfl⟩, ?_⟩
  refine ⟨_, ⟨[], _, big1_r e, by rintro r h ⟨rfl, rfl⟩; exact ⟨.inl rfl, rfl, rfl⟩⟩, ?_⟩
  refine ⟨_, rfl, ?_⟩
  refine ⟨_, ⟨⟨by decide, by decide⟩, rfl⟩, ?_⟩
  refine ⟨_, ⟨by show 4 < 8; decide, rfl⟩, ?_⟩
  refine ⟨_, ⟨⟨by decide, by decide⟩, rfl⟩, ?_⟩
  refine ⟨_, ⟨by show 5 < 8; decide, rfl⟩, ?_⟩
  refine ⟨_, ⟨⟨by decide, by decide⟩, rfl⟩, ?_⟩
  refine ⟨_, ⟨by show 6 < 8; decide, rfl⟩, ?_⟩
  refine ⟨_, ⟨[], _, ch_r e f g, by rintro r h ⟨rfl, rfl⟩; exact ⟨.inl rfl, rfl, rfl⟩⟩, ?_⟩
  refine ⟨_, rfl, ?_⟩
  refine ⟨_, rfl, ?_⟩
  refine ⟨_, rfl, ?_⟩
  refine ⟨_, rfl, ?_⟩
  refine ⟨_, rfl, ?_⟩
  refine .inr ⟨11, by decide +kernel, ?_⟩
  refine ⟨_, ⟨⟨by decide, by decide⟩, rfl⟩, ?_⟩
  refine ⟨_, ⟨by show 0 < 8; decide, rfl⟩, ?_⟩
  refine ⟨_, ⟨[], _, big0_r a, by rintro r h ⟨rfl, rfl⟩; exact ⟨.inl rfl, rfl, rfl⟩⟩, ?_⟩
  refine ⟨_, ⟨⟨by decide, by decide⟩, rfl⟩, ?_⟩
  refine ⟨_, ⟨by show 0 < 8; decide, rfl⟩, ?_⟩
  refine ⟨_, ⟨⟨by decide, by decide⟩, rfl⟩, ?_⟩
  refine ⟨_, ⟨by show 1 < 8; decide, rfl⟩, ?_⟩
  refine ⟨_, ⟨⟨by decide, by decide⟩, rfl⟩, ?_⟩
  refine ⟨_, ⟨by show 2 < 8; decide, rfl⟩, ?_⟩
  refine ⟨_, ⟨[], _, maj_r a b c, by rintro r h ⟨rfl, rfl⟩; exact ⟨.inl rfl, rfl, rfl⟩⟩, ?_⟩
  refine ⟨_, rfl, ?_⟩
  refine ⟨⟨by decide, by decide⟩, by show 0 < 8; decide, ?_⟩
  refine ⟨⟨by decide, by decide⟩, by show 1 < 8; decide, ?_⟩
  refine ⟨⟨by decide, by decide⟩, by show 2 < 8; decide, ?_⟩
  refine ⟨⟨by decide, by decide⟩, by show 3 < 8; decide, ?_⟩
  refine ⟨⟨by decide, by decide⟩, by show 4 < 8; decide, ?_⟩
  refine ⟨⟨by decide, by decide⟩, by show 5 < 8; decide, ?_⟩
  refine ⟨⟨by decide, by decide⟩, by show 6 < 8; decide, ?_⟩
  refine ⟨rfl, by show 0 + 8 ≤ 8; decide, ?_⟩
  refine ⟨by show 0 + 8 ≤ 8; decide, ?_⟩
  exact ⟨[], [], _, lehN _, leAI rfl, rfl, rfl⟩

theorem consts_r : ACalls Tryz.prog 102 [] [] (fun r h => r = .aggI .u32 tabS ∧ h = []) := by
  refine rcalls Tryz.func102 rfl (by decide) ?_
  refine ⟨rfl, ?_⟩
  refine ⟨rfl, by show 0 + 64 ≤ 64; decide, ?_⟩
  refine ⟨by show 0 + 64 ≤ 64; decide, ?_⟩
  exact ⟨[], [], _, lehN _, leAI rfl, rfl, rfl⟩

set_option maxHeartbeats 4000000 in
theorem sched_r (b : List Int) (hb : b.length = 64) (hr : ∀ i, 0 ≤ g0 b i ∧ g0 b i < 256) : ACalls Tryz.prog 101 [.aggI .u8 b] [] (fun r hh => r = .aggI .u32 (schS b 64) ∧ hh = []) := by
  have hS := schS_len b
  have hwo : ∀ t, refW b t 4 = wordS b t := fun t => refW_word b t hr
  have hw0 : ∀ t, refW b t 0 = 0 := fun t => rfl
  have hwu : ∀ t i, refW b t (i + 1) = w32 (w32 (256 * refW b t i) + w32 (g0 b (4 * t + i))) := fun t i => rfl
  generalize refW b = RW at *
  have hsu : ∀ t, schS b (t + 1) = (schS b t).set t (if t < 16 then wordS b t else nextS (schS b t) t) := fun t => rfl
  have h0 : schS b 0 = List.replicate 64 0 := rfl
  have hz : ∀ t u, t ≤ 16 → t ≤ u → u < 64 → g0 (schS b t) u = 0 := by
    intro t
    induction t with
    | zero =>
      intro u _ _ hu
      rw [h0]
      unfold g0
      rw [List.getD_eq_getElem?_getD, List.getElem?_replicate, if_pos hu]
      rfl
    | succ t ih =>
      intro u h1 h2 hu
      have := ih u (by omega) (by omega) hu
      unfold g0 at this ⊢
      rw [hsu, List.getD_eq_getElem?_getD, List.getElem?_set_ne (by omega), ← List.getD_eq_getElem?_getD]
      exact this
  generalize schS b = SC at *
  refine rcalls Tryz.func101 rfl (by decide) ?_
  refine ⟨hb.symm, ?_⟩
  refine ⟨rfl, ?_⟩
  refine ⟨rfl, ?_⟩
  refine ⟨Nat, fun t => [(1, .ptr 0 0), (2, .ptr 1 0), (3, .ptr 2 0), (4, int .i64 (t : Int))], fun t => [.ints .u8 b, .ints .u32 (List.replicate 64 0), .ints .u32 (SC t)], fun t => t ≤ 16, fun t => 16 - t,
    ⟨0, [0, 1, 2], Nat.zero_le _, ?_, ?_⟩, ?_⟩
  · show LeH 0 _ [0, 1, 2] [.ints .u8 b, .ints .u32 (List.replicate 64 0), .ints .u32 (SC 0)]
    rw [h0]
    exact leh_relG (by decide) ⟨.inl ⟨_, rfl, leOint rfl⟩, .inl ⟨_, rfl, leOint rfl⟩, .inl ⟨_, rfl, leOint rfl⟩, trivial⟩
  · exact ⟨.ptr 0 rfl, .ptr 0 rfl, .ptr 0 rfl, leI rfl, trivial⟩
  intro t ht
  have ht : t ≤ 16 := ht
  have e1 : IntKind.i64.wrap ((t : Int) + 1) = ((t + 1 : Nat) : Int) := by rw [w64 (by omega) (by omega)]; omega
  have hSt := hS t
  refine ⟨fun c => ?_, fun c => ?_⟩
  · have f1 : (t : Int) < 16 := yes c
    have hsu := hsu t
    rw [if_pos (by omega)] at hsu
    have hzt := hz t t ht (Nat.le_refl _) (by omega)
    have w4 : IntKind.i64.wrap (4 * (t : Int)) = ((4 * t : Nat) : Int) := by rw [w64 (by omega) (by omega)]; omega
    refine ⟨Nat, fun i => [(1, .ptr 0 0), (2, .ptr 1 0), (3, .ptr 2 0), (4, int .i64 (t : Int)), (5, int .i64 (i : Int))], fun i => [.ints .u8 b, .ints .u32 (List.replicate 64 0), .ints .u32 ((SC t).set t (RW t i))], fun i => i ≤ 4, fun i => 4 - i,
      ⟨0, [0, 1, 2], Nat.zero_le _, ?_, ?_⟩, ?_⟩
    · show LeH 0 _ [0, 1, 2] [.ints .u8 b, .ints .u32 (List.replicate 64 0), .ints .u32 ((SC t).set t (RW t 0))]
      have : (SC t).set t (RW t 0) = SC t := by
        rw [hw0, ← hzt]
        apply List.ext_getElem?
        intro i
        rw [List.getElem?_set]
        by_cases e : t = i
        · subst e
          rw [if_pos rfl, if_pos (by omega)]
          unfold g0
          rw [List.getD_eq_getElem?_getD, List.getElem?_eq_getElem (by omega)]
          rfl
        · rw [if_neg e]
      rw [this]
      exact leh_relG (by decide) ⟨.inl ⟨_, rfl, leOint rfl⟩, .inl ⟨_, rfl, leOint rfl⟩, .inl ⟨_, rfl, leOint rfl⟩, trivial⟩
    · exact ⟨.ptr 0 rfl, .ptr 0 rfl, .ptr 0 rfl, .same _ trivial, leI rfl, trivial⟩
    intro i hi
    have hi : i ≤ 4 := hi
    have e2 : IntKind.i64.wrap ((i : Int) + 1) = ((i + 1 : Nat) : Int) := by rw [w64 (by omega) (by omega)]; omega
    refine ⟨fun c => ?_, fun c => ?_⟩
    · have f2 : (i : Int) < 4 := yes c
      have hwu := hwu t i
      have w5 : IntKind.i64.wrap (IntKind.i64.wrap (4 * (t : Int)) + (i : Int)) = ((4 * t + i : Nat) : Int) := by rw [w4, w64 (by omega) (by omega)]; omega
      refine .inr ⟨13, by decide +kernel, ?_⟩
      refine ⟨_, rfl, ?_⟩
      refine ⟨_, rfl, ?_⟩
      refine ⟨_, ⟨⟨by omega, by omega⟩, rfl⟩, ?_⟩
      refine ⟨_, ⟨by show 0 + (t : Int).toNat * 1 < ((SC t).set t (RW t i)).length; rw [List.length_set]; omega, rfl⟩, ?_⟩
      refine ⟨_, rfl, ?_⟩
      refine ⟨_, rfl, ?_⟩
      refine ⟨_, rfl, ?_⟩
      refine ⟨_, rfl, ?_⟩
      refine ⟨_, rfl, ?_⟩
      refine ⟨_, ⟨⟨by rw [w5]; omega, by rw [w5]; omega⟩, rfl⟩, ?_⟩
      refine ⟨_, ⟨by rw [w5]; show 0 + ((4 * t + i : Nat) : Int).toNat * 1 < b.length; omega, rfl⟩, ?_⟩
      refine ⟨_, rfl, ?_⟩
      refine ⟨_, rfl, ?_⟩
      refine ⟨⟨by omega, by omega⟩, by show 0 + (t : Int).toNat * 1 < ((SC t).set t (RW t i)).length; rw [List.length_set]; omega, ?_⟩
      refine ⟨trivial, i + 1, [0, 1, 2], by show i + 1 ≤ 4; omega, by show 4 - (i + 1) < 4 - i; omega,
        leh_relG (by decide) ⟨.inl ⟨_, rfl, leOint rfl⟩, .inl ⟨_, rfl, leOint rfl⟩, .inl ⟨_, rfl, leOint ?_⟩, trivial⟩, ⟨.ptr 0 rfl, .ptr 0 rfl, .ptr 0 rfl, .same _ trivial, leI e2, trivial⟩⟩
      have hix : ∀ k : Nat, addOff 0 ((k : Int)).toNat 1 = k := fun k => by unfold addOff; omega
      have hg : ((SC t).set t (RW t i)).getD t 0 = RW t i := by
        rw [List.getD_eq_getElem?_getD, List.getElem?_set, if_pos rfl, if_pos (by omega)]; rfl
      rw [hwu, w5, hix t, hix (4 * t + i), hg, List.set_set]
      rfl
    · have f2 : ¬ (i : Int) < 4 := no c
      obtain rfl : i = 4 := by omega
      refine ⟨trivial, t + 1, [0, 1, 2], by show t + 1 ≤ 16; omega, by show 16 - (t + 1) < 16 - t; omega,
        leh_relG (by decide) ⟨.inl ⟨_, rfl, leOint rfl⟩, .inl ⟨_, rfl, leOint rfl⟩, .inl ⟨_, rfl, leOint ?_⟩, trivial⟩, ⟨.ptr 0 rfl, .ptr 0 rfl, .ptr 0 rfl, leI e1, trivial⟩⟩
      rw [hsu, hwo]
  · have f1 : ¬ (t : Int) < 16 := no c
    obtain rfl : t = 16 := by omega
    refine ⟨Nat, fun t => [(1, .ptr 0 0), (2, .ptr 1 0), (3, .ptr 2 0), (6, int .i64 (t : Int))], fun t => [.ints .u8 b, .ints .u32 (List.replicate 64 0), .ints .u32 (SC t)], fun t => 16 ≤ t ∧ t ≤ 64, fun t => 64 - t,
      ⟨16, [0, 1, 2], ⟨Nat.le_refl _, by decide⟩, ?_, ?_⟩, ?_⟩
    · exact leh_relG (by decide) ⟨.inl ⟨_, rfl, leOint rfl⟩, .inl ⟨_, rfl, leOint rfl⟩, .inl ⟨_, rfl, leOint rfl⟩, trivial⟩
    · exact ⟨.ptr 0 rfl, .ptr 0 rfl, .ptr 0 rfl, leI rfl, trivial⟩
    rintro t ⟨ht1, ht⟩
    have e1 : IntKind.i64.wrap ((t : Int) + 1) = ((t + 1 : Nat) : Int) := by rw [w64 (by omega) (by omega)]; omega
    have hSt := hS t
    refine ⟨fun c => ?_, fun c => ?_⟩
    · have f2 : (t : Int) < 64 := yes c
      have hsu := hsu t
      rw [if_neg (by omega)] at hsu
      have v2 : IntKind.i64.wrap ((t : Int) - 2) = ((t - 2 : Nat) : Int) := by rw [w64 (by omega) (by omega)]; omega
      have v7 : IntKind.i64.wrap ((t : Int) - 7) = ((t - 7 : Nat) : Int) := by rw [w64 (by omega) (by omega)]; omega
      have v15 : IntKind.i64.wrap ((t : Int) - 15) = ((t - 15 : Nat) : Int) := by rw [w64 (by omega) (by omega)]; omega
      have v16 : IntKind.i64.wrap ((t : Int) - 16) = ((t - 16 : Nat) : Int) := by rw [w64 (by omega) (by omega)]; omega
      refine .inr ⟨22, by decide +kernel, ?_⟩
      refine ⟨_, rfl, ?_⟩
      refine ⟨_, rfl, ?_⟩
      refine ⟨_, rfl, ?_⟩
      refine ⟨_, ⟨⟨by rw [v2]; omega, by rw [v2]; omega⟩, rfl⟩, ?_⟩
      refine ⟨_, ⟨by rw [v2]; show 0 + ((t - 2 : Nat) : Int).toNat * 1 < (SC t).length; omega, rfl⟩, ?_⟩
      refine ⟨_, ⟨[], _, small1_r _, by rintro r h ⟨rfl, rfl⟩; exact ⟨.inl rfl, rfl, rfl⟩⟩, ?_⟩
      refine ⟨_, rfl, ?_⟩
      refine ⟨_, rfl, ?_⟩
      refine ⟨_, ⟨⟨by rw [v7]; omega, by rw [v7]; omega⟩, rfl⟩, ?_⟩
      refine ⟨_, ⟨by rw [v7]; show 0 + ((t - 7 : Nat) : Int).toNat * 1 < (SC t).length; omega, rfl⟩, ?_⟩
      refine ⟨_, rfl, ?_⟩
      refine ⟨_, rfl, ?_⟩
      refine ⟨_, rfl, ?_⟩
      refine ⟨_, ⟨⟨by rw [v15]; omega, by rw [v15]; omega⟩, rfl⟩, ?_⟩
      refine ⟨_, ⟨by rw [v15]; show 0 + ((t - 15 : Nat) : Int).toNat * 1 < (SC t).length; omega, rfl⟩, ?_⟩
      refine ⟨_, ⟨[], _, small0_r _, by rintro r h ⟨rfl, rfl⟩; exact ⟨.inl rfl, rfl, rfl⟩⟩, ?_⟩
      refine ⟨_, rfl, ?_⟩
      refine ⟨_, rfl, ?_⟩
      refine ⟨_, rfl, ?_⟩
      refine ⟨_, ⟨⟨by rw [v16]; omega, by rw [v16]; omega⟩, rfl⟩, ?_⟩
      refine ⟨_, ⟨by rw [v16]; show 0 + ((t - 16 : Nat) : Int).toNat * 1 < (SC t).length; omega, rfl⟩, ?_⟩
      refine ⟨_, rfl, ?_⟩
      refine ⟨⟨by omega, by omega⟩, by show 0 + (t : Int).toNat * 1 < (SC t).length; omega, ?_⟩
      refine ⟨trivial, t + 1, [0, 1, 2], ⟨by omega, by omega⟩, by show 64 - (t + 1) < 64 - t; omega,
        leh_relG (by decide) ⟨.inl ⟨_, rfl, leOint rfl⟩, .inl ⟨_, rfl, leOint rfl⟩, .inl ⟨_, rfl, leOint ?_⟩, trivial⟩, ⟨.ptr 0 rfl, .ptr 0 rfl, .ptr 0 rfl, leI e1, trivial⟩⟩
      have hix : ∀ k : Nat, addOff 0 ((k : Int)).toNat 1 = k := fun k => by unfold addOff; omega
      rw [hsu, v2, v7, v15, v16, hix (t - 2), hix (t - 7), hix (t - 15), hix (t - 16), hix t]
      rfl
    · have f2 : ¬ (t : Int) < 64 := no c
      obtain rfl : t = 64 := by omega
      refine ⟨by rw [hSt]; decide, ?_⟩
      refine ⟨by simp [hSt], by show 0 + 64 ≤ 64; decide, ?_⟩
      refine ⟨by simp [hSt], ?_⟩
      refine ⟨[], [], _, lehN _, leAI ?_, rfl, rfl⟩
      simp [hSt, List.take_of_length_le]

end
end Go.Proofs.YtflclafbieokiaaGreatDoor.Sh

/-
  Blocks and sums of SHA-256, walked: the document's.
-/
set_option linter.unusedVariables false
set_option linter.unusedSectionVars false
set_option linter.unusedSimpArgs false
set_option maxRecDepth 10000
namespace Go.Proofs.YtflclafbieokiaaGreatDoor.Sh
open Go AL Dk
section
variable [Globs]

set_option maxHeartbeats 4000000 in
theorem block_r (h b : List Int) (hh : h.length = 8) (hb : b.length = 64) (hr : ∀ i, 0 ≤ g0 b i ∧ g0 b i < 256) : ACalls Tryz.prog 82 [.aggI .u32 h, .aggI .u8 b] [] (fun r hp => r = .aggI .u32 (blockS h b) ∧ hp = []) := by
  have hsch := sched_r b hb hr
  have hSl := schS_len b 64
  unfold blockS
  generalize schS b 64 = W at *
  have hR := rndS_len hh W
  have hru : ∀ t, rndS h W (t + 1) = roundS (rndS h W t) (g0 tabS t) (g0 W t) := fun t => rfl
  have hr0 : rndS h W 0 = h := rfl
  have hround := fun t k w => round_r (rndS h W t) k w (hR t)
  generalize rndS h W = RS at *
  have hAl := fun i => addS_len (hR 64) h i
  have hau : ∀ i, addS (RS 64) h (i + 1) = (addS (RS 64) h i).set i (w32 (g0 (addS (RS 64) h i) i + g0 h i)) := fun i => rfl
  have ha0 : addS (RS 64) h 0 = RS 64 := rfl
  generalize addS (RS 64) h = AS at *
  refine rcalls Tryz.func82 rfl (by decide) ?_
  have hsch' : ∀ X, X = b → ACalls Tryz.prog 101 [.aggI .u8 X] [] (fun r hh => r = .aggI .u32 W ∧ hh = []) := fun X e => by rw [e]; exact hsch
  have hround' : ∀ t k w X, X = RS t → ACalls Tryz.prog 103 [.aggI .u32 X, int .u32 k, int .u32 w] [] (fun r hh => r = .aggI .u32 (roundS (RS t) k w) ∧ hh = []) := fun t k w X e => by rw [e]; exact hround t k w
  refine ⟨hh.symm, ?_⟩
  refine ⟨hb.symm, ?_⟩
  refine ⟨rfl, ?_⟩
  refine ⟨by show 0 + 64 ≤ b.length; omega, ?_⟩
  refine ⟨[], _, hsch' _ (by simp [hb, List.take_of_length_le]), ?_⟩
  rintro r hh ⟨rfl, rfl⟩
  refine ⟨.inl rfl, ?_⟩
  refine ⟨rfl, ?_⟩
  have hcw : List.take 0 (List.replicate 64 (0 : Int)) ++ W ++ List.drop (0 + W.length) (List.replicate 64 (0 : Int)) = W := by rw [hSl]; simp
  refine ⟨hSl.symm, by show 0 + 64 ≤ 64; decide, ?_⟩
  rw [hcw]
  refine ⟨[], _, consts_r, ?_⟩
  rintro r hh ⟨rfl, rfl⟩
  refine ⟨.inl rfl, ?_⟩
  refine ⟨rfl, ?_⟩
  have hTl : tabS.length = 64 := rfl
  have hct : List.take 0 (List.replicate 64 (0 : Int)) ++ tabS ++ List.drop (0 + tabS.length) (List.replicate 64 (0 : Int)) = tabS := by rw [hTl]; simp
  generalize tabS = TB at *
  refine ⟨hTl.symm, by show 0 + 64 ≤ 64; decide, ?_⟩
  rw [hct]
  refine ⟨by show 0 + 8 ≤ h.length; omega, ?_⟩
  refine ⟨rfl, ?_⟩
  have hch : List.take 0 (List.replicate 8 (0 : Int)) ++ List.take (6 + 2) (List.drop 0 h) ++ List.drop (0 + (List.take (6 + 2) (List.drop 0 h)).length) (List.replicate 8 (0 : Int)) = h := by simp [hh, List.take_of_length_le]
  refine ⟨by simp [hh], by show 0 + 8 ≤ 8; decide, ?_⟩
  rw [hch]
  refine ⟨Nat, fun t => [(2, .ptr 0 0), (4, .ptr 2 0), (5, .ptr 3 0), (6, .ptr 4 0), (7, .ptr 5 0), (8, int .i64 (t : Int))], fun t => [.ints .u32 h, .ints .u8 b, .ints .u32 (List.replicate 8 0), .ints .u32 W, .ints .u32 TB, .ints .u32 (RS t)], fun t => t ≤ 64, fun t => 64 - t,
    ⟨0, [0, 1, 2, 3, 4, 5], Nat.zero_le _, ?_, ?_⟩, ?_⟩
  · show LeH 0 _ [0, 1, 2, 3, 4, 5] [.ints .u32 h, .ints .u8 b, .ints .u32 (List.replicate 8 0), .ints .u32 W, .ints .u32 TB, .ints .u32 (RS 0)]
    rw [hr0]
    exact lehK (n := 0) (by decide) (by decide) (by decide) ⟨⟨_, rfl, leOint rfl⟩, ⟨_, rfl, leOint rfl⟩, ⟨_, rfl, leOint rfl⟩, ⟨_, rfl, leOint rfl⟩, ⟨_, rfl, leOint rfl⟩, ⟨_, rfl, leOint rfl⟩, trivial⟩
  · exact ⟨.ptr 0 rfl, .ptr 0 rfl, .ptr 0 rfl, .ptr 0 rfl, .ptr 0 rfl, leI rfl, trivial⟩
  intro t ht
  have ht : t ≤ 64 := ht
  have e1 : IntKind.i64.wrap ((t : Int) + 1) = ((t + 1 : Nat) : Int) := by rw [w64 (by omega) (by omega)]; omega
  have hRt := hR t
  refine ⟨fun c => ?_, fun c => ?_⟩
  · have f1 : (t : Int) < 64 := yes c
    have hru := hru t
    refine .inr ⟨8, by decide +kernel, ?_⟩
    refine ⟨_, ⟨by show 0 + 8 ≤ (RS t).length; omega, rfl⟩, ?_⟩
    refine ⟨_, rfl, ?_⟩
    refine ⟨_, ⟨⟨by omega, by omega⟩, rfl⟩, ?_⟩
    refine ⟨_, ⟨by show 0 + (t : Int).toNat * 1 < TB.length; omega, rfl⟩, ?_⟩
    refine ⟨_, rfl, ?_⟩
    refine ⟨_, ⟨⟨by omega, by omega⟩, rfl⟩, ?_⟩
    refine ⟨_, ⟨by show 0 + (t : Int).toNat * 1 < W.length; omega, rfl⟩, ?_⟩
    refine ⟨_, ⟨[], _, hround' t _ _ _ (by simp [hRt, List.take_of_length_le]), by rintro r h ⟨rfl, rfl⟩; exact ⟨.inl rfl, rfl, rfl⟩⟩, ?_⟩
    refine ⟨rfl, by show 0 + 8 ≤ (RS t).length; omega, ?_⟩
    refine ⟨trivial, t + 1, [0, 1, 2, 3, 4, 5], by show t + 1 ≤ 64; omega, by show 64 - (t + 1) < 64 - t; omega,
      lehK (n := 0) (by decide) (by decide) (by decide) ⟨⟨_, rfl, leOint rfl⟩, ⟨_, rfl, leOint rfl⟩, ⟨_, rfl, leOint rfl⟩, ⟨_, rfl, leOint rfl⟩, ⟨_, rfl, leOint rfl⟩, ⟨_, rfl, leOint ?_⟩, trivial⟩, ⟨.ptr 0 rfl, .ptr 0 rfl, .ptr 0 rfl, .ptr 0 rfl, .ptr 0 rfl, leI e1, trivial⟩⟩
    have hix : ∀ k : Nat, addOff 0 ((k : Int)).toNat 1 = k := fun k => by unfold addOff; omega
    rw [hix t]
    have hl8 : (roundS (RS t) (TB.getD t 0) (W.getD t 0)).length = 8 := rfl
    show _ = RS (t + 1)
    rw [hru, hl8, List.drop_of_length_le (by omega), List.take_zero, List.nil_append, List.append_nil]
    rfl
  · have f1 : ¬ (t : Int) < 64 := no c
    obtain rfl : t = 64 := by omega
    refine ⟨Nat, fun i => [(2, .ptr 0 0), (4, .ptr 2 0), (7, .ptr 5 0), (9, int .i64 (i : Int))], fun i => [.ints .u32 h, .ints .u8 b, .ints .u32 (List.replicate 8 0), .ints .u32 W, .ints .u32 TB, .ints .u32 (AS i)], fun i => i ≤ 8, fun i => 8 - i,
      ⟨0, [0, 1, 2, 3, 4, 5], Nat.zero_le _, ?_, ?_⟩, ?_⟩
    · show LeH 0 _ [0, 1, 2, 3, 4, 5] [.ints .u32 h, .ints .u8 b, .ints .u32 (List.replicate 8 0), .ints .u32 W, .ints .u32 TB, .ints .u32 (AS 0)]
      rw [ha0]
      exact lehK (n := 0) (by decide) (by decide) (by decide) ⟨⟨_, rfl, leOint rfl⟩, ⟨_, rfl, leOint rfl⟩, ⟨_, rfl, leOint rfl⟩, ⟨_, rfl, leOint rfl⟩, ⟨_, rfl, leOint rfl⟩, ⟨_, rfl, leOint rfl⟩, trivial⟩
    · exact ⟨.ptr 0 rfl, .ptr 0 rfl, .ptr 0 rfl, leI rfl, trivial⟩
    intro i hi
    have hi : i ≤ 8 := hi
    have e2 : IntKind.i64.wrap ((i : Int) + 1) = ((i + 1 : Nat) : Int) := by rw [w64 (by omega) (by omega)]; omega
    have hAi := hAl i
    refine ⟨fun c => ?_, fun c => ?_⟩
    · have f2 : (i : Int) < 8 := yes c
      have hau := hau i
      refine .inr ⟨8, by decide +kernel, ?_⟩
      refine ⟨_, rfl, ?_⟩
      refine ⟨_, rfl, ?_⟩
      refine ⟨_, ⟨⟨by omega, by omega⟩, rfl⟩, ?_⟩
      refine ⟨_, ⟨by show 0 + (i : Int).toNat * 1 < (AS i).length; omega, rfl⟩, ?_⟩
      refine ⟨_, rfl, ?_⟩
      refine ⟨_, ⟨⟨by omega, by omega⟩, rfl⟩, ?_⟩
      refine ⟨_, ⟨by show 0 + (i : Int).toNat * 1 < h.length; omega, rfl⟩, ?_⟩
      refine ⟨_, rfl, ?_⟩
      refine ⟨⟨by omega, by omega⟩, by show 0 + (i : Int).toNat * 1 < (AS i).length; omega, ?_⟩
      refine ⟨trivial, i + 1, [0, 1, 2, 3, 4, 5], by show i + 1 ≤ 8; omega, by show 8 - (i + 1) < 8 - i; omega,
        lehK (n := 0) (by decide) (by decide) (by decide) ⟨⟨_, rfl, leOint rfl⟩, ⟨_, rfl, leOint rfl⟩, ⟨_, rfl, leOint rfl⟩, ⟨_, rfl, leOint rfl⟩, ⟨_, rfl, leOint rfl⟩, ⟨_, rfl, leOint ?_⟩, trivial⟩, ⟨.ptr 0 rfl, .ptr 0 rfl, .ptr 0 rfl, leI e2, trivial⟩⟩
      rw [hau, show addOff 0 (i : Int).toNat 1 = i from by unfold addOff; omega]
      rfl
    · have f2 : ¬ (i : Int) < 8 := no c
      obtain rfl : i = 8 := by omega
      refine ⟨by show 0 + 8 ≤ (AS 8).length; omega, ?_⟩
      refine ⟨by simp [hAi], by show 0 + 8 ≤ 8; decide, ?_⟩
      refine ⟨by simp [hAi], ?_⟩
      refine ⟨[], [], _, lehN _, leAI ?_, rfl, rfl⟩
      simp [hAi, List.take_of_length_le]

set_option maxHeartbeats 4000000 in
theorem pad_r (n : Nat) (hn : n ≤ 1099511627776) : ACalls Tryz.prog 81 [int .i64 (n : Int)] [] (fun r h => r = .own 0 0 (padS n).length 1 ∧ h = [.ints .u8 (padS n)]) := by
  refine rcalls Tryz.func81 rfl (by decide) ?_
  refine ⟨fun c => ?_, fun c => ?_⟩
  · have := yes c; omega
  refine ⟨fun c => ?_, fun c => ?_⟩
  · have := yes c; omega
  have hpl := padS_len n
  have hpd : padS n = 128 :: List.replicate ((119 - n % 64) % 64) 0 ++ szS n 8 := rfl
  have hsl := szS_len n
  have hs0 : szS n 0 = [] := rfl
  have hsu : ∀ j, szS n (j + 1) = szS n j ++ [IntKind.u8.wrap (((8 * n : Nat) : Int).fdiv (2 ^ min (((8 * (7 - j) : Nat) : Int)).toNat IntKind.i64.bits))] := fun j => rfl
  generalize padS n = PD at *
  generalize szS n = SZ at *
  obtain ⟨z, hz⟩ : ∃ z, (119 - n % 64) % 64 = z := ⟨_, rfl⟩
  rw [hz] at hpd hpl
  have hz64 : z < 64 := by omega
  refine ⟨Nat, fun m => [(0, int .i64 (n : Int)), (3, .own 0 0 (1 + m) 1)], fun m => [.ints .u8 (128 :: List.replicate m 0)], fun m => m ≤ z, fun m => z - m,
    ⟨0, [0], Nat.zero_le _, ?_, ?_⟩, ?_⟩
  · exact lehH1' rfl (leOint rfl)
  · exact ⟨.same _ trivial, leOwn rfl rfl rfl, trivial⟩
  intro m hm
  have hm : m ≤ z := hm
  have t1 : IntKind.i64.wrap (IntKind.i64.wrap ((n : Int) + ((1 + m : Nat) : Int)) + 8) = ((n + (1 + m) + 8 : Nat) : Int) := by
    rw [w64 (n := (n : Int) + ((1 + m : Nat) : Int)) (by omega) (by omega), w64 (by omega) (by omega)]; omega
  have t2 : ((n + (1 + m) + 8 : Nat) : Int).tmod 64 = (((n + (1 + m) + 8) % 64 : Nat) : Int) := (Int.ofNat_tmod _ 64).symm
  refine ⟨by decide, ?_⟩
  refine ⟨fun c => ?_, fun c => ?_⟩
  · have f1 : ¬ ((((n + (1 + m) + 8) % 64 : Nat) : Int)) = 0 := by
      have := yes c
      rw [t1, t2] at this
      exact this
    have hlm : (128 :: List.replicate m 0 : List Int).length = 1 + m := by simp; omega
    refine ⟨hlm.symm, ⟨Nat.le_refl _, by show _ * 1 ≤ 140737488355328; rw [hlm]; show (1 + m + 1) * 1 ≤ _; omega, ?_⟩⟩
    refine ⟨trivial, m + 1, [2], by show m + 1 ≤ z; omega, by show z - (m + 1) < z - m; omega, ?_, ⟨.same _ trivial, leOwn rfl rfl ?_, trivial⟩⟩
    · show LeH 0 _ [2] [.ints .u8 (128 :: List.replicate (m + 1) 0)]
      exact leh1 rfl (leOint (by rw [List.replicate_succ']; rfl))
    · show (128 :: List.replicate m 0 : List Int).length + 1 = _
      omega
  · have f1 : ((((n + (1 + m) + 8) % 64 : Nat) : Int)) = 0 := by
      have := no c
      rw [t1, t2] at this
      exact Classical.byContradiction this
    obtain rfl : m = z := by omega
    have e8 : IntKind.i64.wrap (8 * (n : Int)) = ((8 * n : Nat) : Int) := by rw [w64 (by omega) (by omega)]; omega
    refine ⟨Nat, fun i => [(3, .own 0 0 (1 + m + i) 1), (4, int .i64 ((8 * n : Nat) : Int)), (5, int .i64 (i : Int))], fun i => [.ints .u8 (128 :: List.replicate m 0 ++ SZ i)], fun i => i ≤ 8, fun i => 8 - i,
      ⟨0, [0], Nat.zero_le _, ?_, ?_⟩, ?_⟩
    · show LeH 0 _ [0] [.ints .u8 (128 :: List.replicate m 0 ++ SZ 0)]
      rw [hs0, List.append_nil]
      exact lehH1' rfl (leOint rfl)
    · exact ⟨leOwn rfl rfl rfl, leI e8, leI rfl, trivial⟩
    intro i hi
    have hi : i ≤ 8 := hi
    have e1 : IntKind.i64.wrap ((i : Int) + 1) = ((i + 1 : Nat) : Int) := by rw [w64 (by omega) (by omega)]; omega
    refine ⟨fun c => ?_, fun c => ?_⟩
    · have f2 : (i : Int) < 8 := yes c
      refine ⟨Nat, fun k => [(3, .own 0 0 (1 + m + i) 1), (4, int .i64 ((8 * n : Nat) : Int)), (5, int .i64 (i : Int)), (6, int .i64 ((8 * n / 256 ^ k : Nat) : Int)), (7, int .i64 ((i + k : Nat) : Int))], fun k => [.ints .u8 (128 :: List.replicate m 0 ++ SZ i)], fun k => k ≤ 7 - i, fun k => 7 - i - k,
        ⟨0, [0], Nat.zero_le _, ?_, ?_⟩, ?_⟩
      · exact lehH1' rfl (leOint rfl)
      · exact ⟨leOwn rfl rfl rfl, .same _ trivial, leI rfl, leI (by simp), leI rfl, trivial⟩
      intro k hk
      have hk : k ≤ 7 - i := hk
      refine ⟨fun c => ?_, fun c => ?_⟩
      · have f3 : ((i + k : Nat) : Int) < 7 := yes c
        have e2 : IntKind.i64.wrap (((i + k : Nat) : Int) + 1) = ((i + (k + 1) : Nat) : Int) := by rw [w64 (by omega) (by omega)]; omega
        have e3 : IntKind.i64.wrap ((((8 * n / 256 ^ k : Nat) : Int)).tdiv 256) = ((8 * n / 256 ^ (k + 1) : Nat) : Int) := by
          have h1 : 8 * n / 256 ^ k / 256 = 8 * n / 256 ^ (k + 1) := by rw [Nat.div_div_eq_div_mul, Nat.pow_succ]
          have h2 : 8 * n / 256 ^ (k + 1) ≤ 8 * n := Nat.div_le_self _ _
          show IntKind.i64.wrap ((8 * n / 256 ^ k / 256 : Nat) : Int) = _
          rw [h1]
          generalize 8 * n / 256 ^ (k + 1) = q at *
          exact w64 (by omega) (by omega)
        refine ⟨by decide, ?_⟩
        exact ⟨trivial, k + 1, [0], by show k + 1 ≤ 7 - i; omega, by show 7 - i - (k + 1) < 7 - i - k; omega, lehH1' rfl (leOint rfl), ⟨leOwn rfl rfl rfl, .same _ trivial, leI rfl, leI e3, leI e2, trivial⟩⟩
      · have f3 : ¬ ((i + k : Nat) : Int) < 7 := no c
        obtain rfl : k = 7 - i := by omega
        have hli : (128 :: List.replicate m 0 ++ SZ i).length = 1 + m + i := by rw [List.length_append, List.length_cons, List.length_replicate, hsl]; omega
        refine ⟨by decide, ?_⟩
        have hby : IntKind.u8.wrap ((((8 * n / 256 ^ (7 - i) : Nat) : Int)).tmod 256) = IntKind.u8.wrap (((8 * n : Nat) : Int).fdiv (2 ^ min (((8 * (7 - i) : Nat) : Int)).toNat IntKind.i64.bits)) := by
          have h1 : min (((8 * (7 - i) : Nat) : Int)).toNat IntKind.i64.bits = 8 * (7 - i) := by
            show min (((8 * (7 - i) : Nat) : Int)).toNat 64 = _
            omega
          have h2 : (256 : Nat) ^ (7 - i) = 2 ^ (8 * (7 - i)) := by rw [Nat.pow_mul]
          rw [h1, h2]
          have h3 : (((8 * n : Nat) : Int)).fdiv (2 ^ (8 * (7 - i))) = ((8 * n / 2 ^ (8 * (7 - i)) : Nat) : Int) := by
            rw [Int.fdiv_eq_ediv_of_nonneg _ (by exact Int.le_of_lt (Int.pow_pos (by decide)))]
            rw [show (2 : Int) ^ (8 * (7 - i)) = ((2 ^ (8 * (7 - i)) : Nat) : Int) by simp]
            rfl
          rw [h3]
          generalize 8 * n / 2 ^ (8 * (7 - i)) = q
          show (((q % 256 : Nat) : Int)) % 256 = ((q : Nat) : Int) % 256
          omega
        refine ⟨hli.symm, ⟨Nat.le_refl _, by show _ * 1 ≤ 140737488355328; rw [hli]; show (1 + m + i + 1) * 1 ≤ _; omega, ?_⟩⟩
        refine ⟨trivial, i + 1, [2], by show i + 1 ≤ 8; omega, by show 8 - (i + 1) < 8 - i; omega, ?_, ⟨leOwn rfl rfl ?_, .same _ trivial, leI e1, trivial⟩⟩
        · show LeH 0 _ [2] [.ints .u8 (128 :: List.replicate m 0 ++ SZ (i + 1))]
          rw [hsu, ← hby, ← List.append_assoc]
          exact leh1 rfl (leOint rfl)
        · show (128 :: List.replicate m 0 ++ SZ i).length + 1 = _
          omega
    · have f2 : ¬ (i : Int) < 8 := no c
      obtain rfl : i = 8 := by omega
      refine ⟨[0], [.ints .u8 PD], .own 0 0 PD.length 1, ?_, leOwn rfl rfl (by omega), rfl, rfl⟩
      rw [hpd]
      exact lehH1' rfl (leOint rfl)

end
end Go.Proofs.YtflclafbieokiaaGreatDoor.Sh

/-
  Sums of SHA-256: by parts, and by bytes; the document's, walked.
-/
set_option linter.unusedVariables false
set_option linter.unusedSectionVars false
set_option linter.unusedSimpArgs false
set_option maxRecDepth 10000
namespace Go.Proofs.YtflclafbieokiaaGreatDoor.Sh
open Go AL Dk

def prtS (l : List Int) (j : Nat) : List Int := (l.drop (64 * j)).take 64
def chH (l : List Int) : Nat → List Int
  | 0 => firstS
  | j + 1 => blockS (chH l j) (prtS l j)
theorem chH_len (l : List Int) : ∀ j, (chH l j).length = 8
  | 0 => rfl
  | j + 1 => blockS_len (chH_len l j) _
theorem prt_len {l : List Int} {j : Nat} (h : 64 * j + 64 ≤ l.length) : (prtS l j).length = 64 := by
  unfold prtS
  rw [List.length_take, List.length_drop]; omega
theorem chH_put (l : List Int) : ∀ j, 64 * j ≤ l.length → (putS hs0 (l.take (64 * j))).ws = chH l j
  | 0, _ => rfl
  | j + 1, h => by
    have ih := chH_put l j (by omega)
    have hk := put_ok (l.take (64 * j)) hs0_ok
    have hn := put_n (l.take (64 * j)) hs0
    rw [List.length_take, Nat.min_eq_left (by omega)] at hn
    have hn : (putS hs0 (l.take (64 * j))).n = 64 * j := by rw [hn]; exact Nat.zero_add _
    rw [show 64 * (j + 1) = 64 * j + 64 by omega, List.take_add, put_app]
    generalize putS hs0 (l.take (64 * j)) = S at *
    have hm : S.n % 64 = 0 := by omega
    have hl : ((l.drop (64 * j)).take 64).length = 64 := prt_len (by omega)
    rw [put_full hk (by omega), hm]
    show blockS S.ws (layS S.ps 0 ((l.drop (64 * j)).take 64)) = blockS (chH l j) (prtS l j)
    have : layS S.ps 0 ((l.drop (64 * j)).take 64) = prtS l j := by
      unfold layS
      have hd : S.ps.drop (0 + 64) = [] := List.drop_of_length_le (by rw [hk.ps]; decide)
      rw [hl, hd]
      simp [prtS]
    rw [this, ih]
theorem addS_pos (x h : List Int) (hx : x.length = 8) : ∀ i, i ≤ 8 → ∀ j, j < i → 0 ≤ g0 (addS x h i) j ∧ g0 (addS x h i) j < 4294967296
  | 0, _, j, hj => absurd hj (Nat.not_lt_zero _)
  | i + 1, hi, j, hj => by
    have hl := addS_len hx h i
    show 0 ≤ g0 ((addS x h i).set i _) j ∧ g0 ((addS x h i).set i _) j < _
    by_cases e : i = j
    · subst e
      have : g0 ((addS x h i).set i (w32 (g0 (addS x h i) i + g0 h i))) i = w32 (g0 (addS x h i) i + g0 h i) := by
        conv => lhs; unfold g0
        rw [List.getD_eq_getElem?_getD, List.getElem?_set_self (by omega)]; rfl
      rw [this]
      show 0 ≤ IntKind.u32.wrap _ ∧ IntKind.u32.wrap _ < _
      rw [IntKind.wrap_u32]
      omega
    · have : ∀ v, g0 ((addS x h i).set i v) j = g0 (addS x h i) j := fun v => by
        unfold g0
        rw [List.getD_eq_getElem?_getD, List.getElem?_set_ne e, List.getD_eq_getElem?_getD]
      rw [this]
      exact addS_pos x h hx i (by omega) j (by omega)
theorem chH_pos (l : List Int) : ∀ j i, i < 8 → 0 ≤ g0 (chH l j) i ∧ g0 (chH l j) i < 4294967296
  | 0, i, hi => by
    show 0 ≤ g0 firstS i ∧ g0 firstS i < 4294967296
    match i, hi with
    | 0, _ => decide
    | 1, _ => decide
    | 2, _ => decide
    | 3, _ => decide
    | 4, _ => decide
    | 5, _ => decide
    | 6, _ => decide
    | 7, _ => decide
  | j + 1, i, hi => addS_pos _ _ (rndS_len (chH_len l j) _ _) 8 (Nat.le_refl _) i hi
def xS (c : List Int) (i : Nat) : List Int := c.take i ++ List.replicate (64 - i) 0
theorem xS_len {c : List Int} (hc : c.length = 64) {i : Nat} (hi : i ≤ 64) : (xS c i).length = 64 := by
  unfold xS
  rw [List.length_append, List.length_take, List.length_replicate]; omega
theorem xS_set {c : List Int} (hc : c.length = 64) {i : Nat} (hi : i < 64) : (xS c i).set i (g0 c i) = xS c (i + 1) := by
  unfold xS
  rw [List.set_append_right _ _ (by rw [List.length_take]; omega), List.length_take, Nat.min_eq_left (by omega), Nat.sub_self, show 64 - i = (64 - (i + 1)) + 1 by omega, List.replicate_succ, List.set_cons_zero, List.take_succ_eq_append_getElem (by omega)]
  unfold g0
  rw [List.getD_eq_getElem?_getD, List.getElem?_eq_getElem (by omega), List.append_assoc]
  rfl
theorem xS_full {c : List Int} (hc : c.length = 64) : xS c 64 = c := by
  unfold xS
  rw [List.take_of_length_le (by omega)]; simp
theorem okG {l : List Int} (h : ∀ x ∈ l, 0 ≤ x ∧ x < 256) (i : Nat) : 0 ≤ g0 l i ∧ g0 l i < 256 := by
  unfold g0
  rw [List.getD_eq_getElem?_getD]
  rcases Nat.lt_or_ge i l.length with g | g
  · rw [List.getElem?_eq_getElem g]; exact h _ (List.getElem_mem g)
  · rw [List.getElem?_eq_none g]; decide
theorem szS_ok (n : Nat) : ∀ j, ∀ x ∈ szS n j, 0 ≤ x ∧ x < 256
  | 0, x, hx => by cases hx
  | j + 1, x, hx => by
    rcases List.mem_append.1 hx with h | h
    · exact szS_ok n j x h
    · rw [List.mem_singleton.1 h]
      show 0 ≤ _ % 256 ∧ _ % 256 < 256
      omega
theorem padS_ok (n : Nat) : ∀ x ∈ padS n, 0 ≤ x ∧ x < 256 := fun x hx => by
  unfold padS at hx
  rcases List.mem_append.1 hx with h | h
  · rcases List.mem_cons.1 h with e | h
    · rw [e]; decide
    · rw [(List.mem_replicate.1 h).2]; decide
  · exact szS_ok n 8 x h
theorem sum_whole (b : List Int) : sumS b = digS (chH (b ++ padS b.length) ((b ++ padS b.length).length / 64)) := by
  unfold sumS toldS
  have hn : (putS hs0 b).n = b.length := by rw [put_n]; exact Nat.zero_add _
  rw [hn, ← put_app]
  have hl : (b ++ padS b.length).length % 64 = 0 := by rw [List.length_append, padS_len]; omega
  have hd : 64 * ((b ++ padS b.length).length / 64) = (b ++ padS b.length).length := by omega
  generalize b ++ padS b.length = A at *
  rw [← chH_put A (A.length / 64) (by omega), hd, List.take_length]
section
variable [Globs]

set_option maxHeartbeats 4000000 in
theorem sum_r (b : List Int) (hb : b.length ≤ 1099511627776) (hr : ∀ x ∈ b, 0 ≤ x ∧ x < 256) : ACalls Tryz.prog 66 [.roI .u8 b] [] (fun r h => r = .aggI .u8 (sumS b) ∧ h = []) := by
  have hsw := sum_whole b
  refine rcalls Tryz.func66 rfl (by decide) ?_
  refine ⟨rfl, ?_⟩
  have hpl := padS_len b.length
  refine ⟨rfl, by show (0 + b.length) * 1 ≤ 140737488355328; omega, ?_⟩
  refine ⟨[], _, (pad_r b.length hb), ?_⟩
  rintro r hh ⟨rfl, rfl⟩
  refine ⟨.inl rfl, ?_⟩
  have hpr := padS_ok b.length
  have hAl : (b ++ padS b.length).length = b.length + (padS b.length).length := List.length_append
  have hA64 : (b ++ padS b.length).length % 64 = 0 := by omega
  have hAr : ∀ x ∈ b ++ padS b.length, 0 ≤ x ∧ x < 256 := fun x hx => by
    rcases List.mem_append.1 hx with h | h
    · exact hr x h
    · exact hpr x h
  have hbb : [] ++ b ++ List.take (padS b.length).length (List.drop 0 (padS b.length)) = b ++ padS b.length := by simp
  refine ⟨by show 0 + b.length = b.length; omega, ⟨by omega, by show (b.length + (List.take (padS b.length).length (List.drop 0 (padS b.length))).length) * 1 ≤ _; simp; omega, ?_⟩⟩
  refine ⟨rfl, ?_⟩
  refine ⟨rfl, by show 0 + 8 ≤ 8; decide, ?_⟩
  have hcH0 : ∀ l, chH l 0 = firstS := fun l => rfl
  have hHl := chH_len (b ++ padS b.length)
  have hHp := chH_pos (b ++ padS b.length)
  have hHu : ∀ j, chH (b ++ padS b.length) (j + 1) = blockS (chH (b ++ padS b.length) j) (prtS (b ++ padS b.length) j) := fun j => rfl
  have hH0 : chH (b ++ padS b.length) 0 = [1779033703, 3144134277, 1013904242, 2773480762, 1359893119, 2600822924, 528734635, 1541459225] := rfl
  generalize chH (b ++ padS b.length) = H at *
  obtain ⟨A, hA⟩ : ∃ A, b ++ padS b.length = A := ⟨_, rfl⟩
  rw [hA] at hsw hAl hA64 hAr hHu
  refine ⟨Nat, fun j => [(2, .ptr 0 0), (3, .own 1 0 A.length 1), (4, .ptr 2 0), (5, int .i64 ((64 * j : Nat) : Int))], fun j => [.ints .u8 (List.replicate 32 0), .ints .u8 A, .ints .u32 (H j)], fun j => 64 * j ≤ A.length, fun j => A.length - 64 * j,
    ⟨0, [0, 4, 5], Nat.zero_le _, ?_, ?_⟩, ?_⟩
  · show LeH 0 _ [0, 4, 5] [.ints .u8 (List.replicate 32 0), .ints .u8 A, .ints .u32 (H 0)]
    rw [hH0]
    exact leh_relG (by decide) ⟨.inl ⟨_, rfl, leOint rfl⟩, .inl ⟨_, rfl, leOint (by rw [← hA]; exact hbb)⟩, .inl ⟨_, rfl, leOint rfl⟩, trivial⟩
  · refine ⟨.ptr 0 rfl, leOwn rfl rfl ?_, .ptr 0 rfl, leI rfl, trivial⟩
    simp
    omega
  intro j hj
  have hj : 64 * j ≤ A.length := hj
  have e1 : ∀ x : Nat, x ≤ 2199023255552 → IntKind.i64.wrap ((x : Int) + 64) = ((x + 64 : Nat) : Int) := fun x h => by rw [w64 (by omega) (by omega)]; omega
  have hHj := hHl j
  refine ⟨fun c => ?_, fun c => ?_⟩
  · have f1 : ((64 * j : Nat) : Int) < A.length := yes c
    have hc := prt_len (l := A) (j := j) (by omega)
    have hcg : ∀ i, i < 64 → g0 (prtS A j) i = A.getD (64 * j + i) 0 := fun i hi => by
      unfold g0 prtS
      rw [List.getD_eq_getElem?_getD, List.getElem?_take_of_lt hi, List.getElem?_drop, List.getD_eq_getElem?_getD]
    have hcr : ∀ i, 0 ≤ g0 (prtS A j) i ∧ g0 (prtS A j) i < 256 := fun i => okG (fun x hx => hAr x (List.mem_of_mem_drop (List.mem_of_mem_take hx))) i
    have hblk := block_r (H j) (prtS A j) hHj hc hcr
    rw [← hHu] at hblk
    generalize prtS A j = C at *
    refine ⟨rfl, ?_⟩
    refine ⟨Nat, fun i => [(2, .ptr 0 0), (3, .own 1 0 A.length 1), (4, .ptr 2 0), (5, int .i64 ((64 * j : Nat) : Int)), (6, .ptr 3 0), (7, int .i64 (i : Int))], fun i => [.ints .u8 (List.replicate 32 0), .ints .u8 A, .ints .u32 (H j), .ints .u8 (xS C i)], fun i => i ≤ 64, fun i => 64 - i,
      ⟨0, [0, 1, 2, 3], Nat.zero_le _, ?_, ?_⟩, ?_⟩
    · exact leh_relG (by decide) ⟨.inl ⟨_, rfl, leOint rfl⟩, .inl ⟨_, rfl, leOint rfl⟩, .inl ⟨_, rfl, leOint rfl⟩, .inl ⟨_, rfl, leOint rfl⟩, trivial⟩
    · exact ⟨.ptr 0 rfl, leOwn rfl rfl rfl, .ptr 0 rfl, leI rfl, .ptr 0 rfl, leI rfl, trivial⟩
    intro i hi
    have hi : i ≤ 64 := hi
    have e2 : IntKind.i64.wrap ((i : Int) + 1) = ((i + 1 : Nat) : Int) := by rw [w64 (by omega) (by omega)]; omega
    have hxl := xS_len hc hi
    refine ⟨fun c => ?_, fun c => ?_⟩
    · have f2 : (i : Int) < 64 := yes c
      have e3 : IntKind.i64.wrap (((64 * j : Nat) : Int) + (i : Int)) = ((64 * j + i : Nat) : Int) := by rw [w64 (by omega) (by omega)]; omega
      have hxs := xS_set hc (i := i) (by omega)
      rw [hcg i (by omega)] at hxs
      refine ⟨by rw [e3]; omega, ?_⟩
      rw [e3]
      have eo : ∀ k : Nat, addOff 0 ((k : Int)).toNat 1 = k := fun k => by unfold addOff; omega
      refine ⟨by rw [eo]; omega, ?_⟩
      rw [eo]
      refine ⟨by omega, by rw [eo]; omega, ?_⟩
      rw [eo, hxs]
      exact ⟨trivial, i + 1, [0, 1, 2, 3], by show i + 1 ≤ 64; omega, by show 64 - (i + 1) < 64 - i; omega, leh_relG (by decide) ⟨.inl ⟨_, rfl, leOint rfl⟩, .inl ⟨_, rfl, leOint rfl⟩, .inl ⟨_, rfl, leOint rfl⟩, .inl ⟨_, rfl, leOint rfl⟩, trivial⟩,
        ⟨.ptr 0 rfl, leOwn rfl rfl rfl, .ptr 0 rfl, leI rfl, .ptr 0 rfl, leI e2, trivial⟩⟩
    · have f2 : ¬ (i : Int) < 64 := no c
      obtain rfl : i = 64 := by omega
      have hx := xS_full hc
      refine ⟨by show 0 + 8 ≤ (H j).length; omega, ?_⟩
      refine ⟨by show 0 + 64 ≤ (xS C 64).length; omega, ?_⟩
      have hblk' : ∀ X Y, X = H j → Y = C → ACalls Tryz.prog 82 [.aggI .u32 X, .aggI .u8 Y] [] (fun r hp => r = .aggI .u32 (H (j + 1)) ∧ hp = []) := fun X Y e1 e2 => by rw [e1, e2]; exact hblk
      refine ⟨[], _, hblk' _ _ (by simp [hHj, List.take_of_length_le]) (by rw [hx]; simp [hc, List.take_of_length_le]), ?_⟩
      rintro r hh ⟨rfl, rfl⟩
      refine ⟨.inl rfl, ?_⟩
      have hHj1 := hHl (j + 1)
      refine ⟨by show 8 = (H (j + 1)).length; omega, by show 0 + 8 ≤ (H j).length; omega, ?_⟩
      have hcat : List.take 0 (H j) ++ H (j + 1) ++ List.drop (0 + (H (j + 1)).length) (H j) = H (j + 1) := by
        rw [List.drop_of_length_le (by omega), List.take_zero, List.nil_append, List.append_nil]
      rw [hcat]
      exact ⟨trivial, j + 1, [0, 1, 2], by show 64 * (j + 1) ≤ A.length; omega, by show A.length - 64 * (j + 1) < A.length - 64 * j; omega, leh_relG (by decide) ⟨.inl ⟨_, rfl, leOint rfl⟩, .inl ⟨_, rfl, leOint rfl⟩, .inl ⟨_, rfl, leOint rfl⟩, trivial⟩,
        ⟨.ptr 0 rfl, leOwn rfl rfl rfl, .ptr 0 rfl, leI (by rw [e1 _ (by omega)]; congr 1), trivial⟩⟩
  · have f1 : ¬ ((64 * j : Nat) : Int) < A.length := no c
    have hjA : A.length / 64 = j := by omega
    rw [hjA] at hsw
    have hHpj := hHp j
    obtain ⟨W, hW⟩ : ∃ W, H j = W := ⟨_, rfl⟩
    rw [hW] at hsw hHpj hHj
    obtain ⟨D, hD⟩ : ∃ D : Nat → List Int, ∀ k, D k = digM W k := ⟨_, fun k => rfl⟩
    obtain ⟨B, hB⟩ : ∃ B : Nat → Int, ∀ k, B k = digB W k := ⟨_, fun k => rfl⟩
    have hDs : ∀ m, m < 32 → (D m).set m (B m) = D (m + 1) := fun m hm => by rw [hD, hD, hB]; exact digM_set W hm
    have hDl : ∀ m, (D m).length = 32 := fun m => by rw [hD]; exact digM_len _ _
    have hD0 : D 0 = List.replicate 32 0 := by rw [hD]; rfl
    have hD32 : D 32 = digS W := by rw [hD]; exact digM_full W
    refine ⟨rfl, ?_⟩
    refine ⟨Nat, fun i => [(2, .ptr 0 0), (4, .ptr 1 0), (8, .ptr 2 0), (9, int .i64 (i : Int))], fun i => [.ints .u8 (List.replicate 32 0), .ints .u32 W, .ints .u8 (D i)], fun i => i ≤ 32, fun i => 32 - i,
      ⟨0, [0, 2, 3], Nat.zero_le _, ?_, ?_⟩, ?_⟩
    · show LeH 0 _ [0, 2, 3] [.ints .u8 (List.replicate 32 0), .ints .u32 W, .ints .u8 (D 0)]
      rw [hD0]
      exact leh_relG (by decide) ⟨.inl ⟨_, rfl, leOint rfl⟩, .inl ⟨_, rfl, leOint hW⟩, .inl ⟨_, rfl, leOint rfl⟩, trivial⟩
    · exact ⟨.ptr 0 rfl, .ptr 0 rfl, .ptr 0 rfl, leI rfl, trivial⟩
    intro i hi
    have hi : i ≤ 32 := hi
    have e2 : IntKind.i64.wrap ((i : Int) + 1) = ((i + 1 : Nat) : Int) := by rw [w64 (by omega) (by omega)]; omega
    refine ⟨fun c => ?_, fun c => ?_⟩
    · have f2 : (i : Int) < 32 := yes c
      have eo : ∀ k : Nat, addOff 0 ((k : Int)).toNat 1 = k := fun k => by unfold addOff; omega
      have e3 : IntKind.i64.wrap ((i : Int).tdiv 4) = ((i / 4 : Nat) : Int) := by
        show IntKind.i64.wrap ((i / 4 : Nat) : Int) = _
        rw [w64 (by omega) (by omega)]
      have e4 : (i : Int).tmod 4 = ((i % 4 : Nat) : Int) := rfl
      refine ⟨by decide, ?_⟩
      refine ⟨⟨by rw [e3]; omega, by rw [e3]; omega⟩, by rw [e3, eo]; omega, ?_⟩
      rw [e3, eo]
      have hwp := hHpj (i / 4) (by omega)
      obtain ⟨w, hw⟩ : ∃ w : Nat, g0 W (i / 4) = w := ⟨(g0 W (i / 4)).toNat, by omega⟩
      rw [hw] at hwp
      have hBi : B i = IntKind.u8.wrap ((((w / 256 ^ (3 - i % 4) : Nat) : Int)).tmod 256) := by
        rw [hB]
        unfold digB
        rw [hw]
        have h1 : min (((8 * (3 - i % 4) : Nat) : Int)).toNat IntKind.u32.bits = 8 * (3 - i % 4) := by
          show min (((8 * (3 - i % 4) : Nat) : Int)).toNat 32 = _
          omega
        have h2 : (256 : Nat) ^ (3 - i % 4) = 2 ^ (8 * (3 - i % 4)) := by rw [Nat.pow_mul]
        rw [h1, h2]
        have h3 : ((w : Nat) : Int).fdiv (2 ^ (8 * (3 - i % 4))) = ((w / 2 ^ (8 * (3 - i % 4)) : Nat) : Int) := by
          rw [Int.fdiv_eq_ediv_of_nonneg _ (by exact Int.le_of_lt (Int.pow_pos (by decide)))]
          rw [show (2 : Int) ^ (8 * (3 - i % 4)) = ((2 ^ (8 * (3 - i % 4)) : Nat) : Int) by simp]
          rfl
        rw [h3]
        generalize w / 2 ^ (8 * (3 - i % 4)) = q
        show ((q : Nat) : Int) % 256 = (((q % 256 : Nat) : Int)) % 256
        omega
      refine ⟨by decide, ?_⟩
      refine ⟨Nat, fun k => [(2, .ptr 0 0), (4, .ptr 1 0), (8, .ptr 2 0), (9, int .i64 (i : Int)), (10, int .u32 ((w / 256 ^ k : Nat) : Int)), (11, int .i64 ((i % 4 + k : Nat) : Int))], fun k => [.ints .u8 (List.replicate 32 0), .ints .u32 W, .ints .u8 (D i)], fun k => k ≤ 3 - i % 4, fun k => 3 - i % 4 - k,
        ⟨0, [0, 1, 2], Nat.zero_le _, ?_, ?_⟩, ?_⟩
      · exact leh_relG (by decide) ⟨.inl ⟨_, rfl, leOint rfl⟩, .inl ⟨_, rfl, leOint rfl⟩, .inl ⟨_, rfl, leOint rfl⟩, trivial⟩
      · exact ⟨.ptr 0 rfl, .ptr 0 rfl, .ptr 0 rfl, leI rfl, leI (by rw [show w / 256 ^ 0 = w by simp]; exact hw), leI rfl, trivial⟩
      intro k hk
      have hk : k ≤ 3 - i % 4 := hk
      refine ⟨fun c => ?_, fun c => ?_⟩
      · have f3 : ((i % 4 + k : Nat) : Int) < 3 := yes c
        have e5 : IntKind.i64.wrap (((i % 4 + k : Nat) : Int) + 1) = ((i % 4 + (k + 1) : Nat) : Int) := by rw [w64 (by omega) (by omega)]; omega
        have e6 : IntKind.u32.wrap ((((w / 256 ^ k : Nat) : Int)).tdiv 256) = ((w / 256 ^ (k + 1) : Nat) : Int) := by
          have h1 : w / 256 ^ k / 256 = w / 256 ^ (k + 1) := by rw [Nat.div_div_eq_div_mul, Nat.pow_succ]
          have h2 : w / 256 ^ (k + 1) ≤ w := Nat.div_le_self _ _
          show IntKind.u32.wrap ((w / 256 ^ k / 256 : Nat) : Int) = _
          rw [h1]
          generalize w / 256 ^ (k + 1) = q at *
          exact w32_of (by omega)
        refine ⟨by decide, ?_⟩
        exact ⟨trivial, k + 1, [0, 1, 2], by show k + 1 ≤ 3 - i % 4; omega, by show 3 - i % 4 - (k + 1) < 3 - i % 4 - k; omega, leh_relG (by decide) ⟨.inl ⟨_, rfl, leOint rfl⟩, .inl ⟨_, rfl, leOint rfl⟩, .inl ⟨_, rfl, leOint rfl⟩, trivial⟩, ⟨.ptr 0 rfl, .ptr 0 rfl, .ptr 0 rfl, leI rfl, leI e6, leI e5, trivial⟩⟩
      · have f3 : ¬ ((i % 4 + k : Nat) : Int) < 3 := no c
        obtain rfl : k = 3 - i % 4 := by omega
        have hli := hDl i
        have hDi := hDs i (by omega)
        refine ⟨by decide, ?_⟩
        refine ⟨⟨by omega, by omega⟩, by rw [eo]; omega, ?_⟩
        rw [← hBi, eo, hDi]
        exact ⟨trivial, i + 1, [0, 1, 2], by show i + 1 ≤ 32; omega, by show 32 - (i + 1) < 32 - i; omega, leh_relG (by decide) ⟨.inl ⟨_, rfl, leOint rfl⟩, .inl ⟨_, rfl, leOint rfl⟩, .inl ⟨_, rfl, leOint rfl⟩, trivial⟩, ⟨.ptr 0 rfl, .ptr 0 rfl, .ptr 0 rfl, leI e2, trivial⟩⟩
    · have f2 : ¬ (i : Int) < 32 := no c
      obtain rfl : i = 32 := by omega
      have hl := hDl 32
      refine ⟨by show 0 + 32 ≤ (D 32).length; omega, ?_⟩
      have htk3 : List.take (30 + 2) (List.drop 0 (D 32)) = D 32 := by rw [List.drop_zero]; exact List.take_of_length_le (by show (D 32).length ≤ 32; omega)
      have hcat : List.take 0 (List.replicate 32 (0 : Int)) ++ List.take (30 + 2) (List.drop 0 (D 32)) ++ List.drop (0 + (List.take (30 + 2) (List.drop 0 (D 32))).length) (List.replicate 32 (0 : Int)) = D 32 := by rw [htk3, hl]; simp
      refine ⟨by rw [htk3]; exact hl.symm, by show 0 + 32 ≤ (List.replicate 32 (0 : Int)).length; simp, ?_⟩
      rw [hcat]
      refine ⟨by show 0 + 32 ≤ (D 32).length; omega, ?_⟩
      refine ⟨[], [], _, lehN _, leAI ?_, rfl, rfl⟩
      rw [htk3, hD32, hsw]
end
end Go.Proofs.YtflclafbieokiaaGreatDoor.Sh

/-
  The document's files: what is got, left out, and laid in.
-/
set_option linter.unusedVariables false
set_option linter.unusedSectionVars false
namespace Go.Proofs.YtflclafbieokiaaGreatDoor.Dk
open Go AL Us

theorem getR_none {s : ByteArray} : ∀ {L : List Fl}, (∀ i, i < L.length → (L.getD i fl0).path ≠ s) → getR s L = none
  | [], _ => rfl
  | f :: r, h => by
    have h0 : f.path ≠ s := h 0 (by simp)
    unfold getR
    rw [if_neg h0]
    exact getR_none fun i hi => h (i + 1) (by simpa using hi)
theorem getR_at {s : ByteArray} : ∀ {L : List Fl} {k : Nat}, k < L.length → (∀ i, i < k → (L.getD i fl0).path ≠ s) → (L.getD k fl0).path = s → getR s L = some (L.getD k fl0).data
  | [], k, hk, _, _ => by simp at hk
  | f :: r, 0, _, _, h => by
    have h : f.path = s := h
    unfold getR
    rw [if_pos h]; rfl
  | f :: r, k + 1, hk, h, e => by
    have h0 : f.path ≠ s := h 0 (by omega)
    unfold getR
    rw [if_neg h0]
    exact getR_at (L := r) (k := k) (by simpa using hk) (fun i hi => h (i + 1) (by omega)) e
theorem without_succ {s : ByteArray} {L : List Fl} {k : Nat} (h : k < L.length) : withoutR s (L.take (k + 1)) = if (L.getD k fl0).path = s then withoutR s (L.take k) else withoutR s (L.take k) ++ [L.getD k fl0] := by
  unfold withoutR
  rw [take_succ_fl h, List.filter_append]
  generalize L.getD k fl0 = F
  by_cases e : F.path = s
  · rw [if_pos e, List.filter_cons_of_neg (by simp [e]), List.filter_nil, List.append_nil]
  · rw [if_neg e, List.filter_cons_of_pos (by simp [e]), List.filter_nil]
theorem without_len (s : ByteArray) (L : List Fl) : (withoutR s L).length ≤ L.length := List.length_filter_le ..
theorem while_at {p : Fl → Bool} : ∀ {M : List Fl} {k : Nat}, k ≤ M.length → (∀ i, i < k → p (M.getD i fl0) = true) → (k < M.length → p (M.getD k fl0) = false) → M.takeWhile p = M.take k ∧ M.dropWhile p = M.drop k
  | [], k, hk, _, _ => by simp
  | f :: r, 0, _, _, h => by
    have := h (by simp)
    have : p f = false := this
    rw [List.takeWhile_cons_of_neg (by rw [this]; decide), List.dropWhile_cons_of_neg (by rw [this]; decide)]
    exact ⟨rfl, rfl⟩
  | f :: r, k + 1, hk, h, e => by
    have h0 : p f = true := h 0 (by omega)
    obtain ⟨a, b⟩ := while_at (M := r) (k := k) (by simpa using hk) (fun i hi => h (i + 1) (by omega)) (fun hlt => e (by simpa using hlt))
    rw [List.takeWhile_cons_of_pos h0, List.dropWhile_cons_of_pos h0, a, b]
    exact ⟨rfl, rfl⟩
section
variable [Globs]

set_option maxRecDepth 10000 in
theorem get_r (L : List Fl) (s : ByteArray) (hl : L.length ≤ 281474976710656) : ACalls Tryz.prog 35 [flsV L, str s] [] (fun r h => r = .tup 2 (pair (.roI .u8 ((getR s L).getD [])) (bool (getR s L).isSome)) ∧ h = []) := by
  have hn := @getR_none s L
  have ha := fun {k : Nat} (h : k < L.length) => getR_at (s := s) (L := L) (k := k) h
  generalize getR s L = G at *
  refine rcalls Tryz.func35 rfl (by decide) ?_
  refine ⟨Nat, fun k => [(0, flsV L), (1, str s), (6, int .i64 k)], fun _ => [], fun k => k ≤ L.length ∧ ∀ i, i < k → (L.getD i fl0).path ≠ s, fun k => L.length - k,
    ⟨0, [], ⟨Nat.zero_le _, fun i hi => by omega⟩, lehN _, ⟨.same _ trivial, leS rfl, leI rfl, trivial⟩⟩, ?_⟩
  rintro k ⟨hk, hfree⟩
  have e1 : IntKind.i64.wrap ((k : Int) + 1) = ((k + 1 : Nat) : Int) := by rw [w64 (by omega) (by omega)]; omega
  refine ⟨fun c => ?_, fun c => ?_⟩
  · have f1 : (k : Int) < L.length := yes c
    have b1 : 0 ≤ (k : Int) ∧ (k : Int) < L.length := ⟨by omega, f1⟩
    have h1 : ∀ c, c < 2 → rowF L ((k : Int).toNat * 2 + c) = flC (L.getD k fl0) c := fun c hc => by rw [Int.toNat_natCast]; exact rowF_at L hc
    have ha := ha (k := k) (by omega) hfree
    obtain ⟨F, hF⟩ : ∃ F, L.getD k fl0 = F := ⟨_, rfl⟩
    rw [hF] at h1 ha
    refine ⟨b1, flC F, fun c hc => h1 c hc, ?_⟩
    refine ⟨fun c2 => ?_, fun c2 => ?_⟩
    · have f2 : F.path = s := yes c2
      rw [ha f2]
      refine ⟨b1, flC F, fun c hc => h1 c hc, ?_⟩
      exact ⟨[], [], _, lehN _, le_pair (.same _ trivial) (leTB rfl), rfl, rfl⟩
    · have f2 : ¬ F.path = s := no c2
      refine ⟨trivial, k + 1, [], ⟨by omega, fun i hi => ?_⟩, by show L.length - (k + 1) < L.length - k; omega, lehN _, ⟨.same _ trivial, leS rfl, leI e1, trivial⟩⟩
      by_cases e : i = k
      · rw [e, hF]; exact f2
      · exact hfree i (by omega)
  · have f1 : ¬ (k : Int) < L.length := no c
    rw [hn fun i hi => hfree i (by omega)]
    exact ⟨[], [], _, lehN _, le_pair (.nilI .u8) (leFB rfl), rfl, rfl⟩

set_option maxRecDepth 10000 in
theorem without_r (L : List Fl) (s : ByteArray) (hl : L.length ≤ 1000000) : ACalls Tryz.prog 33 [flsV L, str s] [] (fun r h => r = flsV (withoutR s L) ∧ h = []) := by
  have hs := fun {k : Nat} (h : k < L.length) => without_succ (s := s) (L := L) (k := k) h
  have hw := fun k => without_len s (L.take k)
  refine rcalls Tryz.func33 rfl (by decide) ?_
  refine ⟨Nat, fun k => [(0, flsV L), (1, str s), (5, .own 0 0 (withoutR s (L.take k)).length 2), (6, int .i64 k)], fun k => [.row ((withoutR s (L.take k)).length * 2) (rowF (withoutR s (L.take k)))], fun k => k ≤ L.length, fun k => L.length - k,
    ⟨0, [0], Nat.zero_le _, lehRow0 (Nat.le_refl _) _, ⟨.same _ trivial, leS rfl, .nil _ _ (by decide), leI rfl, trivial⟩⟩, ?_⟩
  intro k hk
  have hk : k ≤ L.length := hk
  have e1 : IntKind.i64.wrap ((k : Int) + 1) = ((k + 1 : Nat) : Int) := by rw [w64 (by omega) (by omega)]; omega
  have hwk := hw k
  have hwk : (withoutR s (L.take k)).length ≤ L.length := by rw [List.length_take] at hwk; omega
  refine ⟨fun c => ?_, fun c => ?_⟩
  · have f1 : (k : Int) < L.length := yes c
    have b1 : 0 ≤ (k : Int) ∧ (k : Int) < L.length := ⟨by omega, f1⟩
    have h1 : ∀ c, c < 2 → rowF L ((k : Int).toNat * 2 + c) = flC (L.getD k fl0) c := fun c hc => by rw [Int.toNat_natCast]; exact rowF_at L hc
    have hs := hs (k := k) (by omega)
    obtain ⟨F, hF⟩ : ∃ F, L.getD k fl0 = F := ⟨_, rfl⟩
    rw [hF] at h1 hs
    refine ⟨b1, flC F, fun c hc => h1 c hc, ?_⟩
    refine ⟨fun c2 => ?_, fun c2 => ?_⟩
    · have f2 : ¬ F.path = s := yes c2
      rw [if_neg f2] at hs
      have hold := fun {i : Nat} (h : i < (withoutR s (L.take k)).length * 2) => rowF_old (withoutR s (L.take k)) F h
      have hnew := fun {i : Nat} (h : i < 2) => rowF_new (withoutR s (L.take k)) F h
      refine ⟨b1, flC F, fun c hc => h1 c hc, ?_⟩
      refine ⟨rfl, fun i _ => rowCell1 (withoutR s (L.take k)) i, Nat.le_refl 2, by show ((withoutR s (L.take k)).length + 1) * 40 ≤ _; omega, fun i hi => ?_, rowF (withoutR s (L.take k) ++ [F]), fun i hi => hold hi, fun i hi => ?_, ?_⟩
      · match i, hi with
        | 0, _ => rfl
        | 1, _ => rfl
      · show rowF (withoutR s (L.take k) ++ [F]) ((withoutR s (L.take k)).length * 2 + i) = _
        rw [hnew (by omega)]
        match i, hi with
        | 0, _ => rfl
        | 1, _ => rfl
      refine ⟨trivial, k + 1, [2], by show k + 1 ≤ L.length; omega, by show L.length - (k + 1) < L.length - k; omega, leh1 rfl ?_, ⟨.same _ trivial, leS rfl, leOwn rfl rfl ?_, leI e1, trivial⟩⟩
      · show LeO _ _ _ (.row ((withoutR s (L.take (k + 1))).length * 2) (rowF (withoutR s (L.take (k + 1)))))
        rw [hs]
        exact .row _ _ _ _ (by rw [List.length_append]; exact Nat.le_refl _) fun i hi => .same _ (rowFree _ i)
      · rw [hs, List.length_append]; rfl
    · have f2 : F.path = s := Classical.byContradiction fun x => no c2 x
      rw [if_pos f2] at hs
      refine ⟨trivial, k + 1, [0], by show k + 1 ≤ L.length; omega, by show L.length - (k + 1) < L.length - k; omega, leh1 rfl ?_, ⟨.same _ trivial, leS rfl, leOwn rfl rfl ?_, leI e1, trivial⟩⟩
      · show LeO _ _ _ (.row ((withoutR s (L.take (k + 1))).length * 2) (rowF (withoutR s (L.take (k + 1)))))
        rw [hs]
        exact .row _ _ _ _ (Nat.le_refl _) fun i hi => .same _ (rowFree _ i)
      · rw [hs]
  · have f1 : ¬ (k : Int) < L.length := no c
    have eT : L.take k = L := List.take_of_length_le (by omega)
    refine ⟨[], [], _, lehN _, .seen (.giveR (rowF (withoutR s (L.take k))) rfl (by simp) (by omega) (fun i hi => by rw [Nat.zero_add]; exact .same _ (rowFree _ i)) fun i hi => rowFree _ i) (vrsU (l := withoutR s L) (by rw [eT]) fun i hi => by rw [eT]), rfl, rfl⟩

set_option maxRecDepth 10000 in
theorem size_r (L : List Fl) (hl : L.length ≤ 1000000) (hd : dataN L ≤ 4611686018427387904) : ACalls Tryz.prog 32 [flsV L] [] (fun r h => r = int .i64 (dataN L : Nat) ∧ h = []) := by
  have hds := @data_succ L
  have hdl := data_le L
  refine rcalls Tryz.func32 rfl (by decide) ?_
  refine ⟨Nat, fun k => [(0, flsV L), (3, int .i64 (dataN (L.take k) : Nat)), (4, int .i64 k)], fun _ => [], fun k => k ≤ L.length, fun k => L.length - k,
    ⟨0, [], Nat.zero_le _, lehN _, ⟨.same _ trivial, leI rfl, leI rfl, trivial⟩⟩, ?_⟩
  intro k hk
  have hk : k ≤ L.length := hk
  have e1 : IntKind.i64.wrap ((k : Int) + 1) = ((k + 1 : Nat) : Int) := by rw [w64 (by omega) (by omega)]; omega
  refine ⟨fun c => ?_, fun c => ?_⟩
  · have f1 : (k : Int) < L.length := yes c
    have hds := hds (k := k) (by omega)
    have hle := hdl (k + 1)
    obtain ⟨F, hF⟩ : ∃ F, L.getD k fl0 = F := ⟨_, rfl⟩
    rw [hF] at hds
    refine ⟨⟨by omega, by omega⟩, flC F, fun c hc => by rw [Int.toNat_natCast, rowF_at L hc, hF], ?_⟩
    refine ⟨trivial, k + 1, [], by show k + 1 ≤ L.length; omega, by show L.length - (k + 1) < L.length - k; omega, lehN _, ⟨.same _ trivial, leI ?_, leI e1, trivial⟩⟩
    rw [w64 (by omega) (by omega)]; omega
  · have f1 : ¬ (k : Int) < L.length := no c
    obtain rfl : k = L.length := by omega
    exact ⟨[], [], _, lehN _, leI (by rw [List.take_length]), rfl, rfl⟩
end
end Go.Proofs.YtflclafbieokiaaGreatDoor.Dk

/-
  The document's files behind a deed.
-/
set_option linter.unusedVariables false
set_option linter.unusedSectionVars false
namespace Go.Proofs.YtflclafbieokiaaGreatDoor.Dk
open Go AL Us

theorem rowF_take (M : List Fl) {k i : Nat} (hk : k ≤ M.length) (h : i < k * 2) : rowF (M.take k) i = rowF M i := by
  unfold rowF
  rw [List.getD_eq_getElem?_getD, List.getElem?_take, if_pos (by omega), List.getD_eq_getElem?_getD]
theorem rowF_drop (M : List Fl) {k i : Nat} : rowF (M.drop k) i = rowF M (k * 2 + i) := by
  unfold rowF
  rw [show (k * 2 + i) / 2 = k + i / 2 by omega, show (k * 2 + i) % 2 = i % 2 by omega, List.getD_eq_getElem?_getD, List.getElem?_drop, List.getD_eq_getElem?_getD]
theorem rowF_more (l m : List Fl) {i : Nat} : rowF (l ++ m) (l.length * 2 + i) = rowF m i := by
  unfold rowF
  rw [show (l.length * 2 + i) / 2 = l.length + i / 2 by omega, show (l.length * 2 + i) % 2 = i % 2 by omega, List.getD_eq_getElem?_getD, List.getElem?_append_right (by omega), Nat.add_sub_cancel_left, List.getD_eq_getElem?_getD]
theorem rowF_less (l m : List Fl) {i : Nat} (h : i < l.length * 2) : rowF (l ++ m) i = rowF l i := by
  unfold rowF
  rw [List.getD_eq_getElem?_getD, List.getElem?_append_left (by omega), List.getD_eq_getElem?_getD]

structure De4 where
  kind : Int
  name : ByteArray
  to : ByteArray
  data : List Int
def toDee (e : De4) : Dee := if e.kind = 1 then .wr e.name e.data else if e.kind = 2 then .mv e.name e.to else .rm e.name
def de4C (e : De4) : Nat → AV
  | 0 => int .i64 e.kind
  | 1 => str e.name
  | 2 => str e.to
  | _ => .roI .u8 e.data
abbrev de4V (e : De4) : AV := .agg 4 (de4C e)
section
variable [Globs]

set_option maxHeartbeats 1000000 in
set_option maxRecDepth 10000 in
theorem with_r (L : List Fl) (s : ByteArray) (v : List Int) (hl : L.length ≤ 1000000) : ACalls Tryz.prog 72 [flsV L, str s, .roI .u8 v] [] (fun r h => r = flsV (withR s v L) ∧ h = []) := by
  have h0 := without_r L s hl
  have hlen := without_len s L
  have hwd : withR s v L = (withoutR s L).takeWhile (fun f => ltS f.path s) ++ ⟨s, v⟩ :: (withoutR s L).dropWhile (fun f => ltS f.path s) := rfl
  generalize withoutR s L = M at *
  have hwa := fun {k : Nat} => while_at (p := fun f => ltS f.path s) (M := M) (k := k)
  refine rcalls Tryz.func72 rfl (by decide) ?_
  refine ⟨[], _, h0, ?_⟩
  rintro r hh ⟨rfl, rfl⟩
  refine ⟨.inl rfl, ?_⟩
  refine ⟨Nat, fun k => [(0, flsV M), (1, str s), (2, .roI .u8 v), (7, int .i64 k)], fun _ => [], fun k => k ≤ M.length ∧ ∀ i, i < k → ltS (M.getD i fl0).path s = true, fun k => M.length - k,
    ⟨0, [], ⟨Nat.zero_le _, fun i hi => by omega⟩, lehN _, ⟨.same _ trivial, leS rfl, leRo rfl, leI rfl, trivial⟩⟩, ?_⟩
  rintro k ⟨hk, hlt⟩
  have e1 : IntKind.i64.wrap ((k : Int) + 1) = ((k + 1 : Nat) : Int) := by rw [w64 (by omega) (by omega)]; omega
  have fin : (k < M.length → ltS (M.getD k fl0).path s = false) → withR s v L = M.take k ++ [⟨s, v⟩] ++ M.drop k := fun h => by
    obtain ⟨a, b⟩ := hwa hk hlt h
    rw [hwd, a, b, List.append_assoc]; rfl
  refine ⟨fun c => ?_, fun c => ?_⟩
  · have f1 : (k : Int) < M.length := yes c
    obtain ⟨F, hF⟩ : ∃ F, M.getD k fl0 = F := ⟨_, rfl⟩
    refine ⟨⟨by omega, by omega⟩, flC F, fun c hc => by rw [Int.toNat_natCast, rowF_at M hc, hF], ?_⟩
    refine ⟨fun c2 => ?_, fun c2 => ?_⟩
    · have f2 : ltS F.path s = true := c2
      refine ⟨trivial, k + 1, [], ⟨by omega, fun i hi => ?_⟩, by show M.length - (k + 1) < M.length - k; omega, lehN _, ⟨.same _ trivial, leS rfl, leRo rfl, leI e1, trivial⟩⟩
      by_cases e : i = k
      · rw [e, hF]; exact f2
      · exact hlt i (by omega)
    · have f2 : ltS F.path s = false := c2
      have fin := fin fun _ => by rw [hF]; exact f2
      have hkl : (M.take k).length = k := by rw [List.length_take]; omega
      obtain ⟨O1, hO1⟩ : ∃ O1, M.take k = O1 := ⟨_, rfl⟩
      obtain ⟨N, hN⟩ : ∃ N : Fl, (⟨s, v⟩ : Fl) = N := ⟨_, rfl⟩
      rw [hO1] at hkl fin
      rw [hN] at fin
      refine ⟨⟨by omega, by omega⟩, ?_⟩
      refine ⟨rfl, fun i hi => by simp at hi, by show (0 + ((k : Int).toNat - 0)) * 40 ≤ _; omega, fun i hi => rowCell1 M _, rowF O1, fun i hi => by simp at hi, fun i hi => ?_, ?_⟩
      · show rowF O1 (0 + i) = rowF M (0 * 2 + i)
        have hi : i < ((k : Int).toNat - 0) * 2 := hi
        rw [Nat.zero_add, ← hO1]
        exact rowF_take M hk (by omega)
      refine ⟨?_, fun i hi => rowCell1 O1 i, Nat.le_refl 2, by show (0 + ((k : Int).toNat - 0) + 1) * 40 ≤ _; omega, fun i hi => ?_, rowF (O1 ++ [N]), fun i hi => ?_, fun i hi => ?_, ?_⟩
      · rfl
      · match i, hi with
        | 0, _ => rfl
        | 1, _ => rfl
      · have hi : i < (0 + ((k : Int).toNat - 0)) * 2 := hi
        exact rowF_less O1 [N] (by omega)
      · show rowF (O1 ++ [N]) ((0 + ((k : Int).toNat - 0)) * 2 + i) = _
        rw [show 0 + ((k : Int).toNat - 0) = O1.length by omega, rowF_more, ← hN]
        match i, hi with
        | 0, _ => rfl
        | 1, _ => rfl
      refine ⟨⟨by omega, by omega⟩, ?_⟩
      refine ⟨?_, fun i hi => rowCell1 (O1 ++ [N]) i, by show (0 + ((k : Int).toNat - 0) + 1 + (M.length - (k : Int).toNat)) * 40 ≤ _; omega, fun i hi => rowCell1 M _, rowF (O1 ++ [N] ++ M.drop k), fun i hi => ?_, fun i hi => ?_, ?_⟩
      · rfl
      · have hi : i < (0 + ((k : Int).toNat - 0) + 1) * 2 := hi
        exact rowF_less (O1 ++ [N]) (M.drop k) (by rw [List.length_append, List.length_singleton]; omega)
      · show rowF (O1 ++ [N] ++ M.drop k) ((0 + ((k : Int).toNat - 0) + 1) * 2 + i) = rowF M ((k : Int).toNat * 2 + i)
        rw [show 0 + ((k : Int).toNat - 0) + 1 = (O1 ++ [N]).length by rw [List.length_append, List.length_singleton]; omega, rowF_more, rowF_drop, Int.toNat_natCast]
      have hol : (O1 ++ [N] ++ M.drop k).length = 0 + ((k : Int).toNat - 0) + 1 + (M.length - (k : Int).toNat) := by
        rw [List.length_append, List.length_append, List.length_singleton, List.length_drop]; omega
      rw [fin]
      refine ⟨[], [], _, lehN _, .seen (.giveR (rowF (O1 ++ [N] ++ M.drop k)) rfl (by simp) (Nat.le_of_eq (Nat.zero_add _)) (fun i hi => cast (congrArg (fun j => LeV _ _ (rowF (O1 ++ [N] ++ M.drop k) j) (rowF (O1 ++ [N] ++ M.drop k) i)) (Nat.zero_add i).symm) (LeV.same _ (rowFree _ i))) fun i hi => rowFree _ i) (vrsU hol.symm fun i hi => rfl), rfl, rfl⟩
  · have f1 : ¬ (k : Int) < M.length := no c
    have fin := fin fun h => by omega
    have hkl : (M.take k).length = k := by rw [List.length_take]; omega
    obtain ⟨O1, hO1⟩ : ∃ O1, M.take k = O1 := ⟨_, rfl⟩
    obtain ⟨N, hN⟩ : ∃ N : Fl, (⟨s, v⟩ : Fl) = N := ⟨_, rfl⟩
    rw [hO1] at hkl fin
    rw [hN] at fin
    refine ⟨⟨by omega, by omega⟩, ?_⟩
    refine ⟨rfl, fun i hi => by simp at hi, by show (0 + ((k : Int).toNat - 0)) * 40 ≤ _; omega, fun i hi => rowCell1 M _, rowF O1, fun i hi => by simp at hi, fun i hi => ?_, ?_⟩
    · show rowF O1 (0 + i) = rowF M (0 * 2 + i)
      have hi : i < ((k : Int).toNat - 0) * 2 := hi
      rw [Nat.zero_add, ← hO1]
      exact rowF_take M hk (by omega)
    refine ⟨?_, fun i hi => rowCell1 O1 i, Nat.le_refl 2, by show (0 + ((k : Int).toNat - 0) + 1) * 40 ≤ _; omega, fun i hi => ?_, rowF (O1 ++ [N]), fun i hi => ?_, fun i hi => ?_, ?_⟩
    · rfl
    · match i, hi with
      | 0, _ => rfl
      | 1, _ => rfl
    · have hi : i < (0 + ((k : Int).toNat - 0)) * 2 := hi
      exact rowF_less O1 [N] (by omega)
    · show rowF (O1 ++ [N]) ((0 + ((k : Int).toNat - 0)) * 2 + i) = _
      rw [show 0 + ((k : Int).toNat - 0) = O1.length by omega, rowF_more, ← hN]
      match i, hi with
      | 0, _ => rfl
      | 1, _ => rfl
    refine ⟨⟨by omega, by omega⟩, ?_⟩
    refine ⟨?_, fun i hi => rowCell1 (O1 ++ [N]) i, by show (0 + ((k : Int).toNat - 0) + 1 + (M.length - (k : Int).toNat)) * 40 ≤ _; omega, fun i hi => rowCell1 M _, rowF (O1 ++ [N] ++ M.drop k), fun i hi => ?_, fun i hi => ?_, ?_⟩
    · rfl
    · have hi : i < (0 + ((k : Int).toNat - 0) + 1) * 2 := hi
      exact rowF_less (O1 ++ [N]) (M.drop k) (by rw [List.length_append, List.length_singleton]; omega)
    · show rowF (O1 ++ [N] ++ M.drop k) ((0 + ((k : Int).toNat - 0) + 1) * 2 + i) = rowF M ((k : Int).toNat * 2 + i)
      rw [show 0 + ((k : Int).toNat - 0) + 1 = (O1 ++ [N]).length by rw [List.length_append, List.length_singleton]; omega, rowF_more, rowF_drop, Int.toNat_natCast]
    have hol : (O1 ++ [N] ++ M.drop k).length = 0 + ((k : Int).toNat - 0) + 1 + (M.length - (k : Int).toNat) := by
      rw [List.length_append, List.length_append, List.length_singleton, List.length_drop]; omega
    rw [fin]
    refine ⟨[], [], _, lehN _, .seen (.giveR (rowF (O1 ++ [N] ++ M.drop k)) rfl (by simp) (Nat.le_of_eq (Nat.zero_add _)) (fun i hi => cast (congrArg (fun j => LeV _ _ (rowF (O1 ++ [N] ++ M.drop k) j) (rowF (O1 ++ [N] ++ M.drop k) i)) (Nat.zero_add i).symm) (LeV.same _ (rowFree _ i))) fun i hi => rowFree _ i) (vrsU hol.symm fun i hi => rfl), rfl, rfl⟩
end
end Go.Proofs.YtflclafbieokiaaGreatDoor.Dk

/-
  The document's disk: what a deed does.
-/
set_option linter.unusedVariables false
set_option linter.unusedSectionVars false
namespace Go.Proofs.YtflclafbieokiaaGreatDoor.Dk
open Go AL Us

section
variable [Globs]

set_option maxRecDepth 10000 in
theorem done_r (L : List Fl) (e : De4) (hl : L.length ≤ 999999) : ACalls Tryz.prog 59 [flsV L, de4V e] [] (fun r h => r = flsV (actR (toDee e) L) ∧ h = []) := by
  obtain ⟨k, n, t, b⟩ := e
  have hg := get_r L n (by omega)
  have hw := with_r L n b (by omega)
  have hwo := without_r L n (by omega)
  have hlen := without_len n L
  have hw2 := with_r (withoutR n L) t ((getR n L).getD []) (by omega)
  have e1 : k = 1 → actR (toDee ⟨k, n, t, b⟩) L = withR n b L := fun h => by unfold toDee; rw [if_pos h]; rfl
  have e2 : k = 2 → actR (toDee ⟨k, n, t, b⟩) L = withR t ((getR n L).getD []) (withoutR n L) := fun h => by unfold toDee; rw [if_neg (by show ¬ k = 1; omega), if_pos h]; rfl
  have e3 : k ≠ 1 → k ≠ 2 → actR (toDee ⟨k, n, t, b⟩) L = withoutR n L := fun h g => by unfold toDee; rw [if_neg h, if_neg g]; rfl
  obtain ⟨A, hA⟩ : ∃ A, actR (toDee ⟨k, n, t, b⟩) L = A := ⟨_, rfl⟩
  rw [hA] at e1 e2 e3 ⊢
  generalize (getR n L).getD [] = G at *
  generalize (getR n L).isSome = B at *
  generalize withoutR n L = M at *
  refine rcalls Tryz.func59 rfl (by decide) ?_
  refine ⟨fun c => ?_, fun c => ?_⟩
  · have f1 : k = 1 := yes c
    refine ⟨[], _, hw, ?_⟩
    rintro r hh ⟨rfl, rfl⟩
    refine ⟨.inl rfl, ?_⟩
    exact ⟨[], [], _, lehN _, .same _ trivial, by rw [e1 f1], rfl⟩
  have f1 : ¬ k = 1 := no c
  refine ⟨fun c => ?_, fun c => ?_⟩
  · have f2 : k = 2 := yes c
    refine ⟨[], _, hg, ?_⟩
    rintro r hh ⟨rfl, rfl⟩
    refine ⟨.inl rfl, ?_⟩
    refine .inr ⟨7, by decide +kernel, ?_⟩
    refine ⟨_, rfl, ?_⟩
    refine ⟨_, rfl, ?_⟩
    refine ⟨_, rfl, ?_⟩
    refine ⟨_, ⟨[], _, hwo, by rintro r h ⟨rfl, rfl⟩; exact ⟨.inl rfl, rfl, rfl⟩⟩, ?_⟩
    refine ⟨_, rfl, ?_⟩
    refine ⟨_, rfl, ?_⟩
    refine ⟨_, rfl, ?_⟩
    refine ⟨[], _, hw2, ?_⟩
    rintro r hh ⟨rfl, rfl⟩
    refine ⟨.inl rfl, ?_⟩
    exact ⟨[], [], _, lehN _, .same _ trivial, by rw [e2 f2], rfl⟩
  have f2 : ¬ k = 2 := no c
  refine ⟨[], _, hwo, ?_⟩
  rintro r hh ⟨rfl, rfl⟩
  refine ⟨.inl rfl, ?_⟩
  exact ⟨[], [], _, lehN _, .same _ trivial, by rw [e3 f1 f2], rfl⟩
end
end Go.Proofs.YtflclafbieokiaaGreatDoor.Dk

/-
  The document's disk: what is noted, done, synced.
-/
set_option linter.unusedVariables false
set_option linter.unusedSectionVars false
namespace Go.Proofs.YtflclafbieokiaaGreatDoor.Dk
open Go AL Us

def de0 : De4 := ⟨0, ByteArray.empty, ByteArray.empty, []⟩
def rowE (l : List De4) (i : Nat) : AV := de4C (l.getD (i / 4) de0) (i % 4)
abbrev desV (l : List De4) : AV := .rs l.length 4 (rowE l)
theorem rowE_old (l : List De4) (e : De4) {i : Nat} (h : i < l.length * 4) : rowE (l ++ [e]) i = rowE l i := by
  unfold rowE
  have : i / 4 < l.length := by omega
  rw [List.getD_eq_getElem?_getD, List.getElem?_append_left this, List.getD_eq_getElem?_getD]
theorem rowE_new (l : List De4) (e : De4) {i : Nat} (h : i < 4) : rowE (l ++ [e]) (l.length * 4 + i) = de4C e i := by
  unfold rowE
  have h1 : (l.length * 4 + i) / 4 = l.length := by omega
  have h2 : (l.length * 4 + i) % 4 = i := by omega
  rw [h1, h2, List.getD_eq_getElem?_getD, List.getElem?_append_right (Nat.le_refl _), Nat.sub_self]
  rfl
theorem de4C_free (e : De4) : ∀ c, (de4C e c).free
  | 0 => trivial
  | 1 => trivial
  | 2 => trivial
  | _ + 3 => trivial
theorem de4C_cell1 (e : De4) : ∀ c, cell1 (de4C e c) = true
  | 0 => rfl
  | 1 => rfl
  | 2 => rfl
  | _ + 3 => rfl
theorem rowEFree (l : List De4) (i : Nat) : (rowE l i).free := de4C_free _ _
theorem rowECell1 (l : List De4) (i : Nat) : cell1 (rowE l i) = true := de4C_cell1 _ _
theorem vrs {n m sz : Nat} {f g : Nat → AV} (e : n = m) (h : ∀ i, i < n * sz → f i = g i) : VLe (.ro n sz f) (.rs m sz g) := fun w S L v hv => by
  subst e
  obtain ⟨A, cap, e, hc, hd⟩ := hv
  refine ⟨A, cap, e, hc, fun i hi => ?_⟩
  obtain ⟨u, h1, h2⟩ := hd i hi
  exact ⟨u, h1, by rw [← h i hi]; exact h2⟩
theorem ld4 {f : Nat → AV} {i : Nat} (hi : i < 4) : (List.map f (List.range 4)).getD (0 + i) AV.top = f i := by
  match i, hi with
  | 0, _ => rfl
  | 1, _ => rfl
  | 2, _ => rfl
  | 3, _ => rfl
theorem fr4 {f : Nat → AV} (h : ∀ i, (f i).free) {i : Nat} (hi : i < 4) : ((List.map f (List.range 4)).getD (0 + i) AV.top).free := by rw [ld4 hi]; exact h i
structure DkD where
  files : List Fl
  synced : List Fl
  deeds : List De4
  room : Int
def dkdC (d : DkD) : Nat → AV
  | 0 => flsV d.files
  | 1 => flsV d.synced
  | 2 => desV d.deeds
  | _ => int .i64 d.room
abbrev dkdV (d : DkD) : AV := .agg 4 (dkdC d)
def dkdR (d : DkD) : DkR := ⟨d.files, d.synced, d.deeds.map toDee, d.room⟩
def noteD (d : DkD) (e : De4) : DkD := ⟨actR (toDee e) d.files, d.synced, d.deeds ++ [e], d.room⟩
section
variable [Globs]
theorem vde {f : Nat → AV} {e : De4} (h : ∀ i, i < 4 → f i = de4C e i) : VLe (.agg 4 f) (de4V e) := vagg fun i hi => by rw [h i hi]; exact VLe.refl _

set_option maxRecDepth 10000 in
theorem new_r (room : Int) : ACalls Tryz.prog 11 [int .i64 room] [] (fun r h => r = dkdV ⟨[], [], [], max room 0⟩ ∧ h = []) := by
  refine rcalls Tryz.func11 rfl (by decide) ?_
  refine ⟨[], [], _, lehN _, .agg 4 _ (dkdC ⟨[], [], [], max room 0⟩) fun i hi => ?_, rfl, rfl⟩
  match i, hi with
  | 0, _ => exact .seen (.nilR 2 (rowF [])) (vrs rfl fun _ _ => rfl)
  | 1, _ => exact .seen (.nilR 2 (rowF [])) (vrs rfl fun _ _ => rfl)
  | 2, _ => exact .seen (.nilR 4 (rowE [])) (vrs rfl fun _ _ => rfl)
  | 3, _ => exact leI rfl

set_option maxRecDepth 10000 in
theorem may_r (s : ByteArray) : ACalls Tryz.prog 31 [str s] [] (fun r h => r = bool (decide (mayN s)) ∧ h = []) := by
  refine rcalls Tryz.func31 rfl (by decide) ?_
  refine ⟨fun c => ?_, fun c => ?_⟩
  · have f1 : (s.size : Int) ≥ 1 := yes c
    exact ⟨[], [], _, lehN _, .same _ trivial, congrArg AL.bool (decide_eq_decide.2 (by unfold mayN; omega)), rfl⟩
  · have f1 : ¬ (s.size : Int) ≥ 1 := no c
    exact ⟨[], [], _, lehN _, leFP fun h => f1 (by unfold mayN at h; omega), rfl, rfl⟩

set_option maxRecDepth 10000 in
theorem sync_r (d : DkD) : ACalls Tryz.prog 13 [dkdV d] [] (fun r h => r = dkdV ⟨d.files, d.files, [], d.room⟩ ∧ h = []) := by
  refine rcalls Tryz.func13 rfl (by decide) ?_
  refine ⟨[], [], _, lehN _, .agg 4 _ (dkdC ⟨d.files, d.files, [], d.room⟩) fun i hi => ?_, rfl, rfl⟩
  match i, hi with
  | 0, _ => exact .same _ trivial
  | 1, _ => exact .same _ trivial
  | 2, _ => exact .seen (.nilR 4 (rowE [])) (vrs rfl fun _ _ => rfl)
  | 3, _ => exact leI rfl

set_option maxHeartbeats 1000000 in
set_option maxRecDepth 10000 in
theorem note_r (d : DkD) (e : De4) (hl : d.files.length ≤ 999999) (hd : d.deeds.length ≤ 100000) : ACalls Tryz.prog 34 [dkdV d, de4V e] [] (fun r h => r = dkdV (noteD d e) ∧ h = []) := by
  have hdo := done_r d.files e hl
  obtain ⟨F, S, D, R⟩ := d
  obtain ⟨F', hF⟩ : ∃ F', actR (toDee e) F = F' := ⟨_, rfl⟩
  have eN : noteD ⟨F, S, D, R⟩ e = ⟨F', S, D ++ [e], R⟩ := by rw [← hF]; rfl
  rw [eN]
  simp only at hdo hd
  rw [hF] at hdo
  clear hF eN
  refine rcalls Tryz.func34 rfl (by decide) ?_
  refine ⟨[], _, fun i hi => fr4 (de4C_free e) hi, hdo.args ⟨VLe.refl _, vde fun i hi => ld4 hi, trivial⟩, ?_⟩
  rintro r hh ⟨rfl, rfl⟩
  refine ⟨.inl rfl, ?_⟩
  refine ⟨rfl, fun i hi => by simp at hi, by show (0 + D.length) * 64 ≤ _; omega, fun i hi => rowECell1 D _, rowE D, fun i hi => by simp at hi, fun i hi => by show rowE D (0 + i) = _; rw [Nat.zero_add], ?_⟩
  refine ⟨rfl, fun i hi => rowECell1 D i, Nat.le_refl 4, by show (0 + D.length + 1) * 64 ≤ _; omega, fun i hi => ?_, rowE (D ++ [e]), fun i hi => ?_, fun i hi => ?_, ?_⟩
  · match i, hi with
    | 0, _ => rfl
    | 1, _ => rfl
    | 2, _ => rfl
    | 3, _ => rfl
  · exact rowE_old D e (by simpa using hi)
  · show rowE (D ++ [e]) ((0 + D.length) * 4 + i) = _
    rw [Nat.zero_add, rowE_new D e hi]
    match i, hi with
    | 0, _ => rfl
    | 1, _ => rfl
    | 2, _ => rfl
    | 3, _ => rfl
  refine ⟨[], [], _, lehN _, .agg 4 _ (dkdC ⟨F', S, D ++ [e], R⟩) fun i hi => ?_, rfl, rfl⟩
  match i, hi with
  | 0, _ => exact .same _ trivial
  | 1, _ => exact .same _ trivial
  | 2, _ => exact .seen (.giveR (rowE (D ++ [e])) rfl (by simp) (Nat.le_of_eq (Nat.zero_add _)) (fun i hi => cast (congrArg (fun j => LeV _ _ (rowE (D ++ [e]) j) (rowE (D ++ [e]) i)) (Nat.zero_add i).symm) (LeV.same _ (rowEFree _ i))) fun i hi => rowEFree _ i) (vrs (by simp) fun i hi => rfl)
  | 3, _ => exact leI rfl
end
end Go.Proofs.YtflclafbieokiaaGreatDoor.Dk

/-
  The document's disk: what a deed is answered, and does.
-/
set_option linter.unusedVariables false
set_option linter.unusedSectionVars false
namespace Go.Proofs.YtflclafbieokiaaGreatDoor.Dk
open Go AL Us

def errD (d : DkD) (e : De4) : Int := errR (dkdR d) (toDee e)
def doD (d : DkD) (e : De4) : DkD := if errD d e = 0 then noteD d e else d
theorem dkdR_do (d : DkD) (e : De4) : dkdR (doD d e) = doR (dkdR d) (toDee e) := by
  unfold doD doR errD
  split
  · show (⟨_, _, (d.deeds ++ [e]).map toDee, _⟩ : DkR) = _
    rw [List.map_append]; rfl
  · rfl
structure FitD (d : DkD) : Prop where
  files : d.files.length ≤ 100000
  synced : d.synced.length ≤ 100000
  deeds : d.deeds.length ≤ 100000
  bytes : dataN d.files ≤ 1000000000000
theorem without_data (s : ByteArray) : ∀ L : List Fl, dataN (withoutR s L) ≤ dataN L
  | [] => Nat.le_refl _
  | f :: r => by
    have ih := without_data s r
    unfold withoutR at ih ⊢
    by_cases h : f.path = s
    · rw [List.filter_cons_of_neg (by simp [h])]
      show _ ≤ f.data.length + dataN r
      omega
    · rw [List.filter_cons_of_pos (by simp [h])]
      show f.data.length + dataN _ ≤ f.data.length + dataN r
      omega
section
variable [Globs]

theorem dkdC_free (d : DkD) : ∀ c, (dkdC d c).free
  | 0 => trivial
  | 1 => trivial
  | 2 => trivial
  | _ + 3 => trivial
theorem leDk {h : List AO} {l : List Nat} {f : Nat → AV} {d e : DkD} (he : e = d) (h0 : f 0 = dkdC d 0) (h1 : f 1 = dkdC d 1) (h2 : f 2 = dkdC d 2) (h3 : f 3 = dkdC d 3) : LeV h l (.agg 4 f) (dkdV e) := by
  subst he
  refine .agg 4 _ _ fun i hi => ?_
  match i, hi with
  | 0, _ => rw [h0]; exact .same _ (dkdC_free _ _)
  | 1, _ => rw [h1]; exact .same _ (dkdC_free _ _)
  | 2, _ => rw [h2]; exact .same _ (dkdC_free _ _)
  | 3, _ => rw [h3]; exact .same _ (dkdC_free _ _)
theorem vdk {f : Nat → AV} {d : DkD} (h : ∀ i, i < 4 → f i = dkdC d i) : VLe (.agg 4 f) (dkdV d) := vagg fun i hi => by rw [h i hi]; exact VLe.refl _
def tupR (d : DkD) (n : Int) : AV := .tup 2 (pair (dkdV d) (int .i64 n))

set_option maxHeartbeats 1000000 in
set_option maxRecDepth 10000 in
theorem do_r (d : DkD) (e : De4) (hf : FitD d) (hb : e.data.length ≤ 1000000000000) (hr0 : 0 ≤ d.room) : ACalls Tryz.prog 12 [dkdV d, de4V e] [] (fun r h => r = tupR (doD d e) (errD d e) ∧ h = []) := by
  have hnote := note_r d e (by have := hf.files; omega) hf.deeds
  have hm1 := may_r e.name
  have hm2 := may_r e.to
  have hwo := without_r d.files e.name (by have := hf.files; omega)
  have hwl := without_len e.name d.files
  have hwd := without_data e.name d.files
  have hs := size_r (withoutR e.name d.files) (by have := hf.files; omega) (by have := hf.bytes; omega)
  have hg := get_r d.files e.name (by have := hf.files; omega)
  have hdo : errD d e = 0 → doD d e = noteD d e := fun h => by unfold doD; rw [if_pos h]
  have hno : errD d e ≠ 0 → doD d e = d := fun h => by unfold doD; rw [if_neg h]
  have e1 : e.kind = 1 → errD d e = if ¬ mayN e.name then 1 else if (dataN (withoutR e.name d.files) : Int) + e.data.length > d.room then 5 else 0 := fun h => by
    unfold errD toDee; rw [if_pos h]; rfl
  have e2 : e.kind = 2 → errD d e = if ¬ mayN e.to then 1 else if getR e.name d.files = none then 6 else 0 := fun h => by
    unfold errD toDee; rw [if_neg (by omega), if_pos h]; rfl
  have e3 : e.kind ≠ 1 → e.kind ≠ 2 → errD d e = if getR e.name d.files = none then 6 else 0 := fun h g => by
    unfold errD toDee; rw [if_neg h, if_neg g]; rfl
  have hbytes := hf.bytes
  obtain ⟨F, S, D, R⟩ := d
  obtain ⟨k, n, t, b⟩ := e
  simp only at hr0 hm1 hm2 hwo hwl hwd hs hg e1 e2 e3 hb hbytes
  obtain ⟨N, hN⟩ : ∃ N, noteD ⟨F, S, D, R⟩ ⟨k, n, t, b⟩ = N := ⟨_, rfl⟩
  obtain ⟨X, hX⟩ : ∃ X, doD ⟨F, S, D, R⟩ ⟨k, n, t, b⟩ = X := ⟨_, rfl⟩
  obtain ⟨E, hE⟩ : ∃ E, errD ⟨F, S, D, R⟩ ⟨k, n, t, b⟩ = E := ⟨_, rfl⟩
  rw [hN] at hnote hdo
  rw [hX, hE] at hdo hno
  rw [hE] at e1 e2 e3
  rw [hX, hE]
  generalize withoutR n F = M at *
  generalize getR n F = G at *
  clear hN hX hE
  refine rcalls Tryz.func12 rfl (by decide) ?_
  refine ⟨fun c => ?_, fun c => ?_⟩
  · have f1 : k = 1 := yes c
    have e1 := e1 f1
    refine ⟨[], _, hm1, ?_⟩
    rintro r hh ⟨rfl, rfl⟩
    refine ⟨.inl rfl, ?_⟩
    refine ⟨fun c => ?_, fun c => ?_⟩
    · have f2 : ¬ mayN n := of_decide_eq_false (by revert c; cases decide (mayN n) <;> simp)
      rw [if_pos f2] at e1
      have hno := hno (by omega)
      exact ⟨[], [], _, lehN _, le_pair (leDk hno rfl rfl rfl rfl) (leI e1.symm), rfl, rfl⟩
    have f2 : mayN n := of_decide_eq_true (by revert c; cases decide (mayN n) <;> simp)
    rw [if_neg (fun h => h f2)] at e1
    have w1 : IntKind.i64.wrap ((dataN M : Int) + b.length) = (dataN M : Int) + b.length := w64 (by omega) (by omega)
    refine .inr ⟨12, by decide +kernel, ?_⟩
    refine ⟨_, rfl, ?_⟩
    refine ⟨_, rfl, ?_⟩
    refine ⟨_, rfl, ?_⟩
    refine ⟨_, rfl, ?_⟩
    refine ⟨_, ⟨[], _, hwo, by rintro r h ⟨rfl, rfl⟩; exact ⟨.inl rfl, rfl, rfl⟩⟩, ?_⟩
    refine ⟨_, ⟨[], _, hs, by rintro r h ⟨rfl, rfl⟩; exact ⟨.inl rfl, rfl, rfl⟩⟩, ?_⟩
    refine ⟨_, rfl, ?_⟩
    refine ⟨_, rfl, ?_⟩
    refine ⟨_, rfl, ?_⟩
    refine ⟨_, rfl, ?_⟩
    refine ⟨_, rfl, ?_⟩
    refine ⟨_, rfl, ?_⟩
    refine ⟨fun c => ?_, fun c => ?_⟩
    · have f3 : IntKind.i64.wrap ((dataN M : Int) + b.length) > R := yes c
      rw [w1] at f3
      rw [if_pos f3] at e1
      have hno := hno (by omega)
      exact ⟨[], [], _, lehN _, le_pair (leDk hno rfl rfl rfl rfl) (leI e1.symm), rfl, rfl⟩
    · have f3 : ¬ IntKind.i64.wrap ((dataN M : Int) + b.length) > R := no c
      rw [w1] at f3
      rw [if_neg f3] at e1
      have hdo := hdo (by omega)
      refine ⟨[], _, (fun i hi => fr4 (dkdC_free ⟨F, S, D, R⟩) hi), (fun i hi => fr4 (de4C_free ⟨k, n, t, b⟩) hi), hnote.args ⟨vdk fun i hi => ld4 hi, vde fun i hi => ld4 hi, trivial⟩, ?_⟩
      rintro r hh ⟨rfl, rfl⟩
      refine ⟨.inl rfl, ?_⟩
      exact ⟨[], [], _, lehN _, le_pair (leDk hdo rfl rfl rfl rfl) (leI e1.symm), rfl, rfl⟩
  have f1 : ¬ k = 1 := no c
  refine ⟨fun c => ?_, fun c => ?_⟩
  · have f2 : k = 2 := yes c
    have e2 := e2 f2
    refine ⟨[], _, hm2, ?_⟩
    rintro r hh ⟨rfl, rfl⟩
    refine ⟨.inl rfl, ?_⟩
    refine ⟨fun c => ?_, fun c => ?_⟩
    · have f3 : ¬ mayN t := of_decide_eq_false (by revert c; cases decide (mayN t) <;> simp)
      rw [if_pos f3] at e2
      have hno := hno (by omega)
      exact ⟨[], [], _, lehN _, le_pair (leDk hno rfl rfl rfl rfl) (leI e2.symm), rfl, rfl⟩
    have f3 : mayN t := of_decide_eq_true (by revert c; cases decide (mayN t) <;> simp)
    rw [if_neg (fun h => h f3)] at e2
    refine ⟨[], _, hg, ?_⟩
    rintro r hh ⟨rfl, rfl⟩
    refine ⟨.inl rfl, ?_⟩
    refine ⟨fun c => ?_, fun c => ?_⟩
    · have f4 : G = none := by revert c; cases G <;> simp
      rw [if_pos f4] at e2
      have hno := hno (by omega)
      exact ⟨[], [], _, lehN _, le_pair (leDk hno rfl rfl rfl rfl) (leI e2.symm), rfl, rfl⟩
    have f4 : ¬ G = none := by revert c; cases G <;> simp
    rw [if_neg f4] at e2
    have hdo := hdo (by omega)
    refine ⟨[], _, (fun i hi => fr4 (dkdC_free ⟨F, S, D, R⟩) hi), (fun i hi => fr4 (de4C_free ⟨k, n, t, b⟩) hi), hnote.args ⟨vdk fun i hi => ld4 hi, vde fun i hi => ld4 hi, trivial⟩, ?_⟩
    rintro r hh ⟨rfl, rfl⟩
    refine ⟨.inl rfl, ?_⟩
    exact ⟨[], [], _, lehN _, le_pair (leDk hdo rfl rfl rfl rfl) (leI e2.symm), rfl, rfl⟩
  · have f2 : ¬ k = 2 := no c
    have e2 := e3 f1 f2
    refine ⟨[], _, hg, ?_⟩
    rintro r hh ⟨rfl, rfl⟩
    refine ⟨.inl rfl, ?_⟩
    refine ⟨fun c => ?_, fun c => ?_⟩
    · have f4 : G = none := by revert c; cases G <;> simp
      rw [if_pos f4] at e2
      have hno := hno (by omega)
      exact ⟨[], [], _, lehN _, le_pair (leDk hno rfl rfl rfl rfl) (leI e2.symm), rfl, rfl⟩
    have f4 : ¬ G = none := by revert c; cases G <;> simp
    rw [if_neg f4] at e2
    have hdo := hdo (by omega)
    refine ⟨[], _, (fun i hi => fr4 (dkdC_free ⟨F, S, D, R⟩) hi), (fun i hi => fr4 (de4C_free ⟨k, n, t, b⟩) hi), hnote.args ⟨vdk fun i hi => ld4 hi, vde fun i hi => ld4 hi, trivial⟩, ?_⟩
    rintro r hh ⟨rfl, rfl⟩
    refine ⟨.inl rfl, ?_⟩
    exact ⟨[], [], _, lehN _, le_pair (leDk hdo rfl rfl rfl rfl) (leI e2.symm), rfl, rfl⟩
end
end Go.Proofs.YtflclafbieokiaaGreatDoor.Dk

/-
  The document's disk: what is lost.
-/
set_option linter.unusedVariables false
set_option linter.unusedSectionVars false
namespace Go.Proofs.YtflclafbieokiaaGreatDoor.Dk
open Go AL Us

def foldE (L : List Fl) (ds : List De4) : List Fl := ds.foldl (fun L e => actR (toDee e) L) L
theorem fold_map (D : List De4) : ∀ L : List Fl, (D.map toDee).foldl (fun L e => actR e L) L = foldE L D := by
  induction D with
  | nil => intro L; rfl
  | cons e D ih => intro L; exact ih _
theorem crash_none (d : DkD) (keep bytes : Int) (h : ¬ (0 ≤ keep ∧ keep < d.deeds.length ∧ 0 ≤ bytes ∧ (d.deeds.getD keep.toNat de0).kind = 1)) : crashL (dkdR d) keep bytes = foldE d.synced (d.deeds.take keep.toNat) := by
  unfold crashL
  show lostR (((d.deeds.map toDee).take keep.toNat).foldl (fun L e => actR e L) d.synced) (nextD (d.deeds.map toDee) keep) bytes = _
  rw [← List.map_take, fold_map]
  unfold lostR nextD
  split
  · rename_i n b hn
    split at hn
    · rename_i hk
      rw [List.getElem?_map] at hn
      cases he : d.deeds[keep.toNat]? with
      | none => rw [he] at hn; cases hn
      | some e =>
        rw [he] at hn
        have hlt := (List.getElem?_eq_some_iff.1 he).1
        have e1 : d.deeds.getD keep.toNat de0 = e := by rw [List.getD_eq_getElem?_getD, he]; rfl
        have hk1 : e.kind = 1 := by
          refine Classical.byContradiction fun x => ?_
          have hn : some (toDee e) = some (.wr n b) := hn
          unfold toDee at hn
          rw [if_neg x] at hn
          split at hn
          · injection hn with hn; cases hn
          · injection hn with hn; cases hn
        rw [if_neg]
        intro hb
        exact h ⟨hk, by omega, hb, by rw [e1]; exact hk1⟩
    · cases hn
  · rfl
section
variable [Globs]

theorem vdk4 {f : Nat → AV} {d : DkD} (h0 : f 0 = dkdC d 0) (h1 : f 1 = dkdC d 1) (h2 : f 2 = dkdC d 2) (h3 : f 3 = dkdC d 3) : VLe (.agg 4 f) (dkdV d) := vdk fun i hi => by
  match i, hi with
  | 0, _ => exact h0
  | 1, _ => exact h1
  | 2, _ => exact h2
  | 3, _ => exact h3
theorem leTop4 {h : List AO} {l : List Nat} {a b c d : AV} : LeO h l (.lst [a, b, c, d]) (.lst (tops 4)) := .lst _ _ rfl fun i hi => by
  have hi : i < 4 := hi
  match i, hi with
  | 0, _ => exact .top _
  | 1, _ => exact .top _
  | 2, _ => exact .top _
  | 3, _ => exact .top _

end

end Go.Proofs.YtflclafbieokiaaGreatDoor.Dk

/-
  Deeds of a disk's laws: what a disk is behind them, program and document side by side. No program in sight.
-/
set_option linter.unusedVariables false
set_option linter.unusedSectionVars false
namespace Go.Proofs.YtflclafbieokiaaGreatDoor.Dk
open Go AL Us

/-! Names. -/
theorem lt_uniq : ∀ {L M : List ByteArray}, L.Pairwise (fun a b => ltS a b = true) → M.Pairwise (fun a b => ltS a b = true) → L.Perm M → L = M
  | [], M, _, _, h => by rw [h.nil_eq]
  | f :: L, [], _, _, h => by have := h.length_eq; simp at this
  | f :: L, g :: M, hl, hm, h => by
    obtain ⟨a1, a2⟩ := List.pairwise_cons.1 hl
    obtain ⟨b1, b2⟩ := List.pairwise_cons.1 hm
    have e : f = g := by
      rcases List.mem_cons.1 (h.mem_iff.1 (List.mem_cons_self ..)) with e | e
      · exact e
      · rcases List.mem_cons.1 (h.mem_iff.2 (List.mem_cons_self (a := g) (l := M))) with e2 | e2
        · exact e2.symm
        · exact absurd (ltS_trans (b1 f e) (a1 g e2)) (ltS_irr _)
    subst e
    rw [lt_uniq a2 b2 (h.cons_inv)]
theorem names_are {m : FM} {L : List Fl} (h : RelF m L) {ns : List ByteArray} (hn : NamesOf m ns) : ns = L.map Fl.path := by
  refine lt_uniq hn.2 (List.pairwise_map.2 h.rise) (hn.1.trans ?_)
  have := h.perm.map Prod.fst
  rw [List.map_map] at this
  exact this.symm
theorem rel_len {m : FM} {L : List Fl} (h : RelF m L) : L.length = m.length := by
  have := h.perm.length_eq
  rwa [List.length_map] at this
theorem rising_get : ∀ {L : List Fl}, Rising L → ∀ {f : Fl}, f ∈ L → getR f.path L = some f.data
  | [], _, f, hf => by cases hf
  | g :: r, h, f, hf => by
    obtain ⟨h1, h2⟩ := List.pairwise_cons.1 h
    unfold getR
    rcases List.mem_cons.1 hf with rfl | hf
    · rw [if_pos rfl]
    · rw [if_neg (fun e => ltS_irr _ (by have := h1 f hf; rwa [e] at this)), rising_get h2 hf]
theorem rel_file {m : FM} {L : List Fl} (h : RelF m L) {k : Nat} (hk : k < L.length) : getF (L.getD k fl0).path m = some (L.getD k fl0).data := by
  rw [← rel_get h]
  exact rising_get h.rise (get_mem hk)

/-! Deeds. -/
structure De6 where
  kind : Int
  a : Int
  b : Int
  name : ByteArray
  to : ByteArray
  data : List Int
def isD (e : De6) : Prop := 1 ≤ e.kind ∧ e.kind ≤ 3
instance (e : De6) : Decidable (isD e) := by unfold isD; infer_instance
def syncD (d : DkD) : DkD := ⟨d.files, d.files, [], d.room⟩
/-! How large a disk is. -/
def okB (b : List Int) : Prop := ∀ x ∈ b, 0 ≤ x ∧ x < 256
def okV (B : Nat) (b : List Int) : Prop := b.length ≤ B ∧ okB b
theorem okV_nil (B : Nat) : okV B [] := ⟨Nat.zero_le _, fun x hx => by cases hx⟩
theorem okV_take {B : Nat} {b : List Int} (h : okV B b) (n : Nat) : okV B (b.take n) := ⟨by rw [List.length_take]; have := h.1; omega, fun x hx => h.2 x (List.mem_of_mem_take hx)⟩
def okM (B : Nat) (m : FM) : Prop := ∀ p ∈ m, p.1.size ≤ 40 ∧ okV B p.2
def okE (B : Nat) : Dee → Prop
  | .wr n b => n.size ≤ 40 ∧ okV B b
  | .mv a t => t.size ≤ 40
  | .rm a => True
theorem okM_set {B : Nat} {s : ByteArray} {v : List Int} (hs : s.size ≤ 40) (hv : okV B v) : ∀ {m : FM}, okM B m → okM B (setF s v m)
  | [], _ => fun p hp => by
    obtain rfl := List.mem_singleton.1 hp
    exact ⟨hs, hv⟩
  | q :: r, h => by
    unfold setF
    have h1 := h q (List.mem_cons_self ..)
    have h2 : okM B r := fun p hp => h p (List.mem_cons_of_mem _ hp)
    split
    · intro p hp
      rcases List.mem_cons.1 hp with rfl | hp
      · exact ⟨h1.1, hv⟩
      · exact h2 p hp
    · intro p hp
      rcases List.mem_cons.1 hp with rfl | hp
      · exact h1
      · exact okM_set hs hv h2 p hp
theorem okM_del {B : Nat} {s : ByteArray} : ∀ {m : FM}, okM B m → okM B (delF s m)
  | [], h => h
  | q :: r, h => by
    unfold delF
    have h2 : okM B r := fun p hp => h p (List.mem_cons_of_mem _ hp)
    split
    · exact h2
    · intro p hp
      rcases List.mem_cons.1 hp with rfl | hp
      · exact h p (List.mem_cons_self ..)
      · exact okM_del h2 p hp
theorem okM_get {B : Nat} {s : ByteArray} : ∀ {m : FM}, okM B m → okV B ((getF s m).getD [])
  | [], h => okV_nil B
  | q :: r, h => by
    unfold getF
    have h2 : okM B r := fun p hp => h p (List.mem_cons_of_mem _ hp)
    split
    · exact (h q (List.mem_cons_self ..)).2
    · exact okM_get h2
theorem okM_act {B : Nat} {m : FM} (h : okM B m) {e : Dee} (he : okE B e) : okM B (actF e m) := by
  cases e with
  | wr n b => exact okM_set he.1 he.2 h
  | mv a t => exact okM_set he (okM_get h) (okM_del h)
  | rm a => exact okM_del h
theorem okM_acts {B : Nat} : ∀ {ds : List Dee} {m : FM}, okM B m → (∀ e ∈ ds, okE B e) → okM B (ds.foldl (fun m e => actF e m) m)
  | [], _, h, _ => h
  | e :: ds, m, h, g => okM_acts (ds := ds) (m := actF e m) (okM_act h (g e (List.mem_cons_self ..))) fun x hx => g x (List.mem_cons_of_mem _ hx)
theorem del_len (s : ByteArray) : ∀ m : FM, (delF s m).length ≤ m.length
  | [] => Nat.le_refl _
  | p :: r => by
    unfold delF
    split
    · exact Nat.le_succ _
    · have := del_len s r
      simp only [List.length_cons]; omega
theorem act_len (m : FM) (e : Dee) : (actF e m).length ≤ m.length + 1 := by
  cases e with
  | wr n b => exact set_len n b m
  | mv a t =>
    have h1 := set_len t ((getF a m).getD []) (delF a m)
    have h2 := del_len a m
    show (setF t ((getF a m).getD []) (delF a m)).length ≤ _
    omega
  | rm a => have := del_len a m; show (delF a m).length ≤ _; omega
theorem acts_len : ∀ (ds : List Dee) (m : FM), (ds.foldl (fun m e => actF e m) m).length ≤ m.length + ds.length
  | [], _ => Nat.le_refl _
  | e :: ds, m => by
    have h1 := acts_len ds (actF e m)
    have h2 := act_len m e
    show (ds.foldl (fun m e => actF e m) (actF e m)).length ≤ _
    rw [List.length_cons]; omega
theorem size_le {B : Nat} : ∀ {m : FM}, okM B m → sizeF m ≤ m.length * B
  | [], _ => Nat.zero_le _
  | p :: r, h => by
    have h1 := size_le (m := r) fun p hp => h p (List.mem_cons_of_mem _ hp)
    have h2 := (h p (List.mem_cons_self ..)).2.1
    rw [size_cons, List.length_cons, Nat.succ_mul]
    omega
structure FitP (B k : Nat) (d : DkF) : Prop where
  now : okM B d.now
  synced : okM B d.synced
  deeds : ∀ e ∈ d.deeds, okE B e
  nowL : d.now.length ≤ k
  synL : d.synced.length + d.deeds.length ≤ k
theorem fit_new (B : Nat) (room : Int) : FitP B 0 (newF room) := ⟨fun p hp => (by cases hp), fun p hp => (by cases hp), fun p hp => (by cases hp), Nat.le_refl _, Nat.le_refl _⟩
theorem fit_more {B k n : Nat} {d : DkF} (h : FitP B k d) (hn : k ≤ n) : FitP B n d := ⟨h.now, h.synced, h.deeds, Nat.le_trans h.nowL hn, Nat.le_trans h.synL hn⟩
theorem fit_note {B k : Nat} {d : DkF} (h : FitP B k d) {e : Dee} (he : okE B e) : FitP B (k + 1) ⟨actF e d.now, d.synced, d.deeds ++ [e], d.room⟩ :=
  ⟨okM_act h.now he, h.synced, fun x hx => by
    rcases List.mem_append.1 hx with hx | hx
    · exact h.deeds x hx
    · rw [List.mem_singleton.1 hx]; exact he, by
    have := act_len d.now e
    have := h.nowL
    show (actF e d.now).length ≤ _
    omega, by
    have := h.synL
    show d.synced.length + (d.deeds ++ [e]).length ≤ _
    rw [List.length_append, List.length_singleton]; omega⟩
theorem fit_sync {B k : Nat} {d : DkF} (h : FitP B k d) : FitP B k (syncF d) := ⟨h.now, h.now, fun e he => (by cases he), h.nowL, h.nowL⟩
theorem fit_crash {B k : Nat} {d : DkF} (h : FitP B k d) (keep bytes : Int) : FitP B k (crashF d keep bytes) := by
  have key : okM B (crashM d keep bytes) ∧ (crashM d keep bytes).length ≤ d.synced.length + d.deeds.length := by
    unfold crashM nextD
    have h1 := okM_acts (ds := d.deeds.take keep.toNat) h.synced fun e he => h.deeds e (List.mem_of_mem_take he)
    have h2 := acts_len (d.deeds.take keep.toNat) d.synced
    generalize (d.deeds.take keep.toNat).foldl (fun m e => actF e m) d.synced = m at *
    rw [List.length_take] at h2
    unfold lostF
    split
    · rename_i n b hn
      split at hn
      · have hlt := (List.getElem?_eq_some_iff.1 hn).1
        have hmem : okE B (.wr n b) := h.deeds _ (List.mem_of_getElem? hn)
        split
        · have h3 := set_len n (b.take bytes.toNat) m
          exact ⟨okM_set hmem.1 (okV_take hmem.2 _) h1, by omega⟩
        · exact ⟨h1, by omega⟩
      · cases hn
    · exact ⟨h1, by omega⟩
  have hk := h.synL
  exact ⟨key.1, key.1, fun e he => (by cases he), Nat.le_trans key.2 hk, Nat.le_trans key.2 hk⟩
theorem fit_size {B k : Nat} {d : DkF} (h : FitP B k d) : sizeF d.now ≤ k * B := Nat.le_trans (size_le h.now) (Nat.mul_le_mul_right _ h.nowL)
theorem fit_len {B k : Nat} {d : DkF} (h : FitP B k d) : d.deeds.length ≤ k ∧ d.synced.length ≤ k := by have := h.synL; omega
theorem fit_doc {B k : Nat} {d : DkF} {x : DkD} (h : FitP B k d) (r : RelD d (dkdR x)) (hk : k ≤ 100000) (hB : k * B ≤ 1000000000000) : FitD x := by
  have h1 := rel_len r.now
  have h2 := rel_len r.synced
  have h3 := fit_len h
  have h4 := h.nowL
  have h5 := rel_size r.now
  have h6 := fit_size h
  have h7 : d.deeds.length = x.deeds.length := by rw [r.deeds]; exact List.length_map _
  have e1 : (dkdR x).files = x.files := rfl
  have e2 : (dkdR x).synced = x.synced := rfl
  rw [e1] at h1 h5
  rw [e2] at h2
  exact ⟨by omega, by omega, by omega, by omega⟩
theorem fit_bytes {B : Nat} {m : FM} {L : List Fl} (r : RelF m L) (h : okM B m) : okBytes L := fun f hf => by
  have : prF f ∈ m := r.perm.mem_iff.1 (List.mem_map.2 ⟨f, hf, rfl⟩)
  exact (h _ this).2.2

def newD (room : Int) : DkD := ⟨[], [], [], max room 0⟩
def smallD (l : List De6) : Prop := ∀ e ∈ l.take 60, e.data.length ≤ 100
instance (l : List De6) : Decidable (smallD l) := by unfold smallD; infer_instance
end Go.Proofs.YtflclafbieokiaaGreatDoor.Dk

/-
  The journal: what a commit is, step by step. No program in sight.
-/
set_option linter.unusedVariables false
set_option linter.unusedSectionVars false
namespace Go.Proofs.YtflclafbieokiaaGreatDoor.Jr
open Go AL Us Dk

abbrev intN : ByteArray := "intent".toUTF8
def badF (f : Fl) : Prop := f.path = intN ∨ f.path = ByteArray.empty ∨ 40 < f.path.size
instance (f : Fl) : Decidable (badF f) := by unfold badF; infer_instance
def badAt (l : List Fl) (k : Nat) : Prop := k < l.length ∧ badF (l.getD k fl0) ∧ ∀ j, j < k → ¬ badF (l.getD j fl0)
theorem intN_may : mayN intN := by decide
theorem may_of {f : Fl} (h : ¬ badF f) : mayN f.path := by
  refine ⟨?_, ?_⟩
  · rcases Nat.eq_zero_or_pos f.path.size with h0 | h0
    · refine absurd (.inr (.inl ?_)) h
      apply ByteArray.ext
      exact Array.eq_empty_of_size_eq_zero h0
    · exact h0
  · rcases Nat.lt_or_ge 40 f.path.size with h1 | h1
    · exact absurd (.inr (.inr h1)) h
    · exact h1

def stJ (l : List Fl) (b : List Int) (i : Nat) (d : DkF) : DkF :=
  if i = 0 then doF d (.wr intN b) else if i = 1 then syncF d else if i < l.length + 2 then doF d (.wr (l.getD (i - 2) fl0).path (l.getD (i - 2) fl0).data)
  else if i = l.length + 2 then syncF d else if i = l.length + 3 then doF d (.rm intN) else syncF d
def cmJ (l : List Fl) (b : List Int) (d : DkF) : Nat → DkF
  | 0 => d
  | i + 1 => stJ l b i (cmJ l b d i)
def comE (d : DkF) (l : List Fl) (pe : Int) (n : Nat) : Int :=
  if ∃ f ∈ l, badF f then 1 else if pe ≠ 0 then pe else if ((sizeF d.now + n + dataN l : Nat) : Int) > d.room then 5 else 0
theorem fit_do {B k : Nat} {d : DkF} (h : FitP B k d) {e : Dee} (he : errF d e = 0 → okE B e) : FitP B (k + 1) (doF d e) := by
  unfold doF
  split
  · rename_i h0
    exact fit_note h (he h0)
  · exact fit_more h (Nat.le_succ k)
theorem ok_wr {B : Nat} {d : DkF} {n : ByteArray} {b : List Int} (hb : okV B b) (h : errF d (.wr n b) = 0) : okE B (.wr n b) := by
  have h : (if ¬ mayN n then (1 : Int) else if (sizeF d.now : Int) - ((getF n d.now).getD []).length + b.length > d.room then 5 else 0) = 0 := h
  by_cases hm : mayN n
  · exact ⟨hm.2, hb⟩
  · rw [if_pos hm] at h; omega
theorem fit_st {B k : Nat} {d : DkF} {l : List Fl} {b : List Int} (h : FitP B k d) (hb : okV B b) (hl : ∀ f ∈ l, okV B f.data) (i : Nat) : FitP B (k + 1) (stJ l b i d) := by
  unfold stJ
  split
  · exact fit_do h fun e => ok_wr hb e
  split
  · exact fit_more (fit_sync h) (Nat.le_succ k)
  split
  · exact fit_do h fun e => ok_wr (hl _ (get_mem (by omega))) e
  split
  · exact fit_more (fit_sync h) (Nat.le_succ k)
  split
  · exact fit_do h fun e => trivial
  · exact fit_more (fit_sync h) (Nat.le_succ k)
theorem fit_cm {B k : Nat} {d : DkF} {l : List Fl} {b : List Int} (h : FitP B k d) (hb : okV B b) (hl : ∀ f ∈ l, okV B f.data) : ∀ i, FitP B (k + i) (cmJ l b d i)
  | 0 => h
  | i + 1 => by
    have := fit_st (fit_cm h hb hl i) hb hl i
    rwa [Nat.add_assoc] at this
theorem wr_fits {d : DkF} {n : ByteArray} {b : List Int} (hn : mayN n) (h : ((sizeF d.now + b.length : Nat) : Int) ≤ d.room) : errF d (.wr n b) = 0 := by
  show (if ¬ mayN n then (1 : Int) else if (sizeF d.now : Int) - ((getF n d.now).getD []).length + b.length > d.room then 5 else 0) = 0
  rw [if_neg (fun x => x hn), if_neg (by omega)]
end Go.Proofs.YtflclafbieokiaaGreatDoor.Jr

/-
  Texts that are cut at a sign, and put together with it. No program in sight.
-/
set_option linter.unusedVariables false
namespace Go.Proofs.YtflclafbieokiaaGreatDoor.Spl
open Go AL

def pieces (c : UInt8) : List UInt8 → List (List UInt8)
  | [] => [[]]
  | x :: l => if x = c then [] :: pieces c l else match pieces c l with
    | p :: ps => (x :: p) :: ps
    | [] => [[x]]
def joinC (c : UInt8) : List (List UInt8) → List UInt8
  | [] => []
  | p :: r => p ++ r.flatMap fun q => c :: q
theorem pieces_ne (c : UInt8) : ∀ l, pieces c l ≠ []
  | [] => by simp [pieces]
  | x :: l => by
    unfold pieces
    split
    · simp
    · split <;> simp
theorem pieces_free {c : UInt8} : ∀ {l : List UInt8}, ∀ p ∈ pieces c l, ∀ x ∈ p, x ≠ c
  | [], p, h, x, hx => by simp [pieces] at h; subst h; cases hx
  | y :: l, p, h, x, hx => by
    unfold pieces at h
    split at h
    · rcases List.mem_cons.1 h with rfl | h
      · cases hx
      · exact pieces_free p h x hx
    · rename_i hy
      split at h
      · rename_i q qs e
        rcases List.mem_cons.1 h with rfl | h
        · rcases List.mem_cons.1 hx with rfl | hx
          · exact hy
          · exact pieces_free q (by rw [e]; simp) x hx
        · exact pieces_free p (by rw [e]; simp [h]) x hx
      · rename_i e; exact absurd e (pieces_ne c l)
theorem join_pieces (c : UInt8) : ∀ l, joinC c (pieces c l) = l
  | [] => rfl
  | x :: l => by
    have ih := join_pieces c l
    unfold pieces
    split
    · rename_i e
      subst e
      cases h : pieces x l with
      | nil => exact absurd h (pieces_ne x l)
      | cons p ps =>
        rw [h] at ih
        simp only [joinC, List.nil_append, List.flatMap_cons] at ih ⊢
        rw [List.cons_append, ih]
    · split
      · rename_i p ps e
        rw [e] at ih
        simp only [joinC, List.cons_append] at ih ⊢
        rw [ih]
      · rename_i e; exact absurd e (pieces_ne c l)
theorem join_cons (c : UInt8) (p q : List UInt8) (r : List (List UInt8)) : joinC c (p :: q :: r) = p ++ c :: joinC c (q :: r) := by
  simp [joinC]
theorem pieces_len (c : UInt8) : ∀ l, (pieces c l).length = l.count c + 1
  | [] => rfl
  | x :: l => by
    have ih := pieces_len c l
    unfold pieces
    split
    · rename_i e; subst e; simp [ih]
    · rename_i hne
      split
      · rename_i p ps e
        rw [e] at ih
        rw [List.count_cons_of_ne hne]
        simpa using ih
      · rename_i e; exact absurd e (pieces_ne c l)
theorem rest_last {c : UInt8} {ps : List (List UInt8)} {k : Nat} (h : k + 1 = ps.length) : joinC c (ps.drop k) = ps.getD k [] := by
  have hk : k < ps.length := by omega
  rw [List.drop_eq_getElem_cons hk, List.drop_eq_nil_of_le (by omega), List.getD_eq_getElem?_getD, List.getElem?_eq_getElem hk]
  simp [joinC]
theorem rest_more {c : UInt8} {ps : List (List UInt8)} {k : Nat} (h : k + 1 < ps.length) : joinC c (ps.drop k) = ps.getD k [] ++ c :: joinC c (ps.drop (k + 1)) := by
  have hk : k < ps.length := by omega
  rw [List.drop_eq_getElem_cons hk, List.drop_eq_getElem_cons h, join_cons, List.getD_eq_getElem?_getD, List.getElem?_eq_getElem hk]
  rfl
def pre (ps : List (List UInt8)) : Nat → Nat
  | 0 => 0
  | k + 1 => pre ps k + (ps.getD k []).length + 1
theorem pre_drop (c : UInt8) (ps : List (List UInt8)) : ∀ k, k < ps.length → (joinC c ps).drop (pre ps k) = joinC c (ps.drop k)
  | 0, _ => rfl
  | k + 1, h => by
    have ih := pre_drop c ps k (by omega)
    rw [rest_more (by omega)] at ih
    show (joinC c ps).drop (pre ps k + (ps.getD k []).length + 1) = _
    rw [Nat.add_assoc, ← List.drop_drop, ih, List.drop_append, List.drop_eq_nil_of_le (by omega)]
    simp
theorem pre_end (c : UInt8) {ps : List (List UInt8)} {k : Nat} (h : k + 1 = ps.length) (hp : pre ps k ≤ (joinC c ps).length) : pre ps k + (ps.getD k []).length = (joinC c ps).length := by
  have h1 := pre_drop c ps k (by omega)
  rw [rest_last h] at h1
  have := congrArg List.length h1
  rw [List.length_drop] at this
  omega
theorem pre_le (c : UInt8) (ps : List (List UInt8)) : ∀ k, k < ps.length → pre ps k ≤ (joinC c ps).length
  | 0, _ => Nat.zero_le _
  | k + 1, h => by
    have h0 := pre_le c ps k (by omega)
    have h1 := pre_drop c ps k (by omega)
    rw [rest_more (by omega)] at h1
    have := congrArg List.length h1
    rw [List.length_drop, List.length_append, List.length_cons] at this
    show pre ps k + (ps.getD k []).length + 1 ≤ _
    omega
theorem pre_get {c : UInt8} {ps : List (List UInt8)} {k j : Nat} (hk : k < ps.length) (hj : j < (ps.getD k []).length) : (joinC c ps)[pre ps k + j]? = (ps.getD k [])[j]? := by
  have h1 := pre_drop c ps k hk
  have : ((joinC c ps).drop (pre ps k))[j]? = (ps.getD k [])[j]? := by
    rw [h1]
    rcases Nat.lt_or_ge (k + 1) ps.length with h | h
    · rw [rest_more h, List.getElem?_append_left hj]
    · rw [rest_last (by omega)]
  rwa [List.getElem?_drop] at this
theorem pre_sep {c : UInt8} {ps : List (List UInt8)} {k : Nat} (hk : k + 1 < ps.length) : (joinC c ps)[pre ps k + (ps.getD k []).length]? = some c := by
  have h1 := pre_drop c ps k (by omega)
  have : ((joinC c ps).drop (pre ps k))[(ps.getD k []).length]? = some c := by
    rw [h1, rest_more hk, List.getElem?_append_right (Nat.le_refl _)]
    simp
  rwa [List.getElem?_drop] at this
theorem pre_piece {c : UInt8} {ps : List (List UInt8)} {k : Nat} (hk : k < ps.length) : ((joinC c ps).take (pre ps k + (ps.getD k []).length)).drop (pre ps k) = ps.getD k [] := by
  have h1 := pre_drop c ps k hk
  rw [List.drop_take, h1, show pre ps k + (ps.getD k []).length - pre ps k = (ps.getD k []).length by omega]
  rcases Nat.lt_or_ge (k + 1) ps.length with h | h
  · rw [rest_more h, List.take_append_of_le_length (Nat.le_refl _), List.take_of_length_le (Nat.le_refl _)]
  · rw [rest_last (by omega), List.take_of_length_le (Nat.le_refl _)]
theorem rest_len (c : UInt8) (ps : List (List UInt8)) (k : Nat) (hk : k < ps.length) : (joinC c (ps.drop k)).length ≤ (joinC c ps).length := by
  have := congrArg List.length (pre_drop c ps k hk)
  rw [List.length_drop] at this
  omega
theorem index_app {c : UInt8} (b : List UInt8) : ∀ {a : List UInt8}, (∀ x ∈ a, x ≠ c) → Lib.indexByte (a ++ c :: b) c = (a.length : Int)
  | [], _ => by simp [Lib.indexByte]
  | x :: a, h => by
    have ih := index_app b (a := a) fun y hy => h y (by simp [hy])
    rw [List.cons_append]
    unfold Lib.indexByte
    have hx : (x == c) = false := by simpa using h x (by simp)
    have h2 : (Lib.indexByte (a ++ c :: b) c == -1) = false := by rw [ih]; simp
    rw [if_neg (by rw [hx]; decide), h2, ih]
    simp

end Go.Proofs.YtflclafbieokiaaGreatDoor.Spl

/-
  The contract of strings.Split at a text of one sign.
-/
set_option linter.unusedVariables false
set_option linter.unusedSectionVars false
namespace Go.Proofs.YtflclafbieokiaaGreatDoor.Spl
open Go AL

def bA (p : List UInt8) : ByteArray := ⟨p.toArray⟩
theorem bA_data (s : ByteArray) : bA s.data.toList = s := by unfold bA; cases s; simp
theorem bA_list (p : List UInt8) : (bA p).data.toList = p := by simp [bA]
theorem bA_size (p : List UInt8) : (bA p).size = p.length := by show p.toArray.size = _; simp
theorem bA_ext {s t : ByteArray} (h : s.data.toList = t.data.toList) : s = t := by rw [← bA_data s, h, bA_data]
theorem ext_list (s : ByteArray) (a b : Nat) : (s.extract a b).data.toList = (s.data.toList.take b).drop a := by
  rw [ByteArray.data_extract, Array.toList_extract]
  simp [List.drop_take]
theorem cut_left (p b : List UInt8) (c : UInt8) : (bA (p ++ c :: b)).extract 0 p.length = bA p := by
  refine bA_ext ?_
  rw [ext_list, bA_list, bA_list, List.drop_zero, List.take_append_of_le_length (Nat.le_refl _), List.take_of_length_le (Nat.le_refl _)]
theorem cut_right (p b : List UInt8) (c : UInt8) : (bA (p ++ c :: b)).extract (p.length + 1) (bA (p ++ c :: b)).size = bA b := by
  refine bA_ext ?_
  rw [ext_list, bA_list, bA_list, bA_size, List.take_of_length_le (Nat.le_refl _), List.drop_append, List.drop_eq_nil_of_le (by omega)]
  simp

section
variable [Globs]
theorem indexOne_prog (s : ByteArray) (c : UInt8) : ACalls Tryz.prog 116 [str s, str ⟨#[c]⟩] [] (fun r h => r = int .i64 (Lib.indexByte s.data.toList c) ∧ h = []) :=
  acalls_same (args := [.string s, .string ⟨#[c]⟩]) ⟨_, Tryz.func116, by decide, rfl⟩ fun w => Tryz.strings_Index_one s c w

end
end Go.Proofs.YtflclafbieokiaaGreatDoor.Spl
