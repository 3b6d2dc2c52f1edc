/-
  The state's own logic is sound: what only computes and reads. No program in sight.
-/
import Derived.Test.YtmohncaoimeneaaDoorAlAwp
import Derived.Laws.Sem
import Derived.Laws.Entries
import Derived.Laws.Strings
import Derived.Laws.StructEq
import Derived.ChangeKeysEq
set_option linter.unusedVariables false
set_option linter.unusedSectionVars false
namespace Go.Proofs.YtmohncaoimeneaaDoor.AL
open Go
variable [Globs]

theorem getK_iff {K : AV → Prop} : ∀ {t : List AV} {i : Nat}, getK t i K ↔ K (t.getD i .top)
  | [], _ => by simp [getK]
  | a :: _, 0 => by simp [getK]
  | _ :: l, n + 1 => by simp [getK, getK_iff (t := l)]
theorem setK_iff {v : AV} : ∀ {t : List AV} {i : Nat} {K : List AV → Prop}, setK t i v K ↔ K (t.set i v)
  | [], _, _ => by simp [setK]
  | a :: _, 0, _ => by simp [setK]
  | _ :: l, n + 1, _ => by simp [setK, setK_iff (t := l)]
theorem getO_iff {K : AO → Prop} : ∀ {t : List AO} {i : Nat}, getO t i K ↔ ∃ o, t[i]? = some o ∧ K o
  | [], _ => by simp [getO]
  | a :: _, 0 => by simp [getO]
  | _ :: l, n + 1 => by simp [getO, getO_iff (t := l)]
theorem setO_iff {v : AO} : ∀ {t : List AO} {i : Nat} {K : List AO → Prop}, setO t i v K ↔ i < t.length ∧ K (t.set i v)
  | [], _, _ => by simp [setO]
  | a :: _, 0, _ => by simp [setO]
  | _ :: l, n + 1, _ => by simp [setO, setO_iff (t := l)]
theorem lits_get {i n : Nat} (h : lits[i]? = some n) : n = i := by
  have e : lits = List.range 100 := rfl
  rw [e] at h
  rcases Nat.lt_or_ge i 100 with hi | hi
  · rw [List.getElem?_range hi] at h; exact (Option.some.inj h).symm
  · rw [List.getElem?_eq_none (by simpa using hi)] at h; cases h
theorem addO_go {o : AO} : ∀ {h : List AO} {l : List Nat} {m : Nat} {K : Nat → List AO → Prop}, (∀ (i n : Nat), l[i]? = some n → n = m + i) →
    addO.go o h l K → K (m + h.length) (h ++ [o])
  | [], [], _, _, _, hk => by simp [addO.go] at hk
  | [], n :: _, m, K, hl, hk => by
    have := hl 0 n rfl
    simp only [addO.go] at hk
    simpa [this] using hk
  | p :: h, [], _, _, _, hk => by simp [addO.go] at hk
  | p :: h, n :: l, m, K, hl, hk => by
    simp only [addO.go] at hk
    have := addO_go (h := h) (l := l) (m := m + 1) (fun i n hi => by have := hl (i + 1) n (by simpa using hi); omega) hk
    simpa [Nat.add_assoc, Nat.add_comm 1] using this
theorem addO_spec {h : List AO} {o : AO} {K : Nat → List AO → Prop} (hk : addO h o K) : K h.length (h ++ [o]) := by
  have := addO_go (m := 0) (fun i n hi => by simpa using lits_get hi) hk
  simpa using this
theorem sure_iff {p : Prop} [Decidable p] {k : Prop} : sure p k ↔ p ∧ k := by
  unfold sure
  by_cases h : p <;> simp [h]
theorem sameKind_iff {k k' : IntKind} {p : Prop} : sameKind k k' p ↔ k = k' ∧ p := by
  unfold sameKind
  by_cases h : k = k' <;> simp [h]
theorem sizeK_spec {P : Program} {T : TypeId} {K : Nat → Prop} (h : sizeK P T K) : ∃ n, (∀ w, (sizeOf T).run P w = .ok n w) ∧ (∃ i, P.info? T = some i ∧ i.size = n) ∧ K n := by
  unfold sizeK at h
  split at h
  · rename_i i hi
    refine ⟨i.size, fun w => ?_, ⟨i, hi, rfl⟩, ?_⟩
    · simp [sizeOf, typeInfo, program, Sem.run, hi]
    · split at h <;> simp_all
  · exact h.elim
theorem run_underlying {P : Program} {T : TypeId} {d : TypeDesc} (h : P.underlying T = some d) (w : World) : (underlying T).run P w = .ok d w := by
  simp [underlying, program, Sem.run, h]
theorem run_isAgg {P : Program} {T : TypeId} {b : Bool} (h : aggB P T = some b) (w : World) : (isAgg T).run P w = .ok b w := by
  unfold aggB at h
  cases hd : P.underlying T with
  | none => simp [hd] at h
  | some d =>
    rw [hd] at h
    unfold isAgg
    simp only [Sem.run_bind, run_underlying hd, Result.andThen_ok]
    cases d <;> simp at h <;> subst h <;> rfl

section
variable {P : Program} {C : Ctx} {t : List AV} {h : List AO} {L : Loc} {a : Act} {w : World}

/-- The same blocks, and perhaps new ones. -/
def Ext (w w' : World) : Prop := w.heap.size ≤ w'.heap.size ∧ ∀ b, b < w.heap.size → w'.heap[b]? = w.heap[b]?
theorem Ext.refl (w : World) : Ext w w := ⟨Nat.le_refl _, fun _ _ => rfl⟩
theorem Ext.cell {w w' : World} (h : Ext w w') {b o : Nat} {v : Value} (hc : w.cell? ⟨b, o, none⟩ = some v) : w'.cell? ⟨b, o, none⟩ = some v := by
  have hb : b < w.heap.size := by
    rcases Nat.lt_or_ge b w.heap.size with h' | h'
    · exact h'
    · simp [World.cell?, Array.getElem?_eq_none h'] at hc
  have := h.2 b hb
  simpa only [World.cell?, this] using hc

theorem Rel.get (hr : Rel C t h L a w) (i : Nat) : den w (SS C w h L) L (t.getD i .top) (a.tmps.getD i undef) := by
  cases e : t[i]? with
  | none => simp [e, den]
  | some v =>
    obtain ⟨u, h1, h2⟩ := hr.tmps i v e
    simpa [e, h1] using h2
theorem cstK_spec {v : Value} {K : AV → Prop} (h : cstK v K) (w : World) (S : Nat → Prop) (L : Loc) : ∃ x, den w S L x v ∧ K x := by
  unfold cstK at h
  split at h
  · exact ⟨.tt, rfl, h⟩
  · exact ⟨.ff, rfl, h⟩
  · exact ⟨.raw v, rfl, h⟩
theorem evK_spec {K : AV → Prop} (hr : Rel C t h L a w) {x : Operand} (hk : evK t x K) : ∃ v, den w (SS C w h L) L v (a.eval x) ∧ K v := by
  cases x with
  | tmp i => exact ⟨_, hr.get i, getK_iff.1 hk⟩
  | const v => exact cstK_spec hk _ _ _
  | global g => exact ⟨.raw _, rfl, hk⟩
  | func f => exact ⟨.raw _, rfl, hk⟩
theorem evsK_spec (hr : Rel C t h L a w) : ∀ {xs : List Operand} {K : List AV → Prop}, evsK t xs K →
    ∃ vs, vs.length = xs.length ∧ (∀ (i : Nat) (v : AV), vs[i]? = some v → ∃ x, xs[i]? = some x ∧ den w (SS C w h L) L v (a.eval x)) ∧ K vs
  | [], K, hk => ⟨[], rfl, by simp, hk⟩
  | x :: xs, K, hk => by
    obtain ⟨v, h1, h2⟩ := evK_spec hr hk
    obtain ⟨vs, h3, h4, h5⟩ := evsK_spec hr h2
    refine ⟨v :: vs, by simp [h3], fun i u hi => ?_, h5⟩
    cases i with
    | zero => simp at hi; subst hi; exact ⟨x, rfl, h1⟩
    | succ i => simpa using h4 i u (by simpa using hi)

/-- A cell of a block of the call's own. -/
theorem own_cell {B : Option Nat} {sz n : Nat} {p : Nat → Value → Prop} {b : Nat} (h : cellsAre w B sz n p) (hb : B = some b) {i : Nat} (hi : i < n) :
    ∃ u, w.cell? ⟨b, i, none⟩ = some u ∧ p i u := by
  rcases h with ⟨h1, _⟩ | ⟨b', c, el, lo, hi', e, h1, h2, h3, h4, h5⟩
  · omega
  · rw [hb] at e
    obtain rfl := Option.some.inj e
    obtain ⟨u, h6, h7⟩ := h5 i hi
    exact ⟨u, by simp [World.cell?, h1, h6], h7⟩

theorem run_part_one0 {T : TypeId} (hag : aggB P T = some false) {cs : Array Value} {off : Nat} {u : Value} (hc : cs[off]? = some u) (w : World) : (part T cs off).run P w = .ok u w := by
  simp [part, run_isAgg hag, hc]

/-- What an instruction that only computes and reads gives. -/
def Gives (P : Program) (w : World) (D : AV → Value → Prop) (s : Sem Value) (K : AV → Prop) : Prop :=
  ∃ v x, (∀ w', Ext w w' → s.run P w' = .ok v w') ∧ D x v ∧ K x

theorem Gives.of {D : AV → Value → Prop} {s : Sem Value} {K : AV → Prop} {x : AV} {v : Value} (hk : K x) (hd : D x v) (hs : ∀ w', Ext w w' → s.run P w' = .ok v w') : Gives P w D s K :=
  ⟨v, x, hs, hd, hk⟩
theorem Gives.raw {S : Nat → Prop} {s : Sem Value} {K : AV → Prop} {v : Value} (hk : K (.raw v)) (hs : s = Pure.pure v) : Gives P w (den w S L) s K :=
  ⟨v, .raw v, fun w' _ => by rw [hs]; rfl, rfl, hk⟩
theorem Gives.run {S : Nat → Prop} {s : Sem Value} {K : AV → Prop} {v : Value} (hk : K (.raw v)) (hs : ∀ w', s.run P w' = .ok v w') : Gives P w (den w S L) s K :=
  ⟨v, .raw v, fun w' _ => hs w', rfl, hk⟩

theorem intOp_spec {S : Nat → Prop} {op : BinOp} {k k' : IntKind} {x y : Int} {K : AV → Prop} {T : TypeId} (hk : intOp op k k' x y K) :
    Gives P w (den w S L) (binOp op T (.int k x) (.int k' y)) K := by
  cases op <;> simp only [intOp, sameKind_iff] at hk
  case shl =>
    obtain ⟨h1, h2⟩ := hk
    have : ¬ y < 0 := by omega
    exact .raw h2 (by simp only [binOp, Op.shift, this, if_false])
  case shr =>
    obtain ⟨h1, h2⟩ := hk
    have : ¬ y < 0 := by omega
    exact .raw h2 (by simp only [binOp, Op.shift, this, if_false])
  all_goals obtain ⟨rfl, hk⟩ := hk
  case quo => obtain ⟨h1, h2⟩ := hk; exact .raw h2 (by simp [binOp, Op.intDiv, h1])
  case rem => obtain ⟨h1, h2⟩ := hk; exact .raw h2 (by simp [binOp, Op.intDiv, h1])
  case eql => exact .raw hk (by simp [binOp, Op.intCmp]; rfl)
  case neq => exact .raw hk (by simp only [binOp, Op.intCmp, bne, ne_eq, not_true_eq_false, if_false]; congr 2; by_cases e : x = y <;> simp [e])
  case lss => exact .raw hk (by simp [binOp, Op.intCmp])
  case leq => exact .raw hk (by simp [binOp, Op.intCmp])
  case gtr => exact .raw hk (by simp [binOp, Op.intCmp])
  case geq => exact .raw hk (by simp [binOp, Op.intCmp])
  all_goals exact .raw hk (by simp [binOp, Op.intArith, Op.intBits, Go.bits])

theorem toList_eq_iff (x y : ByteArray) : (x.toList == y.toList) = decide (x = y) := by
  have hinj : x.toList = y.toList ↔ x = y := by
    rw [ByteArray.toList_eq, ByteArray.toList_eq]
    constructor
    · intro e; cases x; cases y; simp_all
    · rintro rfl; rfl
  by_cases e : x = y
  · subst e; simp
  · have : ¬ x.toList = y.toList := fun h => e (hinj.1 h)
    simp [e, this]

theorem strOp_spec {S : Nat → Prop} {op : BinOp} {x y : ByteArray} {K : AV → Prop} {T : TypeId} (hk : strOp op x y K) :
    Gives P w (den w S L) (binOp op T (.string x) (.string y)) K := by
  cases op <;> simp only [strOp] at hk
  case add =>
    obtain ⟨h1, h2⟩ := hk
    have hn : ¬ (((x.size + y.size : Nat) : Int) > IntKind.i64.max) := by
      simp [IntKind.max, IntKind.signed, IntKind.bits]; omega
    exact .raw h2 (by simp only [binOp, Op.stringOp, hn, if_false])
  case eql => exact .raw hk (by simp only [binOp, Op.stringOp, toList_eq_iff])
  case neq => exact .raw hk (by simp only [binOp, Op.stringOp, toList_eq_iff]; by_cases e : x = y <;> simp [e])
  case lss => exact .raw hk (by simp only [binOp, Op.stringOp])
  case leq => exact .raw hk (by simp only [binOp, Op.stringOp, toList_eq_iff])
  case gtr => exact .raw hk (by simp only [binOp, Op.stringOp, toList_eq_iff])
  case geq => exact .raw hk (by simp only [binOp, Op.stringOp])

theorem run_equal_bool {T : TypeId} (hu : P.underlying T = some .bool) (x y : Bool) (w : World) : (Op.equal T (.bool x) (.bool y)).run P w = .ok (x == y) w := by
  show (Op.equalIn (9999 + 1) T (.bool x) (.bool y)).run P w = _
  rw [Op.equalIn]
  simp only [Sem.run_bind, run_underlying hu, Result.andThen_ok]
  rfl
theorem run_equal_ptr_nil {T e : TypeId} (hu : P.underlying T = some (.pointer e)) (x : Addr) (w : World) : (Op.equal T (.pointer (some x)) (.pointer none)).run P w = .ok false w := by
  show (Op.equalIn (9999 + 1) T _ _).run P w = _
  rw [Op.equalIn]
  simp only [Sem.run_bind, run_underlying hu, Result.andThen_ok]
  rfl
theorem run_equal_nil_nil {T e : TypeId} (hu : P.underlying T = some (.pointer e)) (w : World) : (Op.equal T (.pointer none) (.pointer none)).run P w = .ok true w := by
  show (Op.equalIn (9999 + 1) T _ _).run P w = _
  rw [Op.equalIn]
  simp only [Sem.run_bind, run_underlying hu, Result.andThen_ok]
  rfl
theorem binOp_eql {T : TypeId} {x y : Value} (hx : (match x with | .int .. | .float .. | .complex .. | .string _ => false | _ => true) = true) :
    (binOp .eql T x y) = (Op.equal T x y >>= fun b => Pure.pure (.bool b)) := by
  cases x <;> simp at hx <;> cases y <;> rfl
theorem binOp_neq {T : TypeId} {x y : Value} (hx : (match x with | .int .. | .float .. | .complex .. | .string _ => false | _ => true) = true) :
    (binOp .neq T x y) = (Op.equal T x y >>= fun b => Pure.pure (.bool !b)) := by
  cases x <;> simp at hx <;> cases y <;> rfl

theorem boolOp_spec {S : Nat → Prop} {op : BinOp} {x y : Bool} {K : AV → Prop} {T : TypeId} (hu : P.underlying T = some .bool) (hk : boolOp op x y K) :
    Gives P w (den w S L) (binOp op T (.bool x) (.bool y)) K := by
  cases op <;> simp only [boolOp] at hk
  case eql => exact .run hk fun w' => by rw [binOp_eql rfl, Sem.run_bind, run_equal_bool hu]; rfl
  case neq => exact .run hk fun w' => by rw [binOp_neq rfl, Sem.run_bind, run_equal_bool hu]; rfl

theorem Gives.tt {S : Nat → Prop} {s : Sem Value} {K : AV → Prop} (hk : K .tt) (hs : ∀ w', s.run P w' = .ok (.bool true) w') : Gives P w (den w S L) s K :=
  ⟨_, .tt, fun w' _ => hs w', rfl, hk⟩
theorem Gives.ff {S : Nat → Prop} {s : Sem Value} {K : AV → Prop} (hk : K .ff) (hs : ∀ w', s.run P w' = .ok (.bool false) w') : Gives P w (den w S L) s K :=
  ⟨_, .ff, fun w' _ => hs w', rfl, hk⟩

theorem explicitInts_iff {k : IntKind} : ∀ {l : List AV} {K : List Int → Prop}, explicitInts k l K → ∃ xs : List Int, l = xs.map (fun n => AV.raw (.int k n)) ∧ K xs
  | [], K, h => ⟨[], rfl, h⟩
  | .raw (.int k' n) :: l, K, h => by
    obtain ⟨rfl, h⟩ := sameKind_iff.1 h
    obtain ⟨xs, rfl, h2⟩ := explicitInts_iff h
    exact ⟨n :: xs, rfl, h2⟩
theorem toIntsK_spec {S : Nat → Prop} {x : AV} {v : Value} {K : IntKind → List Int → Prop} (hx : den w S L x v) (hk : toIntsK x K) : ∃ k xs, v = .agg (xs.map (Value.int k)).toArray ∧ K k xs := by
  unfold toIntsK at hk
  split at hk
  · exact ⟨_, _, hx, hk⟩
  · rename_i n f
    obtain ⟨vs, rfl, hn, hc⟩ := hx
    dsimp only [tabK] at hk
    split at hk
    · rename_i k m r e
      obtain ⟨xs, h1, h2⟩ := explicitInts_iff hk
      refine ⟨k, xs, ?_, h2⟩
      have hlen : n = xs.length := by
        have := congrArg List.length h1
        simpa using this
      congr 1
      apply Array.ext_getElem?
      intro i
      rcases Nat.lt_or_ge i n with hi | hi
      · obtain ⟨u, g1, g2⟩ := hc i hi
        have h3 := congrArg (fun l => l[i]?) h1
        simp only [List.getElem?_map, List.getElem?_range hi, Option.map_some] at h3
        have hi' : i < xs.length := by omega
        rw [List.getElem?_eq_getElem hi'] at h3
        simp only [Option.map_some, Option.some.injEq] at h3
        rw [h3] at g2
        rw [g1, g2]
        simp [hi']
      · rw [Array.getElem?_eq_none (by omega), Array.getElem?_eq_none (by simp; omega)]
    · exact hk.elim
  · exact hk.elim

theorem run_eqItems_ints {d : Nat} {e : TypeId} {k k0 : IntKind} (hu : P.underlying e = some (.int k0)) (w : World) : ∀ (is : List Nat) (xs ys : List Int), (∀ i ∈ is, i < xs.length ∧ i < ys.length) →
    (Op.eqItems (d + 1) e 1 (xs.map (Value.int k)).toArray (ys.map (Value.int k)).toArray is).run P w = .ok (is.all fun i => xs.getD i 0 == ys.getD i 0) w
  | [], _, _, _ => by simp [Op.eqItems]
  | i :: is, xs, ys, h => by
    obtain ⟨h1, h2⟩ := h i (by simp)
    have hag : aggB P e = some false := by simp [aggB, hu]
    have p1 := fun (zs : List Int) (hz : i < zs.length) => run_part_one0 (P := P) hag (cs := (zs.map (Value.int k)).toArray) (off := i * 1) (u := .int k (zs.getD i 0)) (by simp [hz]) w
    have ih := run_eqItems_ints (d := d) (k := k) hu w is xs ys (fun j hj => h j (by simp [hj]))
    simp only [Op.eqItems, Sem.run_bind, p1 xs h1, p1 ys h2, Result.andThen_ok, run_equalIn_int w d e k k0 _ _ hu, List.all_cons]
    cases (xs.getD i 0 == ys.getD i 0)
    · simp
    · simpa using ih

theorem all_get_eq {n : Nat} {xs ys : List Int} (hx : xs.length = n) (hy : ys.length = n) : ((List.range n).all fun i => xs.getD i 0 == ys.getD i 0) = decide (xs = ys) := by
  rw [Bool.eq_iff_iff]
  simp only [List.all_eq_true, List.mem_range, beq_iff_eq, decide_eq_true_eq]
  constructor
  · intro h
    apply List.ext_getElem (by omega)
    intro i h1 h2
    have := h i (by omega)
    simpa [List.getD_eq_getElem?_getD, h1, h2] using this
  · rintro rfl i _; rfl

theorem eqFieldsK_spec {S : Nat → Prop} {d n m : Nat} {f g : Nat → AV} {xs ys : Array Value} (hxs : xs.size = n) (hys : ys.size = m) (hx : ∀ i, i < n → ∃ u, xs[i]? = some u ∧ den w S L (f i) u) (hy : ∀ i, i < m → ∃ u, ys[i]? = some u ∧ den w S L (g i) u) :
    ∀ (fs : List Field) (_ : ∀ f ∈ fs, f.name ≠ "_") (K : Bool → Prop), eqFieldsK P ((List.range n).map f) ((List.range m).map g) fs K → ∃ r, (∀ w', (Op.eqFields (d + 1) xs ys fs).run P w' = .ok r w') ∧ K r
  | [], _, K, hk => ⟨true, fun w' => by simp [Op.eqFields], hk⟩
  | fd :: fs, hnm, K, hk => by
    unfold eqFieldsK at hk
    have hne : fd.name ≠ "_" := hnm fd (by simp)
    have hk := getK_iff.1 hk
    have hk := getK_iff.1 hk
    split at hk
    · rename_i u v e1 e2
      obtain ⟨hok, hk⟩ := sure_iff.1 hk
      have at0 : ∀ {n : Nat} {f : Nat → AV} {xs : Array Value} {u : Value}, (∀ i, i < n → ∃ u, xs[i]? = some u ∧ den w S L (f i) u) → ((List.range n).map f).getD fd.offset .top = .raw u → xs[fd.offset]? = some u := by
        intro n f xs u hx e
        rcases Nat.lt_or_ge fd.offset n with h1 | h1
        · obtain ⟨z, g1, g2⟩ := hx _ h1
          simp [List.getD_eq_getElem?_getD, h1] at e
          rw [e] at g2
          rw [g1, g2]
        · rw [List.getD_eq_getElem?_getD, List.getElem?_eq_none (by simpa using h1)] at e
          cases e
      have hu := at0 hx e1
      have hv := at0 hy e2
      obtain ⟨heq, hag⟩ : (∀ w', (Op.equalIn (d + 1) fd.type u v).run P w' = .ok (leafEq u v) w') ∧ aggB P fd.type = some false := by
        unfold leafOk at hok
        split at hok
        · split at hok
          · rename_i hd
            have hkk := of_decide_eq_true hok
            subst hkk
            exact ⟨fun w' => by rw [run_equalIn_int w' d fd.type _ _ _ _ hd]; rfl, by simp [aggB, hd]⟩
          · cases hok
        · split at hok
          · rename_i hd
            exact ⟨fun w' => by rw [run_equalIn_bool' w' d fd.type _ _ hd]; rfl, by simp [aggB, hd]⟩
          · cases hok
        · split at hok
          · rename_i hd
            exact ⟨fun w' => by rw [run_equalIn_string w' d fd.type _ _ hd, toList_eq_iff]; rfl, by simp [aggB, hd]⟩
          · cases hok
        · cases hok
      have hrec : ∀ (K : Bool → Prop), eqFieldsK P ((List.range n).map f) ((List.range m).map g) fs K → ∃ r, (∀ w', (Op.eqFields (d + 1) xs ys fs).run P w' = .ok r w') ∧ K r := eqFieldsK_spec hxs hys hx hy fs fun f hf => hnm f (by simp [hf])
      have fin : ∀ r, (∀ w', (Op.eqFields (d + 1) xs ys fs).run P w' = .ok r w') → ∀ w', (Op.eqFields (d + 1) xs ys (fd :: fs)).run P w' = .ok (leafEq u v && r) w' := fun r hr w' => by
        have hr' := hr w'
        simp only [Op.eqFields, hne, ne_eq, not_false_eq_true, if_true, Sem.run_bind, run_part_one0 hag hu, run_part_one0 hag hv, heq, Result.andThen_ok]
        cases leafEq u v
        · simp
        · simpa using hr'
      obtain ⟨r, h1, h2⟩ := hrec _ hk
      exact ⟨_, fin r h1, h2⟩
    · exact hk.elim

theorem eqAggK_spec {S : Nat → Prop} {x y : AV} {vx vy : Value} {K : Bool → Prop} {T : TypeId} (hx : den w S L x vx) (hy : den w S L y vy) (hk : eqAggK P T x y K) :
    ∃ r, (∃ xs ys, vx = .agg xs ∧ vy = .agg ys) ∧ P.eqGuardType P.depth T = false ∧ (∀ w', (Op.equal T vx vy).run P w' = .ok r w') ∧ K r := by
  unfold eqAggK at hk
  split at hk
  · rename_i fs hu
    obtain ⟨⟨hst, hgt, hnm⟩, hk⟩ := hk
    split at hk
    · rename_i n f m g
      obtain ⟨xs, rfl, hn, hx⟩ := hx
      obtain ⟨ys, rfl, hm, hy⟩ := hy
      obtain ⟨r, h1, h2⟩ := eqFieldsK_spec (d := 9998) hn hm hx hy _ (fun f hf => by simpa using List.all_eq_true.1 hnm f hf) _ hk
      have hfs : P.fieldsOf T = fs := by simp [Program.fieldsOf, hu]
      refine ⟨r, ⟨_, _, rfl, rfl⟩, hgt, fun w' => ?_, h2⟩
      show (Op.equalIn (9999 + 1) T _ _).run P w' = _
      rw [run_equalIn_struct w' 9999 T xs ys (by rw [hfs]; exact hu) hst, hfs]
      exact h1 w'
    · exact hk.elim
  · rename_i n e hu
    obtain ⟨hgt, hk⟩ := sure_iff.1 hk
    split at hk
    · rename_i k0 he
      obtain ⟨s, hs, ⟨i, hi, hsi⟩, hk⟩ := sizeK_spec hk
      obtain ⟨rfl, hk⟩ := sure_iff.1 hk
      obtain ⟨k, xs, rfl, hk⟩ := toIntsK_spec hx hk
      obtain ⟨k', ys, rfl, hk⟩ := toIntsK_spec hy hk
      obtain ⟨rfl, h1, h2, hk⟩ := sameKind_iff.1 hk
      refine ⟨_, ⟨_, _, rfl, rfl⟩, hgt, fun w' => ?_, hk⟩
      show (Op.equalIn (9999 + 1) T _ _).run P w' = _
      have hc : P.cellsOf e = 1 := by simp [Program.cellsOf, hi, hsi]
      rw [run_equalIn_array w' 9999 _ _ hu hi, hc, run_eqItems_ints he w' _ _ _ (fun i hi => by have := List.mem_range.1 hi; omega), all_get_eq h1 h2]
    · exact hk.elim
  · exact hk.elim

theorem otherOp_spec {S : Nat → Prop} {op : BinOp} {x y : AV} {vx vy : Value} {K : AV → Prop} {T : TypeId} (hx : den w S L x vx) (hy : den w S L y vy) (hk : otherOp P op T x y K) :
    Gives P w (den w S L) (binOp op T vx vy) K := by
  unfold otherOp at hk
  split at hk
  · obtain ⟨r, ⟨xs, ys, rfl, rfl⟩, _, h1, h2⟩ := eqAggK_spec hx hy hk
    exact .run h2 fun w' => by rw [binOp_eql rfl, Sem.run_bind, h1]; rfl
  · obtain ⟨r, ⟨xs, ys, rfl, rfl⟩, _, h1, h2⟩ := eqAggK_spec hx hy hk
    exact .run h2 fun w' => by rw [binOp_neq rfl, Sem.run_bind, h1]; rfl
  · obtain ⟨r, ⟨xs, ys, rfl, rfl⟩, _, h1, h2⟩ := eqAggK_spec hx hy hk
    exact .run h2 fun w' => by rw [binOp_eql rfl, Sem.run_bind, h1]; rfl
  · obtain ⟨r, ⟨xs, ys, rfl, rfl⟩, _, h1, h2⟩ := eqAggK_spec hx hy hk
    exact .run h2 fun w' => by rw [binOp_neq rfl, Sem.run_bind, h1]; rfl
  · obtain ⟨_, b, _, rfl⟩ := hx
    obtain rfl := hy
    exact .ff hk fun w' => by rw [binOp_eql rfl, Sem.run_bind, run_equal_ptr_nil (by assumption)]; rfl
  · obtain ⟨_, b, _, rfl⟩ := hx
    obtain rfl := hy
    exact .tt hk fun w' => by rw [binOp_neq rfl, Sem.run_bind, run_equal_ptr_nil (by assumption)]; rfl
  · obtain rfl := hx
    obtain rfl := hy
    exact .tt hk fun w' => by rw [binOp_eql rfl, Sem.run_bind, run_equal_nil_nil (by assumption)]; rfl
  · obtain rfl := hx
    obtain rfl := hy
    exact .ff hk fun w' => by rw [binOp_neq rfl, Sem.run_bind, run_equal_nil_nil (by assumption)]; rfl
  · obtain rfl := hx
    obtain rfl := hy
    obtain ⟨_, r, h1, h2⟩ := sure_iff.1 hk
    exact .run h2 h1
  · exact hk.elim

theorem run_equal_iface {T : TypeId} {ms} (hu : P.underlying T = some (.interface ms)) (T' : TypeId) (u : Value) (w : World) : (Op.equal T (.iface T' u) .nilIface).run P w = .ok false w := by
  show (Op.equalIn (9999 + 1) T _ _).run P w = _
  rw [Op.equalIn]
  simp only [Sem.run_bind, run_underlying hu, Result.andThen_ok]
  rfl
theorem run_equal_nil_iface {T : TypeId} {ms} (hu : P.underlying T = some (.interface ms)) (w : World) : (Op.equal T .nilIface .nilIface).run P w = .ok true w := by
  show (Op.equalIn (9999 + 1) T _ _).run P w = _
  rw [Op.equalIn]
  simp only [Sem.run_bind, run_underlying hu, Result.andThen_ok]
  rfl
theorem nilOp_spec {S : Nat → Prop} {op : BinOp} {x : AV} {vx : Value} {K : AV → Prop} {T : TypeId} {ox : Operand} (hx : den w S L x vx) (hk : nilOp P op T x K) :
    Gives P w (den w S L) (do eqGuard op T ox (.const .nilIface) vx .nilIface; binOp op T vx .nilIface) K := by
  unfold nilOp at hk
  split at hk
  · obtain ⟨T', u, rfl⟩ := hx
    exact .ff hk fun w' => by
      rw [binOp_eql rfl]
      simp [eqGuard, run_equal_iface (by assumption)]
  · obtain ⟨T', u, rfl⟩ := hx
    exact .tt hk fun w' => by
      rw [binOp_neq rfl]
      simp [eqGuard, run_equal_iface (by assumption)]
  · obtain rfl := hx
    exact .tt hk fun w' => by
      rw [binOp_eql rfl]
      simp [eqGuard, run_equal_nil_iface (by assumption)]
  · obtain rfl := hx
    exact .ff hk fun w' => by
      rw [binOp_neq rfl]
      simp [eqGuard, run_equal_nil_iface (by assumption)]
  · exact hk.elim

theorem binK_spec {S : Nat → Prop} {op : BinOp} {x y : AV} {vx vy : Value} {K : AV → Prop} {T : TypeId} (hx : den w S L x vx) (hy : den w S L y vy) (hk : binK P op T x y K) :
    Gives P w (den w S L) (binOp op T vx vy) K := by
  unfold binK at hk
  split at hk
  · obtain rfl := hx; obtain rfl := hy; exact intOp_spec hk
  · obtain rfl := hx; obtain rfl := hy; exact strOp_spec hk
  all_goals first
    | exact otherOp_spec hx hy hk
    | (split at hk
       · rename_i hu; obtain rfl := hx; obtain rfl := hy; exact boolOp_spec hu hk
       · exact hk.elim)

theorem unK_spec {S : Nat → Prop} {op : UnOp} {x : AV} {vx : Value} {K : AV → Prop} (hx : den w S L x vx) (hk : unK op x K) : Gives P w (den w S L) (Op.unary op vx) K := by
  unfold unK at hk
  split at hk
  · obtain rfl := hx; exact .ff hk fun _ => rfl
  · obtain rfl := hx; exact .tt hk fun _ => rfl
  · obtain rfl := hx; exact .raw hk rfl
  · obtain rfl := hx; exact .raw hk rfl
  · obtain rfl := hx; exact .raw hk rfl
  · exact hk.elim

/-- The equation's guard says nothing here. -/
theorem eqGuard_ok {op : BinOp} {T : TypeId} {x y : Operand} {vx vy : Value} (hn : vx ≠ .nilIface) (ha : ∀ c, vx ≠ .agg c) (w : World) : (eqGuard op T x y vx vy).run P w = .ok () w := by
  cases op <;> first
    | rfl
    | (cases vx <;> first | rfl | exact absurd rfl hn | exact absurd rfl (ha _))
theorem otherOp_guard {S : Nat → Prop} {op : BinOp} {x y : AV} {vx vy : Value} {K : AV → Prop} {T : TypeId} {ox oy : Operand} (hx : den w S L x vx) (hy : den w S L y vy) (hk : otherOp P op T x y K) (w' : World) :
    (eqGuard op T ox oy vx vy).run P w' = .ok () w' := by
  unfold otherOp at hk
  split at hk
  · obtain ⟨r, ⟨xs, ys, rfl, rfl⟩, h0, _⟩ := eqAggK_spec hx hy hk
    exact run_eqGuard_agg w' _ _ _ _ _ _ h0
  · obtain ⟨r, ⟨xs, ys, rfl, rfl⟩, h0, _⟩ := eqAggK_spec hx hy hk
    exact run_eqGuard_agg w' _ _ _ _ _ _ h0
  · obtain ⟨r, ⟨xs, ys, rfl, rfl⟩, h0, _⟩ := eqAggK_spec hx hy hk
    exact run_eqGuard_agg w' _ _ _ _ _ _ h0
  · obtain ⟨r, ⟨xs, ys, rfl, rfl⟩, h0, _⟩ := eqAggK_spec hx hy hk
    exact run_eqGuard_agg w' _ _ _ _ _ _ h0
  · obtain ⟨_, b, _, rfl⟩ := hx; exact eqGuard_ok (fun h => by cases h) (fun c h => by cases h) w'
  · obtain ⟨_, b, _, rfl⟩ := hx; exact eqGuard_ok (fun h => by cases h) (fun c h => by cases h) w'
  · obtain rfl := hx; exact eqGuard_ok (fun h => by cases h) (fun c h => by cases h) w'
  · obtain rfl := hx; exact eqGuard_ok (fun h => by cases h) (fun c h => by cases h) w'
  · obtain rfl := hx
    obtain ⟨h0, _⟩ := sure_iff.1 hk
    exact eqGuard_ok (fun h => by subst h; cases h0) (fun c h => by subst h; cases h0) w'
  · exact hk.elim
theorem binK_guard {S : Nat → Prop} {op : BinOp} {x y : AV} {vx vy : Value} {K : AV → Prop} {T : TypeId} {ox oy : Operand} (hx : den w S L x vx) (hy : den w S L y vy) (hk : binK P op T x y K) (w' : World) :
    (eqGuard op T ox oy vx vy).run P w' = .ok () w' := by
  unfold binK at hk
  split at hk
  all_goals first
    | exact otherOp_guard hx hy hk w'
    | (obtain rfl := hx; exact eqGuard_ok (fun h => by (first | cases h | simp at h)) (fun c h => by (first | cases h | simp at h)) w')

end
end Go.Proofs.YtmohncaoimeneaaDoor.AL
