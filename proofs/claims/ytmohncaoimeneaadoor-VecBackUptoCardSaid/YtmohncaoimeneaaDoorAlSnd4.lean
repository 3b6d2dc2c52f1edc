/-
  The state's own logic is sound: what only computes and reads, part 4. No program in sight.
-/
import Derived.Test.YtmohncaoimeneaaDoorAlSnd3
import Derived.Lib.ConvBytes
set_option linter.unusedVariables false
set_option linter.unusedSectionVars false
namespace Go.Proofs.YtmohncaoimeneaaDoor.AL
open Go
variable [Globs]

section
variable {P : Program} {C : Ctx} {t : List AV} {h : List AO} {L : Loc} {a : Act} {w : World}

theorem bytesToString_loop (f : Value → ByteArray → Sem (ForInStep ByteArray)) (hf : ∀ n s, f (.int .u8 n) s = pure (ForInStep.yield (s.push (UInt8.ofNat n.toNat))))
    (l : List Int) (w : World) : ∀ (s : ByteArray), (forIn (m := Sem) (l.map (Value.int .u8)) s f).run P w = .ok ⟨s.data ++ (l.map fun n => UInt8.ofNat n.toNat).toArray⟩ w := by
  induction l with
  | nil => intro s; simp [forIn]
  | cons n l ih =>
    intro s
    simp only [List.map_cons, List.forIn_cons, Sem.run_bind, hf, Sem.run_pure, Result.andThen_ok]
    rw [ih]
    simp [ByteArray.push]

theorem run_bytesToString {A : Addr} (hA : A.spot = none) {xs : List Int} {cap : Nat} {w : World}
    (hc : ∀ j, j < xs.length → w.cell? ⟨A.block, A.off + j, none⟩ = some (.int .u8 (xs.getD j 0))) :
    (Conv.bytesToString (.slice (some A) xs.length cap)).run P w = .ok (.string (bytesOf xs)) w := by
  unfold Conv.bytesToString
  have h1 := run_loadCells (P := P) A hA (us := xs.map (Value.int .u8)) (w := w) (n := xs.length) (by simp) (by
    intro j hj
    rw [hc j hj, List.getElem?_map, List.getElem?_eq_getElem hj, List.getD_eq_getElem?_getD, List.getElem?_eq_getElem hj]; rfl)
  simp only [Sem.run_bind, h1, Result.andThen_ok]
  rw [← Array.forIn_toList, bytesToString_loop _ (fun _ _ => rfl)]
  simp [bytesOf, ByteArray.empty, ByteArray.emptyWithCapacity]
  rfl

theorem own_ints {C : Ctx} (hr : HRel C h L w) {id off len b cap : Nat} {k : IntKind} {xs : List Int} (ho : h[id]? = some (.ints k xs)) (hb : L.b id = some b) (hle : off + len ≤ xs.length) :
    ∀ j, j < len → w.cell? ⟨b, off + j, none⟩ = some (.int k (((xs.drop off).take len).getD j 0)) := by
  intro j hj
  obtain ⟨u, h1, rfl⟩ := own_cell (hr.objs id _ ho) hb (i := off + j) (by omega)
  rw [h1, List.getD_eq_getElem?_getD, List.getD_eq_getElem?_getD, List.getElem?_take_of_lt hj, List.getElem?_drop]

theorem run_convert_bytes {src dst e : TypeId} {x : Value} (hd : P.underlying dst = some .string) (hs : P.underlying src = some (.slice e)) (he : P.underlying e = some (.int .u8))
    {A : Option Addr} {n cap : Nat} (hx : x = .slice A n cap) {v : Value} {w : World} (hr : (Conv.bytesToString x).run P w = .ok v w) : (convert src dst x).run P w = .ok v w := by
  subst hx
  unfold convert
  simp only [Sem.run_bind, run_underlying hd, run_underlying hs, Result.andThen_ok, run_underlying he, hr]

theorem convK_spec (hr : HRel C h L w) {src dst : TypeId} {x : AV} {vx : Value} {K : AV → Prop} (hx : den w (SS C w h L) L x vx) (hk : convK P h src dst x K) : Gives P w (den w (SS C w h L) L) (convert src dst vx) K := by
  unfold convK at hk
  split at hk
  · exact hk.elim
  rename_i ds hsrc
  split at hk
  · rename_i hu; obtain rfl := hx
    exact .run hk fun w' => by unfold convert; simp only [Sem.run_bind, run_underlying hu, run_underlying hsrc, Result.andThen_ok]; cases ds <;> rfl
  · rename_i hu; obtain rfl := hx
    exact .run hk fun w' => by unfold convert; simp only [Sem.run_bind, run_underlying hu, run_underlying hsrc, Result.andThen_ok]; cases ds <;> rfl
  · rename_i xs hu
    split at hk
    · rename_i e hs
      split at hk
      · rename_i he
        obtain ⟨A, cap, rfl, hcap, hc⟩ := hx
        refine .of hk rfl fun w' hw => run_convert_bytes hu hs he rfl ?_
        cases xs with
        | nil =>
          cases A with
          | none => simp [Conv.bytesToString, bytesOf]; rfl
          | some A => simp [Conv.bytesToString, bytesOf, loadCells, loadCellsFrom]; rfl
        | cons y ys =>
          obtain ⟨b, o, e', _, _⟩ := hc 0 (by simp)
          subst e'
          exact run_bytesToString rfl fun j hj => by
            obtain ⟨b', o', e', _, h1⟩ := hc j hj
            cases e'
            exact hw.cell h1
      · exact hk.elim
    · exact hk.elim
  · rename_i hu
    split at hk
    · rename_i e hs
      split at hk
      · rename_i he
        obtain rfl := hx
        exact .run hk fun w' => run_convert_bytes hu hs he rfl rfl
      · exact hk.elim
    · exact hk.elim
  · rename_i id off len hu
    split at hk
    · rename_i e hs
      split at hk
      · rename_i he
        obtain ⟨o, ho, hk⟩ := getO_iff.1 hk
        split at hk
        · rename_i xs
          obtain ⟨hle, hk⟩ := hk
          have hlen : ((xs.drop off).take len).length = len := by simp; omega
          obtain ⟨_, ⟨rfl, A, rfl⟩ | ⟨b, cap, hb, rfl, hcap, hsz⟩⟩ := hx
          · refine .of hk rfl fun w' hw => run_convert_bytes hu hs he rfl ?_
            cases A with
            | none => simp [Conv.bytesToString, bytesOf]; rfl
            | some A => simp [Conv.bytesToString, bytesOf, loadCells, loadCellsFrom]; rfl
          · refine .of hk rfl fun w' hw => run_convert_bytes hu hs he rfl ?_
            have := run_bytesToString (P := P) (A := ⟨b, off, none⟩) rfl (xs := (xs.drop off).take len) (cap := cap) (w := w') (by
              rw [hlen]
              exact fun j hj => hw.cell (own_ints (cap := cap) hr ho hb hle j hj))
            rw [hlen] at this
            exact this
        · exact hk.elim
      · exact hk.elim
    · exact hk.elim
  · obtain ⟨r, h1, h2⟩ := hk
    obtain rfl := hx
    exact .run h2 h1
  · exact hk.elim

theorem run_complex (ts : Array TypeId) (ty : TypeId) (k : FloatKind) (x y : Nat) (w : World) : (Builtin.complex_ ts ty #[.float k x, .float k y]).run P w = .ok (.complex k x y) w := by cases k <;> rfl
theorem run_real (ts : Array TypeId) (ty : TypeId) (k : FloatKind) (x y : Nat) (w : World) : (Builtin.real_ ts ty #[.complex k x y]).run P w = .ok (.float k x) w := rfl
theorem run_imag (ts : Array TypeId) (ty : TypeId) (k : FloatKind) (x y : Nat) (w : World) : (Builtin.imag_ ts ty #[.complex k x y]).run P w = .ok (.float k y) w := rfl

/-- What is known of an operand that need not be there. -/
def denO (w : World) (S : Nat → Prop) (L : Loc) : Option AV → Option Value → Prop
  | none, none => True
  | some a, some v => den w S L a v
  | _, _ => False

theorem boundK_spec {S : Nat → Prop} {v : Option AV} {u : Option Value} {dflt most : Nat} {K : Nat → Prop} (hd : denO w S L v u) (hm : dflt ≤ most) (hk : boundK v dflt most K) :
    ∃ n, K n ∧ n ≤ most ∧ ((u = none ∧ n = dflt) ∨ ∃ x, u = some x ∧ ∀ (most' : Nat) (code : BoundsCode) (w' : World), most ≤ most' → (Instr.sliceBound x most' code).run P w' = .ok n w') := by
  unfold boundK at hk
  split at hk
  · cases u with
    | none => exact ⟨dflt, hk, hm, .inl ⟨rfl, rfl⟩⟩
    | some u => exact hd.elim
  · rename_i k i
    cases u with
    | none => exact hd.elim
    | some u =>
      obtain rfl : u = .int k i := hd
      obtain ⟨⟨h0, h1⟩, hk⟩ := hk
      refine ⟨i.toNat, hk, by omega, .inr ⟨_, rfl, fun most' code w' hmm => ?_⟩⟩
      have h2 : 0 ≤ i ∧ i ≤ (most' : Int) := ⟨h0, by omega⟩
      simp [Instr.sliceBound, asIntOf, h2]
  · exact hk.elim

theorem sliceBounds_spec {S : Nat → Prop} {lo hi : Option AV} {ulo uhi : Option Value} {isSlice : Bool} {len cap most : Nat} {K : Nat → Nat → Prop}
    (hlo : denO w S L lo ulo) (hhi : denO w S L hi uhi) (hm : len ≤ most) (hcm : most ≤ cap) (hk : boundK hi len most fun b => boundK lo 0 b fun a => K a b) :
    ∃ a b, K a b ∧ a ≤ b ∧ b ≤ most ∧ ∀ w', (Instr.sliceBounds isSlice len cap ulo uhi none).run P w' = .ok (a, b, cap) w' := by
  obtain ⟨b, hk, hb, h1⟩ := boundK_spec (P := P) hhi hm hk
  obtain ⟨a, hk, ha, h2⟩ := boundK_spec (P := P) hlo (Nat.zero_le _) hk
  refine ⟨a, b, hk, ha, hb, fun w' => ?_⟩
  unfold Instr.sliceBounds
  rcases h1 with ⟨rfl, rfl⟩ | ⟨x, rfl, h1⟩
  · rcases h2 with ⟨rfl, rfl⟩ | ⟨y, rfl, h2⟩
    · rfl
    · simp only [Sem.run_bind, Sem.run_pure, Result.andThen_ok, h2 _ _ _ (Nat.le_refl _)]
  · rcases h2 with ⟨rfl, rfl⟩ | ⟨y, rfl, h2⟩
    · simp only [Sem.run_bind, Sem.run_pure, Result.andThen_ok, h1 _ _ _ hcm]
    · simp only [Sem.run_bind, Sem.run_pure, Result.andThen_ok, h1 _ _ _ hcm, h2 _ _ _ (Nat.le_refl _)]

theorem sliceAt_slice {T e : TypeId} (hu : P.underlying T = some (.slice e)) (x : Value) (lo hi mx : Option Value) (w : World) :
    (Instr.sliceAt T x lo hi mx).run P w = (Instr.slice T x lo hi mx).run P w := by
  unfold Instr.sliceAt
  simp only [Sem.run_bind, run_underlying hu, Result.andThen_ok]
theorem sliceAt_string {T : TypeId} (hu : P.underlying T = some .string) (x : Value) (lo hi mx : Option Value) (w : World) :
    (Instr.sliceAt T x lo hi mx).run P w = (Instr.slice T x lo hi mx).run P w := by
  unfold Instr.sliceAt
  simp only [Sem.run_bind, run_underlying hu, Result.andThen_ok]

theorem run_slice_slice {T e : TypeId} {s : Nat} (hu : P.underlying T = some (.slice e)) (hs : ∀ w, (sizeOf e).run P w = .ok s w) {A : Option Addr} {len cap a b : Nat} {lo hi : Option Value} {w : World}
    (hb : (Instr.sliceBounds true len cap lo hi none).run P w = .ok (a, b, cap) w) :
    (Instr.sliceAt T (.slice A len cap) lo hi none).run P w = .ok (.slice (if cap = a then A else A.map (·.add (a * s))) (b - a) (cap - a)) w := by
  rw [sliceAt_slice hu]
  unfold Instr.slice
  simp only [Sem.run_bind, run_underlying hu, Result.andThen_ok, hb, hs, Sem.run_pure]

theorem rcell_ite {S : Nat → Prop} {A : Option Addr} {i n : Nat} {u : Value} {p : Prop} [Decidable p] (hp : ¬ p) (h : rcell w S A (n + i) u) : rcell w S (if p then A else A.map (·.add n)) i u := by
  rw [if_neg hp]
  obtain ⟨b, o, e, hb, hc⟩ := h
  subst e
  exact rcell_add ⟨b, o, rfl, hb, hc⟩

theorem sliceK_spec (hr : HRel C h L w) {T : TypeId} {x : AV} {vx : Value} {lo hi mx : Option AV} {ulo uhi umx : Option Value} {K : AV → Prop} (hx : den w (SS C w h L) L x vx)
    (hlo : denO w (SS C w h L) L lo ulo) (hhi : denO w (SS C w h L) L hi uhi) (hmx : denO w (SS C w h L) L mx umx) (hk : sliceK P T h x lo hi mx K) :
    Gives P w (den w (SS C w h L) L) (Instr.sliceAt T vx ulo uhi umx) K := by
  obtain rfl : mx = none := by
    cases mx with
    | some m => simp [sliceK] at hk
    | none => rfl
  obtain rfl : umx = none := by
    cases umx with
    | some _ => exact hmx.elim
    | none => rfl
  unfold sliceK at hk
  split at hk
  · -- a string
    rename_i s _ hu
    obtain rfl := hx
    obtain ⟨a, b, hk, hab, hbs, hrun⟩ := sliceBounds_spec (P := P) (isSlice := false) (cap := s.size) hlo hhi (Nat.le_refl _) (Nat.le_refl _) hk
    refine .of hk rfl fun w' _ => ?_
    rw [sliceAt_string hu]
    unfold Instr.slice
    simp only [Sem.run_bind, run_underlying hu, Result.andThen_ok, hrun, Sem.run_pure, Option.isSome_none, Bool.false_eq_true, if_false]
  · -- numbers that are read
    rename_i e k xs _ hu
    obtain ⟨A, cap, rfl, hcap, hc⟩ := hx
    obtain ⟨s, hs, _, hk⟩ := sizeK_spec hk
    obtain ⟨rfl, hk1⟩ := sure_iff.1 hk
    obtain ⟨a, b, hk2, hab, hbs, hrun⟩ := sliceBounds_spec (P := P) (isSlice := true) (cap := cap) hlo hhi (Nat.le_refl _) hcap hk1
    have hlen : ((xs.take b).drop a).length = b - a := by simp; omega
    refine .of hk2 ⟨_, cap - a, by rw [hlen], by rw [hlen]; omega, fun i hi => ?_⟩ fun w' _ => run_slice_slice hu hs (hrun w')
    rw [hlen] at hi
    have h1 := hc (a + i) (by omega)
    have h2 : ((xs.take b).drop a).getD i 0 = xs.getD (a + i) 0 := by
      rw [List.getD_eq_getElem?_getD, List.getD_eq_getElem?_getD, List.getElem?_drop, List.getElem?_take_of_lt (by omega)]
    rw [h2]
    exact rcell_ite (by omega) (by rw [Nat.mul_one]; exact h1)
  · -- a row of the call's own
    rename_i e id off len sz _ hu
    obtain ⟨s, hs, _, hk⟩ := sizeK_spec hk
    obtain ⟨rfl, hk⟩ := sure_iff.1 hk
    obtain ⟨hid, ⟨rfl, A, rfl⟩ | ⟨b, cap, hb, rfl, hcap, hsz⟩⟩ := hx
    · obtain ⟨a, b, hk, hab, hbs, hrun⟩ := sliceBounds_spec (P := P) (isSlice := true) (cap := 0) hlo hhi (Nat.le_refl _) (Nat.le_refl _) hk
      obtain rfl : b = 0 := by omega
      obtain rfl : a = 0 := by omega
      exact .of hk ⟨hid, .inl ⟨rfl, _, rfl⟩⟩ fun w' _ => run_slice_slice hu hs (hrun w')
    · obtain ⟨a, b', hk, hab, hbs, hrun⟩ := sliceBounds_spec (P := P) (isSlice := true) (cap := cap) hlo hhi (Nat.le_refl _) hcap hk
      refine .of hk ⟨hid, ?_⟩ fun w' _ => run_slice_slice hu hs (hrun w')
      by_cases he : cap = a
      · exact .inl ⟨by omega, by rw [if_pos he]; exact ⟨_, by congr 1 <;> omega⟩⟩
      · refine .inr ⟨b, cap - a, hb, ?_, by omega, ?_⟩
        · rw [if_neg he]; simp [Addr.add_mk, addOff]
        · have : a * s + (cap - a) * s = cap * s := by rw [← Nat.add_mul]; congr 1; omega
          unfold addOff; omega
  · -- a row that is read
    rename_i e n sz f _ hu
    obtain ⟨A, cap, rfl, hcap, hc⟩ := hx
    obtain ⟨s, hs, _, hk⟩ := sizeK_spec hk
    obtain ⟨rfl, hk⟩ := sure_iff.1 hk
    obtain ⟨a, b, hk, hab, hbs, hrun⟩ := sliceBounds_spec (P := P) (isSlice := true) (cap := cap) hlo hhi (Nat.le_refl _) hcap hk
    refine .of hk ⟨_, cap - a, rfl, by omega, fun i hi => ?_⟩ fun w' _ => run_slice_slice hu hs (hrun w')
    have hab' : a < b := by
      rcases Nat.lt_or_ge a b with h | h
      · exact h
      · rw [Nat.sub_eq_zero_of_le h, Nat.zero_mul] at hi; omega
    have hlt : a * s + i < n * s := by
      have h1 : (b - a) * s + a * s = b * s := by rw [← Nat.add_mul]; congr 1; omega
      have h2 : b * s ≤ n * s := Nat.mul_le_mul_right _ hbs
      omega
    obtain ⟨u, h1, h2⟩ := hc (a * s + i) hlt
    exact ⟨u, rcell_ite (by omega) h1, h2⟩
  · -- nothing
    rename_i e _ hu
    obtain rfl := hx
    obtain ⟨s, hs, _, hk⟩ := sizeK_spec hk
    obtain ⟨a, b, hk, hab, hbs, hrun⟩ := sliceBounds_spec (P := P) (isSlice := true) (cap := 0) hlo hhi (Nat.le_refl _) (Nat.le_refl _) hk
    obtain rfl : b = 0 := by omega
    obtain rfl : a = 0 := by omega
    refine .of hk rfl fun w' _ => ?_
    rw [sliceAt_slice hu]
    unfold Instr.slice
    simp only [Sem.run_bind, run_underlying hu, Result.andThen_ok, hrun, hs, Sem.run_pure]
    rfl
  · -- an array of the call's own
    rename_i n e id off _ hu
    obtain ⟨s, hs, _, hk⟩ := sizeK_spec hk
    obtain ⟨hid, b, hb, rfl⟩ := hx
    obtain ⟨a, b', hk, hab, hbs, hrun⟩ := sliceBounds_spec (P := P) (isSlice := false) (cap := n) (K := fun a b => getO h id fun o => match o with
        | .ints _ xs => off + n * s ≤ xs.length ∧ K (.own id (addOff off a s) (b - a) s)
        | .lst l => off + n * s ≤ l.length ∧ K (.own id (addOff off a s) (b - a) s)
        | _ => False) hlo hhi (Nat.le_refl _) (Nat.le_refl _) hk
    obtain ⟨o, ho, hk⟩ := getO_iff.1 hk
    have hk' : off + n * s ≤ L.sz id ∧ K (.own id (addOff off a s) (b' - a) s) := by
      have hob := hr.objs id o ho
      split at hk
      · refine ⟨?_, hk.2⟩
        rcases hob with ⟨_, h2⟩ | ⟨_, _, _, _, _, _, _, h2, h3, _⟩
        · rw [hb] at h2; cases h2
        · exact Nat.le_trans hk.1 h3
      · refine ⟨?_, hk.2⟩
        rcases hob with ⟨_, h2⟩ | ⟨_, _, _, _, _, _, _, h2, h3, _⟩
        · rw [hb] at h2; cases h2
        · exact Nat.le_trans hk.1 h3
      · exact hk.elim
    refine .of hk'.2 ⟨hid, ?_⟩ fun w' _ => (by
      unfold Instr.sliceAt
      simp only [Sem.run_bind, run_underlying hu, Result.andThen_ok, Instr.sureAddr, Sem.run_pure, hrun, hs]
      rfl)
    by_cases he : n = a
    · exact .inl ⟨by omega, by rw [if_pos he]; exact ⟨_, by congr 1 <;> omega⟩⟩
    · refine .inr ⟨b, n - a, hb, ?_, by omega, ?_⟩
      · rw [if_neg he]; simp [Addr.add_mk, addOff]
      · have : a * s + (n - a) * s = n * s := by rw [← Nat.add_mul]; congr 1; omega
        unfold addOff; omega
  · exact hk.elim

theorem optK_spec (hr : Rel C t h L a w) {x : Option Operand} {K : Option AV → Prop} (hk : optK t x K) : ∃ v, denO w (SS C w h L) L v (x.map a.eval) ∧ K v := by
  cases x with
  | none => exact ⟨none, trivial, hk⟩
  | some x =>
    obtain ⟨v, h1, h2⟩ := evK_spec hr hk
    exact ⟨some v, h1, h2⟩

theorem arr_two {xs : Array Operand} {vs : List AV} {x y : AV} (hl : vs.length = xs.toList.length) (e : vs = [x, y]) : ∃ p q, xs = #[p, q] := by
  subst e
  obtain ⟨l⟩ := xs
  match l, hl with
  | [p, q], _ => exact ⟨p, q, rfl⟩
theorem arr_one {xs : Array Operand} {vs : List AV} {x : AV} (hl : vs.length = xs.toList.length) (e : vs = [x]) : ∃ p, xs = #[p] := by
  subst e
  obtain ⟨l⟩ := xs
  match l, hl with
  | [p], _ => exact ⟨p, rfl⟩

/-- What an operation that only computes and reads gives. -/
def GivesN (P : Program) (w : World) (D : AV → Value → Prop) (s : Sem Next) (K : AV → Prop) : Prop :=
  ∃ v x, (∀ w', Ext w w' → s.run P w' = .ok (.value v) w') ∧ D x v ∧ K x
theorem Gives.next {D : AV → Value → Prop} {s : Sem Value} {K : AV → Prop} (h : Gives P w D s K) : GivesN P w D (do pure (.value (← s))) K := by
  obtain ⟨v, x, h1, h2, h3⟩ := h
  exact ⟨v, x, fun w' hw => by simp [h1 w' hw], h2, h3⟩

theorem apure_spec (hr : Rel C t h L a w) {o : Oper} {op : Op} (ho : o.op = op) {K : AV → Prop} (hk : apure P t h op K) : GivesN P w (den w (SS C w h L) L) (execOp a.eval o) K := by
  unfold execOp
  rw [ho]
  unfold apure at hk
  split at hk
  · obtain ⟨v, h1, h2⟩ := evK_spec hr hk
    exact ⟨_, v, fun w' _ => rfl, h1, h2⟩
  · obtain ⟨v, h1, h2⟩ := evK_spec hr hk
    exact ⟨_, v, fun w' _ => rfl, h1, h2⟩
  · obtain ⟨c, h1, h2⟩ := evK_spec hr hk
    split at h2
    · obtain ⟨v, h3, h4⟩ := evK_spec hr h2
      exact ⟨_, v, fun w' _ => by dsimp only; rw [h1]; rfl, h3, h4⟩
    · obtain ⟨v, h3, h4⟩ := evK_spec hr h2
      exact ⟨_, v, fun w' _ => by dsimp only; rw [h1]; rfl, h3, h4⟩
    · obtain ⟨v, h3, h4⟩ := evK_spec hr h2
      exact ⟨_, v, fun w' _ => by dsimp only; rw [h1]; rfl, h3, h4⟩
    · obtain ⟨v, h3, h4⟩ := evK_spec hr h2
      exact ⟨_, v, fun w' _ => by dsimp only; rw [h1]; rfl, h3, h4⟩
    · exact h2.elim
  · obtain ⟨x, h1, h2⟩ := evK_spec hr hk
    split at h2
    · exact ⟨_, _, fun w' _ => by obtain ⟨_, b, _, e⟩ := h1; dsimp only; rw [e]; rfl, h1, h2⟩
    · exact ⟨_, _, fun w' _ => by obtain ⟨A, e, _⟩ := h1; dsimp only; rw [e]; rfl, h1, h2⟩
    · exact ⟨_, _, fun w' _ => by obtain ⟨vs, e, _⟩ := h1; dsimp only; rw [e]; rfl, h1, h2⟩
    · exact h2.elim
  · obtain ⟨x, h1, h2⟩ := evK_spec hr hk
    exact (loadK_spec hr.heap h1 h2).next
  · obtain ⟨x, h1, h2⟩ := evK_spec hr hk
    obtain ⟨v, z, h5, h6, h7⟩ := nilOp_spec h1 h2
    refine ⟨v, z, fun w' hw => ?_, h6, h7⟩
    · rename_i op T xo yt
      show Sem.run P (do pure (Next.value (← (do eqGuard op T xo (.const .nilIface) (a.eval xo) .nilIface; binOp op T (a.eval xo) .nilIface)))) w' = _
      rw [Sem.run_bind, h5 w' hw]
      rfl
  · obtain ⟨x, h1, h2⟩ := evK_spec hr hk
    obtain ⟨y, h3, h4⟩ := evK_spec hr h2
    obtain ⟨v, z, h5, h6, h7⟩ := binK_spec h1 h3 h4
    exact ⟨v, z, fun w' hw => by simp [binK_guard h1 h3 h4 w', h5 w' hw], h6, h7⟩
  · obtain ⟨x, h1, h2⟩ := evK_spec hr hk
    exact (unK_spec h1 h2).next
  · obtain ⟨x, h1, h2⟩ := evK_spec hr hk
    exact (convK_spec hr.heap h1 h2).next
  · obtain ⟨x, h1, h2⟩ := evK_spec hr hk
    obtain ⟨lo, h3, h4⟩ := optK_spec hr h2
    obtain ⟨hi, h5, h6⟩ := optK_spec hr h4
    obtain ⟨mx, h7, h8⟩ := optK_spec hr h6
    exact (sliceK_spec hr.heap h1 h3 h5 h7 h8).next
  · obtain ⟨x, h1, h2⟩ := evK_spec hr hk
    exact (fieldAddrK_spec h1 h2).next
  · obtain ⟨x, h1, h2⟩ := evK_spec hr hk
    exact (fieldK_spec h1 h2).next
  · obtain ⟨x, h1, h2⟩ := evK_spec hr hk
    obtain ⟨y, h3, h4⟩ := evK_spec hr h2
    exact (idxAddrK_spec h1 h3 h4).next
  · obtain ⟨x, h1, h2⟩ := evK_spec hr hk
    obtain ⟨y, h3, h4⟩ := evK_spec hr h2
    exact (idxK_spec h1 h3 h4).next
  · obtain ⟨x, h1, h2⟩ := evK_spec hr hk
    exact (extractK_spec h1 h2).next
  · rename_i args types
    split at hk
    · rename_i x T e1 e2
      obtain ⟨y, h1, h2⟩ := evK_spec hr hk
      have e1' : args = #[x] := by cases args; simp at e1; subst e1; rfl
      have e2' : types = #[T] := by cases types; simp at e2; subst e2; rfl
      subst e1' e2'
      obtain ⟨v, z, h5, h6, h7⟩ := lenOfK_spec (ty := o.type) h1 h2
      refine ⟨v, z, fun w' hw => ?_, h6, h7⟩
      have := h5 w' hw
      simp [resolve, invoke, builtin, this]
    · exact hk.elim
  · obtain ⟨vs, h1, h2, h3⟩ := evsK_spec hr hk
    split at h3
    · rename_i args _ k x k' y
      obtain ⟨rfl, _⟩ := sure_iff.1 h3
      obtain ⟨p, q, rfl⟩ := arr_two h1 rfl
      obtain ⟨x', g1, g2⟩ := h2 0 _ rfl
      obtain ⟨y', g3, g4⟩ := h2 1 _ rfl
      simp at g1 g3
      subst g1 g3
      have g2' : a.eval p = .float k x := g2
      have g4' : a.eval q = .float k y := g4
      obtain ⟨_, h4⟩ := sure_iff.1 h3
      exact ⟨_, .raw _, fun w' hw => by simp [resolve, invoke, builtin, run_complex, g2', g4'], rfl, h4⟩
    · exact h3.elim
  · obtain ⟨vs, h1, h2, h3⟩ := evsK_spec hr hk
    split at h3
    · rename_i args _ k x y
      obtain ⟨p, rfl⟩ := arr_one h1 rfl
      obtain ⟨x', g1, g2⟩ := h2 0 _ rfl
      simp at g1
      subst g1
      have g2' : a.eval p = .complex k x y := g2
      exact ⟨_, .raw _, fun w' hw => by simp [resolve, invoke, builtin, run_real, g2'], rfl, h3⟩
    · exact h3.elim
  · obtain ⟨vs, h1, h2, h3⟩ := evsK_spec hr hk
    split at h3
    · rename_i args _ k x y
      obtain ⟨p, rfl⟩ := arr_one h1 rfl
      obtain ⟨x', g1, g2⟩ := h2 0 _ rfl
      simp at g1
      subst g1
      have g2' : a.eval p = .complex k x y := g2
      exact ⟨_, .raw _, fun w' hw => by simp [resolve, invoke, builtin, run_imag, g2'], rfl, h3⟩
    · exact h3.elim
  · obtain ⟨vs, h1, h2, h3⟩ := evsK_spec hr hk
    split at h3
    · rename_i args _ k x k' y
      obtain ⟨rfl, h4⟩ := sameKind_iff.1 h3
      obtain ⟨p, q, rfl⟩ := arr_two h1 rfl
      obtain ⟨x', g1, g2⟩ := h2 0 _ rfl
      obtain ⟨y', g3, g4⟩ := h2 1 _ rfl
      simp at g1 g3
      subst g1 g3
      have g2' : a.eval p = .int k' x := g2
      have g4' : a.eval q = .int k' y := g4
      have : (if x < y then y else x) = max x y := by rw [Int.max_def]; split <;> split <;> omega
      exact ⟨_, .raw _, fun w' hw => by simp [resolve, invoke, builtin, Builtin.max_, Builtin.max2, g2', g4', this], rfl, h4⟩
    · exact h3.elim
  · obtain ⟨vs, h1, h2, h3⟩ := evsK_spec hr hk
    split at h3
    · rename_i args _ k x k' y
      obtain ⟨rfl, h4⟩ := sameKind_iff.1 h3
      obtain ⟨p, q, rfl⟩ := arr_two h1 rfl
      obtain ⟨x', g1, g2⟩ := h2 0 _ rfl
      obtain ⟨y', g3, g4⟩ := h2 1 _ rfl
      simp at g1 g3
      subst g1 g3
      have g2' : a.eval p = .int k' x := g2
      have g4' : a.eval q = .int k' y := g4
      have : (if y < x then y else x) = min x y := by rw [Int.min_def]; split <;> split <;> omega
      exact ⟨_, .raw _, fun w' hw => by simp [resolve, invoke, builtin, Builtin.min_, Builtin.min2, g2', g4', this], rfl, h4⟩
    · exact h3.elim
  · exact hk.elim

end
end Go.Proofs.YtmohncaoimeneaaDoor.AL
