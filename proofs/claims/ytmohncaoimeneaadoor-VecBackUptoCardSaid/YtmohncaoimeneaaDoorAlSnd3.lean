/-
  The state's own logic is sound: what only computes and reads, part 3. No program in sight.
-/
import Derived.Test.YtmohncaoimeneaaDoorAlSnd2
set_option linter.unusedVariables false
set_option linter.unusedSectionVars false
namespace Go.Proofs.YtmohncaoimeneaaDoor.AL
open Go
variable [Globs]

section
variable {P : Program} {C : Ctx} {t : List AV} {h : List AO} {L : Loc} {a : Act} {w : World}

theorem extractK_spec {S : Nat → Prop} {x : AV} {vx : Value} {j : Nat} {K : AV → Prop} (hx : den w S L x vx) (hk : extractK x j K) : Gives P w (den w S L) (Instr.extract vx j) K := by
  unfold extractK at hk
  split at hk
  · obtain ⟨vs, rfl, hn, hc⟩ := hx
    obtain ⟨hj, hk⟩ := sure_iff.1 hk
    obtain ⟨u, h1, h2⟩ := hc j hj
    exact ⟨u, _, fun w' _ => by simp [Instr.extract, h1], h2, hk⟩
  · exact hk.elim

theorem run_part_one {T : TypeId} (hag : aggB P T = some false) {cs : Array Value} {off : Nat} {u : Value} (hc : cs[off]? = some u) (w : World) : (part T cs off).run P w = .ok u w := by
  unfold part
  simp [Sem.run_bind, run_isAgg hag, hc]
theorem run_part_agg {T : TypeId} {s : Nat} (hag : aggB P T = some true) (hs : ∀ w, (sizeOf T).run P w = .ok s w) (cs : Array Value) (off : Nat) (w : World) :
    (part T cs off).run P w = .ok (.agg (cs.extract off (off + s))) w := by
  unfold part
  simp [Sem.run_bind, run_isAgg hag, hs]

theorem partK_spec {S : Nat → Prop} {T : TypeId} {x : AV} {cs : Array Value} {off : Nat} {K : AV → Prop} (hx : den w S L x (.agg cs)) (hk : partK P T x off K) :
    Gives P w (den w S L) (part T cs off) K := by
  unfold partK at hk
  split at hk
  · obtain ⟨vs, e, hn, hc⟩ := hx
    cases e
    split at hk
    · rename_i hag
      obtain ⟨s, hs, _, hk⟩ := sizeK_spec hk
      obtain ⟨hle, hk⟩ := sure_iff.1 hk
      refine .of hk ⟨_, rfl, by simp; omega, fun i hi => ?_⟩ fun w' _ => run_part_agg hag hs cs off w'
      obtain ⟨u, h1, h2⟩ := hc (off + i) (by omega)
      exact ⟨u, by rw [Array.getElem?_extract]; rw [if_pos (by omega)]; exact h1, h2⟩
    · rename_i hag
      obtain ⟨hle, hk⟩ := sure_iff.1 hk
      obtain ⟨u, h1, h2⟩ := hc off hle
      exact ⟨u, _, fun w' _ => run_part_one hag h1 w', h2, hk⟩
    · exact hk.elim
  · exact hk.elim

theorem fieldK_spec {S : Nat → Prop} {T : TypeId} {x : AV} {vx : Value} {j : Nat} {K : AV → Prop} (hx : den w S L x vx) (hk : fieldK P T x j K) :
    Gives P w (den w S L) (Instr.field T vx j) K := by
  unfold fieldK at hk
  split at hk
  · rename_i fs hu
    split at hk
    · rename_i f hf
      have hv : ∃ cs, vx = .agg cs := by
        unfold partK at hk
        split at hk
        · obtain ⟨vs, e, _⟩ := hx; exact ⟨vs, e⟩
        · exact hk.elim
      obtain ⟨cs, rfl⟩ := hv
      obtain ⟨v, y, h1, h2, h3⟩ := partK_spec hx hk
      have hf' : fs[j]? = some f := by simpa using hf
      exact ⟨v, y, fun w' hw => by simp [Instr.field, Sem.run_bind, run_underlying hu, hf', asAgg, h1 w' hw], h2, h3⟩
    · exact hk.elim
  · exact hk.elim

theorem Addr.add_mk (b o n : Nat) : Addr.add ⟨b, o, none⟩ n = ⟨b, o + n, none⟩ := by
  unfold Addr.add
  split
  · rename_i e; subst e; rfl
  · rfl

theorem fieldAddrK_spec {T : TypeId} {x : AV} {vx : Value} {j : Nat} {K : AV → Prop} (hx : den w (SS C w h L) L x vx) (hk : fieldAddrK P T x j K) :
    Gives P w (den w (SS C w h L) L) (Instr.fieldAt T vx j) K := by
  unfold fieldAddrK at hk
  split at hk
  · rename_i fs hu
    split at hk
    · rename_i f hf
      have hf' : fs[j]? = some f := by simpa using hf
      obtain ⟨s, hs, _, hk⟩ := sizeK_spec hk
      obtain ⟨h0, hk⟩ := sure_iff.1 hk
      have run : ∀ (A : Addr) (w' : World), (Instr.fieldAt T (.pointer (some A)) j).run P w' = .ok (.pointer (some (A.add f.offset))) w' := by
        intro A w'
        have : ¬ s = 0 := by omega
        simp [Instr.fieldAt, Sem.run_bind, run_underlying hu, hf', Instr.sureAddr, fieldPlace, hs, this]
      split at hk
      · rename_i id off
        obtain ⟨hid, b, hb, rfl⟩ := hx
        exact .of hk ⟨hid, b, hb, by rw [Addr.add_mk]⟩ fun w' _ => run _ w'
      · rename_i n g
        obtain ⟨A, rfl, hc⟩ := hx
        obtain ⟨hle, hk⟩ := sure_iff.1 hk
        refine .of hk ⟨_, rfl, fun i hi => ?_⟩ fun w' _ => run _ w'
        obtain ⟨u, ⟨b, o, e, hb, hcell⟩, hd⟩ := hc (f.offset + i) (by omega)
        cases e
        exact ⟨u, ⟨b, o + f.offset, by rw [Addr.add_mk], hb, by simpa [Nat.add_assoc] using hcell⟩, hd⟩
      · exact hk.elim
    · exact hk.elim
  · exact hk.elim

theorem rcell_add {S : Nat → Prop} {A : Addr} {i n : Nat} {u : Value} (h : rcell w S (some A) (n + i) u) : rcell w S (some (A.add n)) i u := by
  obtain ⟨b, o, e, hb, hc⟩ := h
  cases e
  exact ⟨b, o + n, by rw [Addr.add_mk], hb, by simpa [Nat.add_assoc] using hc⟩

theorem run_indexAt_slice {T e : TypeId} {s : Nat} (hu : P.underlying T = some (.slice e)) (hs : ∀ w, (sizeOf e).run P w = .ok s w) {A : Addr} {n cap : Nat} {k : IntKind} {j : Int}
    (h0 : 0 ≤ j) (h1 : j < (n : Int)) (w : World) : (Instr.indexAt T (.slice (some A) n cap) (.int k j)).run P w = .ok (.pointer (some (A.add (j.toNat * s)))) w := by
  have h2 : 0 ≤ j ∧ j < (n : Int) := ⟨h0, h1⟩
  simp [Instr.indexAt, Sem.run_bind, asIntOf, run_underlying hu, h2, hs]
theorem run_indexAt_array {T e : TypeId} {s n : Nat} (hu : P.underlying T = some (.array n e)) (hs : ∀ w, (sizeOf e).run P w = .ok s w) {A : Addr} {k : IntKind} {j : Int}
    (h0 : 0 ≤ j) (h1 : j < (n : Int)) (w : World) : (Instr.indexAt T (.pointer (some A)) (.int k j)).run P w = .ok (.pointer (some (A.add (j.toNat * s)))) w := by
  have h2 : 0 ≤ j ∧ j < (n : Int) := ⟨h0, h1⟩
  simp [Instr.indexAt, Sem.run_bind, asIntOf, run_underlying hu, h2, hs, Instr.sureAddr]

theorem idxAddrK_spec {T : TypeId} {x i : AV} {vx vi : Value} {K : AV → Prop} (hx : den w (SS C w h L) L x vx) (hi : den w (SS C w h L) L i vi) (hk : idxAddrK P T x i K) :
    Gives P w (den w (SS C w h L) L) (Instr.indexAt T vx vi) K := by
  unfold idxAddrK at hk
  split at hk
  · rename_i ki j
    obtain rfl := hi
    split at hk
    · -- roI
      rename_i e k xs hu
      obtain ⟨A, cap, rfl, hcap, hc⟩ := hx
      obtain ⟨s, hs, _, hk⟩ := sizeK_spec hk
      obtain ⟨rfl, hk⟩ := sure_iff.1 hk
      obtain ⟨⟨h0, h1⟩, hk⟩ := hk
      obtain ⟨b, o, e', hb, hcell⟩ := hc j.toNat (by omega)
      subst e'
      refine .of hk ⟨_, rfl, fun i hi => ?_⟩ fun w' _ => run_indexAt_slice hu hs h0 h1 w'
      obtain rfl : i = 0 := by omega
      exact ⟨_, ⟨b, o + j.toNat, by rw [Addr.add_mk, Nat.mul_one], hb, by simpa using hcell⟩, rfl⟩
    · -- ro
      rename_i e n sz f hu
      obtain ⟨A, cap, rfl, hcap, hc⟩ := hx
      obtain ⟨s, hs, _, hk⟩ := sizeK_spec hk
      obtain ⟨⟨rfl, hpos⟩, hk⟩ := sure_iff.1 hk
      obtain ⟨⟨h0, h1⟩, hk⟩ := hk
      have hlt : j.toNat * s + s ≤ n * s := by
        have : (j.toNat + 1) * s ≤ n * s := Nat.mul_le_mul_right _ (by omega)
        rw [Nat.add_mul] at this; omega
      obtain ⟨u0, ⟨b, o, e', hb, hcell⟩, _⟩ := hc (j.toNat * s) (by omega)
      subst e'
      refine .of hk ⟨_, rfl, fun i hi => ?_⟩ fun w' _ => run_indexAt_slice hu hs h0 h1 w'
      obtain ⟨u, h3, h4⟩ := hc (j.toNat * s + i) (by omega)
      exact ⟨u, rcell_add h3, h4⟩
    · -- own
      rename_i e id off len sz hu
      obtain ⟨s, hs, _, hk⟩ := sizeK_spec hk
      obtain ⟨rfl, hk⟩ := sure_iff.1 hk
      obtain ⟨⟨h0, h1⟩, hk⟩ := hk
      obtain ⟨hid, hx⟩ := hx
      rcases hx with ⟨rfl, _, rfl⟩ | ⟨b, cap, hb, rfl, hcap, hsz⟩
      · omega
      · exact .of hk ⟨hid, b, hb, by rw [Addr.add_mk]; rfl⟩ fun w' _ => run_indexAt_slice hu hs h0 h1 w'
    · -- an array's address
      rename_i n e id off hu
      obtain ⟨s, hs, _, hk⟩ := sizeK_spec hk
      obtain ⟨⟨h0, h1⟩, hk⟩ := hk
      obtain ⟨hid, b, hb, rfl⟩ := hx
      exact .of hk ⟨hid, b, hb, by rw [Addr.add_mk]; rfl⟩ fun w' _ => run_indexAt_array hu hs h0 h1 w'
    · exact hk.elim
  · exact hk.elim

theorem intsOf_get {s : ByteArray} {i : Nat} (h : i < s.size) : ∃ b, s[i]? = some b ∧ (intsOf s).getD i 0 = (b.toNat : Int) := by
  have hb : i < s.data.size := h
  refine ⟨s[i], getElem?_pos s i h, ?_⟩
  unfold intsOf
  rw [List.getD_eq_getElem?_getD, List.getElem?_map]
  have : s.data.toList[i]? = some s[i] := by
    rw [Array.getElem?_toList, Array.getElem?_eq_getElem hb]; rfl
  rw [this]; rfl
theorem intsOf_length (s : ByteArray) : (intsOf s).length = s.size := by
  unfold intsOf; rw [List.length_map, Array.length_toList]; rfl

theorem idxK_spec {S : Nat → Prop} {T : TypeId} {x i : AV} {vx vi : Value} {K : AV → Prop} (hx : den w S L x vx) (hi : den w S L i vi) (hk : idxK P T x i K) :
    Gives P w (den w S L) (Instr.index T vx vi) K := by
  unfold idxK at hk
  split at hk
  · rename_i ki j
    obtain rfl := hi
    split at hk
    · rename_i s hu
      obtain rfl := hx
      obtain ⟨⟨h0, h1⟩, hk⟩ := hk
      obtain ⟨b, hb, e⟩ := intsOf_get (s := s) (i := j.toNat) (by omega)
      rw [e] at hk
      refine .run hk fun w' => ?_
      simp [Instr.index, Sem.run_bind, asIntOf, run_underlying hu, h0, hb]
    · rename_i n e k xs hu
      obtain rfl := hx
      split at hk
      · exact hk.elim
      · rename_i hag
        obtain ⟨s, hs, _, hk⟩ := sizeK_spec hk
        obtain ⟨rfl, hk⟩ := sure_iff.1 hk
        obtain ⟨⟨h0, h1⟩, hn, hk⟩ := hk
        have h2 : 0 ≤ j ∧ j < (n : Int) := ⟨h0, h1⟩
        have hc : (xs.map (Value.int k)).toArray[j.toNat]? = some (.int k (xs.getD j.toNat 0)) := by
          have hj : j.toNat < xs.length := by omega
          simp [hj]
        refine .run hk fun w' => ?_
        simp [Instr.index, Sem.run_bind, asIntOf, run_underlying hu, h2, hs, run_part_one hag hc]
      · exact hk.elim
    · exact hk.elim
  · exact hk.elim

theorem lenOfK_spec {S : Nat → Prop} {T : TypeId} {x : AV} {vx : Value} {K : AV → Prop} (hx : den w S L x vx) (hk : lenOfK P T x K) {ty : TypeId} :
    Gives P w (den w S L) (Builtin.len_ #[T] ty #[vx]) K := by
  unfold lenOfK at hk
  split at hk
  · rename_i hu; obtain rfl := hx; exact .run hk fun w' => by simp [Builtin.len_, Sem.run_bind, run_underlying hu, goInt]
  · rename_i hu; exact .run hk fun w' => by simp [Builtin.len_, Sem.run_bind, run_underlying hu, goInt]
  · rename_i hu; obtain ⟨A, cap, rfl, _⟩ := hx; exact .run hk fun w' => by simp [Builtin.len_, Sem.run_bind, run_underlying hu, goInt]
  · rename_i hu; obtain ⟨A, cap, rfl, _⟩ := hx; exact .run hk fun w' => by simp [Builtin.len_, Sem.run_bind, run_underlying hu, goInt]
  · rename_i hu
    obtain ⟨_, ⟨rfl, _, rfl⟩ | ⟨b, cap, _, rfl, _⟩⟩ := hx
    · exact .run hk fun w' => by simp [Builtin.len_, Sem.run_bind, run_underlying hu, goInt]
    · exact .run hk fun w' => by simp [Builtin.len_, Sem.run_bind, run_underlying hu, goInt]
  · rename_i hu; obtain rfl := hx; exact .run hk fun w' => by simp [Builtin.len_, Sem.run_bind, run_underlying hu, goInt]
  · exact hk.elim

end
end Go.Proofs.YtmohncaoimeneaaDoor.AL
