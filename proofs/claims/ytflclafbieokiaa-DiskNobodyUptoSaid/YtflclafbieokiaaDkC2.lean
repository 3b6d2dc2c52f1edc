/-
  The program's own map clone, and a map's names, sorted.
-/
import Derived.Test.YtflclafbieokiaaDkP
import Derived.Test.YtflclafbieokiaaShelfN
set_option linter.unusedVariables false
set_option linter.unusedSectionVars false
set_option linter.unusedSimpArgs false
namespace Go.Proofs.Ytflclafbieokiaa.Dk
open Go AL Us

/-! A map, as the kit reads it: its names alone. -/
def rdK : Value → Option (DataW Nat × List MemPlace) := fun _ => some (.nil, [])
theorem rg_K {P : Program} {k : TypeId} (hk : P.underlying k = some .string) {e : MapEntry} {s : ByteArray} (he : e.key = .string s) (hs : s.size ≤ maxLen) : WideElems.rd P k rdK e = some (.string s.data.toList, .nil) := by
  unfold WideElems.rd
  rw [he, WideMaps.keyOf_string_mk hk hs]
  rfl
/-- What a map's names come to, sorted. -/
def NamesOf (m : FM) (ns : List ByteArray) : Prop := ns.Perm (keysF m) ∧ ns.Pairwise fun a b => ltS a b = true
def unS (l : List UInt8) : ByteArray := ⟨l.toArray⟩
theorem unS_toList (l : List UInt8) : (unS l).toList = l := by rw [Lib.toList_data]; rfl
theorem names_of {m : FM} (hm : (keysF m).Nodup) {ss : List (List UInt8)} (h : (ss.map unS).Perm (keysF m)) : NamesOf m ((ss.mergeSort fun x y => decide (x ≤ y)).map unS) := by
  have hp := (List.mergeSort_perm ss fun x y => decide (x ≤ y)).map unS
  have hq := hp.trans h
  refine ⟨hq, ?_⟩
  have hn : ((ss.mergeSort fun x y => decide (x ≤ y)).map unS).Nodup := hq.nodup_iff.2 hm
  have hs : (ss.mergeSort fun x y => decide (x ≤ y)).Pairwise fun x y => decide (x ≤ y) = true := by
    refine List.pairwise_mergeSort ?_ ?_ ss
    · intro a b c h1 h2
      simp only [decide_eq_true_eq] at *
      exact List.le_trans h1 h2
    · intro a b
      simp only [Bool.or_eq_true, decide_eq_true_eq]
      exact List.le_total a b
  rw [List.pairwise_map]
  have hn2 := List.pairwise_map.1 hn
  refine (hs.and hn2).imp fun {a b} hab => ?_
  rw [ltS_iff, unS_toList, unS_toList]
  have h1 := of_decide_eq_true hab.1
  rcases List.le_iff_lt_or_eq.1 h1 with h2 | h2
  · exact h2
  · exact absurd (congrArg unS h2) hab.2

section
variable [Globs]

theorem clone_m (m : FM) : ACalls Try.prog 28 [.mp 0] [.map (fmV m)] (fun r h => r = .mp 1 ∧ h = [.map (fmV m), .map (fmV m)]) :=
  clone_of ⟨_, Try.func28, by decide, rfl⟩ (fun b es clock w hb => Try.maps_Clone b es clock w hb) m

/-- The function value over a map's names. -/
def keysV : AV := .clo (.func 45) 1 (fun _ => .ptr 1 0)

theorem keys_m (m : FM) : ACalls Try.prog 38 [.mp 0] [.map (fmV m)] (fun r h => r = keysV ∧ h = [.map (fmV m), .lst [.mp 0]]) := by
  refine ⟨⟨_, Try.func38, by decide, rfl⟩, fun S0 L w vs hh hS hn hv => ?_⟩
  obtain ⟨v, e0, hv0⟩ := hv 0 (.mp 0) rfl
  obtain ⟨hlt, b, hb, rfl⟩ := hv0
  have hvs : vs = #[.map (some b)] := by
    have hn : vs.size = 1 := hn
    apply Array.ext_getElem?
    intro i
    match i with
    | 0 => rw [e0]; rfl
    | i + 1 => rw [Array.getElem?_eq_none (by omega)]; simp
  subst hvs
  refine (Try.maps_Keys (some b) w).mono fun e w' ⟨he, hw'⟩ => ?_
  subst he
  have hp : w'.heap = w.heap.push (.cells #[.map (some b)] 61) := by rw [hw']; rfl
  have al : AL.Alike w w' := by rw [hw']; exact ⟨rfl, rfl, rfl⟩
  have hs := step_new (o := .lst [.mp 0]) (sz := 1) hh al hp fun L' hL => cells_new (c := #[.map (some b)]) hp (no_frozen _) (Nat.le_refl 1) fun i hi => by
    obtain rfl : i = 0 := by have : i < 1 := hi; omega
    exact ⟨.map (some b), rfl, Nat.lt_of_lt_of_le hlt hL.n, b, by rw [hL.b 0 hlt]; exact hb, rfl⟩
  refine ⟨_, keysV, [.map (fmV m), .lst [.mp 0]], _, rfl, ⟨rfl, rfl⟩, hs.rel, ⟨_, rfl, rfl, fun i hi => ?_⟩⟩
  obtain rfl : i = 0 := by omega
  exact ⟨_, rfl, push_n hh _ _, _, push_b hh _ _, rfl⟩

theorem sorted_m (m : FM) (hm : (keysF m).Nodup) (hk : ∀ p ∈ m, p.1.size ≤ maxLen) (hl : m.length ≤ 1000000) : ACalls Try.prog 37 [keysV] [.map (fmV m), .lst [.mp 0]]
    (fun r h => ∃ ns, NamesOf m ns ∧ r = .ro ns.length 1 (fun i => str (ns.getD i ByteArray.empty)) ∧ h = [.map (fmV m), .lst [.mp 0]]) := by
  refine ⟨⟨_, Try.func37, by decide, rfl⟩, fun S0 L w vs hh hS hn hv => ?_⟩
  obtain ⟨v, e0, hv0⟩ := hv 0 keysV rfl
  obtain ⟨us, rfl, hu, hd⟩ := hv0
  obtain ⟨u, eu, hu0⟩ := hd 0 Nat.zero_lt_one
  obtain ⟨hlt, c, hc, rfl⟩ := hu0
  have hus : us = #[.pointer (some ⟨c, 0, none⟩)] := by
    apply Array.ext_getElem?
    intro i
    match i with
    | 0 => rw [eu]; rfl
    | i + 1 => rw [Array.getElem?_eq_none (by omega)]; simp
  subst hus
  have hvs : vs = #[.func (.func 45) #[] #[.pointer (some ⟨c, 0, none⟩)]] := by
    have hn : vs.size = 1 := hn
    apply Array.ext_getElem?
    intro i
    match i with
    | 0 => rw [e0]; rfl
    | i + 1 => rw [Array.getElem?_eq_none (by omega)]; simp
  subst hvs
  obtain ⟨b, es, clock, hb, hw, hst, hsz, hes⟩ := hh.objs 0 _ rfl
  have hb : L.b 0 = some b := hb
  have ho1 := hh.objs 1 _ rfl
  have hcell : w.cell? ⟨c, 0, none⟩ = some (.map (some b)) ∧ c < w.heap.size := by
    rcases ho1 with ⟨h1, _⟩ | ⟨c', cs, el, lo, hi, h1, h2, h3, h4, h5, h6⟩
    · exact absurd h1 (by decide)
    have h1 : L.b 1 = some c' := h1
    rw [hc] at h1
    obtain rfl := Option.some.inj h1
    obtain ⟨u, h7, h8⟩ := h6 0 Nat.zero_lt_one
    obtain ⟨_, b2, h9, rfl⟩ := h8
    rw [hb] at h9
    obtain rfl := Option.some.inj h9
    refine ⟨?_, (Array.getElem?_eq_some_iff.1 h2).1⟩
    simp only [World.cell?, h2]
    exact h7
  have hlen : es.size = m.length := by rw [hsz, fmV_len]
  have hkey : ∀ i e, es[i]? = some e → ∃ h : i < m.length, e.key = .string m[i].1 := fun i e he => by
    have hi : i < m.length := by rw [← hlen]; exact (Array.getElem?_eq_some_iff.1 he).1
    obtain ⟨e', h1, h2, _⟩ := hes i (by rw [fmV_len]; exact hi)
    rw [he] at h1
    obtain rfl := Option.some.inj h1
    rw [fmV_get hi] at h2
    exact ⟨hi, h2⟩
  have hun : Try.prog.underlying 9 = some .string := Try.underlying9
  have hrd : ∀ i e, es[i]? = some e → ∃ h : i < m.length, WideElems.rd Try.prog 9 rdK e = some (.string m[i].1.data.toList, .nil) := fun i e he => by
    obtain ⟨hi, h1⟩ := hkey i e he
    exact ⟨hi, rg_K hun h1 (hk _ (List.getElem_mem hi))⟩
  obtain ⟨D0, hD0⟩ : ∃ D0, (DataW.map ((es.toList.map (WideElems.rg Try.prog 9 rdK)).foldr DataW.insert []) : DataW Nat) = D0 := ⟨_, rfl⟩
  have hown : w.ownsMap Try.prog 9 rdK b es.size D0 := ⟨es, clock, hw, ⟨by rw [hlen]; unfold maxLen; omega, hst, fun x hx => by
    obtain ⟨i, hi, hx⟩ := List.getElem_of_mem hx
    obtain ⟨_, h1⟩ := hrd i x (by rw [← hx, Array.getElem_toList, Array.getElem?_eq_getElem])
    exact ⟨_, h1⟩⟩, Nat.le_refl _, hD0.symm⟩
  have hDs : Maps.size D0 = m.length := by
    rw [← hD0, Maps.size_eq, (WideShapes.sorted_perm _).length_eq, List.length_map, Array.length_toList, hlen]
  refine (Try.sorted_Keys c b es.size D0 rdK w hcell.2 hcell.1 hown (by rw [hDs]; unfold maxLen; omega) (by rw [hDs]; omega)).mono fun e w' ⟨v, ss, he, hss, hrow, hnil, hbl⟩ => ?_
  subst he
  have hns : NamesOf m ((ss.mergeSort fun x y => decide (x ≤ y)).map unS) := by
    refine names_of hm ?_
    have hp : ss.Perm ((keysF m).map fun s => s.data.toList) := by
      refine hss.trans ?_
      rw [← hD0]
      show (((es.toList.map (WideElems.rg Try.prog 9 rdK)).foldr DataW.insert []).map fun p => strOf p.1).Perm _
      refine ((WideShapes.sorted_perm _).map _).trans ?_
      refine List.Perm.of_eq ?_
      apply List.ext_getElem
      · simp [keysF, hlen]
      · intro i h1 h2
        simp only [List.getElem_map, Array.getElem_toList, keysF]
        have h3 : i < es.size := by simpa using h1
        obtain ⟨h4, h5⟩ := hrd i es[i] (Array.getElem?_eq_getElem h3)
        unfold WideElems.rg
        rw [h5]
        rfl
    have := hp.map unS
    rw [List.map_map] at this
    have e : (unS ∘ fun s : ByteArray => s.data.toList) = id := funext fun s => rfl
    rw [e, List.map_id] at this
    exact this
  obtain ⟨ns, hN⟩ : ∃ ns, (ss.mergeSort fun x y => decide (x ≤ y)).map unS = ns := ⟨_, rfl⟩
  rw [hN] at hns
  have hnl : ns.length = ss.length := by rw [← hN, List.length_map, List.length_mergeSort]
  have hmine : ∀ i b, Live [AO.map (fmV m), .lst [.mp 0]] i → L.b i = some b → b < w.heap.size := fun i b hi e => (hh.mine i b hi e).1
  have hs := step_of (L' := L) (h' := [AO.map (fmV m), .lst [.mp 0]]) hh ⟨hbl.os, hbl.tape, hbl.output⟩ hbl.size (.refl _) hh.n (Nat.le_refl _) (fun k hk => .inl (hbl.block k hk)) (fun i b hi e => ⟨Nat.lt_of_lt_of_le (hmine i b hi e) hbl.size, .inr ⟨i, hi, e⟩⟩) hh.inj
    (fun i o ho => old_obj hh (.refl _) ho (fun k hk => hbl.block k hk.1) fun b hl e => hbl.block b (hmine i b ⟨o, ho, hl⟩ e))
  refine ⟨v, .ro ns.length 1 (fun i => str (ns.getD i ByteArray.empty)), _, L, rfl, ⟨ns, hns, rfl, rfl⟩, hs.rel, ?_⟩
  obtain ⟨hrl, hrow⟩ := hrow
  rcases hrow with ⟨rfl, h0⟩ | ⟨g, cap, cur, rfl, hg, hcur, hcap, _, hsize, htake⟩
  · refine ⟨none, 0, by rw [hnl, h0], by omega, fun i hi => by omega⟩
  · refine ⟨some ⟨g, 0, none⟩, cap, by rw [hnl], by omega, fun i hi => ?_⟩
    have hi2 : i < ns.length := by omega
    refine ⟨.string ns[i], ⟨g, 0, rfl, ⟨(Array.getElem?_eq_some_iff.1 hcur).1, .inr (.inl hg), fun j hj e => ?_⟩, ?_⟩, ?_⟩
    · have := hmine j g hj e
      omega
    · simp only [World.cell?, hcur]
      have h1 : (cur.toList.take (ss.length * 1))[i]? = some (Value.string ns[i]) := by
        rw [htake, List.getElem?_map]
        have h2 : ((ss.mergeSort fun x y => decide (x ≤ y)).map unS)[i]? = some ns[i] := by rw [hN, List.getElem?_eq_getElem hi2]
        rw [List.getElem?_map] at h2
        cases h3 : (ss.mergeSort fun x y => decide (x ≤ y))[i]? with
        | none => rw [h3] at h2; cases h2
        | some l =>
          rw [h3] at h2
          have h2 := Option.some.inj h2
          rw [← h2]; rfl
      rw [List.getElem?_take, if_pos (by omega), Array.getElem?_toList] at h1
      rw [Nat.zero_add]
      exact h1
    · show Value.string ns[i] = .string (ns.getD i ByteArray.empty)
      rw [List.getD_eq_getElem?_getD, List.getElem?_eq_getElem hi2]; rfl
end
end Go.Proofs.Ytflclafbieokiaa.Dk
