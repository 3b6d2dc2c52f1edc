/-
  The state's own logic is sound: rows that grow, and are copied. No program in sight.
-/
import Derived.Test.YtmohncaoimeneaaDoorAlEff2
set_option linter.unusedVariables false
set_option linter.unusedSectionVars false
namespace Go.Proofs.YtmohncaoimeneaaDoor.AL
open Go
variable [Globs]

section
variable {P : Program} {C : Ctx} {t : List AV} {h : List AO} {L : Loc} {a : Act} {w : World}

theorem cells1 {S : Nat → Prop} {x : AV} {v : Value} (hc : cell1 x = true) (hx : den w S L x v) : v.oneCell' = true := (cell1_cells hc hx).2

theorem cellsK_spec (hr : HRel C h L w) {sz : Nat} {x : AV} {vx : Value} {K : Nat → (Nat → AV) → Prop} (hx : den w (SS C w h L) L x vx) (hk : cellsK h sz x K) :
    ∃ m f, K m f ∧ ((∀ i, i < m * sz → cell1 (f i) = true) → Src P w sz vx m (fun i u => den w (SS C w h L) L (f i) u)) := by
  unfold cellsK at hk
  split at hk
  · rename_i n sz' f
    obtain ⟨rfl, hk2⟩ := sure_iff.1 hk
    obtain ⟨A, cap, rfl, hcap, hc⟩ := hx
    exact ⟨n, f, hk2, fun hone => src_of_rcells fun i hi => let ⟨u, h1, h2⟩ := hc i hi; ⟨u, h1, cells1 (hone i hi) h2, den_zero L h2⟩⟩
  · rename_i k ys
    obtain ⟨rfl, hk2⟩ := sure_iff.1 hk
    obtain ⟨A, cap, rfl, hcap, hc⟩ := hx
    exact ⟨_, _, hk2, fun hone => src_of_rcells fun i hi => ⟨_, hc i (by omega), rfl, rfl⟩⟩
  · rename_i id off len sz'
    obtain ⟨rfl, hk2⟩ := sure_iff.1 hk
    replace hk2 := getO_iff.1 hk2
    obtain ⟨o, ho, hk2⟩ := hk2
    have hob := hr.objs id o ho
    -- the cells of the row, those that matter being one cell each
    have go : ∀ {n : Nat} {f : Nat → AV}, cellsAre w (L.b id) (L.sz id) n (fun i u => den w (SS C w h L) L (f i) u) → off + len * sz' ≤ n → (∀ i, i < len * sz' → cell1 (f (off + i)) = true) →
        Src P w sz' vx len (fun i u => den w (SS C w h L) L (f (off + i)) u) := by
      intro n f hc hle hone
      obtain ⟨_, ⟨rfl, A, rfl⟩ | ⟨b, cap, hb, rfl, hcap, hsz⟩⟩ := hx
      · exact src_empty A 0
      · exact src_of_rcells (S := fun _ => True) fun i hi => by
          obtain ⟨u, h1, h2⟩ := own_cell hc hb (i := off + i) (by omega)
          exact ⟨u, ⟨b, off, rfl, trivial, h1⟩, cells1 (hone i hi) h2, h2⟩
    cases o with
    | dead => exact hk2.elim
    | map n key val => exact hk2.elim
    | lst l =>
      obtain ⟨hle, hk3⟩ := hk2
      exact ⟨_, _, hk3, fun hone => go (f := fun i => l.getD i .top) hob hle hone⟩
    | row n f =>
      obtain ⟨hle, hk3⟩ := hk2
      exact ⟨_, _, hk3, fun hone => go hob hle hone⟩
    | ints k ys =>
      obtain ⟨hle, hk3⟩ := hk2
      exact ⟨_, _, hk3, fun hone => go (f := fun i => int k (ys.getD i 0)) hob hle hone⟩
  · obtain rfl := hx
    exact ⟨_, _, hk, fun _ => src_empty none 0⟩
  · exact hk.elim

theorem den_drew (hr : HRel C h L w) {ob : Obj} {L' : Loc} (hL : L.le L') {x : AV} {v : Value} (hx : den w (SS C w h L) L x v) : den (w.drew.alloc ob) (SS C w h L) L' x v :=
  den_new hr (w' := w.drew.alloc ob) rfl hL hx

/-- Cells, those of one row and behind them those of another one. -/
theorem both_cells {n k : Nat} {us os : List Value} {zs : Array Value} {p q : Nat → Value → Prop} (ho : os.length = n) (hu : us.length = k) (hp : ∀ i, i < n → ∃ u, os[i]? = some u ∧ p i u) (hq : ∀ i, i < k → ∃ u, us[i]? = some u ∧ q i u) :
    ∀ j, j < n + k → ∃ u, ((os ++ us).toArray ++ zs)[j]? = some u ∧ (if j < n then p j u else q (j - n) u) := by
  intro j hj
  rw [Array.getElem?_append_left (by simp; omega)]
  rcases Nat.lt_or_ge j n with h1 | h1
  · obtain ⟨u, h2, h3⟩ := hp j h1
    exact ⟨u, by simp [List.getElem?_append_left (show j < os.length by omega), h2], by rw [if_pos h1]; exact h3⟩
  · obtain ⟨u, h2, h3⟩ := hq (j - n) (by omega)
    exact ⟨u, by simp only [List.getElem?_toArray]; rw [List.getElem?_append_right (by omega), ho]; exact h2, by rw [if_neg (by omega)]; exact h3⟩

/-- An append, by what the row held and what comes behind it. -/
theorem append_core (hr : HRel C h L w) {T T2 ty e : TypeId} {d : TypeDesc} {i : TypeInfo} {z : Value} {m len sz n id : Nat} {o o' : AO} {vs vx : Value} {p q : Nat → Value → Prop} {K : AV → List AO → Prop}
    (ht : P.underlying T = some (.slice e)) (hi : P.info? e = some i) (hz : i.zero = some z) (hsz : i.size = sz) (h2 : P.underlying T2 = some d) (hd : notInt d = true)
    (hx : Src P w sz vx m q) (hb : (len + m) * i.bytes ≤ 140737488355328) (hbp : 0 < i.bytes) (hzc : z.cells.size = sz)
    (ho : h[id]? = some o) (hl : o.live) (hc : cellsAre w (L.b id) (L.sz id) n p) (hn : n = len * sz) (hv : den w (SS C w h L) L (.own id 0 len sz) vs) (hone : ∀ i u, i < n → p i u → u.oneCell' = true)
    (ho' : ∀ w' L' B szB, L.le L' → (∀ (x : AV) (v : Value), den w (SS C w h L) L x v → den w' (SS C w h L) L' x v) →
      cellsAre w' B szB ((len + m) * sz) (fun j u => if j < n then p j u else q (j - n) u) → objIs w' (SS C w h L) L' B szB o')
    (hk : setO h id .dead fun h1 => addO h1 o' fun n h' => K (.own n 0 (len + m) sz) h') : EffV P C h L w (Builtin.append_ #[T, T2] ty #[vs, vx]) K := by
  obtain ⟨hid, hk1⟩ := setO_iff.1 hk
  have hk2 := addO_spec hk1
  have hlen1 : (h.set id .dead).length = h.length := by simp
  rw [hlen1] at hk2
  have hsrc := own_src (P := P) hr ho hc hv (by omega) (fun i u hi hp => hone i u hi hp)
  obtain ⟨us, u1, u2, u3, u4⟩ := hx.full
  obtain ⟨os, o1, o2, o3, o4⟩ := hsrc.full
  have hsum : (len + m) * sz = n + m * sz := by rw [Nat.add_mul, hn]
  have hss : ∀ w, (sizeOf e).run P w = .ok sz w := fun w => by simp [sizeOf, typeInfo, hi, hsz]
  have hlive : Live h id := ⟨o, ho, hl⟩
  have h63 : len + m < 9223372036854775808 := by
    have : (len + m) * 1 ≤ (len + m) * i.bytes := Nat.mul_le_mul_left _ hbp
    omega
  have hLn : L.n = h.length := hr.n
  -- it grows into a new block
  have more : ∀ {base : Option Addr} {sCap : Nat}, vs = .slice base len sCap → sCap < len + m → EffV P C h L w (Builtin.append_ #[T, T2] ty #[vs, vx]) K := by
    intro base sCap e1 hlt
    subst e1
    have hrun := run_append_more (P := P) (ty := ty) (w := w) (us := us) (olds := os) ht hi hz h2 hd hx.len (by rw [hsz]; exact u2) (by rw [hsz]; exact o2) hlt hb h63
    have s1 := step_kill (w' := w) (id := id) hr (.refl w) rfl
    have hge := grownCap_ge w (len + m) sCap e
    have hcs : grownCap w (len + m) sCap e * sz ≤ ((os ++ us).toArray ++ Builtin.zeroCells z.cells (grownCap w (len + m) sCap e - (len + m))).size := by
      have : (grownCap w (len + m) sCap e - (len + m)) * sz + (len + m) * sz = grownCap w (len + m) sCap e * sz := by rw [← Nat.add_mul]; congr 1; omega
      simp [size_zeroCells, hzc, o1, u1]
      omega
    have hcell := both_cells (n := n) (zs := Builtin.zeroCells z.cells (grownCap w (len + m) sCap e - (len + m))) (p := p) (q := q) (by rw [o1, hn]) u1 (fun i hi => by
      obtain ⟨u, h1, h2⟩ := o4 i (by omega)
      exact ⟨u, h1, by simpa using h2⟩) u4
    have hmono : ∀ (L' : Loc), L.le L' → ∀ (x : AV) (v : Value), den w (SS C w h L) L x v →
        den (w.drew.alloc (.cells ((os ++ us).toArray ++ Builtin.zeroCells z.cells (grownCap w (len + m) sCap e - (len + m))) e)) (SS C w h L) L' x v := fun L' hL x v hx => den_drew hr hL hx
    have s2 := step_new (w' := w.drew.alloc (.cells ((os ++ us).toArray ++ Builtin.zeroCells z.cells (grownCap w (len + m) sCap e - (len + m))) e)) (o := o') (sz := ((os ++ us).toArray ++ Builtin.zeroCells z.cells (grownCap w (len + m) sCap e - (len + m))).size)
      s1.rel ⟨rfl, rfl, rfl⟩ rfl (fun L' hL => objIs_mono (fun _ _ => rfl) s1.ss (.refl _) (fun _ _ _ => rfl) (ho' _ L' _ _ hL (hmono L' hL)
        (cells_new (w := w) rfl (no_frozen _) (by rw [hsum]; simp [o1, u1]; omega) (by rw [hsum]; exact hcell))))
    refine ⟨_, .own h.length 0 (len + m) sz, _, _, _, hrun, s1.trans s2, ⟨by simp [Loc.push, hLn], .inr ⟨_, _, by simp [Loc.push, hLn], rfl, hge, ?_⟩⟩, hk2⟩
    simp only [Loc.push, hLn, if_true, Nat.zero_add]
    exact hcs
  obtain ⟨_, ⟨e0, A, rfl⟩ | ⟨b, cap, hbk, rfl, hcap, hszb⟩⟩ := hv
  · subst e0
    rcases Nat.eq_zero_or_pos m with hm | hm
    · -- nothing is appended to nothing
      subst hm
      have hus : us = [] := List.length_eq_zero_iff.1 (by simpa using u1)
      have hn0 : n = 0 := by omega
      have hrun : (Builtin.append_ #[T, T2] ty #[.slice A 0 0, vx]).run P w = .ok (.slice A 0 0) w :=
        run_append_fits (P := P) (ty := ty) (us := us) ht hss h2 hd hx.len (u2 w rfl) (Nat.le_refl _) (fun a _ => by rw [hus]; rfl) (fun _ => rfl)
      have s1 := step_kill (w' := w) (id := id) hr (.refl w) rfl
      have s2 := step_none (w' := w) (o := o') s1.rel (.refl w) rfl (fun L' hL => objIs_mono (fun _ _ => rfl) s1.ss (.refl _) (fun _ _ _ => rfl) (ho' w L' none 0 hL (fun x v hx => den_mono (fun _ _ => rfl) (fun _ h => h) hL x v hx)
        (.inl ⟨by simp, rfl⟩)))
      exact ⟨_, .own h.length 0 0 sz, _, _, _, hrun, s1.trans s2, ⟨by simp [Loc.push, hLn], .inl ⟨rfl, A, rfl⟩⟩, hk2⟩
    · exact more rfl (by omega)
  · rcases Nat.lt_or_ge cap (len + m) with hlt | hge
    · exact more rfl hlt
    · -- there is room
      have hle : n + us.length ≤ L.sz id := by
        have : (len + m) * sz ≤ cap * sz := Nat.mul_le_mul_right _ hge
        omega
      obtain ⟨w', g1, g2, g3, g4, g5⟩ := store_block (P := P) hr hlive hbk hc u3 hle
      have hrun : (Builtin.append_ #[T, T2] ty #[.slice (some ⟨b, 0, none⟩) len cap, vx]).run P w = .ok (.slice (some ⟨b, 0, none⟩) (len + m) cap) w' :=
        run_append_fits (P := P) (ty := ty) (us := us) ht hss h2 hd hx.len (u2 w rfl) hge (fun a ha => by
          cases ha
          rw [Addr.add_mk, Nat.zero_add, ← hn]
          exact g1) (fun h => by cases h)
      have hcn := g5 ((len + m) * sz) (fun j u => if j < n then p j u else q (j - n) u) (by rw [hsum]; omega) (fun j hj => by
        rw [hsum] at hj
        rcases Nat.lt_or_ge j n with h1 | h1
        · exact .inr ⟨by omega, h1, fun u hu => by rw [if_pos h1]; exact hu⟩
        · obtain ⟨u, h3, h4⟩ := u4 (j - n) (by omega)
          exact .inl ⟨h1, by omega, u, h3, by rw [if_neg (by omega)]; exact h4⟩)
      have s := step_move (w' := w') (id := id) (o := o') hr g2 g3 hlive hbk g4 (fun L' hL => ho' w' L' _ _ hL (fun x v hx => den_upd hr hlive hbk g4 hL hx) hcn)
      refine ⟨_, .own h.length 0 (len + m) sz, _, _, _, hrun, s, ⟨by simp [Loc.push, hLn], .inr ⟨b, cap, by simp [Loc.push, hLn], rfl, hge, ?_⟩⟩, hk2⟩
      simp only [Loc.push, hLn, if_true, Nat.zero_add]
      omega

/-- An append to nothing. -/
theorem append_nil_core (hr : HRel C h L w) {T T2 ty e : TypeId} {d : TypeDesc} {i : TypeInfo} {z : Value} {m sz : Nat} {o' : AO} {vx : Value} {q : Nat → Value → Prop} {K : AV → List AO → Prop}
    (ht : P.underlying T = some (.slice e)) (hi : P.info? e = some i) (hz : i.zero = some z) (hsz : i.size = sz) (h2 : P.underlying T2 = some d) (hd : notInt d = true)
    (hx : Src P w sz vx m q) (hb : m * i.bytes ≤ 140737488355328) (hbp : 0 < i.bytes) (hzc : z.cells.size = sz)
    (ho' : ∀ w' L' B szB, L.le L' → (∀ (x : AV) (v : Value), den w (SS C w h L) L x v → den w' (SS C w h L) L' x v) →
      cellsAre w' B szB (m * sz) q → objIs w' (SS C w h L) L' B szB o')
    (hk : addO h o' fun n h' => K (.own n 0 m sz) h') : EffV P C h L w (Builtin.append_ #[T, T2] ty #[.slice none 0 0, vx]) K := by
  have hk2 := addO_spec hk
  obtain ⟨us, u1, u2, u3, u4⟩ := hx.full
  have hss : ∀ w, (sizeOf e).run P w = .ok sz w := fun w => by simp [sizeOf, typeInfo, hi, hsz]
  have h63 : 0 + m < 9223372036854775808 := by
    have : m * 1 ≤ m * i.bytes := Nat.mul_le_mul_left _ hbp
    omega
  have hLn : L.n = h.length := hr.n
  rcases Nat.eq_zero_or_pos m with hm | hm
  · subst hm
    have hus : us = [] := List.length_eq_zero_iff.1 (by simpa using u1)
    have hrun : (Builtin.append_ #[T, T2] ty #[.slice none 0 0, vx]).run P w = .ok (.slice none 0 0) w :=
      run_append_fits (P := P) (ty := ty) (us := us) ht hss h2 hd hx.len (u2 w rfl) (Nat.le_refl _) (fun a ha => by cases ha) (fun _ => rfl)
    have s2 := step_none (w' := w) (o := o') hr (.refl w) rfl (fun L' hL => (ho' w L' none 0 hL (fun x v hx => den_mono (fun _ _ => rfl) (fun _ h => h) hL x v hx) (.inl ⟨by simp, rfl⟩)))
    exact ⟨_, .own h.length 0 0 sz, _, _, _, hrun, s2, ⟨by simp [Loc.push, hLn], .inl ⟨rfl, none, rfl⟩⟩, hk2⟩
  · have hrun := run_append_more (P := P) (ty := ty) (w := w) (us := us) (olds := []) (base := none) (sLen := 0) (sCap := 0) ht hi hz h2 hd hx.len (by rw [hsz]; exact u2) (fun w' _ => by rfl) (by omega) (by rw [Nat.zero_add]; exact hb) h63
    rw [Nat.zero_add] at hrun
    have hge := grownCap_ge w m 0 e
    have hcs : grownCap w m 0 e * sz ≤ (([] ++ us).toArray ++ Builtin.zeroCells z.cells (grownCap w m 0 e - m)).size := by
      have : (grownCap w m 0 e - m) * sz + m * sz = grownCap w m 0 e * sz := by rw [← Nat.add_mul]; congr 1; omega
      simp [size_zeroCells, hzc, u1]
      omega
    have hcell := both_cells (n := 0) (os := []) (zs := Builtin.zeroCells z.cells (grownCap w m 0 e - m)) (p := fun _ _ => True) (q := q) rfl u1 (fun i hi => by omega) u4
    have s2 := step_new (w' := w.drew.alloc (.cells (([] ++ us).toArray ++ Builtin.zeroCells z.cells (grownCap w m 0 e - m)) e)) (o := o') (sz := (([] ++ us).toArray ++ Builtin.zeroCells z.cells (grownCap w m 0 e - m)).size)
      hr ⟨rfl, rfl, rfl⟩ rfl (fun L' hL => ho' _ L' _ _ hL (fun x v hx => den_drew hr hL hx)
        (cells_new (w := w) rfl (no_frozen _) (by simp [u1]) (fun i hi => by
          obtain ⟨u, h1, h2⟩ := hcell i (by omega)
          exact ⟨u, h1, by simpa using h2⟩)))
    refine ⟨_, .own h.length 0 m sz, _, _, _, hrun, s2, ⟨by simp [Loc.push, hLn], .inr ⟨_, _, by simp [Loc.push, hLn], rfl, hge, ?_⟩⟩, hk2⟩
    simp only [Loc.push, hLn, if_true, Nat.zero_add]
    exact hcs

theorem getD_append (xs ys : List Int) (j : Nat) : (xs ++ ys).getD j 0 = if j < xs.length then xs.getD j 0 else ys.getD (j - xs.length) 0 := by
  simp only [List.getD_eq_getElem?_getD]
  by_cases h : j < xs.length
  · rw [if_pos h, List.getElem?_append_left h]
  · rw [if_neg h, List.getElem?_append_right (by omega)]

theorem appendK_spec (hr : HRel C h L w) {T T2 ty : TypeId} {s x : AV} {vs vx : Value} {K : AV → List AO → Prop} (hs : den w (SS C w h L) L s vs) (hx : den w (SS C w h L) L x vx)
    (hk : appendK P T T2 h s x K) : EffV P C h L w (Builtin.append_ #[T, T2] ty #[vs, vx]) K := by
  unfold appendK at hk
  split at hk
  · rename_i e d2 ht h2
    obtain ⟨hd, hk1⟩ := sure_iff.1 hk
    clear hk
    split at hk1
    · rename_i i hi
      obtain ⟨⟨hbp, hsp⟩, hk2⟩ := sure_iff.1 hk1
      clear hk1
      split at hk2
      · rename_i z hz
        obtain ⟨hzc, hk3⟩ := sure_iff.1 hk2
        clear hk2
        split at hk3
        · rename_i k hik
          obtain ⟨hs1, hk4⟩ := sure_iff.1 hk3
          clear hk3
          split at hk4
          · obtain rfl := hs
            obtain ⟨ys, ⟨hb, hk5⟩, hsrc⟩ := intsK_spec (P := P) hr hx hk4
            exact append_nil_core hr ht hi hz hs1 h2 hd hsrc hb hbp (by rw [hzc, hs1]) (fun w' L' B szB _ _ hc => by rw [Nat.mul_one] at hc; exact hc) hk5
          · rename_i id len
            replace hk4 := getO_iff.1 hk4
            obtain ⟨o, ho, hk4⟩ := hk4
            split at hk4
            · rename_i k' xs
              obtain ⟨rfl, hlen, hk5⟩ := sameKind_iff.1 hk4
              subst hlen
              obtain ⟨ys, ⟨hb, hk6⟩, hsrc⟩ := intsK_spec (P := P) hr hx hk5
              refine append_core hr ht hi hz hs1 h2 hd hsrc hb hbp (by rw [hzc, hs1]) ho trivial (hr.objs id _ ho) (by omega) hs (fun i u _ hu => by subst hu; rfl) (fun w' L' B szB _ _ hc => ?_) hk6
              rw [Nat.mul_one] at hc
              have hl : (xs ++ ys).length = xs.length + ys.length := List.length_append
              show cellsAre w' B szB _ _
              rw [hl]
              refine cellsAre_mono (fun _ _ => rfl) (fun i u hi hu => ?_) hc
              rw [getD_append]
              by_cases e1 : i < xs.length
              · rw [if_pos e1] at hu ⊢; exact hu
              · rw [if_neg e1] at hu ⊢; exact hu
            · exact hk4.elim
          · exact hk4.elim
        · obtain ⟨sz, hss, ⟨i', hi', hsz⟩, hk4⟩ := sizeK_spec hk3
          rw [hi] at hi'
          cases hi'
          clear hk3
          split at hk4
          · obtain rfl := hs
            obtain ⟨m, f, ⟨hb, hone, g, hg, hk5⟩, hsrc⟩ := cellsK_spec (P := P) hr hx hk4
            refine append_nil_core (q := fun i u => den w (SS C w h L) L (f i) u) hr ht hi hz hsz h2 hd (hsrc hone) hb hbp (by rw [hzc, hsz]) (fun w' L' B szB _ hd hc => ?_) hk5
            exact cellsAre_mono (p := fun i u => den w (SS C w h L) L (f i) u) (fun _ _ => rfl) (fun i u hi hu => by rw [hg i hi]; exact hd _ _ hu) hc
          · rename_i id len sz'
            obtain ⟨rfl, hk5⟩ := sure_iff.1 hk4
            replace hk5 := getO_iff.1 hk5
            obtain ⟨o, ho, hk5⟩ := hk5
            split at hk5
            · rename_i n f
              obtain ⟨hn, hone1, hk6⟩ := hk5
              obtain ⟨m, f', ⟨hb, hone, g, hg1, hg2, hk7⟩, hsrc⟩ := cellsK_spec (P := P) hr hx hk6
              refine append_core hr ht hi hz hsz h2 hd (hsrc hone) hb hbp (by rw [hzc, hsz]) ho trivial (hr.objs id _ ho) hn hs (fun i u hi hu => cells1 (hone1 i hi) hu) (fun w' L' B szB _ hd hc => ?_) hk7
              refine cellsAre_mono (fun _ _ => rfl) (fun i u hi hu => ?_) hc
              have hsum : (len + m) * sz' = n + m * sz' := by rw [Nat.add_mul, hn]
              by_cases e1 : i < n
              · rw [if_pos e1] at hu
                rw [hg1 i e1]; exact hd _ _ hu
              · rw [if_neg e1] at hu
                have := hg2 (i - n) (by omega)
                rw [show n + (i - n) = i by omega] at this
                rw [this]; exact hd _ _ hu
            · rename_i l
              obtain ⟨hn, hone1, hk6⟩ := hk5
              obtain ⟨m, f', ⟨hb, hone, g, hg1, hg2, hk7⟩, hsrc⟩ := cellsK_spec (P := P) hr hx hk6
              refine append_core hr ht hi hz hsz h2 hd (hsrc hone) hb hbp (by rw [hzc, hsz]) ho trivial (hr.objs id _ ho) hn hs (fun i u hi hu => cells1 (hone1 i hi) hu) (fun w' L' B szB _ hd hc => ?_) hk7
              refine cellsAre_mono (fun _ _ => rfl) (fun i u hi hu => ?_) hc
              have hsum : (len + m) * sz' = l.length + m * sz' := by rw [Nat.add_mul, hn]
              by_cases e1 : i < l.length
              · rw [if_pos e1] at hu
                rw [hg1 i e1]; exact hd _ _ hu
              · rw [if_neg e1] at hu
                have := hg2 (i - l.length) (by omega)
                rw [show l.length + (i - l.length) = i by omega] at this
                rw [this]; exact hd _ _ hu
            · exact hk5.elim
          · exact hk4.elim
      · exact hk2.elim
    · exact hk1.elim
  · exact hk.elim

end
end Go.Proofs.YtmohncaoimeneaaDoor.AL
