/-
  A disk that loses what wasn't synced: what is done to it, and lost. No program in sight.
-/
import Derived.Test.YtflclafbieokiaaDkM
set_option linter.unusedVariables false
set_option linter.unusedSectionVars false
namespace Go.Proofs.Ytflclafbieokiaa.Dk
open Go AL Us

inductive Dee where
  | wr (name : ByteArray) (data : List Int)
  | mv (name to : ByteArray)
  | rm (name : ByteArray)
def actF : Dee → FM → FM
  | .wr n b, m => setF n b m
  | .mv a t, m => setF t ((getF a m).getD []) (delF a m)
  | .rm a, m => delF a m
def actR : Dee → List Fl → List Fl
  | .wr n b, L => withR n b L
  | .mv a t, L => withR t ((getR a L).getD []) (withoutR a L)
  | .rm a, L => withoutR a L
theorem rel_act {m : FM} {L : List Fl} (h : RelF m L) : ∀ d : Dee, RelF (actF d m) (actR d L)
  | .wr n b => rel_set h n b
  | .mv a t => by
    show RelF (setF t ((getF a m).getD []) (delF a m)) (withR t ((getR a L).getD []) (withoutR a L))
    rw [rel_get h a]
    exact rel_set (rel_del h a) t _
  | .rm a => rel_del h a
theorem rel_acts {m : FM} {L : List Fl} (h : RelF m L) : ∀ ds : List Dee, RelF (ds.foldl (fun m d => actF d m) m) (ds.foldl (fun L d => actR d L) L)
  | [] => h
  | d :: ds => rel_acts (rel_act h d) ds

/-! How many bytes. -/
theorem size_perm {m n : FM} (h : m.Perm n) : sizeF m = sizeF n := by
  unfold sizeF; exact (h.map fun p => p.2.length).sum_nat
theorem size_cons (p : ByteArray × List Int) (m : FM) : sizeF (p :: m) = p.2.length + sizeF m := rfl
theorem size_del (s : ByteArray) : ∀ m : FM, sizeF (delF s m) + ((getF s m).getD []).length = sizeF m
  | [] => rfl
  | p :: r => by
    unfold delF getF
    by_cases h : p.1 = s
    · rw [if_pos h, if_pos h, size_cons]
      show _ + p.2.length = _
      omega
    · rw [if_neg h, if_neg h, size_cons, size_cons]
      have := size_del s r
      omega
theorem size_set (s : ByteArray) (v : List Int) : ∀ m : FM, sizeF (setF s v m) + ((getF s m).getD []).length = sizeF m + v.length
  | [] => by
    unfold setF getF
    simp [sizeF]
  | p :: r => by
    unfold setF getF
    by_cases h : p.1 = s
    · rw [if_pos h, if_pos h, size_cons, size_cons]
      show _ + p.2.length = _
      simp only
      omega
    · rw [if_neg h, if_neg h, size_cons, size_cons]
      have := size_set s v r
      omega
theorem size_mv (a t : ByteArray) (m : FM) : sizeF (actF (.mv a t) m) ≤ sizeF m := by
  show sizeF (setF t ((getF a m).getD []) (delF a m)) ≤ _
  have h1 := size_del a m
  have h2 := size_set t ((getF a m).getD []) (delF a m)
  omega
theorem size_rm (a : ByteArray) (m : FM) : sizeF (actF (.rm a) m) ≤ sizeF m := by
  have h1 := size_del a m
  show sizeF (delF a m) ≤ _
  omega
theorem set_mono {s : ByteArray} {v u : List Int} (m : FM) (h : v.length ≤ u.length) : sizeF (setF s v m) ≤ sizeF (setF s u m) := by
  have h1 := size_set s v m
  have h2 := size_set s u m
  omega

/-! A disk. -/
structure DkF where
  now : FM
  synced : FM
  deeds : List Dee
  room : Int
structure DkR where
  files : List Fl
  synced : List Fl
  deeds : List Dee
  room : Int
structure RelD (d : DkF) (x : DkR) : Prop where
  now : RelF d.now x.files
  synced : RelF d.synced x.synced
  deeds : d.deeds = x.deeds
  room : d.room = x.room
def newF (room : Int) : DkF := ⟨[], [], [], max room 0⟩
def newR (room : Int) : DkR := ⟨[], [], [], max room 0⟩
theorem rel_new (room : Int) : RelD (newF room) (newR room) := ⟨rel_nil, rel_nil, rfl, rfl⟩
def mayN (s : ByteArray) : Prop := 1 ≤ s.size ∧ s.size ≤ 40
instance (s : ByteArray) : Decidable (mayN s) := by unfold mayN; infer_instance
/-- What a deed is answered. -/
def errF (d : DkF) : Dee → Int
  | .wr n b => if ¬ mayN n then 1 else if (sizeF d.now : Int) - ((getF n d.now).getD []).length + b.length > d.room then 5 else 0
  | .mv a t => if ¬ mayN t then 1 else if getF a d.now = none then 6 else 0
  | .rm a => if getF a d.now = none then 6 else 0
def errR (x : DkR) : Dee → Int
  | .wr n b => if ¬ mayN n then 1 else if (dataN (withoutR n x.files) : Int) + b.length > x.room then 5 else 0
  | .mv a t => if ¬ mayN t then 1 else if getR a x.files = none then 6 else 0
  | .rm a => if getR a x.files = none then 6 else 0
def doF (d : DkF) (e : Dee) : DkF := if errF d e = 0 then ⟨actF e d.now, d.synced, d.deeds ++ [e], d.room⟩ else d
def doR (x : DkR) (e : Dee) : DkR := if errR x e = 0 then ⟨actR e x.files, x.synced, x.deeds ++ [e], x.room⟩ else x
theorem err_same {d : DkF} {x : DkR} (h : RelD d x) (e : Dee) : errF d e = errR x e := by
  cases e with
  | wr n b =>
    have h1 := size_del n d.now
    have h2 := rel_size (rel_del h.now n)
    show (if ¬ mayN n then (1 : Int) else if (sizeF d.now : Int) - ((getF n d.now).getD []).length + b.length > d.room then 5 else 0) = if ¬ mayN n then 1 else if (dataN (withoutR n x.files) : Int) + b.length > x.room then 5 else 0
    have e1 : ((sizeF d.now : Int) - ((getF n d.now).getD []).length + b.length > d.room) ↔ ((dataN (withoutR n x.files) : Int) + b.length > x.room) := by rw [h.room]; omega
    simp only [e1]
  | mv a t =>
    show (if ¬ mayN t then (1 : Int) else if getF a d.now = none then 6 else 0) = if ¬ mayN t then 1 else if getR a x.files = none then 6 else 0
    rw [rel_get h.now]
  | rm a =>
    show (if getF a d.now = none then (6 : Int) else 0) = if getR a x.files = none then 6 else 0
    rw [rel_get h.now]
theorem rel_do {d : DkF} {x : DkR} (h : RelD d x) (e : Dee) : RelD (doF d e) (doR x e) := by
  unfold doF doR
  rw [err_same h e]
  split
  · exact ⟨rel_act h.now e, h.synced, by rw [h.deeds], h.room⟩
  · exact h
def syncF (d : DkF) : DkF := ⟨d.now, d.now, [], d.room⟩
def syncR (x : DkR) : DkR := ⟨x.files, x.files, [], x.room⟩
theorem rel_sync {d : DkF} {x : DkR} (h : RelD d x) : RelD (syncF d) (syncR x) := ⟨h.now, h.now, rfl, h.room⟩
def lostF (m : FM) (e : Option Dee) (bytes : Int) : FM :=
  match e with
  | some (.wr n b) => if 0 ≤ bytes then setF n (b.take bytes.toNat) m else m
  | _ => m
def lostR (L : List Fl) (e : Option Dee) (bytes : Int) : List Fl :=
  match e with
  | some (.wr n b) => if 0 ≤ bytes then withR n (b.take bytes.toNat) L else L
  | _ => L
theorem rel_lost {m : FM} {L : List Fl} (h : RelF m L) (e : Option Dee) (bytes : Int) : RelF (lostF m e bytes) (lostR L e bytes) := by
  unfold lostF lostR
  split
  · split
    · exact rel_set h _ _
    · exact h
  · exact h
def nextD (ds : List Dee) (keep : Int) : Option Dee := if 0 ≤ keep then ds[keep.toNat]? else none
def crashM (d : DkF) (keep bytes : Int) : FM := lostF ((d.deeds.take keep.toNat).foldl (fun m e => actF e m) d.synced) (nextD d.deeds keep) bytes
def crashL (x : DkR) (keep bytes : Int) : List Fl := lostR ((x.deeds.take keep.toNat).foldl (fun L e => actR e L) x.synced) (nextD x.deeds keep) bytes
def crashF (d : DkF) (keep bytes : Int) : DkF := syncF { d with now := crashM d keep bytes }
def crashR (x : DkR) (keep bytes : Int) : DkR := syncR { x with files := crashL x keep bytes }
theorem rel_crash {d : DkF} {x : DkR} (h : RelD d x) (keep bytes : Int) : RelD (crashF d keep bytes) (crashR x keep bytes) := by
  have : RelF (crashM d keep bytes) (crashL x keep bytes) := by
    unfold crashM crashL
    rw [h.deeds]
    exact rel_lost (rel_acts h.synced _) _ _
  exact ⟨this, this, rfl, h.room⟩

/-! What is true at any time. -/
/-- The files are those that were synced, behind the deeds; and there is room for all that ever were. -/
structure GoodD (d : DkF) : Prop where
  room : 0 ≤ d.room
  is : d.now = d.deeds.foldl (fun m e => actF e m) d.synced
  all : ∀ k, (sizeF ((d.deeds.take k).foldl (fun m e => actF e m) d.synced) : Int) ≤ d.room
  keys : ∀ k, (keysF ((d.deeds.take k).foldl (fun m e => actF e m) d.synced)).Nodup
theorem act_keys {m : FM} (h : (keysF m).Nodup) : ∀ e : Dee, (keysF (actF e m)).Nodup
  | .wr n b => setF_keys h
  | .mv a t => setF_keys (delF_keys h).1
  | .rm a => (delF_keys h).1
theorem act_size {d : DkF} (h : (sizeF d.now : Int) ≤ d.room) {e : Dee} (he : errF d e = 0) : (sizeF (actF e d.now) : Int) ≤ d.room := by
  cases e with
  | wr n b =>
    have h1 := size_set n b d.now
    have he : (if ¬ mayN n then (1 : Int) else if (sizeF d.now : Int) - ((getF n d.now).getD []).length + b.length > d.room then 5 else 0) = 0 := he
    show (sizeF (setF n b d.now) : Int) ≤ _
    split at he
    · omega
    · split at he
      · omega
      · omega
  | mv a t => have := size_mv a t d.now; omega
  | rm a => have := size_rm a d.now; omega
theorem good_new (room : Int) : GoodD (newF room) := by
  refine ⟨Int.le_max_right .., rfl, fun k => ?_, fun k => ?_⟩
  · show (sizeF (([] : List Dee).take k |>.foldl _ [])  : Int) ≤ max room 0
    rw [List.take_nil]
    exact Int.le_max_right ..
  · show (keysF (([] : List Dee).take k |>.foldl _ [])).Nodup
    rw [List.take_nil]
    exact List.nodup_nil
theorem good_all {d : DkF} (h : GoodD d) : (sizeF d.now : Int) ≤ d.room ∧ (keysF d.now).Nodup := by
  have h1 := h.all d.deeds.length
  have h2 := h.keys d.deeds.length
  rw [List.take_length, ← h.is] at h1 h2
  exact ⟨h1, h2⟩
theorem good_do {d : DkF} (h : GoodD d) (e : Dee) : GoodD (doF d e) := by
  unfold doF
  split
  · rename_i he
    have hs := act_size (good_all h).1 he
    have hk := act_keys (good_all h).2 e
    have key : ∀ k, (d.deeds ++ [e]).take k = d.deeds.take k ∨ (d.deeds ++ [e]).take k = d.deeds ++ [e] := fun k => by
      rcases Nat.lt_or_ge d.deeds.length k with g | g
      · exact .inr (List.take_of_length_le (by rw [List.length_append]; exact g))
      · exact .inl (List.take_append_of_le_length g)
    refine ⟨h.room, ?_, fun k => ?_, fun k => ?_⟩
    · show actF e d.now = (d.deeds ++ [e]).foldl _ d.synced
      rw [List.foldl_append, ← h.is]; rfl
    · show (sizeF (((d.deeds ++ [e]).take k).foldl _ d.synced) : Int) ≤ d.room
      rcases key k with g | g
      · rw [g]; exact h.all k
      · rw [g, List.foldl_append, ← h.is]; exact hs
    · show (keysF (((d.deeds ++ [e]).take k).foldl _ d.synced)).Nodup
      rcases key k with g | g
      · rw [g]; exact h.keys k
      · rw [g, List.foldl_append, ← h.is]; exact hk
  · exact h
theorem good_synced {d : DkF} {m : FM} (h0 : 0 ≤ d.room) (h1 : (sizeF m : Int) ≤ d.room) (h2 : (keysF m).Nodup) : GoodD (syncF { d with now := m }) :=
  ⟨h0, rfl, fun k => by show (sizeF (([] : List Dee).take k |>.foldl _ m) : Int) ≤ d.room; rw [List.take_nil]; exact h1, fun k => by show (keysF (([] : List Dee).take k |>.foldl _ m)).Nodup; rw [List.take_nil]; exact h2⟩
theorem good_sync {d : DkF} (h : GoodD d) : GoodD (syncF d) := good_synced (d := d) (m := d.now) h.room (good_all h).1 (good_all h).2
theorem good_crash {d : DkF} (h : GoodD d) (keep bytes : Int) : GoodD (crashF d keep bytes) := by
  refine good_synced h.room ?_ ?_
  · unfold crashM nextD
    have h1 := h.all keep.toNat
    have h2 := h.all (keep.toNat + 1)
    generalize hm : (d.deeds.take keep.toNat).foldl (fun m e => actF e m) d.synced = m at *
    unfold lostF
    split
    · rename_i n b hn
      split at hn
      · have hlt := (List.getElem?_eq_some_iff.1 hn).1
        split
        · rw [List.take_succ_eq_append_getElem hlt, List.foldl_append, hm] at h2
          have e1 : d.deeds[keep.toNat] = .wr n b := (List.getElem?_eq_some_iff.1 hn).2
          rw [e1] at h2
          have h3 : sizeF (setF n (b.take bytes.toNat) m) ≤ sizeF (setF n b m) := set_mono m (by rw [List.length_take]; omega)
          have h2 : (sizeF (setF n b m) : Int) ≤ d.room := h2
          omega
        · exact h1
      · cases hn
    · exact h1
  · unfold crashM lostF
    split
    · split
      · exact setF_keys (h.keys _)
      · exact h.keys _
    · exact h.keys _

end Go.Proofs.Ytflclafbieokiaa.Dk
