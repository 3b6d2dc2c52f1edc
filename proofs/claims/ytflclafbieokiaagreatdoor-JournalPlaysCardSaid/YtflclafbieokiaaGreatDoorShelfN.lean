/-
  The shelf's contracts at this dump, in plain words (the kit's tools wrote them): searches in texts and bytes; maps.Clone, sorted keys.
-/
import Derived.Shelf.Small.Utf8
import Derived.Shelf.Small.Bits
import Derived.Shelf.Small.Strs
import Derived.Shelf.Strconv.Itoa0
import Derived.Shelf.Strings.Search1
import Derived.Shelf.Strings.Search2
import Derived.Shelf.Strings.Search3
import Derived.Shelf.LaysM
import Derived.Shelf.Strings.Shaped
import Derived.Shelf.Unicode.Decode
import Derived.Shelf.Strings.Runes
import Derived.Shelf.Strings.AsciiSet
import Derived.Shelf.Unicode.DecodeSlow
import Derived.Shelf.Unicode.DecodeAny
import Derived.Shelf.Unicode.DecodeLast
import Derived.Shelf.Bytes.SlIndexAt
import Derived.Ground.SlgmProg
import Derived.Shelf.SortM.Plain
import Derived.Shelf.SortM.SortNone
import Derived.Shelf.Bytes.Small
import Derived.Shelf.Bytes.IndexByte
import Derived.Test.YtflclafbieokiaaGreatDoorProg
import Derived.Shelf.SlGeneric
import Derived.Shelf.SlMaps.Clone
import Derived.Shelf.SlIter.Nil
import Derived.Ground.GgzProg
import Derived.Ground.SlmcProg
namespace Go.Proofs
open Go.Shelf
def Tryz.lays137_ren : Go.Shelf.Ren := ⟨fun | 137 => 157 | 217 => 182 | 266 => 201 | n => n, fun | 9 => 9 | 5 => 5 | 3 => 3 | n => n, fun | n => n⟩
theorem Tryz.lays137 : Go.Proofs.Lays.n137 Tryz.prog Tryz.lays137_ren := {
  mixed := by kernel_rfl
  f137 := Tryz.func157.trans (congrArg some (by kernel_rfl))
  f217 := Tryz.func182.trans (congrArg some (by kernel_rfl))
  f266 := Tryz.func201.trans (congrArg some (by kernel_rfl))
  t3 := Tryz.underlying3
  a3 := Tryz.isAgg3
  z3 := Tryz.sizeOf3
  v3 := Tryz.zeroValue3
  t5 := Tryz.underlying5
  a5 := Tryz.isAgg5
  z5 := Tryz.sizeOf5
  v5 := Tryz.zeroValue5
  t9 := Tryz.underlying9
  a9 := Tryz.isAgg9
  z9 := Tryz.sizeOf9
  v9 := Tryz.zeroValue9 }
open Go.RowKit in
/-- strings.IndexByte: "IndexByte returns the index of the first instance of c in s, or -1 if c is not present in s.": IT RETURNS 'Lib.indexByte s c'; the world is as it was. (LAID: no walk: one application.) -/
theorem Tryz.strings_IndexByte (s : ByteArray) (c : Int) (w : World) :
    Calls Tryz.prog 157 #[.string s, .int .u8 c] w fun e w' => e = .returned (.int .i64 (Lib.indexByte s.data.toList c.toNat.toUInt8)) ∧ w' = w := Any.strings_IndexByte Tryz.lays137 s c w
def Tryz.lays143_ren : Go.Shelf.Ren := ⟨fun | 143 => 116 | 219 => 156 | 217 => 182 | 225 => 183 | 224 => 184 | 267 => 185 | 266 => 201 | 314 => 202 | n => n, fun | 9 => 9 | 3 => 3 | 4 => 4 | 5 => 5 | 46 => 146 | 146 => 226 | 51 => 122 | n => n, fun | 1 => 0 | n => n⟩
theorem Tryz.lays143 : Go.Proofs.Lays.n143 Tryz.prog Tryz.lays143_ren := {
  mixed := by kernel_rfl
  f143 := Tryz.func116.trans (congrArg some (by kernel_rfl))
  f217 := Tryz.func182.trans (congrArg some (by kernel_rfl))
  f219 := Tryz.func156.trans (congrArg some (by kernel_rfl))
  f224 := Tryz.func184.trans (congrArg some (by kernel_rfl))
  f225 := Tryz.func183.trans (congrArg some (by kernel_rfl))
  f266 := Tryz.func201.trans (congrArg some (by kernel_rfl))
  f267 := Tryz.func185.trans (congrArg some (by kernel_rfl))
  f314 := Tryz.func202.trans (congrArg some (by kernel_rfl))
  t3 := Tryz.underlying3
  a3 := Tryz.isAgg3
  z3 := Tryz.sizeOf3
  v3 := Tryz.zeroValue3
  t4 := Tryz.underlying4
  a4 := Tryz.isAgg4
  z4 := Tryz.sizeOf4
  v4 := Tryz.zeroValue4
  t5 := Tryz.underlying5
  a5 := Tryz.isAgg5
  z5 := Tryz.sizeOf5
  v5 := Tryz.zeroValue5
  t9 := Tryz.underlying9
  a9 := Tryz.isAgg9
  z9 := Tryz.sizeOf9
  v9 := Tryz.zeroValue9
  t46 := Tryz.underlying146
  a46 := Tryz.isAgg146
  z46 := Tryz.sizeOf146
  v46 := Tryz.zeroValue146
  t51 := Tryz.underlying122
  a51 := Tryz.isAgg122
  z51 := Tryz.sizeOf122
  v51 := Tryz.zeroValue122
  t146 := Tryz.underlying226
  a146 := Tryz.isAgg226
  z146 := Tryz.sizeOf226
  v146 := Tryz.zeroValue226
  g1 := by kernel_rfl }
open Go.RowKit Go.Lib in
/-- strings.Index: "Index returns the index of the first instance of substr in s, or -1 if substr is not present in s.": AT A substr OF ONE BYTE c: IT RETURNS 'Lib.indexByte s c'; the world is as it was. (LAID: no walk: one application.) -/
theorem Tryz.strings_Index_one (s : ByteArray) (c : UInt8) (w : World) :
    Calls Tryz.prog 116 #[.string s, .string ⟨#[c]⟩] w fun e w' => e = .returned (.int .i64 (Lib.indexByte s.data.toList c)) ∧ w' = w := Any.strings_Index_one Tryz.lays143 s c w
def Tryz.lays151_ren : Go.Shelf.Ren := ⟨fun | 151 => 181 | 152 => 200 | 137 => 157 | 119 => 208 | 224 => 184 | 225 => 183 | 217 => 182 | 266 => 201 | n => n, fun | 9 => 9 | 21 => 21 | 4 => 4 | 3 => 3 | 5 => 5 | 0 => 0 | 46 => 146 | n => n, fun | n => n⟩
theorem Tryz.lays151 : Go.Proofs.Lays.n151 Tryz.prog Tryz.lays151_ren := {
  mixed := by kernel_rfl
  f119 := Tryz.func208.trans (congrArg some (by kernel_rfl))
  f137 := Tryz.func157.trans (congrArg some (by kernel_rfl))
  f151 := Tryz.func181.trans (congrArg some (by kernel_rfl))
  f152 := Tryz.func200.trans (congrArg some (by kernel_rfl))
  f217 := Tryz.func182.trans (congrArg some (by kernel_rfl))
  f224 := Tryz.func184.trans (congrArg some (by kernel_rfl))
  f225 := Tryz.func183.trans (congrArg some (by kernel_rfl))
  f266 := Tryz.func201.trans (congrArg some (by kernel_rfl))
  t0 := Tryz.underlying0
  a0 := Tryz.isAgg0
  z0 := Tryz.sizeOf0
  v0 := Tryz.zeroValue0
  t3 := Tryz.underlying3
  a3 := Tryz.isAgg3
  z3 := Tryz.sizeOf3
  v3 := Tryz.zeroValue3
  t4 := Tryz.underlying4
  a4 := Tryz.isAgg4
  z4 := Tryz.sizeOf4
  v4 := Tryz.zeroValue4
  t5 := Tryz.underlying5
  a5 := Tryz.isAgg5
  z5 := Tryz.sizeOf5
  v5 := Tryz.zeroValue5
  t9 := Tryz.underlying9
  a9 := Tryz.isAgg9
  z9 := Tryz.sizeOf9
  v9 := Tryz.zeroValue9
  t21 := Tryz.underlying21
  a21 := Tryz.isAgg21
  z21 := Tryz.sizeOf21
  v21 := Tryz.zeroValue21
  t46 := Tryz.underlying146
  a46 := Tryz.isAgg146
  z46 := Tryz.sizeOf146
  v46 := Tryz.zeroValue146 }
open Go.RowKit Go.Lib in
theorem Tryz.strings_ContainsRune_ascii (s : ByteArray) (r : Int) (w : World) (h0 : 0 ≤ r) (h1 : r < 128) :
    Calls Tryz.prog 181 #[.string s, .int .i32 r] w fun e w' => e = .returned (.bool (decide (0 ≤ Lib.indexByte s.data.toList r.toNat.toUInt8))) ∧ w' = w := Any.strings_ContainsRune_ascii Tryz.lays151 s r w h0 h1
def Tryz.lays187_ren : Go.Shelf.Ren := ⟨fun | 187 => 153 | 255 => 176 | n => n, fun | 37 => 34 | 5 => 5 | 3 => 3 | n => n, fun | n => n⟩
theorem Tryz.lays187 : Go.Proofs.Lays.n187 Tryz.prog Tryz.lays187_ren := {
  mixed := by kernel_rfl
  f187 := Tryz.func153.trans (congrArg some (by kernel_rfl))
  f255 := Tryz.func176.trans (congrArg some (by kernel_rfl))
  t3 := Tryz.underlying3
  a3 := Tryz.isAgg3
  z3 := Tryz.sizeOf3
  v3 := Tryz.zeroValue3
  t5 := Tryz.underlying5
  a5 := Tryz.isAgg5
  z5 := Tryz.sizeOf5
  v5 := Tryz.zeroValue5
  t37 := Tryz.underlying34
  a37 := Tryz.isAgg34
  z37 := Tryz.sizeOf34
  v37 := Tryz.zeroValue34 }
open Go.RowKit Go.Lib in
/-- bytes.IndexByte, b at whatever address: "IndexByte returns the index of the first instance of c in b, or -1 if c is not present in b." (LAID: no walk: one application.) -/
theorem Tryz.bytes_IndexByte_at (a : Addr) (n c : Nat) (xs : List Int) (cv : Int) (w : World) (hx : xs.length = n) (hc : ∀ i, i < n → w.cell? (a.add i) = some (.int .u8 (xs.getD i 0))) :
    Calls Tryz.prog 153 #[.slice (some a) n c, .int .u8 cv] w fun e w' => e = .returned (.int .i64 (Lib.indexByte (Lib.bytesOf xs) cv.toNat.toUInt8)) ∧ w' = w := Any.bytes_IndexByte_at Tryz.lays187 a n c xs cv w hx hc
end Go.Proofs
namespace Go.Proofs
open Go.Shelf
def Tryz.clone54_ren : Go.Shelf.Ren := ⟨fun | 5 => 54 | 7 => 71 | n => n, fun | 23 => 89 | 25 => 9 | 3 => 34 | 4 => 4 | 20 => 20 | n => n, fun | n => n⟩
theorem Tryz.clone54 : Go.Proofs.SlLaysW.n5 Tryz.prog Tryz.clone54_ren := {
  mixed := by kernel_rfl
  f5 := ⟨Tryz.f54.name, by decide, Tryz.func54.trans (congrArg some (by kernel_rfl))⟩
  f7 := Tryz.func71.trans (congrArg some (by kernel_rfl))
  t4 := Tryz.underlying4
  a4 := Tryz.isAgg4
  z4 := Tryz.sizeOf4
  v4 := Tryz.zeroValue4
  t20 := Tryz.underlying20
  a20 := Tryz.isAgg20
  z20 := Tryz.sizeOf20
  v20 := Tryz.zeroValue20
  t23 := Tryz.underlying89
  a23 := Tryz.isAgg89
  z23 := Tryz.sizeOf89
  v23 := Tryz.zeroValue89 }
theorem Tryz.maps_Clone (b : Nat) (es : Array MapEntry) (clock : Nat) (w : World) (hb : w.heap[b]? = some (.map es clock)) :
    Calls Tryz.prog 54 #[.map (some b)] w fun e w' => e = .returned (.map (some w.heap.size)) ∧ w' = w.alloc (.map es clock) := AnyW.maps_Clone Tryz.clone54 b es clock w hb
def Tryz.keys68_ren : Go.Shelf.Ren := ⟨fun | 7 => 68 | 10 => 85 | n => n, fun | 23 => 89 | 26 => 9 | 3 => 34 | 28 => 105 | 0 => 0 | 27 => 104 | 33 => 64 | 4 => 4 | n => n, fun | n => n⟩
theorem Tryz.keys68 : Go.Proofs.SlLaysZ.n7 Tryz.prog Tryz.keys68_ren := {
  mixed := by kernel_rfl
  f7 := ⟨Tryz.f68.name, by decide, Tryz.func68.trans (congrArg some (by kernel_rfl))⟩
  f10 := ⟨Tryz.f85.name, by decide, Tryz.func85.trans (congrArg some (by kernel_rfl))⟩
  t0 := Tryz.underlying0
  a0 := Tryz.isAgg0
  z0 := Tryz.sizeOf0
  v0 := Tryz.zeroValue0
  t4 := Tryz.underlying4
  a4 := Tryz.isAgg4
  z4 := Tryz.sizeOf4
  v4 := Tryz.zeroValue4
  t23 := Tryz.underlying89
  a23 := Tryz.isAgg89
  z23 := Tryz.sizeOf89
  v23 := Tryz.zeroValue89
  t26 := Tryz.underlying9
  a26 := Tryz.isAgg9
  z26 := Tryz.sizeOf9
  v26 := Tryz.zeroValue9
  t27 := Tryz.underlying104
  a27 := Tryz.isAgg104
  z27 := Tryz.sizeOf104
  v27 := Tryz.zeroValue104
  t28 := Tryz.underlying105
  a28 := Tryz.isAgg105
  z28 := Tryz.sizeOf105
  v28 := Tryz.zeroValue105
  t33 := Tryz.underlying64
  a33 := Tryz.isAgg64
  z33 := Tryz.sizeOf64
  v33 := Tryz.zeroValue64 }
def Tryz.sorted67_ren : Go.Shelf.Ren := ⟨fun | 6 => 67 | 8 => 83 | 9 => 84 | 11 => 104 | 13 => 106 | 12 => 105 | 23 => 143 | 24 => 144 | 14 => 134 | 15 => 135 | 16 => 136 | 17 => 137 | 18 => 138 | 19 => 139 | 20 => 140 | 21 => 141 | 22 => 142 | 25 => 166 | 26 => 167 | 27 => 168 | 28 => 169 | 29 => 170 | 30 => 171 | 31 => 188 | n => n, fun | 26 => 9 | 28 => 105 | 24 => 79 | 0 => 0 | 3 => 3 | 37 => 146 | 48 => 122 | 50 => 187 | 4 => 4 | 40 => 178 | 39 => 177 | 45 => 183 | 5 => 5 | 9 => 9 | 51 => 199 | 55 => 203 | 57 => 214 | 58 => 215 | 33 => 64 | n => n, fun | n => n⟩
theorem Tryz.sorted67 : Go.Proofs.SlLaysZ.n6 Tryz.prog Tryz.sorted67_ren := {
  mixed := by kernel_rfl
  f6 := ⟨Tryz.f67.name, by decide, Tryz.func67.trans (congrArg some (by kernel_rfl))⟩
  f8 := ⟨Tryz.f83.name, by decide, Tryz.func83.trans (congrArg some (by kernel_rfl))⟩
  f11 := ⟨Tryz.f104.name, by decide, Tryz.func104.trans (congrArg some (by kernel_rfl))⟩
  t0 := Tryz.underlying0
  a0 := Tryz.isAgg0
  z0 := Tryz.sizeOf0
  v0 := Tryz.zeroValue0
  t24 := Tryz.underlying79
  a24 := Tryz.isAgg79
  z24 := Tryz.sizeOf79
  v24 := Tryz.zeroValue79
  t26 := Tryz.underlying9
  a26 := Tryz.isAgg9
  z26 := Tryz.sizeOf9
  v26 := Tryz.zeroValue9
  t28 := Tryz.underlying105
  a28 := Tryz.isAgg105
  z28 := Tryz.sizeOf105
  v28 := Tryz.zeroValue105
  i26 := by kernel_rfl }
def Tryz.sort84_ren : Go.Shelf.Ren := ⟨fun | 6 => 84 | 8 => 106 | 9 => 105 | 19 => 143 | 20 => 144 | 21 => 134 | 22 => 135 | 23 => 136 | 24 => 137 | 25 => 138 | 26 => 139 | 27 => 140 | 28 => 141 | 29 => 142 | 36 => 166 | 31 => 167 | 32 => 168 | 37 => 169 | 38 => 170 | 39 => 171 | 41 => 188 | n => n, fun | 27 => 79 | 29 => 9 | 3 => 3 | 32 => 146 | 26 => 79 | 0 => 0 | 44 => 122 | 46 => 187 | 4 => 4 | 36 => 178 | 35 => 177 | 41 => 183 | 5 => 5 | 9 => 9 | 53 => 199 | 57 => 203 | 63 => 214 | 64 => 215 | n => n, fun | n => n⟩
theorem Tryz.sort84 : Go.Proofs.SlLaysM.n6 Tryz.prog Tryz.sort84_ren := {
  mixed := by kernel_rfl
  f6 := ⟨Tryz.f84.name, by decide, Tryz.func84.trans (congrArg some (by kernel_rfl))⟩
  f8 := Tryz.func106.trans (congrArg some (by kernel_rfl))
  f9 := ⟨Tryz.f105.name, by decide, Tryz.func105.trans (congrArg some (by kernel_rfl))⟩
  f19 := Tryz.func143.trans (congrArg some (by kernel_rfl))
  f20 := Tryz.func144.trans (congrArg some (by kernel_rfl))
  f21 := ⟨Tryz.f134.name, by decide, Tryz.func134.trans (congrArg some (by kernel_rfl))⟩
  f22 := ⟨Tryz.f135.name, by decide, Tryz.func135.trans (congrArg some (by kernel_rfl))⟩
  f23 := ⟨Tryz.f136.name, by decide, Tryz.func136.trans (congrArg some (by kernel_rfl))⟩
  f24 := ⟨Tryz.f137.name, by decide, Tryz.func137.trans (congrArg some (by kernel_rfl))⟩
  f25 := ⟨Tryz.f138.name, by decide, Tryz.func138.trans (congrArg some (by kernel_rfl))⟩
  f26 := ⟨Tryz.f139.name, by decide, Tryz.func139.trans (congrArg some (by kernel_rfl))⟩
  f27 := ⟨Tryz.f140.name, by decide, Tryz.func140.trans (congrArg some (by kernel_rfl))⟩
  f28 := ⟨Tryz.f141.name, by decide, Tryz.func141.trans (congrArg some (by kernel_rfl))⟩
  f29 := ⟨Tryz.f142.name, by decide, Tryz.func142.trans (congrArg some (by kernel_rfl))⟩
  f31 := Tryz.func167.trans (congrArg some (by kernel_rfl))
  f32 := Tryz.func168.trans (congrArg some (by kernel_rfl))
  f36 := ⟨Tryz.f166.name, by decide, Tryz.func166.trans (congrArg some (by kernel_rfl))⟩
  f37 := ⟨Tryz.f169.name, by decide, Tryz.func169.trans (congrArg some (by kernel_rfl))⟩
  f38 := ⟨Tryz.f170.name, by decide, Tryz.func170.trans (congrArg some (by kernel_rfl))⟩
  f39 := ⟨Tryz.f171.name, by decide, Tryz.func171.trans (congrArg some (by kernel_rfl))⟩
  f41 := ⟨Tryz.f188.name, by decide, Tryz.func188.trans (congrArg some (by kernel_rfl))⟩
  t0 := Tryz.underlying0
  a0 := Tryz.isAgg0
  z0 := Tryz.sizeOf0
  v0 := Tryz.zeroValue0
  t3 := Tryz.underlying3
  a3 := Tryz.isAgg3
  z3 := Tryz.sizeOf3
  v3 := Tryz.zeroValue3
  t4 := Tryz.underlying4
  a4 := Tryz.isAgg4
  z4 := Tryz.sizeOf4
  v4 := Tryz.zeroValue4
  t5 := Tryz.underlying5
  a5 := Tryz.isAgg5
  z5 := Tryz.sizeOf5
  v5 := Tryz.zeroValue5
  t9 := Tryz.underlying9
  a9 := Tryz.isAgg9
  z9 := Tryz.sizeOf9
  v9 := Tryz.zeroValue9
  t26 := Tryz.underlying79
  a26 := Tryz.isAgg79
  z26 := Tryz.sizeOf79
  v26 := Tryz.zeroValue79
  t27 := Tryz.underlying79
  a27 := Tryz.isAgg79
  z27 := Tryz.sizeOf79
  v27 := Tryz.zeroValue79
  t29 := Tryz.underlying9
  a29 := Tryz.isAgg9
  z29 := Tryz.sizeOf9
  v29 := Tryz.zeroValue9
  t32 := Tryz.underlying146
  a32 := Tryz.isAgg146
  z32 := Tryz.sizeOf146
  v32 := Tryz.zeroValue146
  t35 := Tryz.underlying177
  a35 := Tryz.isAgg177
  z35 := Tryz.sizeOf177
  v35 := Tryz.zeroValue177
  t36 := Tryz.underlying178
  a36 := Tryz.isAgg178
  z36 := Tryz.sizeOf178
  v36 := Tryz.zeroValue178
  t41 := Tryz.underlying183
  a41 := Tryz.isAgg183
  z41 := Tryz.sizeOf183
  v41 := Tryz.zeroValue183
  t44 := Tryz.underlying122
  a44 := Tryz.isAgg122
  z44 := Tryz.sizeOf122
  v44 := Tryz.zeroValue122
  t46 := Tryz.underlying187
  a46 := Tryz.isAgg187
  z46 := Tryz.sizeOf187
  v46 := Tryz.zeroValue187
  t53 := Tryz.underlying199
  a53 := Tryz.isAgg199
  z53 := Tryz.sizeOf199
  v53 := Tryz.zeroValue199
  t57 := Tryz.underlying203
  a57 := Tryz.isAgg203
  z57 := Tryz.sizeOf203
  v57 := Tryz.zeroValue203
  t63 := Tryz.underlying214
  a63 := Tryz.isAgg214
  z63 := Tryz.sizeOf214
  v63 := Tryz.zeroValue214
  t64 := Tryz.underlying215
  a64 := Tryz.isAgg215
  z64 := Tryz.sizeOf215
  v64 := Tryz.zeroValue215 }
open Go.RowKit Go.Maps Go.Sort in
theorem Tryz.sorts67 (m : Nat) : AnyZ.SortsIn Tryz.prog Tryz.sorted67_ren Fence.wide m :=
  ⟨fun blk off cap ss W hH hblk hsz => callsIn_wide.2 (AnyM.slices_Sort_string Tryz.sort84 blk off cap ss W hH hblk hsz),
   fun p cap W => callsIn_wide.2 (AnyM.slices_Sort_string_none Tryz.sort84 p cap W)⟩
open Go.RowKit Go.Maps Go.Sort in
theorem Tryz.maps_Keys (mb : Option Nat) (W : World) : Calls Tryz.prog 68 #[.map mb] W fun e w' => e = .returned (.func (.func 85) #[] #[.pointer (some ⟨W.heap.size, 0, none⟩)]) ∧ w' = W.alloc (.cells #[.map mb] 89) :=
  callsIn_wide.1 (AnyZ.keys_in Tryz.keys68 Fence.wide 5 trivial rfl mb W)
open Go.RowKit Go.Maps Go.Sort in
theorem Tryz.sorted_Keys {H : Type} (Bm b nn : Nat) (D0 : DataW H) (R : Value → Option (DataW H × List MemPlace)) (w : World) (hBm : Bm < w.heap.size) (hm : w.cell? ⟨Bm, 0, none⟩ = some (.map (some b))) (hown : w.ownsMap Tryz.prog 9 R b nn D0) (hmax : Maps.size D0 ≤ maxLen) (hbytes : Maps.size D0 * 16 ≤ 140737488355328) :
    Calls Tryz.prog 67 #[.func (.func 85) #[] #[.pointer (some ⟨Bm, 0, none⟩)]] w fun e w' => ∃ (v : Value) (ss : List (List UInt8)), e = .returned v ∧ ss.Perm (strKeys D0) ∧
      w'.ownsRow w.heap.size 9 1 v ss.length ((ss.mergeSort (fun x y => decide (x ≤ y))).map encStr) ∧ (v = .slice none 0 0 ↔ ss = []) ∧ Below w.heap.size w w' := by
  have hbl := hown.lt
  have hseq : SeqGives Fence.wide 2 Tryz.prog 85 #[.pointer (some ⟨Bm, 0, none⟩)] encStr (fun ss => ss.Perm (strKeys D0)) (Maps.size D0) w :=
    AnyZ.keys_gives (ρ := Tryz.keys68_ren) { Tryz.keys68 with } Fence.wide _ trivial rfl (by omega) Bm b nn D0 _ hBm hm hown
  exact callsIn_wide.1 (AnyZ.sorted_in Tryz.sorted67 Fence.wide 5 trivial trivial trivial trivial rfl (by omega) (Tryz.sorts67 _) (enters_of Tryz.func84 (by kernel_rfl) rfl) 85 #[.pointer (some ⟨Bm, 0, none⟩)] trivial (enters_of Tryz.func85 (by kernel_rfl) rfl) _ _ hmax hbytes _ hseq)
end Go.Proofs
