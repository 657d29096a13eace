/-
  DERIVED: THE SHELF's CONTRACTS AT THIS DUMP, IN PLAIN WORDS (tools/lay-plain.mjs out of 'TryLedger.lean', which tools/lay-shelf.mjs wrote): THE SAME DECLARATIONS UNDER THE SAME NAMES: 'import', 'namespace', 'open', 'def', 'theorem' AND NOTHING ELSE: no command of the shelf's: FOR A HAND-IN. Each laying: the table of numbers ('.._ren') and one theorem, a field a fact of the dump's own or the kernel's comparison; each contract: ONE APPLICATION.
-/
import Derived.Ground.Names2Prog
import Derived.Shelf.Slices.CompactI
import Derived.Ground.SlgmProg
import Derived.Shelf.SortM.Plain
import Derived.Shelf.SortM.SortNone
import Derived.Shelf.SlIterI.Nil
import Derived.Ground.GgzProg
import Derived.Ground.SlmcProg
import Derived.Ground.SlmdProg
import Derived.Shelf.SlMaps.Clone
import Derived.Shelf.SlMaps.DeleteFunc
import Derived.Test.YtkemhcokkaanfaaProg
namespace Go.Proofs
open Go.Shelf
def Try.laysNm220_ren : Go.Shelf.Ren := ⟨fun | 20 => 129 | n => n, fun | 22 => 63 | 3 => 3 | 4 => 4 | 0 => 0 | n => n, fun | n => n⟩
theorem Try.laysNm220 : Go.Proofs.Lays2.n20 Try.prog Try.laysNm220_ren := {
  mixed := by kernel_rfl
  f20 := Try.func129.trans (congrArg some (by kernel_rfl))
  t0 := Try.underlying0
  a0 := Try.isAgg0
  z0 := Try.sizeOf0
  v0 := Try.zeroValue0
  t3 := Try.underlying3
  a3 := Try.isAgg3
  z3 := Try.sizeOf3
  v3 := Try.zeroValue3
  t4 := Try.underlying4
  a4 := Try.isAgg4
  z4 := Try.sizeOf4
  v4 := Try.zeroValue4
  t22 := Try.underlying63
  a22 := Try.isAgg63
  z22 := Try.sizeOf63
  v22 := Try.zeroValue63
  i3 := by kernel_rfl }
open Go.RowKit Go.Lib Go.Sort in
/-- slices.Compact at []int, over an array: the library's two loops are walked. (LAID: no walk: one application.) -/
theorem Try.slices_Compact_int_arr (blk off cap : Nat) (d : Array Int) (w : World) (hH : Holds encI w blk off d) (hsz : d.size ≤ 9223372036854775807) (hcap : d.size ≤ cap) :
    Calls Try.prog 129 #[.slice (some ⟨blk, off, none⟩) d.size cap] w fun e w' => e = .returned (.slice (some ⟨blk, off, none⟩) (compactUpTo d d.size).length cap) ∧ ∃ q, w' = putRow encI (Sort.ahead w q) blk off (compactUpTo d d.size ++ List.replicate (d.size - (compactUpTo d d.size).length) 0).toArray := Any.slices_Compact_int_arr Try.laysNm220 blk off cap d w hH hsz hcap
open Go.RowKit Go.Lib Go.Sort in
/-- slices.Compact at []int: "Compact replaces consecutive runs of equal elements with a single copy. This is like the uniq command found on Unix. Compact modifies the contents of the slice s and returns the modified slice, which may have a smaller length. Compact zeroes the elements between the new length and the original length. The result preserves the nilness of s.": IT RETURNS THE SLICE CUT TO 'Lib.compact zs'; ITS CELLS HOLD 'Lib.compact zs', THEN ZERO VALUES up to the old length; all else is as it was, but for the count of draws. IN THE WORDS OF slices.Sort's CONTRACT ('Holds', 'putRow'): so the everyday 'slices.Sort(xs); xs = slices.Compact(xs)' goes from the one contract to the other. It asks 'zs.length ≤ cap' (every slice's: the reslicing 's[:k]' looks at it). Length 0, nil: '.._empty'. (LAID: no walk: one application.) -/
theorem Try.slices_Compact_int (blk off cap : Nat) (zs : List Int) (w : World) (hH : Holds (Value.int .i64) w blk off zs.toArray) (hsz : zs.length ≤ 9223372036854775807) (hcap : zs.length ≤ cap) :
    Calls Try.prog 129 #[.slice (some ⟨blk, off, none⟩) zs.length cap] w fun e w' => e = .returned (.slice (some ⟨blk, off, none⟩) (Lib.compact zs).length cap) ∧ ∃ q, w' = putRow (Value.int .i64) (Sort.ahead w q) blk off (Lib.compact zs ++ List.replicate (zs.length - (Lib.compact zs).length) 0).toArray := Any.slices_Compact_int Try.laysNm220 blk off cap zs w hH hsz hcap
open Go.RowKit Go.Lib Go.Sort in
/-- The same at a slice of length 0, a nil one too: it comes back as it is. (LAID: no walk: one application.) -/
theorem Try.slices_Compact_int_empty (a : Option Addr) (cap : Nat) (w : World) :
    Calls Try.prog 129 #[.slice a 0 cap] w fun e w' => e = .returned (.slice a 0 cap) ∧ w' = w := Any.slices_Compact_int_empty Try.laysNm220 a cap w
def Try.laysSlM5_f135_ren : Go.Shelf.Ren := ⟨fun | 5 => 135 | 8 => 156 | 7 => 155 | 19 => 167 | 20 => 153 | 10 => 158 | 11 => 159 | 12 => 160 | 13 => 161 | 14 => 162 | 15 => 163 | 16 => 164 | 17 => 165 | 18 => 166 | 30 => 168 | 31 => 169 | 32 => 170 | 33 => 171 | 34 => 172 | 35 => 173 | 40 => 174 | n => n, fun | 23 => 63 | 25 => 3 | 3 => 3 | 32 => 198 | 22 => 63 | 0 => 0 | 44 => 27 | 46 => 22 | 4 => 4 | 36 => 215 | 35 => 214 | 41 => 220 | 5 => 5 | 9 => 9 | 53 => 223 | 57 => 226 | 63 => 228 | 64 => 229 | n => n, fun | n => n⟩
theorem Try.laysSlM5_f135 : Go.Proofs.SlLaysM.n5 Try.prog Try.laysSlM5_f135_ren := {
  mixed := by kernel_rfl
  f5 := ⟨Try.f135.name, by decide, Try.func135.trans (congrArg some (by kernel_rfl))⟩
  f7 := ⟨Try.f155.name, by decide, Try.func155.trans (congrArg some (by kernel_rfl))⟩
  f8 := Try.func156.trans (congrArg some (by kernel_rfl))
  f10 := ⟨Try.f158.name, by decide, Try.func158.trans (congrArg some (by kernel_rfl))⟩
  f11 := ⟨Try.f159.name, by decide, Try.func159.trans (congrArg some (by kernel_rfl))⟩
  f12 := ⟨Try.f160.name, by decide, Try.func160.trans (congrArg some (by kernel_rfl))⟩
  f13 := ⟨Try.f161.name, by decide, Try.func161.trans (congrArg some (by kernel_rfl))⟩
  f14 := ⟨Try.f162.name, by decide, Try.func162.trans (congrArg some (by kernel_rfl))⟩
  f15 := ⟨Try.f163.name, by decide, Try.func163.trans (congrArg some (by kernel_rfl))⟩
  f16 := ⟨Try.f164.name, by decide, Try.func164.trans (congrArg some (by kernel_rfl))⟩
  f17 := ⟨Try.f165.name, by decide, Try.func165.trans (congrArg some (by kernel_rfl))⟩
  f18 := ⟨Try.f166.name, by decide, Try.func166.trans (congrArg some (by kernel_rfl))⟩
  f19 := Try.func167.trans (congrArg some (by kernel_rfl))
  f20 := Try.func153.trans (congrArg some (by kernel_rfl))
  f30 := ⟨Try.f168.name, by decide, Try.func168.trans (congrArg some (by kernel_rfl))⟩
  f31 := Try.func169.trans (congrArg some (by kernel_rfl))
  f32 := Try.func170.trans (congrArg some (by kernel_rfl))
  f33 := ⟨Try.f171.name, by decide, Try.func171.trans (congrArg some (by kernel_rfl))⟩
  f34 := ⟨Try.f172.name, by decide, Try.func172.trans (congrArg some (by kernel_rfl))⟩
  f35 := ⟨Try.f173.name, by decide, Try.func173.trans (congrArg some (by kernel_rfl))⟩
  f40 := ⟨Try.f174.name, by decide, Try.func174.trans (congrArg some (by kernel_rfl))⟩
  t0 := Try.underlying0
  a0 := Try.isAgg0
  z0 := Try.sizeOf0
  v0 := Try.zeroValue0
  t3 := Try.underlying3
  a3 := Try.isAgg3
  z3 := Try.sizeOf3
  v3 := Try.zeroValue3
  t4 := Try.underlying4
  a4 := Try.isAgg4
  z4 := Try.sizeOf4
  v4 := Try.zeroValue4
  t5 := Try.underlying5
  a5 := Try.isAgg5
  z5 := Try.sizeOf5
  v5 := Try.zeroValue5
  t9 := Try.underlying9
  a9 := Try.isAgg9
  z9 := Try.sizeOf9
  v9 := Try.zeroValue9
  t22 := Try.underlying63
  a22 := Try.isAgg63
  z22 := Try.sizeOf63
  v22 := Try.zeroValue63
  t23 := Try.underlying63
  a23 := Try.isAgg63
  z23 := Try.sizeOf63
  v23 := Try.zeroValue63
  t25 := Try.underlying3
  a25 := Try.isAgg3
  z25 := Try.sizeOf3
  v25 := Try.zeroValue3
  t32 := Try.underlying198
  a32 := Try.isAgg198
  z32 := Try.sizeOf198
  v32 := Try.zeroValue198
  t35 := Try.underlying214
  a35 := Try.isAgg214
  z35 := Try.sizeOf214
  v35 := Try.zeroValue214
  t36 := Try.underlying215
  a36 := Try.isAgg215
  z36 := Try.sizeOf215
  v36 := Try.zeroValue215
  t41 := Try.underlying220
  a41 := Try.isAgg220
  z41 := Try.sizeOf220
  v41 := Try.zeroValue220
  t44 := Try.underlying27
  a44 := Try.isAgg27
  z44 := Try.sizeOf27
  v44 := Try.zeroValue27
  t46 := Try.underlying22
  a46 := Try.isAgg22
  z46 := Try.sizeOf22
  v46 := Try.zeroValue22
  t53 := Try.underlying223
  a53 := Try.isAgg223
  z53 := Try.sizeOf223
  v53 := Try.zeroValue223
  t57 := Try.underlying226
  a57 := Try.isAgg226
  z57 := Try.sizeOf226
  v57 := Try.zeroValue226
  t63 := Try.underlying228
  a63 := Try.isAgg228
  z63 := Try.sizeOf228
  v63 := Try.zeroValue228
  t64 := Try.underlying229
  a64 := Try.isAgg229
  z64 := Try.sizeOf229
  v64 := Try.zeroValue229 }
open Go.Sort Go.RowKit in
theorem Try.slices_Sort_int (blk off cap : Nat) (zs : List Int) (w : World) (hH : Holds (Value.int .i64) w blk off zs.toArray) (hblk : blk < w.heap.size) (hsz : zs.length < 4611686018427387904) :
    Calls Try.prog 135 #[.slice (some ⟨blk, off, none⟩) zs.length cap] w fun e w' =>
      e = .returned (.tuple #[]) ∧ ∃ n os, w' = grow (putRow (Value.int .i64) (Sort.ahead w n) blk off (zs.mergeSort fun x y => decide (x ≤ y)).toArray) os := AnyM.slices_Sort_int Try.laysSlM5_f135 blk off cap zs w hH hblk hsz
open Go.RowKit Go.Sort in
/-- .. and plain. (LAID AT THE INSTANCE 'slices.Sort[[]int,int]': no walk: one application.) -/
theorem Try.slices_Sort_int_none (p : Option Addr) (cap : Nat) (w : World) :
    Calls Try.prog 135 #[.slice p 0 cap] w fun e w' => e = .returned (.tuple #[]) ∧ w' = w := AnyM.slices_Sort_int_none Try.laysSlM5_f135 p cap w
def Try.keysL_ren : Go.Shelf.Ren := ⟨fun | 7 => 102 | 10 => 136 | n => n, fun | 23 => 153 | 26 => 3 | 3 => 2 | 28 => 169 | 0 => 0 | 27 => 168 | 33 => 178 | 4 => 4 | n => n, fun | n => n⟩
theorem Try.keysL : Go.Proofs.SlLaysZI.n7 Try.prog Try.keysL_ren := {
  mixed := by kernel_rfl
  f7 := ⟨Try.f102.name, by decide, Try.func102.trans (congrArg some (by kernel_rfl))⟩
  f10 := ⟨Try.f136.name, by decide, Try.func136.trans (congrArg some (by kernel_rfl))⟩
  t0 := Try.underlying0
  a0 := Try.isAgg0
  z0 := Try.sizeOf0
  v0 := Try.zeroValue0
  t4 := Try.underlying4
  a4 := Try.isAgg4
  z4 := Try.sizeOf4
  v4 := Try.zeroValue4
  t23 := Try.underlying153
  a23 := Try.isAgg153
  z23 := Try.sizeOf153
  v23 := Try.zeroValue153
  t26 := Try.underlying3
  a26 := Try.isAgg3
  z26 := Try.sizeOf3
  v26 := Try.zeroValue3
  t27 := Try.underlying168
  a27 := Try.isAgg168
  z27 := Try.sizeOf168
  v27 := Try.zeroValue168
  t28 := Try.underlying169
  a28 := Try.isAgg169
  z28 := Try.sizeOf169
  v28 := Try.zeroValue169
  t33 := Try.underlying178
  a33 := Try.isAgg178
  z33 := Try.sizeOf178
  v33 := Try.zeroValue178 }
def Try.sortedL_ren : Go.Shelf.Ren := ⟨fun | 6 => 101 | 8 => 134 | 9 => 135 | 11 => 154 | 13 => 156 | 12 => 155 | 23 => 167 | 24 => 153 | 14 => 158 | 15 => 159 | 16 => 160 | 17 => 161 | 18 => 162 | 19 => 163 | 20 => 164 | 21 => 165 | 22 => 166 | 25 => 168 | 26 => 169 | 27 => 170 | 28 => 171 | 29 => 172 | 30 => 173 | 31 => 174 | n => n, fun | 26 => 3 | 28 => 169 | 24 => 63 | 0 => 0 | 3 => 3 | 37 => 198 | 48 => 27 | 50 => 22 | 4 => 4 | 40 => 215 | 39 => 214 | 45 => 220 | 5 => 5 | 9 => 9 | 51 => 223 | 55 => 226 | 57 => 228 | 58 => 229 | 33 => 178 | n => n, fun | n => n⟩
theorem Try.sortedL : Go.Proofs.SlLaysZI.n6 Try.prog Try.sortedL_ren := {
  mixed := by kernel_rfl
  f6 := ⟨Try.f101.name, by decide, Try.func101.trans (congrArg some (by kernel_rfl))⟩
  f8 := ⟨Try.f134.name, by decide, Try.func134.trans (congrArg some (by kernel_rfl))⟩
  f11 := ⟨Try.f154.name, by decide, Try.func154.trans (congrArg some (by kernel_rfl))⟩
  t0 := Try.underlying0
  a0 := Try.isAgg0
  z0 := Try.sizeOf0
  v0 := Try.zeroValue0
  t24 := Try.underlying63
  a24 := Try.isAgg63
  z24 := Try.sizeOf63
  v24 := Try.zeroValue63
  t26 := Try.underlying3
  a26 := Try.isAgg3
  z26 := Try.sizeOf3
  v26 := Try.zeroValue3
  t28 := Try.underlying169
  a28 := Try.isAgg169
  z28 := Try.sizeOf169
  v28 := Try.zeroValue169
  i26 := by kernel_rfl }
def Try.cloneL_ren : Go.Shelf.Ren := ⟨fun | 5 => 98 | 7 => 133 | n => n, fun | 23 => 153 | 25 => 3 | 3 => 2 | 4 => 4 | 20 => 20 | n => n, fun | n => n⟩
theorem Try.cloneL : Go.Proofs.SlLaysW.n5 Try.prog Try.cloneL_ren := {
  mixed := by kernel_rfl
  f5 := ⟨Try.f98.name, by decide, Try.func98.trans (congrArg some (by kernel_rfl))⟩
  f7 := Try.func133.trans (congrArg some (by kernel_rfl))
  t4 := Try.underlying4
  a4 := Try.isAgg4
  z4 := Try.sizeOf4
  v4 := Try.zeroValue4
  t20 := Try.underlying20
  a20 := Try.isAgg20
  z20 := Try.sizeOf20
  v20 := Try.zeroValue20
  t23 := Try.underlying153
  a23 := Try.isAgg153
  z23 := Try.sizeOf153
  v23 := Try.zeroValue153 }
def Try.delL_ren : Go.Shelf.Ren := ⟨fun | 5 => 99 | n => n, fun | 23 => 153 | 26 => 3 | 24 => 2 | 27 => 166 | 0 => 0 | 4 => 4 | n => n, fun | n => n⟩
theorem Try.delL : Go.Proofs.SlLaysDf.n5 Try.prog Try.delL_ren := {
  mixed := by kernel_rfl
  f5 := ⟨Try.f99.name, by decide, Try.func99.trans (congrArg some (by kernel_rfl))⟩
  t0 := Try.underlying0
  a0 := Try.isAgg0
  z0 := Try.sizeOf0
  v0 := Try.zeroValue0
  t4 := Try.underlying4
  a4 := Try.isAgg4
  z4 := Try.sizeOf4
  v4 := Try.zeroValue4
  t23 := Try.underlying153
  a23 := Try.isAgg153
  z23 := Try.sizeOf153
  v23 := Try.zeroValue153
  a24 := Try.isAgg2
  z24 := Try.sizeOf2
  a26 := Try.isAgg3
  z26 := Try.sizeOf3
  t27 := Try.underlying166
  a27 := Try.isAgg166
  z27 := Try.sizeOf166
  v27 := Try.zeroValue166 }
end Go.Proofs
