/-
  DERIVED: THE SHELF's CONTRACTS AT THIS DUMP, IN PLAIN WORDS (tools/lay-plain.mjs out of 'TryzShelf.lean', which tools/lay-shelf.mjs wrote): THE SAME DECLARATIONS UNDER THE SAME NAMES: 'import', 'namespace', 'open', 'def', 'theorem' AND NOTHING ELSE: no command of the shelf's: FOR A HAND-IN. Each laying: the table of numbers ('.._ren') and one theorem, a field a fact of the dump's own or the kernel's comparison; each contract: ONE APPLICATION.
-/
import Derived.Shelf.SlGeneric
import Derived.Shelf.Strings.SlTrimAscii
import Derived.Shelf.SlMaps.Clone
import Derived.Shelf.SlIter.Nil
import Derived.Shelf.SortM.Plain
import Derived.Shelf.SortM.SortNone
import Derived.Ground.GgzProg
import Derived.Ground.SlgmProg
import Derived.Ground.SlmcProg
import Derived.Test.YtnndlmkcckgkhaaGreatDoorProg
namespace Go.Proofs
open Go.Shelf
def Tryz.lays160_ren : Go.Shelf.Ren := ⟨fun | 160 => 146 | 232 => 181 | 231 => 180 | 227 => 182 | 234 => 184 | 233 => 183 | 236 => 186 | 235 => 185 | 228 => 197 | 271 => 200 | 151 => 199 | 197 => 198 | 120 => 221 | 152 => 220 | 260 => 219 | 137 => 235 | 119 => 236 | 224 => 203 | 225 => 202 | 217 => 201 | 266 => 222 | n => n, fun | 9 => 9 | 4 => 4 | 3 => 3 | 5 => 5 | 117 => 278 | 116 => 277 | 0 => 0 | 124 => 281 | 21 => 21 | 105 => 288 | 46 => 150 | 119 => 318 | 139 => 321 | 138 => 320 | n => n, fun | 3 => 3 | 4 => 4 | n => n⟩
theorem Tryz.lays160 : Go.Proofs.Lays.n160 Tryz.prog Tryz.lays160_ren := {
  mixed := by kernel_rfl
  f119 := Tryz.func236.trans (congrArg some (by kernel_rfl))
  f120 := Tryz.func221.trans (congrArg some (by kernel_rfl))
  f137 := Tryz.func235.trans (congrArg some (by kernel_rfl))
  f151 := Tryz.func199.trans (congrArg some (by kernel_rfl))
  f152 := Tryz.func220.trans (congrArg some (by kernel_rfl))
  f160 := Tryz.func146.trans (congrArg some (by kernel_rfl))
  f197 := Tryz.func198.trans (congrArg some (by kernel_rfl))
  f217 := Tryz.func201.trans (congrArg some (by kernel_rfl))
  f224 := Tryz.func203.trans (congrArg some (by kernel_rfl))
  f225 := Tryz.func202.trans (congrArg some (by kernel_rfl))
  f227 := Tryz.func182.trans (congrArg some (by kernel_rfl))
  f228 := Tryz.func197.trans (congrArg some (by kernel_rfl))
  f231 := Tryz.func180.trans (congrArg some (by kernel_rfl))
  f232 := Tryz.func181.trans (congrArg some (by kernel_rfl))
  f233 := Tryz.func183.trans (congrArg some (by kernel_rfl))
  f234 := Tryz.func184.trans (congrArg some (by kernel_rfl))
  f235 := Tryz.func185.trans (congrArg some (by kernel_rfl))
  f236 := Tryz.func186.trans (congrArg some (by kernel_rfl))
  f260 := Tryz.func219.trans (congrArg some (by kernel_rfl))
  f266 := Tryz.func222.trans (congrArg some (by kernel_rfl))
  f271 := Tryz.func200.trans (congrArg some (by kernel_rfl))
  t0 := Tryz.underlying0
  a0 := Tryz.isAgg0
  z0 := Tryz.sizeOf0
  v0 := Tryz.zeroValue0
  t3 := Tryz.underlying3
  a3 := Tryz.isAgg3
  z3 := Tryz.sizeOf3
  v3 := Tryz.zeroValue3
  t4 := Tryz.underlying4
  a4 := Tryz.isAgg4
  z4 := Tryz.sizeOf4
  v4 := Tryz.zeroValue4
  t5 := Tryz.underlying5
  a5 := Tryz.isAgg5
  z5 := Tryz.sizeOf5
  v5 := Tryz.zeroValue5
  t9 := Tryz.underlying9
  a9 := Tryz.isAgg9
  z9 := Tryz.sizeOf9
  v9 := Tryz.zeroValue9
  t21 := Tryz.underlying21
  a21 := Tryz.isAgg21
  z21 := Tryz.sizeOf21
  v21 := Tryz.zeroValue21
  t46 := Tryz.underlying150
  a46 := Tryz.isAgg150
  z46 := Tryz.sizeOf150
  v46 := Tryz.zeroValue150
  t105 := Tryz.underlying288
  a105 := Tryz.isAgg288
  z105 := Tryz.sizeOf288
  v105 := Tryz.zeroValue288
  t116 := Tryz.underlying277
  a116 := Tryz.isAgg277
  z116 := Tryz.sizeOf277
  t117 := Tryz.underlying278
  a117 := Tryz.isAgg278
  z117 := Tryz.sizeOf278
  v117 := Tryz.zeroValue278
  t119 := Tryz.underlying318
  a119 := Tryz.isAgg318
  z119 := Tryz.sizeOf318
  t124 := Tryz.underlying281
  a124 := Tryz.isAgg281
  z124 := Tryz.sizeOf281
  v124 := Tryz.zeroValue281
  t138 := Tryz.underlying320
  a138 := Tryz.isAgg320
  z138 := Tryz.sizeOf320
  v138 := Tryz.zeroValue320
  t139 := Tryz.underlying321
  a139 := Tryz.isAgg321
  z139 := Tryz.sizeOf321
  v139 := Tryz.zeroValue321
  g3 := by kernel_rfl
  g4 := by kernel_rfl }
open Go.RowKit in
theorem Tryz.strings_Trim_any (s cutset : ByteArray) (w : World) (hs : s.size ≤ 9223372036854775807) (hcs : cutset.size < 4294967281) (hascii : ∀ (j : Nat) b, cutset.data.toList[j]? = some b → b.toNat < 128) :
    Calls Tryz.prog 146 #[.string s, .string cutset] w fun e w' => e = .returned (.string ⟨(Lib.trimS s.data.toList cutset.data.toList).toArray⟩) ∧ Below w.heap.size w w' := Any.strings_Trim_laid Tryz.lays160 (by kernel_rfl) s cutset w hs hcs hascii
def Tryz.clone5_ren : Go.Shelf.Ren := ⟨fun | 5 => 137 | 7 => 174 | n => n, fun | 23 => 142 | 25 => 9 | 3 => 29 | 4 => 4 | 20 => 20 | n => n, fun | n => n⟩
theorem Tryz.clone5 : Go.Proofs.SlLaysW.n5 Tryz.prog Tryz.clone5_ren := {
  mixed := by kernel_rfl
  f5 := ⟨Tryz.f137.name, by decide, Tryz.func137.trans (congrArg some (by kernel_rfl))⟩
  f7 := Tryz.func174.trans (congrArg some (by kernel_rfl))
  t4 := Tryz.underlying4
  a4 := Tryz.isAgg4
  z4 := Tryz.sizeOf4
  v4 := Tryz.zeroValue4
  t20 := Tryz.underlying20
  a20 := Tryz.isAgg20
  z20 := Tryz.sizeOf20
  v20 := Tryz.zeroValue20
  t23 := Tryz.underlying142
  a23 := Tryz.isAgg142
  z23 := Tryz.sizeOf142
  v23 := Tryz.zeroValue142 }
open Go.RowKit in
theorem Tryz.maps_Clone_any (b : Nat) (es : Array MapEntry) (clock : Nat) (w : World) (hb : w.heap[b]? = some (.map es clock)) :
    Calls Tryz.prog 137 #[.map (some b)] w fun e w' => e = .returned (.map (some w.heap.size)) ∧ w' = w.alloc (.map es clock) := AnyW.maps_Clone Tryz.clone5 b es clock w hb
def Tryz.keys140_ren : Go.Shelf.Ren := ⟨fun | 7 => 140 | 10 => 177 | n => n, fun | 23 => 142 | 26 => 9 | 3 => 29 | 28 => 220 | 0 => 0 | 27 => 219 | 33 => 102 | 4 => 4 | n => n, fun | n => n⟩
theorem Tryz.keys140 : Go.Proofs.SlLaysZ.n7 Tryz.prog Tryz.keys140_ren := {
  mixed := by kernel_rfl
  f7 := ⟨Tryz.f140.name, by decide, Tryz.func140.trans (congrArg some (by kernel_rfl))⟩
  f10 := ⟨Tryz.f177.name, by decide, Tryz.func177.trans (congrArg some (by kernel_rfl))⟩
  t0 := Tryz.underlying0
  a0 := Tryz.isAgg0
  z0 := Tryz.sizeOf0
  v0 := Tryz.zeroValue0
  t4 := Tryz.underlying4
  a4 := Tryz.isAgg4
  z4 := Tryz.sizeOf4
  v4 := Tryz.zeroValue4
  t23 := Tryz.underlying142
  a23 := Tryz.isAgg142
  z23 := Tryz.sizeOf142
  v23 := Tryz.zeroValue142
  t26 := Tryz.underlying9
  a26 := Tryz.isAgg9
  z26 := Tryz.sizeOf9
  v26 := Tryz.zeroValue9
  t27 := Tryz.underlying219
  a27 := Tryz.isAgg219
  z27 := Tryz.sizeOf219
  v27 := Tryz.zeroValue219
  t28 := Tryz.underlying220
  a28 := Tryz.isAgg220
  z28 := Tryz.sizeOf220
  v28 := Tryz.zeroValue220
  t33 := Tryz.underlying102
  a33 := Tryz.isAgg102
  z33 := Tryz.sizeOf102
  v33 := Tryz.zeroValue102 }
def Tryz.sorted139_ren : Go.Shelf.Ren := ⟨fun | 6 => 139 | 8 => 175 | 9 => 176 | 11 => 194 | 13 => 196 | 12 => 195 | 23 => 217 | 24 => 218 | 14 => 208 | 15 => 209 | 16 => 210 | 17 => 211 | 18 => 212 | 19 => 213 | 20 => 214 | 21 => 215 | 22 => 216 | 25 => 229 | 26 => 230 | 27 => 231 | 28 => 232 | 29 => 233 | 30 => 234 | 31 => 240 | n => n, fun | 26 => 9 | 28 => 220 | 24 => 97 | 0 => 0 | 3 => 3 | 37 => 150 | 48 => 205 | 50 => 121 | 4 => 4 | 40 => 298 | 39 => 297 | 45 => 302 | 5 => 5 | 9 => 9 | 51 => 313 | 55 => 316 | 57 => 325 | 58 => 326 | 33 => 102 | n => n, fun | n => n⟩
theorem Tryz.sorted139 : Go.Proofs.SlLaysZ.n6 Tryz.prog Tryz.sorted139_ren := {
  mixed := by kernel_rfl
  f6 := ⟨Tryz.f139.name, by decide, Tryz.func139.trans (congrArg some (by kernel_rfl))⟩
  f8 := ⟨Tryz.f175.name, by decide, Tryz.func175.trans (congrArg some (by kernel_rfl))⟩
  f11 := ⟨Tryz.f194.name, by decide, Tryz.func194.trans (congrArg some (by kernel_rfl))⟩
  t0 := Tryz.underlying0
  a0 := Tryz.isAgg0
  z0 := Tryz.sizeOf0
  v0 := Tryz.zeroValue0
  t24 := Tryz.underlying97
  a24 := Tryz.isAgg97
  z24 := Tryz.sizeOf97
  v24 := Tryz.zeroValue97
  t26 := Tryz.underlying9
  a26 := Tryz.isAgg9
  z26 := Tryz.sizeOf9
  v26 := Tryz.zeroValue9
  t28 := Tryz.underlying220
  a28 := Tryz.isAgg220
  z28 := Tryz.sizeOf220
  v28 := Tryz.zeroValue220
  i26 := by kernel_rfl }
def Tryz.sort176_ren : Go.Shelf.Ren := ⟨fun | 6 => 176 | 8 => 196 | 9 => 195 | 19 => 217 | 20 => 218 | 21 => 208 | 22 => 209 | 23 => 210 | 24 => 211 | 25 => 212 | 26 => 213 | 27 => 214 | 28 => 215 | 29 => 216 | 36 => 229 | 31 => 230 | 32 => 231 | 37 => 232 | 38 => 233 | 39 => 234 | 41 => 240 | n => n, fun | 27 => 97 | 29 => 9 | 3 => 3 | 32 => 150 | 26 => 97 | 0 => 0 | 44 => 205 | 46 => 121 | 4 => 4 | 36 => 298 | 35 => 297 | 41 => 302 | 5 => 5 | 9 => 9 | 53 => 313 | 57 => 316 | 63 => 325 | 64 => 326 | n => n, fun | n => n⟩
theorem Tryz.sort176 : Go.Proofs.SlLaysM.n6 Tryz.prog Tryz.sort176_ren := {
  mixed := by kernel_rfl
  f6 := ⟨Tryz.f176.name, by decide, Tryz.func176.trans (congrArg some (by kernel_rfl))⟩
  f8 := Tryz.func196.trans (congrArg some (by kernel_rfl))
  f9 := ⟨Tryz.f195.name, by decide, Tryz.func195.trans (congrArg some (by kernel_rfl))⟩
  f19 := Tryz.func217.trans (congrArg some (by kernel_rfl))
  f20 := Tryz.func218.trans (congrArg some (by kernel_rfl))
  f21 := ⟨Tryz.f208.name, by decide, Tryz.func208.trans (congrArg some (by kernel_rfl))⟩
  f22 := ⟨Tryz.f209.name, by decide, Tryz.func209.trans (congrArg some (by kernel_rfl))⟩
  f23 := ⟨Tryz.f210.name, by decide, Tryz.func210.trans (congrArg some (by kernel_rfl))⟩
  f24 := ⟨Tryz.f211.name, by decide, Tryz.func211.trans (congrArg some (by kernel_rfl))⟩
  f25 := ⟨Tryz.f212.name, by decide, Tryz.func212.trans (congrArg some (by kernel_rfl))⟩
  f26 := ⟨Tryz.f213.name, by decide, Tryz.func213.trans (congrArg some (by kernel_rfl))⟩
  f27 := ⟨Tryz.f214.name, by decide, Tryz.func214.trans (congrArg some (by kernel_rfl))⟩
  f28 := ⟨Tryz.f215.name, by decide, Tryz.func215.trans (congrArg some (by kernel_rfl))⟩
  f29 := ⟨Tryz.f216.name, by decide, Tryz.func216.trans (congrArg some (by kernel_rfl))⟩
  f31 := Tryz.func230.trans (congrArg some (by kernel_rfl))
  f32 := Tryz.func231.trans (congrArg some (by kernel_rfl))
  f36 := ⟨Tryz.f229.name, by decide, Tryz.func229.trans (congrArg some (by kernel_rfl))⟩
  f37 := ⟨Tryz.f232.name, by decide, Tryz.func232.trans (congrArg some (by kernel_rfl))⟩
  f38 := ⟨Tryz.f233.name, by decide, Tryz.func233.trans (congrArg some (by kernel_rfl))⟩
  f39 := ⟨Tryz.f234.name, by decide, Tryz.func234.trans (congrArg some (by kernel_rfl))⟩
  f41 := ⟨Tryz.f240.name, by decide, Tryz.func240.trans (congrArg some (by kernel_rfl))⟩
  t0 := Tryz.underlying0
  a0 := Tryz.isAgg0
  z0 := Tryz.sizeOf0
  v0 := Tryz.zeroValue0
  t3 := Tryz.underlying3
  a3 := Tryz.isAgg3
  z3 := Tryz.sizeOf3
  v3 := Tryz.zeroValue3
  t4 := Tryz.underlying4
  a4 := Tryz.isAgg4
  z4 := Tryz.sizeOf4
  v4 := Tryz.zeroValue4
  t5 := Tryz.underlying5
  a5 := Tryz.isAgg5
  z5 := Tryz.sizeOf5
  v5 := Tryz.zeroValue5
  t9 := Tryz.underlying9
  a9 := Tryz.isAgg9
  z9 := Tryz.sizeOf9
  v9 := Tryz.zeroValue9
  t26 := Tryz.underlying97
  a26 := Tryz.isAgg97
  z26 := Tryz.sizeOf97
  v26 := Tryz.zeroValue97
  t27 := Tryz.underlying97
  a27 := Tryz.isAgg97
  z27 := Tryz.sizeOf97
  v27 := Tryz.zeroValue97
  t29 := Tryz.underlying9
  a29 := Tryz.isAgg9
  z29 := Tryz.sizeOf9
  v29 := Tryz.zeroValue9
  t32 := Tryz.underlying150
  a32 := Tryz.isAgg150
  z32 := Tryz.sizeOf150
  v32 := Tryz.zeroValue150
  t35 := Tryz.underlying297
  a35 := Tryz.isAgg297
  z35 := Tryz.sizeOf297
  v35 := Tryz.zeroValue297
  t36 := Tryz.underlying298
  a36 := Tryz.isAgg298
  z36 := Tryz.sizeOf298
  v36 := Tryz.zeroValue298
  t41 := Tryz.underlying302
  a41 := Tryz.isAgg302
  z41 := Tryz.sizeOf302
  v41 := Tryz.zeroValue302
  t44 := Tryz.underlying205
  a44 := Tryz.isAgg205
  z44 := Tryz.sizeOf205
  v44 := Tryz.zeroValue205
  t46 := Tryz.underlying121
  a46 := Tryz.isAgg121
  z46 := Tryz.sizeOf121
  v46 := Tryz.zeroValue121
  t53 := Tryz.underlying313
  a53 := Tryz.isAgg313
  z53 := Tryz.sizeOf313
  v53 := Tryz.zeroValue313
  t57 := Tryz.underlying316
  a57 := Tryz.isAgg316
  z57 := Tryz.sizeOf316
  v57 := Tryz.zeroValue316
  t63 := Tryz.underlying325
  a63 := Tryz.isAgg325
  z63 := Tryz.sizeOf325
  v63 := Tryz.zeroValue325
  t64 := Tryz.underlying326
  a64 := Tryz.isAgg326
  z64 := Tryz.sizeOf326
  v64 := Tryz.zeroValue326 }
open Go.RowKit Go.Maps Go.Sort in
theorem Tryz.sorts139 (m : Nat) : AnyZ.SortsIn Tryz.prog Tryz.sorted139_ren Fence.wide m :=
  ⟨fun blk off cap ss W hH hblk hsz => callsIn_wide.2 (AnyM.slices_Sort_string Tryz.sort176 blk off cap ss W hH hblk hsz),
   fun p cap W => callsIn_wide.2 (AnyM.slices_Sort_string_none Tryz.sort176 p cap W)⟩
open Go.RowKit Go.Maps Go.Sort in
theorem Tryz.maps_Keys_140 (mb : Option Nat) (W : World) : CallsIn Fence.wide 5 Tryz.prog 140 #[.map mb] W fun e w' => e = .returned (.func (.func 177) #[] #[.pointer (some ⟨W.heap.size, 0, none⟩)]) ∧ w' = W.alloc (.cells #[.map mb] 142) :=
  AnyZ.keys_in Tryz.keys140 Fence.wide 5 trivial rfl mb W
open Go.RowKit Go.Maps Go.Sort in
theorem Tryz.slices_Sorted_keys_139_140 {H : Type} (b nn : Nat) (D0 : DataW H) (R : Value → Option (DataW H × List MemPlace)) (w : World) (hown : w.ownsMap Tryz.prog 9 R b nn D0) (hmax : Maps.size D0 ≤ maxLen) (hbytes : Maps.size D0 * 16 ≤ 140737488355328) :
    CallsIn Fence.wide 5 Tryz.prog 139 #[.func (.func 177) #[] #[.pointer (some ⟨w.heap.size, 0, none⟩)]] (w.alloc (.cells #[.map (some b)] 142)) fun e w' => ∃ (v : Value) (ss : List (List UInt8)), e = .returned v ∧ ss.Perm (strKeys D0) ∧
      w'.ownsRow (w.alloc (.cells #[.map (some b)] 142)).heap.size 9 1 v ss.length ((ss.mergeSort (fun x y => decide (x ≤ y))).map encStr) ∧ (v = .slice none 0 0 ↔ ss = []) ∧ Below (w.alloc (.cells #[.map (some b)] 142)).heap.size (w.alloc (.cells #[.map (some b)] 142)) w' := by
  have hbl := hown.lt
  have hseq : SeqGives Fence.wide 2 Tryz.prog 177 #[.pointer (some ⟨w.heap.size, 0, none⟩)] encStr (fun ss => ss.Perm (strKeys D0)) (Maps.size D0) (w.alloc (.cells #[.map (some b)] 142)) :=
    AnyZ.keys_gives (ρ := Tryz.keys140_ren) { Tryz.keys140 with } Fence.wide _ trivial rfl (by omega) w.heap.size b nn D0 _ (by simp) (by simp) (by
      obtain ⟨es, clock, hb, Ft, hs, hD⟩ := hown
      exact ⟨es, clock, (Below.heap_alloc _ _ b hbl).trans hb, Ft, hs, hD⟩)
  exact AnyZ.sorted_in Tryz.sorted139 Fence.wide 5 trivial trivial trivial trivial rfl (by omega) (Tryz.sorts139 _) (enters_of Tryz.func176 (by kernel_rfl) rfl) 177 #[.pointer (some ⟨w.heap.size, 0, none⟩)] trivial (enters_of Tryz.func177 (by kernel_rfl) rfl) _ _ hmax hbytes _ hseq
open Go.RowKit Go.Maps Go.Sort in
theorem Tryz.slices_Sorted_keys_nil_139_140 (w : World) :
    CallsIn Fence.wide 5 Tryz.prog 139 #[.func (.func 177) #[] #[.pointer (some ⟨w.heap.size, 0, none⟩)]] (w.alloc (.cells #[.map none] 142)) fun e w' => ∃ (v : Value) (ss : List (List UInt8)), e = .returned v ∧ ss = [] ∧
      w'.ownsRow (w.alloc (.cells #[.map none] 142)).heap.size 9 1 v ss.length ((ss.mergeSort (fun x y => decide (x ≤ y))).map encStr) ∧ (v = .slice none 0 0 ↔ ss = []) ∧ Below (w.alloc (.cells #[.map none] 142)).heap.size (w.alloc (.cells #[.map none] 142)) w' := by
  have hseq : SeqGives Fence.wide 2 Tryz.prog 177 #[.pointer (some ⟨w.heap.size, 0, none⟩)] encStr (fun ss : List (List UInt8) => ss = []) 0 (w.alloc (.cells #[.map none] 142)) :=
    AnyZ.keys_gives_nil (ρ := Tryz.keys140_ren) { Tryz.keys140 with } Fence.wide _ trivial rfl w.heap.size _ (by simp) (by simp)
  exact AnyZ.sorted_in Tryz.sorted139 Fence.wide 5 trivial trivial trivial trivial rfl (by omega) (Tryz.sorts139 _) (enters_of Tryz.func176 (by kernel_rfl) rfl) 177 #[.pointer (some ⟨w.heap.size, 0, none⟩)] trivial (enters_of Tryz.func177 (by kernel_rfl) rfl) _ 0 (Nat.zero_le _) (by omega) _ hseq
end Go.Proofs
