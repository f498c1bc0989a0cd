/-
  DERIVED: THE SHELF's CONTRACTS AT THIS DUMP, IN PLAIN WORDS (tools/lay-plain.mjs out of 'TryzShelf.lean', which tools/lay-shelf.mjs wrote): THE SAME DECLARATIONS UNDER THE SAME NAMES: 'import', 'namespace', 'open', 'def', 'theorem' AND NOTHING ELSE: no command of the shelf's: FOR A HAND-IN. Each laying: the table of numbers ('.._ren') and one theorem, a field a fact of the dump's own or the kernel's comparison; each contract: ONE APPLICATION.
-/
import Derived.Shelf.SlGeneric
import Derived.Shelf.Strings.SlTrimAscii
import Derived.Shelf.SlMaps.Clone
import Derived.Shelf.SlIter.Nil
import Derived.Shelf.SortM.Plain
import Derived.Shelf.SortM.SortNone
import Derived.Ground.GgzProg
import Derived.Ground.SlgmProg
import Derived.Ground.SlmcProg
import Derived.Test.YtabnndjdkjkciaaGreatDoorProg
namespace Go.Proofs
open Go.Shelf
def Tryz.lays160_ren : Go.Shelf.Ren := ⟨fun | 160 => 186 | 232 => 201 | 231 => 200 | 227 => 202 | 234 => 204 | 233 => 203 | 236 => 206 | 235 => 205 | 228 => 222 | 271 => 225 | 151 => 224 | 197 => 223 | 120 => 240 | 152 => 239 | 260 => 238 | 137 => 249 | 119 => 250 | 224 => 246 | 225 => 245 | 217 => 244 | 266 => 255 | n => n, fun | 9 => 9 | 4 => 4 | 3 => 3 | 5 => 5 | 117 => 305 | 116 => 304 | 0 => 0 | 124 => 308 | 21 => 21 | 105 => 322 | 46 => 167 | 119 => 344 | 139 => 347 | 138 => 346 | n => n, fun | 3 => 3 | 4 => 4 | n => n⟩
theorem Tryz.lays160 : Go.Proofs.Lays.n160 Tryz.prog Tryz.lays160_ren := {
  mixed := by kernel_rfl
  f119 := Tryz.func250.trans (congrArg some (by kernel_rfl))
  f120 := Tryz.func240.trans (congrArg some (by kernel_rfl))
  f137 := Tryz.func249.trans (congrArg some (by kernel_rfl))
  f151 := Tryz.func224.trans (congrArg some (by kernel_rfl))
  f152 := Tryz.func239.trans (congrArg some (by kernel_rfl))
  f160 := Tryz.func186.trans (congrArg some (by kernel_rfl))
  f197 := Tryz.func223.trans (congrArg some (by kernel_rfl))
  f217 := Tryz.func244.trans (congrArg some (by kernel_rfl))
  f224 := Tryz.func246.trans (congrArg some (by kernel_rfl))
  f225 := Tryz.func245.trans (congrArg some (by kernel_rfl))
  f227 := Tryz.func202.trans (congrArg some (by kernel_rfl))
  f228 := Tryz.func222.trans (congrArg some (by kernel_rfl))
  f231 := Tryz.func200.trans (congrArg some (by kernel_rfl))
  f232 := Tryz.func201.trans (congrArg some (by kernel_rfl))
  f233 := Tryz.func203.trans (congrArg some (by kernel_rfl))
  f234 := Tryz.func204.trans (congrArg some (by kernel_rfl))
  f235 := Tryz.func205.trans (congrArg some (by kernel_rfl))
  f236 := Tryz.func206.trans (congrArg some (by kernel_rfl))
  f260 := Tryz.func238.trans (congrArg some (by kernel_rfl))
  f266 := Tryz.func255.trans (congrArg some (by kernel_rfl))
  f271 := Tryz.func225.trans (congrArg some (by kernel_rfl))
  t0 := Tryz.underlying0
  a0 := Tryz.isAgg0
  z0 := Tryz.sizeOf0
  v0 := Tryz.zeroValue0
  t3 := Tryz.underlying3
  a3 := Tryz.isAgg3
  z3 := Tryz.sizeOf3
  v3 := Tryz.zeroValue3
  t4 := Tryz.underlying4
  a4 := Tryz.isAgg4
  z4 := Tryz.sizeOf4
  v4 := Tryz.zeroValue4
  t5 := Tryz.underlying5
  a5 := Tryz.isAgg5
  z5 := Tryz.sizeOf5
  v5 := Tryz.zeroValue5
  t9 := Tryz.underlying9
  a9 := Tryz.isAgg9
  z9 := Tryz.sizeOf9
  v9 := Tryz.zeroValue9
  t21 := Tryz.underlying21
  a21 := Tryz.isAgg21
  z21 := Tryz.sizeOf21
  v21 := Tryz.zeroValue21
  t46 := Tryz.underlying167
  a46 := Tryz.isAgg167
  z46 := Tryz.sizeOf167
  v46 := Tryz.zeroValue167
  t105 := Tryz.underlying322
  a105 := Tryz.isAgg322
  z105 := Tryz.sizeOf322
  v105 := Tryz.zeroValue322
  t116 := Tryz.underlying304
  a116 := Tryz.isAgg304
  z116 := Tryz.sizeOf304
  t117 := Tryz.underlying305
  a117 := Tryz.isAgg305
  z117 := Tryz.sizeOf305
  v117 := Tryz.zeroValue305
  t119 := Tryz.underlying344
  a119 := Tryz.isAgg344
  z119 := Tryz.sizeOf344
  t124 := Tryz.underlying308
  a124 := Tryz.isAgg308
  z124 := Tryz.sizeOf308
  v124 := Tryz.zeroValue308
  t138 := Tryz.underlying346
  a138 := Tryz.isAgg346
  z138 := Tryz.sizeOf346
  v138 := Tryz.zeroValue346
  t139 := Tryz.underlying347
  a139 := Tryz.isAgg347
  z139 := Tryz.sizeOf347
  v139 := Tryz.zeroValue347
  g3 := by kernel_rfl
  g4 := by kernel_rfl }
open Go.RowKit in
theorem Tryz.strings_Trim_any (s cutset : ByteArray) (w : World) (hs : s.size ≤ 9223372036854775807) (hcs : cutset.size < 4294967281) (hascii : ∀ (j : Nat) b, cutset.data.toList[j]? = some b → b.toNat < 128) :
    Calls Tryz.prog 186 #[.string s, .string cutset] w fun e w' => e = .returned (.string ⟨(Lib.trimS s.data.toList cutset.data.toList).toArray⟩) ∧ Below w.heap.size w w' := Any.strings_Trim_laid Tryz.lays160 (by kernel_rfl) s cutset w hs hcs hascii
def Tryz.clone5_ren : Go.Shelf.Ren := ⟨fun | 5 => 150 | 7 => 187 | n => n, fun | 23 => 155 | 25 => 9 | 3 => 29 | 4 => 4 | 20 => 20 | n => n, fun | n => n⟩
theorem Tryz.clone5 : Go.Proofs.SlLaysW.n5 Tryz.prog Tryz.clone5_ren := {
  mixed := by kernel_rfl
  f5 := ⟨Tryz.f150.name, by decide, Tryz.func150.trans (congrArg some (by kernel_rfl))⟩
  f7 := Tryz.func187.trans (congrArg some (by kernel_rfl))
  t4 := Tryz.underlying4
  a4 := Tryz.isAgg4
  z4 := Tryz.sizeOf4
  v4 := Tryz.zeroValue4
  t20 := Tryz.underlying20
  a20 := Tryz.isAgg20
  z20 := Tryz.sizeOf20
  v20 := Tryz.zeroValue20
  t23 := Tryz.underlying155
  a23 := Tryz.isAgg155
  z23 := Tryz.sizeOf155
  v23 := Tryz.zeroValue155 }
open Go.RowKit in
theorem Tryz.maps_Clone_any (b : Nat) (es : Array MapEntry) (clock : Nat) (w : World) (hb : w.heap[b]? = some (.map es clock)) :
    Calls Tryz.prog 150 #[.map (some b)] w fun e w' => e = .returned (.map (some w.heap.size)) ∧ w' = w.alloc (.map es clock) := AnyW.maps_Clone Tryz.clone5 b es clock w hb
def Tryz.keys145_ren : Go.Shelf.Ren := ⟨fun | 7 => 145 | 10 => 185 | n => n, fun | 23 => 155 | 26 => 9 | 3 => 29 | 28 => 237 | 0 => 0 | 27 => 236 | 33 => 239 | 4 => 4 | n => n, fun | n => n⟩
theorem Tryz.keys145 : Go.Proofs.SlLaysZ.n7 Tryz.prog Tryz.keys145_ren := {
  mixed := by kernel_rfl
  f7 := ⟨Tryz.f145.name, by decide, Tryz.func145.trans (congrArg some (by kernel_rfl))⟩
  f10 := ⟨Tryz.f185.name, by decide, Tryz.func185.trans (congrArg some (by kernel_rfl))⟩
  t0 := Tryz.underlying0
  a0 := Tryz.isAgg0
  z0 := Tryz.sizeOf0
  v0 := Tryz.zeroValue0
  t4 := Tryz.underlying4
  a4 := Tryz.isAgg4
  z4 := Tryz.sizeOf4
  v4 := Tryz.zeroValue4
  t23 := Tryz.underlying155
  a23 := Tryz.isAgg155
  z23 := Tryz.sizeOf155
  v23 := Tryz.zeroValue155
  t26 := Tryz.underlying9
  a26 := Tryz.isAgg9
  z26 := Tryz.sizeOf9
  v26 := Tryz.zeroValue9
  t27 := Tryz.underlying236
  a27 := Tryz.isAgg236
  z27 := Tryz.sizeOf236
  v27 := Tryz.zeroValue236
  t28 := Tryz.underlying237
  a28 := Tryz.isAgg237
  z28 := Tryz.sizeOf237
  v28 := Tryz.zeroValue237
  t33 := Tryz.underlying239
  a33 := Tryz.isAgg239
  z33 := Tryz.sizeOf239
  v33 := Tryz.zeroValue239 }
def Tryz.sorted144_ren : Go.Shelf.Ren := ⟨fun | 6 => 144 | 8 => 183 | 9 => 184 | 11 => 197 | 13 => 199 | 12 => 198 | 23 => 220 | 24 => 221 | 14 => 211 | 15 => 212 | 16 => 213 | 17 => 214 | 18 => 215 | 19 => 216 | 20 => 217 | 21 => 218 | 22 => 219 | 25 => 232 | 26 => 233 | 27 => 234 | 28 => 235 | 29 => 236 | 30 => 237 | 31 => 248 | n => n, fun | 26 => 9 | 28 => 237 | 24 => 159 | 0 => 0 | 3 => 3 | 37 => 167 | 48 => 221 | 50 => 124 | 4 => 4 | 40 => 314 | 39 => 313 | 45 => 318 | 5 => 5 | 9 => 9 | 51 => 331 | 55 => 334 | 57 => 341 | 58 => 342 | 33 => 239 | n => n, fun | n => n⟩
theorem Tryz.sorted144 : Go.Proofs.SlLaysZ.n6 Tryz.prog Tryz.sorted144_ren := {
  mixed := by kernel_rfl
  f6 := ⟨Tryz.f144.name, by decide, Tryz.func144.trans (congrArg some (by kernel_rfl))⟩
  f8 := ⟨Tryz.f183.name, by decide, Tryz.func183.trans (congrArg some (by kernel_rfl))⟩
  f11 := ⟨Tryz.f197.name, by decide, Tryz.func197.trans (congrArg some (by kernel_rfl))⟩
  t0 := Tryz.underlying0
  a0 := Tryz.isAgg0
  z0 := Tryz.sizeOf0
  v0 := Tryz.zeroValue0
  t24 := Tryz.underlying159
  a24 := Tryz.isAgg159
  z24 := Tryz.sizeOf159
  v24 := Tryz.zeroValue159
  t26 := Tryz.underlying9
  a26 := Tryz.isAgg9
  z26 := Tryz.sizeOf9
  v26 := Tryz.zeroValue9
  t28 := Tryz.underlying237
  a28 := Tryz.isAgg237
  z28 := Tryz.sizeOf237
  v28 := Tryz.zeroValue237
  i26 := by kernel_rfl }
def Tryz.sort184_ren : Go.Shelf.Ren := ⟨fun | 6 => 184 | 8 => 199 | 9 => 198 | 19 => 220 | 20 => 221 | 21 => 211 | 22 => 212 | 23 => 213 | 24 => 214 | 25 => 215 | 26 => 216 | 27 => 217 | 28 => 218 | 29 => 219 | 36 => 232 | 31 => 233 | 32 => 234 | 37 => 235 | 38 => 236 | 39 => 237 | 41 => 248 | n => n, fun | 27 => 159 | 29 => 9 | 3 => 3 | 32 => 167 | 26 => 159 | 0 => 0 | 44 => 221 | 46 => 124 | 4 => 4 | 36 => 314 | 35 => 313 | 41 => 318 | 5 => 5 | 9 => 9 | 53 => 331 | 57 => 334 | 63 => 341 | 64 => 342 | n => n, fun | n => n⟩
theorem Tryz.sort184 : Go.Proofs.SlLaysM.n6 Tryz.prog Tryz.sort184_ren := {
  mixed := by kernel_rfl
  f6 := ⟨Tryz.f184.name, by decide, Tryz.func184.trans (congrArg some (by kernel_rfl))⟩
  f8 := Tryz.func199.trans (congrArg some (by kernel_rfl))
  f9 := ⟨Tryz.f198.name, by decide, Tryz.func198.trans (congrArg some (by kernel_rfl))⟩
  f19 := Tryz.func220.trans (congrArg some (by kernel_rfl))
  f20 := Tryz.func221.trans (congrArg some (by kernel_rfl))
  f21 := ⟨Tryz.f211.name, by decide, Tryz.func211.trans (congrArg some (by kernel_rfl))⟩
  f22 := ⟨Tryz.f212.name, by decide, Tryz.func212.trans (congrArg some (by kernel_rfl))⟩
  f23 := ⟨Tryz.f213.name, by decide, Tryz.func213.trans (congrArg some (by kernel_rfl))⟩
  f24 := ⟨Tryz.f214.name, by decide, Tryz.func214.trans (congrArg some (by kernel_rfl))⟩
  f25 := ⟨Tryz.f215.name, by decide, Tryz.func215.trans (congrArg some (by kernel_rfl))⟩
  f26 := ⟨Tryz.f216.name, by decide, Tryz.func216.trans (congrArg some (by kernel_rfl))⟩
  f27 := ⟨Tryz.f217.name, by decide, Tryz.func217.trans (congrArg some (by kernel_rfl))⟩
  f28 := ⟨Tryz.f218.name, by decide, Tryz.func218.trans (congrArg some (by kernel_rfl))⟩
  f29 := ⟨Tryz.f219.name, by decide, Tryz.func219.trans (congrArg some (by kernel_rfl))⟩
  f31 := Tryz.func233.trans (congrArg some (by kernel_rfl))
  f32 := Tryz.func234.trans (congrArg some (by kernel_rfl))
  f36 := ⟨Tryz.f232.name, by decide, Tryz.func232.trans (congrArg some (by kernel_rfl))⟩
  f37 := ⟨Tryz.f235.name, by decide, Tryz.func235.trans (congrArg some (by kernel_rfl))⟩
  f38 := ⟨Tryz.f236.name, by decide, Tryz.func236.trans (congrArg some (by kernel_rfl))⟩
  f39 := ⟨Tryz.f237.name, by decide, Tryz.func237.trans (congrArg some (by kernel_rfl))⟩
  f41 := ⟨Tryz.f248.name, by decide, Tryz.func248.trans (congrArg some (by kernel_rfl))⟩
  t0 := Tryz.underlying0
  a0 := Tryz.isAgg0
  z0 := Tryz.sizeOf0
  v0 := Tryz.zeroValue0
  t3 := Tryz.underlying3
  a3 := Tryz.isAgg3
  z3 := Tryz.sizeOf3
  v3 := Tryz.zeroValue3
  t4 := Tryz.underlying4
  a4 := Tryz.isAgg4
  z4 := Tryz.sizeOf4
  v4 := Tryz.zeroValue4
  t5 := Tryz.underlying5
  a5 := Tryz.isAgg5
  z5 := Tryz.sizeOf5
  v5 := Tryz.zeroValue5
  t9 := Tryz.underlying9
  a9 := Tryz.isAgg9
  z9 := Tryz.sizeOf9
  v9 := Tryz.zeroValue9
  t26 := Tryz.underlying159
  a26 := Tryz.isAgg159
  z26 := Tryz.sizeOf159
  v26 := Tryz.zeroValue159
  t27 := Tryz.underlying159
  a27 := Tryz.isAgg159
  z27 := Tryz.sizeOf159
  v27 := Tryz.zeroValue159
  t29 := Tryz.underlying9
  a29 := Tryz.isAgg9
  z29 := Tryz.sizeOf9
  v29 := Tryz.zeroValue9
  t32 := Tryz.underlying167
  a32 := Tryz.isAgg167
  z32 := Tryz.sizeOf167
  v32 := Tryz.zeroValue167
  t35 := Tryz.underlying313
  a35 := Tryz.isAgg313
  z35 := Tryz.sizeOf313
  v35 := Tryz.zeroValue313
  t36 := Tryz.underlying314
  a36 := Tryz.isAgg314
  z36 := Tryz.sizeOf314
  v36 := Tryz.zeroValue314
  t41 := Tryz.underlying318
  a41 := Tryz.isAgg318
  z41 := Tryz.sizeOf318
  v41 := Tryz.zeroValue318
  t44 := Tryz.underlying221
  a44 := Tryz.isAgg221
  z44 := Tryz.sizeOf221
  v44 := Tryz.zeroValue221
  t46 := Tryz.underlying124
  a46 := Tryz.isAgg124
  z46 := Tryz.sizeOf124
  v46 := Tryz.zeroValue124
  t53 := Tryz.underlying331
  a53 := Tryz.isAgg331
  z53 := Tryz.sizeOf331
  v53 := Tryz.zeroValue331
  t57 := Tryz.underlying334
  a57 := Tryz.isAgg334
  z57 := Tryz.sizeOf334
  v57 := Tryz.zeroValue334
  t63 := Tryz.underlying341
  a63 := Tryz.isAgg341
  z63 := Tryz.sizeOf341
  v63 := Tryz.zeroValue341
  t64 := Tryz.underlying342
  a64 := Tryz.isAgg342
  z64 := Tryz.sizeOf342
  v64 := Tryz.zeroValue342 }
open Go.RowKit Go.Maps Go.Sort in
theorem Tryz.sorts144 (m : Nat) : AnyZ.SortsIn Tryz.prog Tryz.sorted144_ren Fence.wide m :=
  ⟨fun blk off cap ss W hH hblk hsz => callsIn_wide.2 (AnyM.slices_Sort_string Tryz.sort184 blk off cap ss W hH hblk hsz),
   fun p cap W => callsIn_wide.2 (AnyM.slices_Sort_string_none Tryz.sort184 p cap W)⟩
open Go.RowKit Go.Maps Go.Sort in
theorem Tryz.maps_Keys_145 (mb : Option Nat) (W : World) : CallsIn Fence.wide 5 Tryz.prog 145 #[.map mb] W fun e w' => e = .returned (.func (.func 185) #[] #[.pointer (some ⟨W.heap.size, 0, none⟩)]) ∧ w' = W.alloc (.cells #[.map mb] 155) :=
  AnyZ.keys_in Tryz.keys145 Fence.wide 5 trivial rfl mb W
open Go.RowKit Go.Maps Go.Sort in
theorem Tryz.slices_Sorted_keys_144_145 {H : Type} (b nn : Nat) (D0 : DataW H) (R : Value → Option (DataW H × List MemPlace)) (w : World) (hown : w.ownsMap Tryz.prog 9 R b nn D0) (hmax : Maps.size D0 ≤ maxLen) (hbytes : Maps.size D0 * 16 ≤ 140737488355328) :
    CallsIn Fence.wide 5 Tryz.prog 144 #[.func (.func 185) #[] #[.pointer (some ⟨w.heap.size, 0, none⟩)]] (w.alloc (.cells #[.map (some b)] 155)) fun e w' => ∃ (v : Value) (ss : List (List UInt8)), e = .returned v ∧ ss.Perm (strKeys D0) ∧
      w'.ownsRow (w.alloc (.cells #[.map (some b)] 155)).heap.size 9 1 v ss.length ((ss.mergeSort (fun x y => decide (x ≤ y))).map encStr) ∧ (v = .slice none 0 0 ↔ ss = []) ∧ Below (w.alloc (.cells #[.map (some b)] 155)).heap.size (w.alloc (.cells #[.map (some b)] 155)) w' := by
  have hbl := hown.lt
  have hseq : SeqGives Fence.wide 2 Tryz.prog 185 #[.pointer (some ⟨w.heap.size, 0, none⟩)] encStr (fun ss => ss.Perm (strKeys D0)) (Maps.size D0) (w.alloc (.cells #[.map (some b)] 155)) :=
    AnyZ.keys_gives (ρ := Tryz.keys145_ren) { Tryz.keys145 with } Fence.wide _ trivial rfl (by omega) w.heap.size b nn D0 _ (by simp) (by simp) (by
      obtain ⟨es, clock, hb, Ft, hs, hD⟩ := hown
      exact ⟨es, clock, (Below.heap_alloc _ _ b hbl).trans hb, Ft, hs, hD⟩)
  exact AnyZ.sorted_in Tryz.sorted144 Fence.wide 5 trivial trivial trivial trivial rfl (by omega) (Tryz.sorts144 _) (enters_of Tryz.func184 (by kernel_rfl) rfl) 185 #[.pointer (some ⟨w.heap.size, 0, none⟩)] trivial (enters_of Tryz.func185 (by kernel_rfl) rfl) _ _ hmax hbytes _ hseq
open Go.RowKit Go.Maps Go.Sort in
theorem Tryz.slices_Sorted_keys_nil_144_145 (w : World) :
    CallsIn Fence.wide 5 Tryz.prog 144 #[.func (.func 185) #[] #[.pointer (some ⟨w.heap.size, 0, none⟩)]] (w.alloc (.cells #[.map none] 155)) fun e w' => ∃ (v : Value) (ss : List (List UInt8)), e = .returned v ∧ ss = [] ∧
      w'.ownsRow (w.alloc (.cells #[.map none] 155)).heap.size 9 1 v ss.length ((ss.mergeSort (fun x y => decide (x ≤ y))).map encStr) ∧ (v = .slice none 0 0 ↔ ss = []) ∧ Below (w.alloc (.cells #[.map none] 155)).heap.size (w.alloc (.cells #[.map none] 155)) w' := by
  have hseq : SeqGives Fence.wide 2 Tryz.prog 185 #[.pointer (some ⟨w.heap.size, 0, none⟩)] encStr (fun ss : List (List UInt8) => ss = []) 0 (w.alloc (.cells #[.map none] 155)) :=
    AnyZ.keys_gives_nil (ρ := Tryz.keys145_ren) { Tryz.keys145 with } Fence.wide _ trivial rfl w.heap.size _ (by simp) (by simp)
  exact AnyZ.sorted_in Tryz.sorted144 Fence.wide 5 trivial trivial trivial trivial rfl (by omega) (Tryz.sorts144 _) (enters_of Tryz.func184 (by kernel_rfl) rfl) 185 #[.pointer (some ⟨w.heap.size, 0, none⟩)] trivial (enters_of Tryz.func185 (by kernel_rfl) rfl) _ 0 (Nat.zero_le _) (by omega) _ hseq
end Go.Proofs
