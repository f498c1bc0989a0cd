/-
  DERIVED: THE SHELF's CONTRACTS AT THIS DUMP, IN PLAIN WORDS (tools/lay-plain.mjs out of 'TryzShelf.lean', which tools/lay-shelf.mjs wrote): THE SAME DECLARATIONS UNDER THE SAME NAMES: 'import', 'namespace', 'open', 'def', 'theorem' AND NOTHING ELSE: no command of the shelf's: FOR A HAND-IN. Each laying: the table of numbers ('.._ren') and one theorem, a field a fact of the dump's own or the kernel's comparison; each contract: ONE APPLICATION.
-/
import Derived.Shelf.SlGeneric
import Derived.Shelf.Strings.SlTrimAscii
import Derived.Shelf.SlMaps.Clone
import Derived.Shelf.SlIter.Nil
import Derived.Shelf.SortM.Plain
import Derived.Shelf.SortM.SortNone
import Derived.Ground.GgzProg
import Derived.Ground.SlgmProg
import Derived.Ground.SlmcProg
import Derived.Test.YtlpniegemklfeaaGreatDoorProg
namespace Go.Proofs
open Go.Shelf
def Tryz.lays160_ren : Go.Shelf.Ren := ⟨fun | 160 => 119 | 232 => 140 | 231 => 139 | 227 => 141 | 234 => 143 | 233 => 142 | 236 => 145 | 235 => 144 | 228 => 165 | 271 => 168 | 151 => 167 | 197 => 166 | 120 => 179 | 152 => 178 | 260 => 177 | 137 => 186 | 119 => 187 | 224 => 182 | 225 => 181 | 217 => 180 | 266 => 188 | n => n, fun | 9 => 9 | 4 => 4 | 3 => 3 | 5 => 5 | 117 => 216 | 116 => 215 | 0 => 0 | 124 => 219 | 21 => 21 | 105 => 246 | 46 => 40 | 119 => 260 | 139 => 263 | 138 => 262 | n => n, fun | 3 => 1 | 4 => 2 | n => n⟩
theorem Tryz.lays160 : Go.Proofs.Lays.n160 Tryz.prog Tryz.lays160_ren := {
  mixed := by kernel_rfl
  f119 := Tryz.func187.trans (congrArg some (by kernel_rfl))
  f120 := Tryz.func179.trans (congrArg some (by kernel_rfl))
  f137 := Tryz.func186.trans (congrArg some (by kernel_rfl))
  f151 := Tryz.func167.trans (congrArg some (by kernel_rfl))
  f152 := Tryz.func178.trans (congrArg some (by kernel_rfl))
  f160 := Tryz.func119.trans (congrArg some (by kernel_rfl))
  f197 := Tryz.func166.trans (congrArg some (by kernel_rfl))
  f217 := Tryz.func180.trans (congrArg some (by kernel_rfl))
  f224 := Tryz.func182.trans (congrArg some (by kernel_rfl))
  f225 := Tryz.func181.trans (congrArg some (by kernel_rfl))
  f227 := Tryz.func141.trans (congrArg some (by kernel_rfl))
  f228 := Tryz.func165.trans (congrArg some (by kernel_rfl))
  f231 := Tryz.func139.trans (congrArg some (by kernel_rfl))
  f232 := Tryz.func140.trans (congrArg some (by kernel_rfl))
  f233 := Tryz.func142.trans (congrArg some (by kernel_rfl))
  f234 := Tryz.func143.trans (congrArg some (by kernel_rfl))
  f235 := Tryz.func144.trans (congrArg some (by kernel_rfl))
  f236 := Tryz.func145.trans (congrArg some (by kernel_rfl))
  f260 := Tryz.func177.trans (congrArg some (by kernel_rfl))
  f266 := Tryz.func188.trans (congrArg some (by kernel_rfl))
  f271 := Tryz.func168.trans (congrArg some (by kernel_rfl))
  t0 := Tryz.underlying0
  a0 := Tryz.isAgg0
  z0 := Tryz.sizeOf0
  v0 := Tryz.zeroValue0
  t3 := Tryz.underlying3
  a3 := Tryz.isAgg3
  z3 := Tryz.sizeOf3
  v3 := Tryz.zeroValue3
  t4 := Tryz.underlying4
  a4 := Tryz.isAgg4
  z4 := Tryz.sizeOf4
  v4 := Tryz.zeroValue4
  t5 := Tryz.underlying5
  a5 := Tryz.isAgg5
  z5 := Tryz.sizeOf5
  v5 := Tryz.zeroValue5
  t9 := Tryz.underlying9
  a9 := Tryz.isAgg9
  z9 := Tryz.sizeOf9
  v9 := Tryz.zeroValue9
  t21 := Tryz.underlying21
  a21 := Tryz.isAgg21
  z21 := Tryz.sizeOf21
  v21 := Tryz.zeroValue21
  t46 := Tryz.underlying40
  a46 := Tryz.isAgg40
  z46 := Tryz.sizeOf40
  v46 := Tryz.zeroValue40
  t105 := Tryz.underlying246
  a105 := Tryz.isAgg246
  z105 := Tryz.sizeOf246
  v105 := Tryz.zeroValue246
  t116 := Tryz.underlying215
  a116 := Tryz.isAgg215
  z116 := Tryz.sizeOf215
  t117 := Tryz.underlying216
  a117 := Tryz.isAgg216
  z117 := Tryz.sizeOf216
  v117 := Tryz.zeroValue216
  t119 := Tryz.underlying260
  a119 := Tryz.isAgg260
  z119 := Tryz.sizeOf260
  t124 := Tryz.underlying219
  a124 := Tryz.isAgg219
  z124 := Tryz.sizeOf219
  v124 := Tryz.zeroValue219
  t138 := Tryz.underlying262
  a138 := Tryz.isAgg262
  z138 := Tryz.sizeOf262
  v138 := Tryz.zeroValue262
  t139 := Tryz.underlying263
  a139 := Tryz.isAgg263
  z139 := Tryz.sizeOf263
  v139 := Tryz.zeroValue263
  g3 := by kernel_rfl
  g4 := by kernel_rfl }
open Go.RowKit in
theorem Tryz.strings_Trim_any (s cutset : ByteArray) (w : World) (hs : s.size ≤ 9223372036854775807) (hcs : cutset.size < 4294967281) (hascii : ∀ (j : Nat) b, cutset.data.toList[j]? = some b → b.toNat < 128) :
    Calls Tryz.prog 119 #[.string s, .string cutset] w fun e w' => e = .returned (.string ⟨(Lib.trimS s.data.toList cutset.data.toList).toArray⟩) ∧ Below w.heap.size w w' := Any.strings_Trim_laid Tryz.lays160 (by kernel_rfl) s cutset w hs hcs hascii
def Tryz.clone5_ren : Go.Shelf.Ren := ⟨fun | 5 => 33 | 7 => 61 | n => n, fun | 23 => 77 | 25 => 9 | 3 => 34 | 4 => 4 | 20 => 20 | n => n, fun | n => n⟩
theorem Tryz.clone5 : Go.Proofs.SlLaysW.n5 Tryz.prog Tryz.clone5_ren := {
  mixed := by kernel_rfl
  f5 := ⟨Tryz.f33.name, by decide, Tryz.func33.trans (congrArg some (by kernel_rfl))⟩
  f7 := Tryz.func61.trans (congrArg some (by kernel_rfl))
  t4 := Tryz.underlying4
  a4 := Tryz.isAgg4
  z4 := Tryz.sizeOf4
  v4 := Tryz.zeroValue4
  t20 := Tryz.underlying20
  a20 := Tryz.isAgg20
  z20 := Tryz.sizeOf20
  v20 := Tryz.zeroValue20
  t23 := Tryz.underlying77
  a23 := Tryz.isAgg77
  z23 := Tryz.sizeOf77
  v23 := Tryz.zeroValue77 }
open Go.RowKit in
theorem Tryz.maps_Clone_any (b : Nat) (es : Array MapEntry) (clock : Nat) (w : World) (hb : w.heap[b]? = some (.map es clock)) :
    Calls Tryz.prog 33 #[.map (some b)] w fun e w' => e = .returned (.map (some w.heap.size)) ∧ w' = w.alloc (.map es clock) := AnyW.maps_Clone Tryz.clone5 b es clock w hb
def Tryz.keys87_ren : Go.Shelf.Ren := ⟨fun | 7 => 87 | 10 => 118 | n => n, fun | 23 => 77 | 26 => 9 | 3 => 34 | 28 => 165 | 0 => 0 | 27 => 164 | 33 => 167 | 4 => 4 | n => n, fun | n => n⟩
theorem Tryz.keys87 : Go.Proofs.SlLaysZ.n7 Tryz.prog Tryz.keys87_ren := {
  mixed := by kernel_rfl
  f7 := ⟨Tryz.f87.name, by decide, Tryz.func87.trans (congrArg some (by kernel_rfl))⟩
  f10 := ⟨Tryz.f118.name, by decide, Tryz.func118.trans (congrArg some (by kernel_rfl))⟩
  t0 := Tryz.underlying0
  a0 := Tryz.isAgg0
  z0 := Tryz.sizeOf0
  v0 := Tryz.zeroValue0
  t4 := Tryz.underlying4
  a4 := Tryz.isAgg4
  z4 := Tryz.sizeOf4
  v4 := Tryz.zeroValue4
  t23 := Tryz.underlying77
  a23 := Tryz.isAgg77
  z23 := Tryz.sizeOf77
  v23 := Tryz.zeroValue77
  t26 := Tryz.underlying9
  a26 := Tryz.isAgg9
  z26 := Tryz.sizeOf9
  v26 := Tryz.zeroValue9
  t27 := Tryz.underlying164
  a27 := Tryz.isAgg164
  z27 := Tryz.sizeOf164
  v27 := Tryz.zeroValue164
  t28 := Tryz.underlying165
  a28 := Tryz.isAgg165
  z28 := Tryz.sizeOf165
  v28 := Tryz.zeroValue165
  t33 := Tryz.underlying167
  a33 := Tryz.isAgg167
  z33 := Tryz.sizeOf167
  v33 := Tryz.zeroValue167 }
def Tryz.sorted86_ren : Go.Shelf.Ren := ⟨fun | 6 => 86 | 8 => 116 | 9 => 117 | 11 => 136 | 13 => 138 | 12 => 137 | 23 => 163 | 24 => 164 | 14 => 154 | 15 => 155 | 16 => 156 | 17 => 157 | 18 => 158 | 19 => 159 | 20 => 160 | 21 => 161 | 22 => 162 | 25 => 171 | 26 => 172 | 27 => 173 | 28 => 174 | 29 => 175 | 30 => 176 | 31 => 185 | n => n, fun | 26 => 9 | 28 => 165 | 24 => 115 | 0 => 0 | 3 => 3 | 37 => 40 | 48 => 204 | 50 => 127 | 4 => 4 | 40 => 239 | 39 => 238 | 45 => 53 | 5 => 5 | 9 => 9 | 51 => 249 | 55 => 252 | 57 => 257 | 58 => 258 | 33 => 167 | n => n, fun | n => n⟩
theorem Tryz.sorted86 : Go.Proofs.SlLaysZ.n6 Tryz.prog Tryz.sorted86_ren := {
  mixed := by kernel_rfl
  f6 := ⟨Tryz.f86.name, by decide, Tryz.func86.trans (congrArg some (by kernel_rfl))⟩
  f8 := ⟨Tryz.f116.name, by decide, Tryz.func116.trans (congrArg some (by kernel_rfl))⟩
  f11 := ⟨Tryz.f136.name, by decide, Tryz.func136.trans (congrArg some (by kernel_rfl))⟩
  t0 := Tryz.underlying0
  a0 := Tryz.isAgg0
  z0 := Tryz.sizeOf0
  v0 := Tryz.zeroValue0
  t24 := Tryz.underlying115
  a24 := Tryz.isAgg115
  z24 := Tryz.sizeOf115
  v24 := Tryz.zeroValue115
  t26 := Tryz.underlying9
  a26 := Tryz.isAgg9
  z26 := Tryz.sizeOf9
  v26 := Tryz.zeroValue9
  t28 := Tryz.underlying165
  a28 := Tryz.isAgg165
  z28 := Tryz.sizeOf165
  v28 := Tryz.zeroValue165
  i26 := by kernel_rfl }
def Tryz.sort117_ren : Go.Shelf.Ren := ⟨fun | 6 => 117 | 8 => 138 | 9 => 137 | 19 => 163 | 20 => 164 | 21 => 154 | 22 => 155 | 23 => 156 | 24 => 157 | 25 => 158 | 26 => 159 | 27 => 160 | 28 => 161 | 29 => 162 | 36 => 171 | 31 => 172 | 32 => 173 | 37 => 174 | 38 => 175 | 39 => 176 | 41 => 185 | n => n, fun | 27 => 115 | 29 => 9 | 3 => 3 | 32 => 40 | 26 => 115 | 0 => 0 | 44 => 204 | 46 => 127 | 4 => 4 | 36 => 239 | 35 => 238 | 41 => 53 | 5 => 5 | 9 => 9 | 53 => 249 | 57 => 252 | 63 => 257 | 64 => 258 | n => n, fun | n => n⟩
theorem Tryz.sort117 : Go.Proofs.SlLaysM.n6 Tryz.prog Tryz.sort117_ren := {
  mixed := by kernel_rfl
  f6 := ⟨Tryz.f117.name, by decide, Tryz.func117.trans (congrArg some (by kernel_rfl))⟩
  f8 := Tryz.func138.trans (congrArg some (by kernel_rfl))
  f9 := ⟨Tryz.f137.name, by decide, Tryz.func137.trans (congrArg some (by kernel_rfl))⟩
  f19 := Tryz.func163.trans (congrArg some (by kernel_rfl))
  f20 := Tryz.func164.trans (congrArg some (by kernel_rfl))
  f21 := ⟨Tryz.f154.name, by decide, Tryz.func154.trans (congrArg some (by kernel_rfl))⟩
  f22 := ⟨Tryz.f155.name, by decide, Tryz.func155.trans (congrArg some (by kernel_rfl))⟩
  f23 := ⟨Tryz.f156.name, by decide, Tryz.func156.trans (congrArg some (by kernel_rfl))⟩
  f24 := ⟨Tryz.f157.name, by decide, Tryz.func157.trans (congrArg some (by kernel_rfl))⟩
  f25 := ⟨Tryz.f158.name, by decide, Tryz.func158.trans (congrArg some (by kernel_rfl))⟩
  f26 := ⟨Tryz.f159.name, by decide, Tryz.func159.trans (congrArg some (by kernel_rfl))⟩
  f27 := ⟨Tryz.f160.name, by decide, Tryz.func160.trans (congrArg some (by kernel_rfl))⟩
  f28 := ⟨Tryz.f161.name, by decide, Tryz.func161.trans (congrArg some (by kernel_rfl))⟩
  f29 := ⟨Tryz.f162.name, by decide, Tryz.func162.trans (congrArg some (by kernel_rfl))⟩
  f31 := Tryz.func172.trans (congrArg some (by kernel_rfl))
  f32 := Tryz.func173.trans (congrArg some (by kernel_rfl))
  f36 := ⟨Tryz.f171.name, by decide, Tryz.func171.trans (congrArg some (by kernel_rfl))⟩
  f37 := ⟨Tryz.f174.name, by decide, Tryz.func174.trans (congrArg some (by kernel_rfl))⟩
  f38 := ⟨Tryz.f175.name, by decide, Tryz.func175.trans (congrArg some (by kernel_rfl))⟩
  f39 := ⟨Tryz.f176.name, by decide, Tryz.func176.trans (congrArg some (by kernel_rfl))⟩
  f41 := ⟨Tryz.f185.name, by decide, Tryz.func185.trans (congrArg some (by kernel_rfl))⟩
  t0 := Tryz.underlying0
  a0 := Tryz.isAgg0
  z0 := Tryz.sizeOf0
  v0 := Tryz.zeroValue0
  t3 := Tryz.underlying3
  a3 := Tryz.isAgg3
  z3 := Tryz.sizeOf3
  v3 := Tryz.zeroValue3
  t4 := Tryz.underlying4
  a4 := Tryz.isAgg4
  z4 := Tryz.sizeOf4
  v4 := Tryz.zeroValue4
  t5 := Tryz.underlying5
  a5 := Tryz.isAgg5
  z5 := Tryz.sizeOf5
  v5 := Tryz.zeroValue5
  t9 := Tryz.underlying9
  a9 := Tryz.isAgg9
  z9 := Tryz.sizeOf9
  v9 := Tryz.zeroValue9
  t26 := Tryz.underlying115
  a26 := Tryz.isAgg115
  z26 := Tryz.sizeOf115
  v26 := Tryz.zeroValue115
  t27 := Tryz.underlying115
  a27 := Tryz.isAgg115
  z27 := Tryz.sizeOf115
  v27 := Tryz.zeroValue115
  t29 := Tryz.underlying9
  a29 := Tryz.isAgg9
  z29 := Tryz.sizeOf9
  v29 := Tryz.zeroValue9
  t32 := Tryz.underlying40
  a32 := Tryz.isAgg40
  z32 := Tryz.sizeOf40
  v32 := Tryz.zeroValue40
  t35 := Tryz.underlying238
  a35 := Tryz.isAgg238
  z35 := Tryz.sizeOf238
  v35 := Tryz.zeroValue238
  t36 := Tryz.underlying239
  a36 := Tryz.isAgg239
  z36 := Tryz.sizeOf239
  v36 := Tryz.zeroValue239
  t41 := Tryz.underlying53
  a41 := Tryz.isAgg53
  z41 := Tryz.sizeOf53
  v41 := Tryz.zeroValue53
  t44 := Tryz.underlying204
  a44 := Tryz.isAgg204
  z44 := Tryz.sizeOf204
  v44 := Tryz.zeroValue204
  t46 := Tryz.underlying127
  a46 := Tryz.isAgg127
  z46 := Tryz.sizeOf127
  v46 := Tryz.zeroValue127
  t53 := Tryz.underlying249
  a53 := Tryz.isAgg249
  z53 := Tryz.sizeOf249
  v53 := Tryz.zeroValue249
  t57 := Tryz.underlying252
  a57 := Tryz.isAgg252
  z57 := Tryz.sizeOf252
  v57 := Tryz.zeroValue252
  t63 := Tryz.underlying257
  a63 := Tryz.isAgg257
  z63 := Tryz.sizeOf257
  v63 := Tryz.zeroValue257
  t64 := Tryz.underlying258
  a64 := Tryz.isAgg258
  z64 := Tryz.sizeOf258
  v64 := Tryz.zeroValue258 }
open Go.RowKit Go.Maps Go.Sort in
theorem Tryz.sorts86 (m : Nat) : AnyZ.SortsIn Tryz.prog Tryz.sorted86_ren Fence.wide m :=
  ⟨fun blk off cap ss W hH hblk hsz => callsIn_wide.2 (AnyM.slices_Sort_string Tryz.sort117 blk off cap ss W hH hblk hsz),
   fun p cap W => callsIn_wide.2 (AnyM.slices_Sort_string_none Tryz.sort117 p cap W)⟩
open Go.RowKit Go.Maps Go.Sort in
theorem Tryz.maps_Keys_87 (mb : Option Nat) (W : World) : CallsIn Fence.wide 5 Tryz.prog 87 #[.map mb] W fun e w' => e = .returned (.func (.func 118) #[] #[.pointer (some ⟨W.heap.size, 0, none⟩)]) ∧ w' = W.alloc (.cells #[.map mb] 77) :=
  AnyZ.keys_in Tryz.keys87 Fence.wide 5 trivial rfl mb W
open Go.RowKit Go.Maps Go.Sort in
theorem Tryz.slices_Sorted_keys_86_87 {H : Type} (b nn : Nat) (D0 : DataW H) (R : Value → Option (DataW H × List MemPlace)) (w : World) (hown : w.ownsMap Tryz.prog 9 R b nn D0) (hmax : Maps.size D0 ≤ maxLen) (hbytes : Maps.size D0 * 16 ≤ 140737488355328) :
    CallsIn Fence.wide 5 Tryz.prog 86 #[.func (.func 118) #[] #[.pointer (some ⟨w.heap.size, 0, none⟩)]] (w.alloc (.cells #[.map (some b)] 77)) fun e w' => ∃ (v : Value) (ss : List (List UInt8)), e = .returned v ∧ ss.Perm (strKeys D0) ∧
      w'.ownsRow (w.alloc (.cells #[.map (some b)] 77)).heap.size 9 1 v ss.length ((ss.mergeSort (fun x y => decide (x ≤ y))).map encStr) ∧ (v = .slice none 0 0 ↔ ss = []) ∧ Below (w.alloc (.cells #[.map (some b)] 77)).heap.size (w.alloc (.cells #[.map (some b)] 77)) w' := by
  have hbl := hown.lt
  have hseq : SeqGives Fence.wide 2 Tryz.prog 118 #[.pointer (some ⟨w.heap.size, 0, none⟩)] encStr (fun ss => ss.Perm (strKeys D0)) (Maps.size D0) (w.alloc (.cells #[.map (some b)] 77)) :=
    AnyZ.keys_gives (ρ := Tryz.keys87_ren) { Tryz.keys87 with } Fence.wide _ trivial rfl (by omega) w.heap.size b nn D0 _ (by simp) (by simp) (by
      obtain ⟨es, clock, hb, Ft, hs, hD⟩ := hown
      exact ⟨es, clock, (Below.heap_alloc _ _ b hbl).trans hb, Ft, hs, hD⟩)
  exact AnyZ.sorted_in Tryz.sorted86 Fence.wide 5 trivial trivial trivial trivial rfl (by omega) (Tryz.sorts86 _) (enters_of Tryz.func117 (by kernel_rfl) rfl) 118 #[.pointer (some ⟨w.heap.size, 0, none⟩)] trivial (enters_of Tryz.func118 (by kernel_rfl) rfl) _ _ hmax hbytes _ hseq
open Go.RowKit Go.Maps Go.Sort in
theorem Tryz.slices_Sorted_keys_nil_86_87 (w : World) :
    CallsIn Fence.wide 5 Tryz.prog 86 #[.func (.func 118) #[] #[.pointer (some ⟨w.heap.size, 0, none⟩)]] (w.alloc (.cells #[.map none] 77)) fun e w' => ∃ (v : Value) (ss : List (List UInt8)), e = .returned v ∧ ss = [] ∧
      w'.ownsRow (w.alloc (.cells #[.map none] 77)).heap.size 9 1 v ss.length ((ss.mergeSort (fun x y => decide (x ≤ y))).map encStr) ∧ (v = .slice none 0 0 ↔ ss = []) ∧ Below (w.alloc (.cells #[.map none] 77)).heap.size (w.alloc (.cells #[.map none] 77)) w' := by
  have hseq : SeqGives Fence.wide 2 Tryz.prog 118 #[.pointer (some ⟨w.heap.size, 0, none⟩)] encStr (fun ss : List (List UInt8) => ss = []) 0 (w.alloc (.cells #[.map none] 77)) :=
    AnyZ.keys_gives_nil (ρ := Tryz.keys87_ren) { Tryz.keys87 with } Fence.wide _ trivial rfl w.heap.size _ (by simp) (by simp)
  exact AnyZ.sorted_in Tryz.sorted86 Fence.wide 5 trivial trivial trivial trivial rfl (by omega) (Tryz.sorts86 _) (enters_of Tryz.func117 (by kernel_rfl) rfl) 118 #[.pointer (some ⟨w.heap.size, 0, none⟩)] trivial (enters_of Tryz.func118 (by kernel_rfl) rfl) _ 0 (Nat.zero_le _) (by omega) _ hseq
end Go.Proofs
