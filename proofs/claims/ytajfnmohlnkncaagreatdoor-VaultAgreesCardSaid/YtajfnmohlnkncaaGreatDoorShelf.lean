/-
  DERIVED: THE SHELF's CONTRACTS AT THIS DUMP, IN PLAIN WORDS (tools/lay-plain.mjs out of 'TryzShelf.lean', which tools/lay-shelf.mjs wrote): THE SAME DECLARATIONS UNDER THE SAME NAMES: 'import', 'namespace', 'open', 'def', 'theorem' AND NOTHING ELSE: no command of the shelf's: FOR A HAND-IN. Each laying: the table of numbers ('.._ren') and one theorem, a field a fact of the dump's own or the kernel's comparison; each contract: ONE APPLICATION.
-/
import Derived.Shelf.SlGeneric
import Derived.Shelf.Strings.SlTrimAscii
import Derived.Shelf.SlMaps.Clone
import Derived.Shelf.SlIter.Nil
import Derived.Shelf.SortM.Plain
import Derived.Shelf.SortM.SortNone
import Derived.Ground.GgzProg
import Derived.Ground.SlgmProg
import Derived.Ground.SlmcProg
import Derived.Test.YtajfnmohlnkncaaGreatDoorProg
namespace Go.Proofs
open Go.Shelf
def Tryz.lays160_ren : Go.Shelf.Ren := ⟨fun | 160 => 121 | 232 => 146 | 231 => 145 | 227 => 147 | 234 => 149 | 233 => 148 | 236 => 151 | 235 => 150 | 228 => 176 | 271 => 179 | 151 => 178 | 197 => 177 | 120 => 201 | 152 => 200 | 260 => 199 | 137 => 212 | 119 => 213 | 224 => 191 | 225 => 190 | 217 => 189 | 266 => 209 | n => n, fun | 9 => 9 | 4 => 4 | 3 => 3 | 5 => 5 | 117 => 235 | 116 => 234 | 0 => 0 | 124 => 238 | 21 => 21 | 105 => 260 | 46 => 50 | 119 => 290 | 139 => 293 | 138 => 292 | n => n, fun | 3 => 4 | 4 => 5 | n => n⟩
theorem Tryz.lays160 : Go.Proofs.Lays.n160 Tryz.prog Tryz.lays160_ren := {
  mixed := by kernel_rfl
  f119 := Tryz.func213.trans (congrArg some (by kernel_rfl))
  f120 := Tryz.func201.trans (congrArg some (by kernel_rfl))
  f137 := Tryz.func212.trans (congrArg some (by kernel_rfl))
  f151 := Tryz.func178.trans (congrArg some (by kernel_rfl))
  f152 := Tryz.func200.trans (congrArg some (by kernel_rfl))
  f160 := Tryz.func121.trans (congrArg some (by kernel_rfl))
  f197 := Tryz.func177.trans (congrArg some (by kernel_rfl))
  f217 := Tryz.func189.trans (congrArg some (by kernel_rfl))
  f224 := Tryz.func191.trans (congrArg some (by kernel_rfl))
  f225 := Tryz.func190.trans (congrArg some (by kernel_rfl))
  f227 := Tryz.func147.trans (congrArg some (by kernel_rfl))
  f228 := Tryz.func176.trans (congrArg some (by kernel_rfl))
  f231 := Tryz.func145.trans (congrArg some (by kernel_rfl))
  f232 := Tryz.func146.trans (congrArg some (by kernel_rfl))
  f233 := Tryz.func148.trans (congrArg some (by kernel_rfl))
  f234 := Tryz.func149.trans (congrArg some (by kernel_rfl))
  f235 := Tryz.func150.trans (congrArg some (by kernel_rfl))
  f236 := Tryz.func151.trans (congrArg some (by kernel_rfl))
  f260 := Tryz.func199.trans (congrArg some (by kernel_rfl))
  f266 := Tryz.func209.trans (congrArg some (by kernel_rfl))
  f271 := Tryz.func179.trans (congrArg some (by kernel_rfl))
  t0 := Tryz.underlying0
  a0 := Tryz.isAgg0
  z0 := Tryz.sizeOf0
  v0 := Tryz.zeroValue0
  t3 := Tryz.underlying3
  a3 := Tryz.isAgg3
  z3 := Tryz.sizeOf3
  v3 := Tryz.zeroValue3
  t4 := Tryz.underlying4
  a4 := Tryz.isAgg4
  z4 := Tryz.sizeOf4
  v4 := Tryz.zeroValue4
  t5 := Tryz.underlying5
  a5 := Tryz.isAgg5
  z5 := Tryz.sizeOf5
  v5 := Tryz.zeroValue5
  t9 := Tryz.underlying9
  a9 := Tryz.isAgg9
  z9 := Tryz.sizeOf9
  v9 := Tryz.zeroValue9
  t21 := Tryz.underlying21
  a21 := Tryz.isAgg21
  z21 := Tryz.sizeOf21
  v21 := Tryz.zeroValue21
  t46 := Tryz.underlying50
  a46 := Tryz.isAgg50
  z46 := Tryz.sizeOf50
  v46 := Tryz.zeroValue50
  t105 := Tryz.underlying260
  a105 := Tryz.isAgg260
  z105 := Tryz.sizeOf260
  v105 := Tryz.zeroValue260
  t116 := Tryz.underlying234
  a116 := Tryz.isAgg234
  z116 := Tryz.sizeOf234
  t117 := Tryz.underlying235
  a117 := Tryz.isAgg235
  z117 := Tryz.sizeOf235
  v117 := Tryz.zeroValue235
  t119 := Tryz.underlying290
  a119 := Tryz.isAgg290
  z119 := Tryz.sizeOf290
  t124 := Tryz.underlying238
  a124 := Tryz.isAgg238
  z124 := Tryz.sizeOf238
  v124 := Tryz.zeroValue238
  t138 := Tryz.underlying292
  a138 := Tryz.isAgg292
  z138 := Tryz.sizeOf292
  v138 := Tryz.zeroValue292
  t139 := Tryz.underlying293
  a139 := Tryz.isAgg293
  z139 := Tryz.sizeOf293
  v139 := Tryz.zeroValue293
  g3 := by kernel_rfl
  g4 := by kernel_rfl }
open Go.RowKit in
theorem Tryz.strings_Trim_any (s cutset : ByteArray) (w : World) (hs : s.size ≤ 9223372036854775807) (hcs : cutset.size < 4294967281) (hascii : ∀ (j : Nat) b, cutset.data.toList[j]? = some b → b.toNat < 128) :
    Calls Tryz.prog 121 #[.string s, .string cutset] w fun e w' => e = .returned (.string ⟨(Lib.trimS s.data.toList cutset.data.toList).toArray⟩) ∧ Below w.heap.size w w' := Any.strings_Trim_laid Tryz.lays160 (by kernel_rfl) s cutset w hs hcs hascii
def Tryz.clone5_ren : Go.Shelf.Ren := ⟨fun | 5 => 53 | 7 => 89 | n => n, fun | 23 => 87 | 25 => 9 | 3 => 52 | 4 => 4 | 20 => 20 | n => n, fun | n => n⟩
theorem Tryz.clone5 : Go.Proofs.SlLaysW.n5 Tryz.prog Tryz.clone5_ren := {
  mixed := by kernel_rfl
  f5 := ⟨Tryz.f53.name, by decide, Tryz.func53.trans (congrArg some (by kernel_rfl))⟩
  f7 := Tryz.func89.trans (congrArg some (by kernel_rfl))
  t4 := Tryz.underlying4
  a4 := Tryz.isAgg4
  z4 := Tryz.sizeOf4
  v4 := Tryz.zeroValue4
  t20 := Tryz.underlying20
  a20 := Tryz.isAgg20
  z20 := Tryz.sizeOf20
  v20 := Tryz.zeroValue20
  t23 := Tryz.underlying87
  a23 := Tryz.isAgg87
  z23 := Tryz.sizeOf87
  v23 := Tryz.zeroValue87 }
open Go.RowKit in
theorem Tryz.maps_Clone_any (b : Nat) (es : Array MapEntry) (clock : Nat) (w : World) (hb : w.heap[b]? = some (.map es clock)) :
    Calls Tryz.prog 53 #[.map (some b)] w fun e w' => e = .returned (.map (some w.heap.size)) ∧ w' = w.alloc (.map es clock) := AnyW.maps_Clone Tryz.clone5 b es clock w hb
def Tryz.keys94_ren : Go.Shelf.Ren := ⟨fun | 7 => 94 | 10 => 120 | n => n, fun | 23 => 87 | 26 => 9 | 3 => 52 | 28 => 162 | 0 => 0 | 27 => 161 | 33 => 158 | 4 => 4 | n => n, fun | n => n⟩
theorem Tryz.keys94 : Go.Proofs.SlLaysZ.n7 Tryz.prog Tryz.keys94_ren := {
  mixed := by kernel_rfl
  f7 := ⟨Tryz.f94.name, by decide, Tryz.func94.trans (congrArg some (by kernel_rfl))⟩
  f10 := ⟨Tryz.f120.name, by decide, Tryz.func120.trans (congrArg some (by kernel_rfl))⟩
  t0 := Tryz.underlying0
  a0 := Tryz.isAgg0
  z0 := Tryz.sizeOf0
  v0 := Tryz.zeroValue0
  t4 := Tryz.underlying4
  a4 := Tryz.isAgg4
  z4 := Tryz.sizeOf4
  v4 := Tryz.zeroValue4
  t23 := Tryz.underlying87
  a23 := Tryz.isAgg87
  z23 := Tryz.sizeOf87
  v23 := Tryz.zeroValue87
  t26 := Tryz.underlying9
  a26 := Tryz.isAgg9
  z26 := Tryz.sizeOf9
  v26 := Tryz.zeroValue9
  t27 := Tryz.underlying161
  a27 := Tryz.isAgg161
  z27 := Tryz.sizeOf161
  v27 := Tryz.zeroValue161
  t28 := Tryz.underlying162
  a28 := Tryz.isAgg162
  z28 := Tryz.sizeOf162
  v28 := Tryz.zeroValue162
  t33 := Tryz.underlying158
  a33 := Tryz.isAgg158
  z33 := Tryz.sizeOf158
  v33 := Tryz.zeroValue158 }
def Tryz.sorted93_ren : Go.Shelf.Ren := ⟨fun | 6 => 93 | 8 => 118 | 9 => 119 | 11 => 142 | 13 => 144 | 12 => 143 | 23 => 174 | 24 => 175 | 14 => 165 | 15 => 166 | 16 => 167 | 17 => 168 | 18 => 169 | 19 => 170 | 20 => 171 | 21 => 172 | 22 => 173 | 25 => 193 | 26 => 194 | 27 => 195 | 28 => 196 | 29 => 197 | 30 => 198 | 31 => 211 | n => n, fun | 26 => 9 | 28 => 162 | 24 => 126 | 0 => 0 | 3 => 3 | 37 => 50 | 48 => 198 | 50 => 138 | 4 => 4 | 40 => 253 | 39 => 252 | 45 => 111 | 5 => 5 | 9 => 9 | 51 => 272 | 55 => 275 | 57 => 287 | 58 => 288 | 33 => 158 | n => n, fun | n => n⟩
theorem Tryz.sorted93 : Go.Proofs.SlLaysZ.n6 Tryz.prog Tryz.sorted93_ren := {
  mixed := by kernel_rfl
  f6 := ⟨Tryz.f93.name, by decide, Tryz.func93.trans (congrArg some (by kernel_rfl))⟩
  f8 := ⟨Tryz.f118.name, by decide, Tryz.func118.trans (congrArg some (by kernel_rfl))⟩
  f11 := ⟨Tryz.f142.name, by decide, Tryz.func142.trans (congrArg some (by kernel_rfl))⟩
  t0 := Tryz.underlying0
  a0 := Tryz.isAgg0
  z0 := Tryz.sizeOf0
  v0 := Tryz.zeroValue0
  t24 := Tryz.underlying126
  a24 := Tryz.isAgg126
  z24 := Tryz.sizeOf126
  v24 := Tryz.zeroValue126
  t26 := Tryz.underlying9
  a26 := Tryz.isAgg9
  z26 := Tryz.sizeOf9
  v26 := Tryz.zeroValue9
  t28 := Tryz.underlying162
  a28 := Tryz.isAgg162
  z28 := Tryz.sizeOf162
  v28 := Tryz.zeroValue162
  i26 := by kernel_rfl }
def Tryz.sort119_ren : Go.Shelf.Ren := ⟨fun | 6 => 119 | 8 => 144 | 9 => 143 | 19 => 174 | 20 => 175 | 21 => 165 | 22 => 166 | 23 => 167 | 24 => 168 | 25 => 169 | 26 => 170 | 27 => 171 | 28 => 172 | 29 => 173 | 36 => 193 | 31 => 194 | 32 => 195 | 37 => 196 | 38 => 197 | 39 => 198 | 41 => 211 | n => n, fun | 27 => 126 | 29 => 9 | 3 => 3 | 32 => 50 | 26 => 126 | 0 => 0 | 44 => 198 | 46 => 138 | 4 => 4 | 36 => 253 | 35 => 252 | 41 => 111 | 5 => 5 | 9 => 9 | 53 => 272 | 57 => 275 | 63 => 287 | 64 => 288 | n => n, fun | n => n⟩
theorem Tryz.sort119 : Go.Proofs.SlLaysM.n6 Tryz.prog Tryz.sort119_ren := {
  mixed := by kernel_rfl
  f6 := ⟨Tryz.f119.name, by decide, Tryz.func119.trans (congrArg some (by kernel_rfl))⟩
  f8 := Tryz.func144.trans (congrArg some (by kernel_rfl))
  f9 := ⟨Tryz.f143.name, by decide, Tryz.func143.trans (congrArg some (by kernel_rfl))⟩
  f19 := Tryz.func174.trans (congrArg some (by kernel_rfl))
  f20 := Tryz.func175.trans (congrArg some (by kernel_rfl))
  f21 := ⟨Tryz.f165.name, by decide, Tryz.func165.trans (congrArg some (by kernel_rfl))⟩
  f22 := ⟨Tryz.f166.name, by decide, Tryz.func166.trans (congrArg some (by kernel_rfl))⟩
  f23 := ⟨Tryz.f167.name, by decide, Tryz.func167.trans (congrArg some (by kernel_rfl))⟩
  f24 := ⟨Tryz.f168.name, by decide, Tryz.func168.trans (congrArg some (by kernel_rfl))⟩
  f25 := ⟨Tryz.f169.name, by decide, Tryz.func169.trans (congrArg some (by kernel_rfl))⟩
  f26 := ⟨Tryz.f170.name, by decide, Tryz.func170.trans (congrArg some (by kernel_rfl))⟩
  f27 := ⟨Tryz.f171.name, by decide, Tryz.func171.trans (congrArg some (by kernel_rfl))⟩
  f28 := ⟨Tryz.f172.name, by decide, Tryz.func172.trans (congrArg some (by kernel_rfl))⟩
  f29 := ⟨Tryz.f173.name, by decide, Tryz.func173.trans (congrArg some (by kernel_rfl))⟩
  f31 := Tryz.func194.trans (congrArg some (by kernel_rfl))
  f32 := Tryz.func195.trans (congrArg some (by kernel_rfl))
  f36 := ⟨Tryz.f193.name, by decide, Tryz.func193.trans (congrArg some (by kernel_rfl))⟩
  f37 := ⟨Tryz.f196.name, by decide, Tryz.func196.trans (congrArg some (by kernel_rfl))⟩
  f38 := ⟨Tryz.f197.name, by decide, Tryz.func197.trans (congrArg some (by kernel_rfl))⟩
  f39 := ⟨Tryz.f198.name, by decide, Tryz.func198.trans (congrArg some (by kernel_rfl))⟩
  f41 := ⟨Tryz.f211.name, by decide, Tryz.func211.trans (congrArg some (by kernel_rfl))⟩
  t0 := Tryz.underlying0
  a0 := Tryz.isAgg0
  z0 := Tryz.sizeOf0
  v0 := Tryz.zeroValue0
  t3 := Tryz.underlying3
  a3 := Tryz.isAgg3
  z3 := Tryz.sizeOf3
  v3 := Tryz.zeroValue3
  t4 := Tryz.underlying4
  a4 := Tryz.isAgg4
  z4 := Tryz.sizeOf4
  v4 := Tryz.zeroValue4
  t5 := Tryz.underlying5
  a5 := Tryz.isAgg5
  z5 := Tryz.sizeOf5
  v5 := Tryz.zeroValue5
  t9 := Tryz.underlying9
  a9 := Tryz.isAgg9
  z9 := Tryz.sizeOf9
  v9 := Tryz.zeroValue9
  t26 := Tryz.underlying126
  a26 := Tryz.isAgg126
  z26 := Tryz.sizeOf126
  v26 := Tryz.zeroValue126
  t27 := Tryz.underlying126
  a27 := Tryz.isAgg126
  z27 := Tryz.sizeOf126
  v27 := Tryz.zeroValue126
  t29 := Tryz.underlying9
  a29 := Tryz.isAgg9
  z29 := Tryz.sizeOf9
  v29 := Tryz.zeroValue9
  t32 := Tryz.underlying50
  a32 := Tryz.isAgg50
  z32 := Tryz.sizeOf50
  v32 := Tryz.zeroValue50
  t35 := Tryz.underlying252
  a35 := Tryz.isAgg252
  z35 := Tryz.sizeOf252
  v35 := Tryz.zeroValue252
  t36 := Tryz.underlying253
  a36 := Tryz.isAgg253
  z36 := Tryz.sizeOf253
  v36 := Tryz.zeroValue253
  t41 := Tryz.underlying111
  a41 := Tryz.isAgg111
  z41 := Tryz.sizeOf111
  v41 := Tryz.zeroValue111
  t44 := Tryz.underlying198
  a44 := Tryz.isAgg198
  z44 := Tryz.sizeOf198
  v44 := Tryz.zeroValue198
  t46 := Tryz.underlying138
  a46 := Tryz.isAgg138
  z46 := Tryz.sizeOf138
  v46 := Tryz.zeroValue138
  t53 := Tryz.underlying272
  a53 := Tryz.isAgg272
  z53 := Tryz.sizeOf272
  v53 := Tryz.zeroValue272
  t57 := Tryz.underlying275
  a57 := Tryz.isAgg275
  z57 := Tryz.sizeOf275
  v57 := Tryz.zeroValue275
  t63 := Tryz.underlying287
  a63 := Tryz.isAgg287
  z63 := Tryz.sizeOf287
  v63 := Tryz.zeroValue287
  t64 := Tryz.underlying288
  a64 := Tryz.isAgg288
  z64 := Tryz.sizeOf288
  v64 := Tryz.zeroValue288 }
open Go.RowKit Go.Maps Go.Sort in
theorem Tryz.sorts93 (m : Nat) : AnyZ.SortsIn Tryz.prog Tryz.sorted93_ren Fence.wide m :=
  ⟨fun blk off cap ss W hH hblk hsz => callsIn_wide.2 (AnyM.slices_Sort_string Tryz.sort119 blk off cap ss W hH hblk hsz),
   fun p cap W => callsIn_wide.2 (AnyM.slices_Sort_string_none Tryz.sort119 p cap W)⟩
open Go.RowKit Go.Maps Go.Sort in
theorem Tryz.maps_Keys_94 (mb : Option Nat) (W : World) : CallsIn Fence.wide 5 Tryz.prog 94 #[.map mb] W fun e w' => e = .returned (.func (.func 120) #[] #[.pointer (some ⟨W.heap.size, 0, none⟩)]) ∧ w' = W.alloc (.cells #[.map mb] 87) :=
  AnyZ.keys_in Tryz.keys94 Fence.wide 5 trivial rfl mb W
open Go.RowKit Go.Maps Go.Sort in
theorem Tryz.slices_Sorted_keys_93_94 {H : Type} (b nn : Nat) (D0 : DataW H) (R : Value → Option (DataW H × List MemPlace)) (w : World) (hown : w.ownsMap Tryz.prog 9 R b nn D0) (hmax : Maps.size D0 ≤ maxLen) (hbytes : Maps.size D0 * 16 ≤ 140737488355328) :
    CallsIn Fence.wide 5 Tryz.prog 93 #[.func (.func 120) #[] #[.pointer (some ⟨w.heap.size, 0, none⟩)]] (w.alloc (.cells #[.map (some b)] 87)) fun e w' => ∃ (v : Value) (ss : List (List UInt8)), e = .returned v ∧ ss.Perm (strKeys D0) ∧
      w'.ownsRow (w.alloc (.cells #[.map (some b)] 87)).heap.size 9 1 v ss.length ((ss.mergeSort (fun x y => decide (x ≤ y))).map encStr) ∧ (v = .slice none 0 0 ↔ ss = []) ∧ Below (w.alloc (.cells #[.map (some b)] 87)).heap.size (w.alloc (.cells #[.map (some b)] 87)) w' := by
  have hbl := hown.lt
  have hseq : SeqGives Fence.wide 2 Tryz.prog 120 #[.pointer (some ⟨w.heap.size, 0, none⟩)] encStr (fun ss => ss.Perm (strKeys D0)) (Maps.size D0) (w.alloc (.cells #[.map (some b)] 87)) :=
    AnyZ.keys_gives (ρ := Tryz.keys94_ren) { Tryz.keys94 with } Fence.wide _ trivial rfl (by omega) w.heap.size b nn D0 _ (by simp) (by simp) (by
      obtain ⟨es, clock, hb, Ft, hs, hD⟩ := hown
      exact ⟨es, clock, (Below.heap_alloc _ _ b hbl).trans hb, Ft, hs, hD⟩)
  exact AnyZ.sorted_in Tryz.sorted93 Fence.wide 5 trivial trivial trivial trivial rfl (by omega) (Tryz.sorts93 _) (enters_of Tryz.func119 (by kernel_rfl) rfl) 120 #[.pointer (some ⟨w.heap.size, 0, none⟩)] trivial (enters_of Tryz.func120 (by kernel_rfl) rfl) _ _ hmax hbytes _ hseq
open Go.RowKit Go.Maps Go.Sort in
theorem Tryz.slices_Sorted_keys_nil_93_94 (w : World) :
    CallsIn Fence.wide 5 Tryz.prog 93 #[.func (.func 120) #[] #[.pointer (some ⟨w.heap.size, 0, none⟩)]] (w.alloc (.cells #[.map none] 87)) fun e w' => ∃ (v : Value) (ss : List (List UInt8)), e = .returned v ∧ ss = [] ∧
      w'.ownsRow (w.alloc (.cells #[.map none] 87)).heap.size 9 1 v ss.length ((ss.mergeSort (fun x y => decide (x ≤ y))).map encStr) ∧ (v = .slice none 0 0 ↔ ss = []) ∧ Below (w.alloc (.cells #[.map none] 87)).heap.size (w.alloc (.cells #[.map none] 87)) w' := by
  have hseq : SeqGives Fence.wide 2 Tryz.prog 120 #[.pointer (some ⟨w.heap.size, 0, none⟩)] encStr (fun ss : List (List UInt8) => ss = []) 0 (w.alloc (.cells #[.map none] 87)) :=
    AnyZ.keys_gives_nil (ρ := Tryz.keys94_ren) { Tryz.keys94 with } Fence.wide _ trivial rfl w.heap.size _ (by simp) (by simp)
  exact AnyZ.sorted_in Tryz.sorted93 Fence.wide 5 trivial trivial trivial trivial rfl (by omega) (Tryz.sorts93 _) (enters_of Tryz.func119 (by kernel_rfl) rfl) 120 #[.pointer (some ⟨w.heap.size, 0, none⟩)] trivial (enters_of Tryz.func120 (by kernel_rfl) rfl) _ 0 (Nat.zero_le _) (by omega) _ hseq
end Go.Proofs
