/-
  DERIVED: THE SHELF's CONTRACTS AT THIS DUMP, IN PLAIN WORDS (tools/lay-plain.mjs out of 'TrydShelf.lean', which tools/lay-shelf.mjs wrote): THE SAME DECLARATIONS UNDER THE SAME NAMES: 'import', 'namespace', 'open', 'def', 'theorem' AND NOTHING ELSE: no command of the shelf's: FOR A HAND-IN. Each laying: the table of numbers ('.._ren') and one theorem, a field a fact of the dump's own or the kernel's comparison; each contract: ONE APPLICATION.
-/
import Derived.Shelf.SlGeneric
import Derived.Shelf.Strings.SlTrimAscii
import Derived.Shelf.SlMaps.Clone
import Derived.Shelf.SlIter.Nil
import Derived.Shelf.SortM.Plain
import Derived.Shelf.SortM.SortNone
import Derived.Ground.GgzProg
import Derived.Ground.SlgmProg
import Derived.Ground.SlmcProg
import Derived.Test.YtabkeaammiellaaDoorProg
namespace Go.Proofs
open Go.Shelf
def Tryd.lays160_ren : Go.Shelf.Ren := ⟨fun | 160 => 54 | 232 => 71 | 231 => 70 | 227 => 72 | 234 => 74 | 233 => 73 | 236 => 76 | 235 => 75 | 228 => 84 | 271 => 87 | 151 => 86 | 197 => 85 | 120 => 102 | 152 => 101 | 260 => 100 | 137 => 110 | 119 => 111 | 224 => 112 | 225 => 113 | 217 => 114 | 266 => 117 | n => n, fun | 9 => 9 | 4 => 4 | 3 => 3 | 5 => 5 | 117 => 123 | 116 => 122 | 0 => 0 | 124 => 126 | 21 => 21 | 105 => 133 | 46 => 41 | 119 => 156 | 139 => 159 | 138 => 158 | n => n, fun | 3 => 0 | 4 => 1 | n => n⟩
theorem Tryd.lays160 : Go.Proofs.Lays.n160 Tryd.prog Tryd.lays160_ren := {
  mixed := by kernel_rfl
  f119 := Tryd.func111.trans (congrArg some (by kernel_rfl))
  f120 := Tryd.func102.trans (congrArg some (by kernel_rfl))
  f137 := Tryd.func110.trans (congrArg some (by kernel_rfl))
  f151 := Tryd.func86.trans (congrArg some (by kernel_rfl))
  f152 := Tryd.func101.trans (congrArg some (by kernel_rfl))
  f160 := Tryd.func54.trans (congrArg some (by kernel_rfl))
  f197 := Tryd.func85.trans (congrArg some (by kernel_rfl))
  f217 := Tryd.func114.trans (congrArg some (by kernel_rfl))
  f224 := Tryd.func112.trans (congrArg some (by kernel_rfl))
  f225 := Tryd.func113.trans (congrArg some (by kernel_rfl))
  f227 := Tryd.func72.trans (congrArg some (by kernel_rfl))
  f228 := Tryd.func84.trans (congrArg some (by kernel_rfl))
  f231 := Tryd.func70.trans (congrArg some (by kernel_rfl))
  f232 := Tryd.func71.trans (congrArg some (by kernel_rfl))
  f233 := Tryd.func73.trans (congrArg some (by kernel_rfl))
  f234 := Tryd.func74.trans (congrArg some (by kernel_rfl))
  f235 := Tryd.func75.trans (congrArg some (by kernel_rfl))
  f236 := Tryd.func76.trans (congrArg some (by kernel_rfl))
  f260 := Tryd.func100.trans (congrArg some (by kernel_rfl))
  f266 := Tryd.func117.trans (congrArg some (by kernel_rfl))
  f271 := Tryd.func87.trans (congrArg some (by kernel_rfl))
  t0 := Tryd.underlying0
  a0 := Tryd.isAgg0
  z0 := Tryd.sizeOf0
  v0 := Tryd.zeroValue0
  t3 := Tryd.underlying3
  a3 := Tryd.isAgg3
  z3 := Tryd.sizeOf3
  v3 := Tryd.zeroValue3
  t4 := Tryd.underlying4
  a4 := Tryd.isAgg4
  z4 := Tryd.sizeOf4
  v4 := Tryd.zeroValue4
  t5 := Tryd.underlying5
  a5 := Tryd.isAgg5
  z5 := Tryd.sizeOf5
  v5 := Tryd.zeroValue5
  t9 := Tryd.underlying9
  a9 := Tryd.isAgg9
  z9 := Tryd.sizeOf9
  v9 := Tryd.zeroValue9
  t21 := Tryd.underlying21
  a21 := Tryd.isAgg21
  z21 := Tryd.sizeOf21
  v21 := Tryd.zeroValue21
  t46 := Tryd.underlying41
  a46 := Tryd.isAgg41
  z46 := Tryd.sizeOf41
  v46 := Tryd.zeroValue41
  t105 := Tryd.underlying133
  a105 := Tryd.isAgg133
  z105 := Tryd.sizeOf133
  v105 := Tryd.zeroValue133
  t116 := Tryd.underlying122
  a116 := Tryd.isAgg122
  z116 := Tryd.sizeOf122
  t117 := Tryd.underlying123
  a117 := Tryd.isAgg123
  z117 := Tryd.sizeOf123
  v117 := Tryd.zeroValue123
  t119 := Tryd.underlying156
  a119 := Tryd.isAgg156
  z119 := Tryd.sizeOf156
  t124 := Tryd.underlying126
  a124 := Tryd.isAgg126
  z124 := Tryd.sizeOf126
  v124 := Tryd.zeroValue126
  t138 := Tryd.underlying158
  a138 := Tryd.isAgg158
  z138 := Tryd.sizeOf158
  v138 := Tryd.zeroValue158
  t139 := Tryd.underlying159
  a139 := Tryd.isAgg159
  z139 := Tryd.sizeOf159
  v139 := Tryd.zeroValue159
  g3 := by kernel_rfl
  g4 := by kernel_rfl }
open Go.RowKit in
theorem Tryd.strings_Trim_any (s cutset : ByteArray) (w : World) (hs : s.size ≤ 9223372036854775807) (hcs : cutset.size < 4294967281) (hascii : ∀ (j : Nat) b, cutset.data.toList[j]? = some b → b.toNat < 128) :
    Calls Tryd.prog 54 #[.string s, .string cutset] w fun e w' => e = .returned (.string ⟨(Lib.trimS s.data.toList cutset.data.toList).toArray⟩) ∧ Below w.heap.size w w' := Any.strings_Trim_laid Tryd.lays160 (by kernel_rfl) s cutset w hs hcs hascii
def Tryd.clone5_ren : Go.Shelf.Ren := ⟨fun | 5 => 41 | 7 => 58 | n => n, fun | 23 => 79 | 25 => 9 | 3 => 33 | 4 => 4 | 20 => 20 | n => n, fun | n => n⟩
theorem Tryd.clone5 : Go.Proofs.SlLaysW.n5 Tryd.prog Tryd.clone5_ren := {
  mixed := by kernel_rfl
  f5 := ⟨Tryd.f41.name, by decide, Tryd.func41.trans (congrArg some (by kernel_rfl))⟩
  f7 := Tryd.func58.trans (congrArg some (by kernel_rfl))
  t4 := Tryd.underlying4
  a4 := Tryd.isAgg4
  z4 := Tryd.sizeOf4
  v4 := Tryd.zeroValue4
  t20 := Tryd.underlying20
  a20 := Tryd.isAgg20
  z20 := Tryd.sizeOf20
  v20 := Tryd.zeroValue20
  t23 := Tryd.underlying79
  a23 := Tryd.isAgg79
  z23 := Tryd.sizeOf79
  v23 := Tryd.zeroValue79 }
open Go.RowKit in
theorem Tryd.maps_Clone_any (b : Nat) (es : Array MapEntry) (clock : Nat) (w : World) (hb : w.heap[b]? = some (.map es clock)) :
    Calls Tryd.prog 41 #[.map (some b)] w fun e w' => e = .returned (.map (some w.heap.size)) ∧ w' = w.alloc (.map es clock) := AnyW.maps_Clone Tryd.clone5 b es clock w hb
def Tryd.keys45_ren : Go.Shelf.Ren := ⟨fun | 7 => 45 | 10 => 61 | n => n, fun | 23 => 79 | 26 => 9 | 3 => 33 | 28 => 91 | 0 => 0 | 27 => 90 | 33 => 67 | 4 => 4 | n => n, fun | n => n⟩
theorem Tryd.keys45 : Go.Proofs.SlLaysZ.n7 Tryd.prog Tryd.keys45_ren := {
  mixed := by kernel_rfl
  f7 := ⟨Tryd.f45.name, by decide, Tryd.func45.trans (congrArg some (by kernel_rfl))⟩
  f10 := ⟨Tryd.f61.name, by decide, Tryd.func61.trans (congrArg some (by kernel_rfl))⟩
  t0 := Tryd.underlying0
  a0 := Tryd.isAgg0
  z0 := Tryd.sizeOf0
  v0 := Tryd.zeroValue0
  t4 := Tryd.underlying4
  a4 := Tryd.isAgg4
  z4 := Tryd.sizeOf4
  v4 := Tryd.zeroValue4
  t23 := Tryd.underlying79
  a23 := Tryd.isAgg79
  z23 := Tryd.sizeOf79
  v23 := Tryd.zeroValue79
  t26 := Tryd.underlying9
  a26 := Tryd.isAgg9
  z26 := Tryd.sizeOf9
  v26 := Tryd.zeroValue9
  t27 := Tryd.underlying90
  a27 := Tryd.isAgg90
  z27 := Tryd.sizeOf90
  v27 := Tryd.zeroValue90
  t28 := Tryd.underlying91
  a28 := Tryd.isAgg91
  z28 := Tryd.sizeOf91
  v28 := Tryd.zeroValue91
  t33 := Tryd.underlying67
  a33 := Tryd.isAgg67
  z33 := Tryd.sizeOf67
  v33 := Tryd.zeroValue67 }
def Tryd.sorted44_ren : Go.Shelf.Ren := ⟨fun | 6 => 44 | 8 => 59 | 9 => 60 | 11 => 79 | 13 => 81 | 12 => 80 | 23 => 98 | 24 => 99 | 14 => 89 | 15 => 90 | 16 => 91 | 17 => 92 | 18 => 93 | 19 => 94 | 20 => 95 | 21 => 96 | 22 => 97 | 25 => 104 | 26 => 105 | 27 => 106 | 28 => 107 | 29 => 108 | 30 => 109 | 31 => 116 | n => n, fun | 26 => 9 | 28 => 91 | 24 => 47 | 0 => 0 | 3 => 3 | 37 => 41 | 48 => 146 | 50 => 148 | 4 => 4 | 40 => 139 | 39 => 138 | 45 => 143 | 5 => 5 | 9 => 9 | 51 => 150 | 55 => 154 | 57 => 163 | 58 => 164 | 33 => 67 | n => n, fun | n => n⟩
theorem Tryd.sorted44 : Go.Proofs.SlLaysZ.n6 Tryd.prog Tryd.sorted44_ren := {
  mixed := by kernel_rfl
  f6 := ⟨Tryd.f44.name, by decide, Tryd.func44.trans (congrArg some (by kernel_rfl))⟩
  f8 := ⟨Tryd.f59.name, by decide, Tryd.func59.trans (congrArg some (by kernel_rfl))⟩
  f11 := ⟨Tryd.f79.name, by decide, Tryd.func79.trans (congrArg some (by kernel_rfl))⟩
  t0 := Tryd.underlying0
  a0 := Tryd.isAgg0
  z0 := Tryd.sizeOf0
  v0 := Tryd.zeroValue0
  t24 := Tryd.underlying47
  a24 := Tryd.isAgg47
  z24 := Tryd.sizeOf47
  v24 := Tryd.zeroValue47
  t26 := Tryd.underlying9
  a26 := Tryd.isAgg9
  z26 := Tryd.sizeOf9
  v26 := Tryd.zeroValue9
  t28 := Tryd.underlying91
  a28 := Tryd.isAgg91
  z28 := Tryd.sizeOf91
  v28 := Tryd.zeroValue91
  i26 := by kernel_rfl }
def Tryd.sort60_ren : Go.Shelf.Ren := ⟨fun | 6 => 60 | 8 => 81 | 9 => 80 | 19 => 98 | 20 => 99 | 21 => 89 | 22 => 90 | 23 => 91 | 24 => 92 | 25 => 93 | 26 => 94 | 27 => 95 | 28 => 96 | 29 => 97 | 36 => 104 | 31 => 105 | 32 => 106 | 37 => 107 | 38 => 108 | 39 => 109 | 41 => 116 | n => n, fun | 27 => 47 | 29 => 9 | 3 => 3 | 32 => 41 | 26 => 47 | 0 => 0 | 44 => 146 | 46 => 148 | 4 => 4 | 36 => 139 | 35 => 138 | 41 => 143 | 5 => 5 | 9 => 9 | 53 => 150 | 57 => 154 | 63 => 163 | 64 => 164 | n => n, fun | n => n⟩
theorem Tryd.sort60 : Go.Proofs.SlLaysM.n6 Tryd.prog Tryd.sort60_ren := {
  mixed := by kernel_rfl
  f6 := ⟨Tryd.f60.name, by decide, Tryd.func60.trans (congrArg some (by kernel_rfl))⟩
  f8 := Tryd.func81.trans (congrArg some (by kernel_rfl))
  f9 := ⟨Tryd.f80.name, by decide, Tryd.func80.trans (congrArg some (by kernel_rfl))⟩
  f19 := Tryd.func98.trans (congrArg some (by kernel_rfl))
  f20 := Tryd.func99.trans (congrArg some (by kernel_rfl))
  f21 := ⟨Tryd.f89.name, by decide, Tryd.func89.trans (congrArg some (by kernel_rfl))⟩
  f22 := ⟨Tryd.f90.name, by decide, Tryd.func90.trans (congrArg some (by kernel_rfl))⟩
  f23 := ⟨Tryd.f91.name, by decide, Tryd.func91.trans (congrArg some (by kernel_rfl))⟩
  f24 := ⟨Tryd.f92.name, by decide, Tryd.func92.trans (congrArg some (by kernel_rfl))⟩
  f25 := ⟨Tryd.f93.name, by decide, Tryd.func93.trans (congrArg some (by kernel_rfl))⟩
  f26 := ⟨Tryd.f94.name, by decide, Tryd.func94.trans (congrArg some (by kernel_rfl))⟩
  f27 := ⟨Tryd.f95.name, by decide, Tryd.func95.trans (congrArg some (by kernel_rfl))⟩
  f28 := ⟨Tryd.f96.name, by decide, Tryd.func96.trans (congrArg some (by kernel_rfl))⟩
  f29 := ⟨Tryd.f97.name, by decide, Tryd.func97.trans (congrArg some (by kernel_rfl))⟩
  f31 := Tryd.func105.trans (congrArg some (by kernel_rfl))
  f32 := Tryd.func106.trans (congrArg some (by kernel_rfl))
  f36 := ⟨Tryd.f104.name, by decide, Tryd.func104.trans (congrArg some (by kernel_rfl))⟩
  f37 := ⟨Tryd.f107.name, by decide, Tryd.func107.trans (congrArg some (by kernel_rfl))⟩
  f38 := ⟨Tryd.f108.name, by decide, Tryd.func108.trans (congrArg some (by kernel_rfl))⟩
  f39 := ⟨Tryd.f109.name, by decide, Tryd.func109.trans (congrArg some (by kernel_rfl))⟩
  f41 := ⟨Tryd.f116.name, by decide, Tryd.func116.trans (congrArg some (by kernel_rfl))⟩
  t0 := Tryd.underlying0
  a0 := Tryd.isAgg0
  z0 := Tryd.sizeOf0
  v0 := Tryd.zeroValue0
  t3 := Tryd.underlying3
  a3 := Tryd.isAgg3
  z3 := Tryd.sizeOf3
  v3 := Tryd.zeroValue3
  t4 := Tryd.underlying4
  a4 := Tryd.isAgg4
  z4 := Tryd.sizeOf4
  v4 := Tryd.zeroValue4
  t5 := Tryd.underlying5
  a5 := Tryd.isAgg5
  z5 := Tryd.sizeOf5
  v5 := Tryd.zeroValue5
  t9 := Tryd.underlying9
  a9 := Tryd.isAgg9
  z9 := Tryd.sizeOf9
  v9 := Tryd.zeroValue9
  t26 := Tryd.underlying47
  a26 := Tryd.isAgg47
  z26 := Tryd.sizeOf47
  v26 := Tryd.zeroValue47
  t27 := Tryd.underlying47
  a27 := Tryd.isAgg47
  z27 := Tryd.sizeOf47
  v27 := Tryd.zeroValue47
  t29 := Tryd.underlying9
  a29 := Tryd.isAgg9
  z29 := Tryd.sizeOf9
  v29 := Tryd.zeroValue9
  t32 := Tryd.underlying41
  a32 := Tryd.isAgg41
  z32 := Tryd.sizeOf41
  v32 := Tryd.zeroValue41
  t35 := Tryd.underlying138
  a35 := Tryd.isAgg138
  z35 := Tryd.sizeOf138
  v35 := Tryd.zeroValue138
  t36 := Tryd.underlying139
  a36 := Tryd.isAgg139
  z36 := Tryd.sizeOf139
  v36 := Tryd.zeroValue139
  t41 := Tryd.underlying143
  a41 := Tryd.isAgg143
  z41 := Tryd.sizeOf143
  v41 := Tryd.zeroValue143
  t44 := Tryd.underlying146
  a44 := Tryd.isAgg146
  z44 := Tryd.sizeOf146
  v44 := Tryd.zeroValue146
  t46 := Tryd.underlying148
  a46 := Tryd.isAgg148
  z46 := Tryd.sizeOf148
  v46 := Tryd.zeroValue148
  t53 := Tryd.underlying150
  a53 := Tryd.isAgg150
  z53 := Tryd.sizeOf150
  v53 := Tryd.zeroValue150
  t57 := Tryd.underlying154
  a57 := Tryd.isAgg154
  z57 := Tryd.sizeOf154
  v57 := Tryd.zeroValue154
  t63 := Tryd.underlying163
  a63 := Tryd.isAgg163
  z63 := Tryd.sizeOf163
  v63 := Tryd.zeroValue163
  t64 := Tryd.underlying164
  a64 := Tryd.isAgg164
  z64 := Tryd.sizeOf164
  v64 := Tryd.zeroValue164 }
open Go.RowKit Go.Maps Go.Sort in
theorem Tryd.sorts44 (m : Nat) : AnyZ.SortsIn Tryd.prog Tryd.sorted44_ren Fence.wide m :=
  ⟨fun blk off cap ss W hH hblk hsz => callsIn_wide.2 (AnyM.slices_Sort_string Tryd.sort60 blk off cap ss W hH hblk hsz),
   fun p cap W => callsIn_wide.2 (AnyM.slices_Sort_string_none Tryd.sort60 p cap W)⟩
open Go.RowKit Go.Maps Go.Sort in
theorem Tryd.maps_Keys_45 (mb : Option Nat) (W : World) : CallsIn Fence.wide 5 Tryd.prog 45 #[.map mb] W fun e w' => e = .returned (.func (.func 61) #[] #[.pointer (some ⟨W.heap.size, 0, none⟩)]) ∧ w' = W.alloc (.cells #[.map mb] 79) :=
  AnyZ.keys_in Tryd.keys45 Fence.wide 5 trivial rfl mb W
open Go.RowKit Go.Maps Go.Sort in
theorem Tryd.slices_Sorted_keys_44_45 {H : Type} (b nn : Nat) (D0 : DataW H) (R : Value → Option (DataW H × List MemPlace)) (w : World) (hown : w.ownsMap Tryd.prog 9 R b nn D0) (hmax : Maps.size D0 ≤ maxLen) (hbytes : Maps.size D0 * 16 ≤ 140737488355328) :
    CallsIn Fence.wide 5 Tryd.prog 44 #[.func (.func 61) #[] #[.pointer (some ⟨w.heap.size, 0, none⟩)]] (w.alloc (.cells #[.map (some b)] 79)) fun e w' => ∃ (v : Value) (ss : List (List UInt8)), e = .returned v ∧ ss.Perm (strKeys D0) ∧
      w'.ownsRow (w.alloc (.cells #[.map (some b)] 79)).heap.size 9 1 v ss.length ((ss.mergeSort (fun x y => decide (x ≤ y))).map encStr) ∧ (v = .slice none 0 0 ↔ ss = []) ∧ Below (w.alloc (.cells #[.map (some b)] 79)).heap.size (w.alloc (.cells #[.map (some b)] 79)) w' := by
  have hbl := hown.lt
  have hseq : SeqGives Fence.wide 2 Tryd.prog 61 #[.pointer (some ⟨w.heap.size, 0, none⟩)] encStr (fun ss => ss.Perm (strKeys D0)) (Maps.size D0) (w.alloc (.cells #[.map (some b)] 79)) :=
    AnyZ.keys_gives (ρ := Tryd.keys45_ren) { Tryd.keys45 with } Fence.wide _ trivial rfl (by omega) w.heap.size b nn D0 _ (by simp) (by simp) (by
      obtain ⟨es, clock, hb, Ft, hs, hD⟩ := hown
      exact ⟨es, clock, (Below.heap_alloc _ _ b hbl).trans hb, Ft, hs, hD⟩)
  exact AnyZ.sorted_in Tryd.sorted44 Fence.wide 5 trivial trivial trivial trivial rfl (by omega) (Tryd.sorts44 _) (enters_of Tryd.func60 (by kernel_rfl) rfl) 61 #[.pointer (some ⟨w.heap.size, 0, none⟩)] trivial (enters_of Tryd.func61 (by kernel_rfl) rfl) _ _ hmax hbytes _ hseq
open Go.RowKit Go.Maps Go.Sort in
theorem Tryd.slices_Sorted_keys_nil_44_45 (w : World) :
    CallsIn Fence.wide 5 Tryd.prog 44 #[.func (.func 61) #[] #[.pointer (some ⟨w.heap.size, 0, none⟩)]] (w.alloc (.cells #[.map none] 79)) fun e w' => ∃ (v : Value) (ss : List (List UInt8)), e = .returned v ∧ ss = [] ∧
      w'.ownsRow (w.alloc (.cells #[.map none] 79)).heap.size 9 1 v ss.length ((ss.mergeSort (fun x y => decide (x ≤ y))).map encStr) ∧ (v = .slice none 0 0 ↔ ss = []) ∧ Below (w.alloc (.cells #[.map none] 79)).heap.size (w.alloc (.cells #[.map none] 79)) w' := by
  have hseq : SeqGives Fence.wide 2 Tryd.prog 61 #[.pointer (some ⟨w.heap.size, 0, none⟩)] encStr (fun ss : List (List UInt8) => ss = []) 0 (w.alloc (.cells #[.map none] 79)) :=
    AnyZ.keys_gives_nil (ρ := Tryd.keys45_ren) { Tryd.keys45 with } Fence.wide _ trivial rfl w.heap.size _ (by simp) (by simp)
  exact AnyZ.sorted_in Tryd.sorted44 Fence.wide 5 trivial trivial trivial trivial rfl (by omega) (Tryd.sorts44 _) (enters_of Tryd.func60 (by kernel_rfl) rfl) 61 #[.pointer (some ⟨w.heap.size, 0, none⟩)] trivial (enters_of Tryd.func61 (by kernel_rfl) rfl) _ 0 (Nat.zero_le _) (by omega) _ hseq
end Go.Proofs
