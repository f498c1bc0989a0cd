/-
  DERIVED: THE SHELF's CONTRACTS AT THIS DUMP, IN PLAIN WORDS (tools/lay-plain.mjs out of 'TryzShelf.lean', which tools/lay-shelf.mjs wrote): THE SAME DECLARATIONS UNDER THE SAME NAMES: 'import', 'namespace', 'open', 'def', 'theorem' AND NOTHING ELSE: no command of the shelf's: FOR A HAND-IN. Each laying: the table of numbers ('.._ren') and one theorem, a field a fact of the dump's own or the kernel's comparison; each contract: ONE APPLICATION.
-/
import Derived.Shelf.SlGeneric
import Derived.Shelf.Strings.SlTrimAscii
import Derived.Shelf.SlMaps.Clone
import Derived.Shelf.SlIter.Nil
import Derived.Shelf.SortM.Plain
import Derived.Shelf.SortM.SortNone
import Derived.Ground.GgzProg
import Derived.Ground.SlgmProg
import Derived.Ground.SlmcProg
import Derived.Test.YtddmfoldnlafaaaGreatDoorProg
namespace Go.Proofs
open Go.Shelf
def Tryz.lays160_ren : Go.Shelf.Ren := ⟨fun | 160 => 153 | 232 => 176 | 231 => 175 | 227 => 177 | 234 => 179 | 233 => 178 | 236 => 181 | 235 => 180 | 228 => 198 | 271 => 201 | 151 => 200 | 197 => 199 | 120 => 212 | 152 => 211 | 260 => 210 | 137 => 217 | 119 => 218 | 224 => 219 | 225 => 220 | 217 => 224 | 266 => 230 | n => n, fun | 9 => 9 | 4 => 4 | 3 => 3 | 5 => 5 | 117 => 282 | 116 => 281 | 0 => 0 | 124 => 285 | 21 => 21 | 105 => 296 | 46 => 36 | 119 => 310 | 139 => 313 | 138 => 312 | n => n, fun | 3 => 0 | 4 => 1 | n => n⟩
theorem Tryz.lays160 : Go.Proofs.Lays.n160 Tryz.prog Tryz.lays160_ren := {
  mixed := by kernel_rfl
  f119 := Tryz.func218.trans (congrArg some (by kernel_rfl))
  f120 := Tryz.func212.trans (congrArg some (by kernel_rfl))
  f137 := Tryz.func217.trans (congrArg some (by kernel_rfl))
  f151 := Tryz.func200.trans (congrArg some (by kernel_rfl))
  f152 := Tryz.func211.trans (congrArg some (by kernel_rfl))
  f160 := Tryz.func153.trans (congrArg some (by kernel_rfl))
  f197 := Tryz.func199.trans (congrArg some (by kernel_rfl))
  f217 := Tryz.func224.trans (congrArg some (by kernel_rfl))
  f224 := Tryz.func219.trans (congrArg some (by kernel_rfl))
  f225 := Tryz.func220.trans (congrArg some (by kernel_rfl))
  f227 := Tryz.func177.trans (congrArg some (by kernel_rfl))
  f228 := Tryz.func198.trans (congrArg some (by kernel_rfl))
  f231 := Tryz.func175.trans (congrArg some (by kernel_rfl))
  f232 := Tryz.func176.trans (congrArg some (by kernel_rfl))
  f233 := Tryz.func178.trans (congrArg some (by kernel_rfl))
  f234 := Tryz.func179.trans (congrArg some (by kernel_rfl))
  f235 := Tryz.func180.trans (congrArg some (by kernel_rfl))
  f236 := Tryz.func181.trans (congrArg some (by kernel_rfl))
  f260 := Tryz.func210.trans (congrArg some (by kernel_rfl))
  f266 := Tryz.func230.trans (congrArg some (by kernel_rfl))
  f271 := Tryz.func201.trans (congrArg some (by kernel_rfl))
  t0 := Tryz.underlying0
  a0 := Tryz.isAgg0
  z0 := Tryz.sizeOf0
  v0 := Tryz.zeroValue0
  t3 := Tryz.underlying3
  a3 := Tryz.isAgg3
  z3 := Tryz.sizeOf3
  v3 := Tryz.zeroValue3
  t4 := Tryz.underlying4
  a4 := Tryz.isAgg4
  z4 := Tryz.sizeOf4
  v4 := Tryz.zeroValue4
  t5 := Tryz.underlying5
  a5 := Tryz.isAgg5
  z5 := Tryz.sizeOf5
  v5 := Tryz.zeroValue5
  t9 := Tryz.underlying9
  a9 := Tryz.isAgg9
  z9 := Tryz.sizeOf9
  v9 := Tryz.zeroValue9
  t21 := Tryz.underlying21
  a21 := Tryz.isAgg21
  z21 := Tryz.sizeOf21
  v21 := Tryz.zeroValue21
  t46 := Tryz.underlying36
  a46 := Tryz.isAgg36
  z46 := Tryz.sizeOf36
  v46 := Tryz.zeroValue36
  t105 := Tryz.underlying296
  a105 := Tryz.isAgg296
  z105 := Tryz.sizeOf296
  v105 := Tryz.zeroValue296
  t116 := Tryz.underlying281
  a116 := Tryz.isAgg281
  z116 := Tryz.sizeOf281
  t117 := Tryz.underlying282
  a117 := Tryz.isAgg282
  z117 := Tryz.sizeOf282
  v117 := Tryz.zeroValue282
  t119 := Tryz.underlying310
  a119 := Tryz.isAgg310
  z119 := Tryz.sizeOf310
  t124 := Tryz.underlying285
  a124 := Tryz.isAgg285
  z124 := Tryz.sizeOf285
  v124 := Tryz.zeroValue285
  t138 := Tryz.underlying312
  a138 := Tryz.isAgg312
  z138 := Tryz.sizeOf312
  v138 := Tryz.zeroValue312
  t139 := Tryz.underlying313
  a139 := Tryz.isAgg313
  z139 := Tryz.sizeOf313
  v139 := Tryz.zeroValue313
  g3 := by kernel_rfl
  g4 := by kernel_rfl }
open Go.RowKit in
theorem Tryz.strings_Trim_any (s cutset : ByteArray) (w : World) (hs : s.size ≤ 9223372036854775807) (hcs : cutset.size < 4294967281) (hascii : ∀ (j : Nat) b, cutset.data.toList[j]? = some b → b.toNat < 128) :
    Calls Tryz.prog 153 #[.string s, .string cutset] w fun e w' => e = .returned (.string ⟨(Lib.trimS s.data.toList cutset.data.toList).toArray⟩) ∧ Below w.heap.size w w' := Any.strings_Trim_laid Tryz.lays160 (by kernel_rfl) s cutset w hs hcs hascii
def Tryz.clone5_ren : Go.Shelf.Ren := ⟨fun | 5 => 63 | 7 => 125 | n => n, fun | 23 => 111 | 25 => 9 | 3 => 25 | 4 => 4 | 20 => 20 | n => n, fun | n => n⟩
theorem Tryz.clone5 : Go.Proofs.SlLaysW.n5 Tryz.prog Tryz.clone5_ren := {
  mixed := by kernel_rfl
  f5 := ⟨Tryz.f63.name, by decide, Tryz.func63.trans (congrArg some (by kernel_rfl))⟩
  f7 := Tryz.func125.trans (congrArg some (by kernel_rfl))
  t4 := Tryz.underlying4
  a4 := Tryz.isAgg4
  z4 := Tryz.sizeOf4
  v4 := Tryz.zeroValue4
  t20 := Tryz.underlying20
  a20 := Tryz.isAgg20
  z20 := Tryz.sizeOf20
  v20 := Tryz.zeroValue20
  t23 := Tryz.underlying111
  a23 := Tryz.isAgg111
  z23 := Tryz.sizeOf111
  v23 := Tryz.zeroValue111 }
open Go.RowKit in
theorem Tryz.maps_Clone_any (b : Nat) (es : Array MapEntry) (clock : Nat) (w : World) (hb : w.heap[b]? = some (.map es clock)) :
    Calls Tryz.prog 63 #[.map (some b)] w fun e w' => e = .returned (.map (some w.heap.size)) ∧ w' = w.alloc (.map es clock) := AnyW.maps_Clone Tryz.clone5 b es clock w hb
def Tryz.keys105_ren : Go.Shelf.Ren := ⟨fun | 7 => 105 | 10 => 152 | n => n, fun | 23 => 111 | 26 => 9 | 3 => 25 | 28 => 197 | 0 => 0 | 27 => 196 | 33 => 199 | 4 => 4 | n => n, fun | n => n⟩
theorem Tryz.keys105 : Go.Proofs.SlLaysZ.n7 Tryz.prog Tryz.keys105_ren := {
  mixed := by kernel_rfl
  f7 := ⟨Tryz.f105.name, by decide, Tryz.func105.trans (congrArg some (by kernel_rfl))⟩
  f10 := ⟨Tryz.f152.name, by decide, Tryz.func152.trans (congrArg some (by kernel_rfl))⟩
  t0 := Tryz.underlying0
  a0 := Tryz.isAgg0
  z0 := Tryz.sizeOf0
  v0 := Tryz.zeroValue0
  t4 := Tryz.underlying4
  a4 := Tryz.isAgg4
  z4 := Tryz.sizeOf4
  v4 := Tryz.zeroValue4
  t23 := Tryz.underlying111
  a23 := Tryz.isAgg111
  z23 := Tryz.sizeOf111
  v23 := Tryz.zeroValue111
  t26 := Tryz.underlying9
  a26 := Tryz.isAgg9
  z26 := Tryz.sizeOf9
  v26 := Tryz.zeroValue9
  t27 := Tryz.underlying196
  a27 := Tryz.isAgg196
  z27 := Tryz.sizeOf196
  v27 := Tryz.zeroValue196
  t28 := Tryz.underlying197
  a28 := Tryz.isAgg197
  z28 := Tryz.sizeOf197
  v28 := Tryz.zeroValue197
  t33 := Tryz.underlying199
  a33 := Tryz.isAgg199
  z33 := Tryz.sizeOf199
  v33 := Tryz.zeroValue199 }
def Tryz.sorted104_ren : Go.Shelf.Ren := ⟨fun | 6 => 104 | 8 => 150 | 9 => 151 | 11 => 172 | 13 => 174 | 12 => 173 | 23 => 196 | 24 => 197 | 14 => 187 | 15 => 188 | 16 => 189 | 17 => 190 | 18 => 191 | 19 => 192 | 20 => 193 | 21 => 194 | 22 => 195 | 25 => 204 | 26 => 205 | 27 => 206 | 28 => 207 | 29 => 208 | 30 => 209 | 31 => 216 | n => n, fun | 26 => 9 | 28 => 197 | 24 => 115 | 0 => 0 | 3 => 3 | 37 => 36 | 48 => 254 | 50 => 125 | 4 => 4 | 40 => 289 | 39 => 288 | 45 => 67 | 5 => 5 | 9 => 9 | 51 => 300 | 55 => 303 | 57 => 307 | 58 => 308 | 33 => 199 | n => n, fun | n => n⟩
theorem Tryz.sorted104 : Go.Proofs.SlLaysZ.n6 Tryz.prog Tryz.sorted104_ren := {
  mixed := by kernel_rfl
  f6 := ⟨Tryz.f104.name, by decide, Tryz.func104.trans (congrArg some (by kernel_rfl))⟩
  f8 := ⟨Tryz.f150.name, by decide, Tryz.func150.trans (congrArg some (by kernel_rfl))⟩
  f11 := ⟨Tryz.f172.name, by decide, Tryz.func172.trans (congrArg some (by kernel_rfl))⟩
  t0 := Tryz.underlying0
  a0 := Tryz.isAgg0
  z0 := Tryz.sizeOf0
  v0 := Tryz.zeroValue0
  t24 := Tryz.underlying115
  a24 := Tryz.isAgg115
  z24 := Tryz.sizeOf115
  v24 := Tryz.zeroValue115
  t26 := Tryz.underlying9
  a26 := Tryz.isAgg9
  z26 := Tryz.sizeOf9
  v26 := Tryz.zeroValue9
  t28 := Tryz.underlying197
  a28 := Tryz.isAgg197
  z28 := Tryz.sizeOf197
  v28 := Tryz.zeroValue197
  i26 := by kernel_rfl }
def Tryz.sort151_ren : Go.Shelf.Ren := ⟨fun | 6 => 151 | 8 => 174 | 9 => 173 | 19 => 196 | 20 => 197 | 21 => 187 | 22 => 188 | 23 => 189 | 24 => 190 | 25 => 191 | 26 => 192 | 27 => 193 | 28 => 194 | 29 => 195 | 36 => 204 | 31 => 205 | 32 => 206 | 37 => 207 | 38 => 208 | 39 => 209 | 41 => 216 | n => n, fun | 27 => 115 | 29 => 9 | 3 => 3 | 32 => 36 | 26 => 115 | 0 => 0 | 44 => 254 | 46 => 125 | 4 => 4 | 36 => 289 | 35 => 288 | 41 => 67 | 5 => 5 | 9 => 9 | 53 => 300 | 57 => 303 | 63 => 307 | 64 => 308 | n => n, fun | n => n⟩
theorem Tryz.sort151 : Go.Proofs.SlLaysM.n6 Tryz.prog Tryz.sort151_ren := {
  mixed := by kernel_rfl
  f6 := ⟨Tryz.f151.name, by decide, Tryz.func151.trans (congrArg some (by kernel_rfl))⟩
  f8 := Tryz.func174.trans (congrArg some (by kernel_rfl))
  f9 := ⟨Tryz.f173.name, by decide, Tryz.func173.trans (congrArg some (by kernel_rfl))⟩
  f19 := Tryz.func196.trans (congrArg some (by kernel_rfl))
  f20 := Tryz.func197.trans (congrArg some (by kernel_rfl))
  f21 := ⟨Tryz.f187.name, by decide, Tryz.func187.trans (congrArg some (by kernel_rfl))⟩
  f22 := ⟨Tryz.f188.name, by decide, Tryz.func188.trans (congrArg some (by kernel_rfl))⟩
  f23 := ⟨Tryz.f189.name, by decide, Tryz.func189.trans (congrArg some (by kernel_rfl))⟩
  f24 := ⟨Tryz.f190.name, by decide, Tryz.func190.trans (congrArg some (by kernel_rfl))⟩
  f25 := ⟨Tryz.f191.name, by decide, Tryz.func191.trans (congrArg some (by kernel_rfl))⟩
  f26 := ⟨Tryz.f192.name, by decide, Tryz.func192.trans (congrArg some (by kernel_rfl))⟩
  f27 := ⟨Tryz.f193.name, by decide, Tryz.func193.trans (congrArg some (by kernel_rfl))⟩
  f28 := ⟨Tryz.f194.name, by decide, Tryz.func194.trans (congrArg some (by kernel_rfl))⟩
  f29 := ⟨Tryz.f195.name, by decide, Tryz.func195.trans (congrArg some (by kernel_rfl))⟩
  f31 := Tryz.func205.trans (congrArg some (by kernel_rfl))
  f32 := Tryz.func206.trans (congrArg some (by kernel_rfl))
  f36 := ⟨Tryz.f204.name, by decide, Tryz.func204.trans (congrArg some (by kernel_rfl))⟩
  f37 := ⟨Tryz.f207.name, by decide, Tryz.func207.trans (congrArg some (by kernel_rfl))⟩
  f38 := ⟨Tryz.f208.name, by decide, Tryz.func208.trans (congrArg some (by kernel_rfl))⟩
  f39 := ⟨Tryz.f209.name, by decide, Tryz.func209.trans (congrArg some (by kernel_rfl))⟩
  f41 := ⟨Tryz.f216.name, by decide, Tryz.func216.trans (congrArg some (by kernel_rfl))⟩
  t0 := Tryz.underlying0
  a0 := Tryz.isAgg0
  z0 := Tryz.sizeOf0
  v0 := Tryz.zeroValue0
  t3 := Tryz.underlying3
  a3 := Tryz.isAgg3
  z3 := Tryz.sizeOf3
  v3 := Tryz.zeroValue3
  t4 := Tryz.underlying4
  a4 := Tryz.isAgg4
  z4 := Tryz.sizeOf4
  v4 := Tryz.zeroValue4
  t5 := Tryz.underlying5
  a5 := Tryz.isAgg5
  z5 := Tryz.sizeOf5
  v5 := Tryz.zeroValue5
  t9 := Tryz.underlying9
  a9 := Tryz.isAgg9
  z9 := Tryz.sizeOf9
  v9 := Tryz.zeroValue9
  t26 := Tryz.underlying115
  a26 := Tryz.isAgg115
  z26 := Tryz.sizeOf115
  v26 := Tryz.zeroValue115
  t27 := Tryz.underlying115
  a27 := Tryz.isAgg115
  z27 := Tryz.sizeOf115
  v27 := Tryz.zeroValue115
  t29 := Tryz.underlying9
  a29 := Tryz.isAgg9
  z29 := Tryz.sizeOf9
  v29 := Tryz.zeroValue9
  t32 := Tryz.underlying36
  a32 := Tryz.isAgg36
  z32 := Tryz.sizeOf36
  v32 := Tryz.zeroValue36
  t35 := Tryz.underlying288
  a35 := Tryz.isAgg288
  z35 := Tryz.sizeOf288
  v35 := Tryz.zeroValue288
  t36 := Tryz.underlying289
  a36 := Tryz.isAgg289
  z36 := Tryz.sizeOf289
  v36 := Tryz.zeroValue289
  t41 := Tryz.underlying67
  a41 := Tryz.isAgg67
  z41 := Tryz.sizeOf67
  v41 := Tryz.zeroValue67
  t44 := Tryz.underlying254
  a44 := Tryz.isAgg254
  z44 := Tryz.sizeOf254
  v44 := Tryz.zeroValue254
  t46 := Tryz.underlying125
  a46 := Tryz.isAgg125
  z46 := Tryz.sizeOf125
  v46 := Tryz.zeroValue125
  t53 := Tryz.underlying300
  a53 := Tryz.isAgg300
  z53 := Tryz.sizeOf300
  v53 := Tryz.zeroValue300
  t57 := Tryz.underlying303
  a57 := Tryz.isAgg303
  z57 := Tryz.sizeOf303
  v57 := Tryz.zeroValue303
  t63 := Tryz.underlying307
  a63 := Tryz.isAgg307
  z63 := Tryz.sizeOf307
  v63 := Tryz.zeroValue307
  t64 := Tryz.underlying308
  a64 := Tryz.isAgg308
  z64 := Tryz.sizeOf308
  v64 := Tryz.zeroValue308 }
open Go.RowKit Go.Maps Go.Sort in
theorem Tryz.sorts104 (m : Nat) : AnyZ.SortsIn Tryz.prog Tryz.sorted104_ren Fence.wide m :=
  ⟨fun blk off cap ss W hH hblk hsz => callsIn_wide.2 (AnyM.slices_Sort_string Tryz.sort151 blk off cap ss W hH hblk hsz),
   fun p cap W => callsIn_wide.2 (AnyM.slices_Sort_string_none Tryz.sort151 p cap W)⟩
open Go.RowKit Go.Maps Go.Sort in
theorem Tryz.maps_Keys_105 (mb : Option Nat) (W : World) : CallsIn Fence.wide 5 Tryz.prog 105 #[.map mb] W fun e w' => e = .returned (.func (.func 152) #[] #[.pointer (some ⟨W.heap.size, 0, none⟩)]) ∧ w' = W.alloc (.cells #[.map mb] 111) :=
  AnyZ.keys_in Tryz.keys105 Fence.wide 5 trivial rfl mb W
open Go.RowKit Go.Maps Go.Sort in
theorem Tryz.slices_Sorted_keys_104_105 {H : Type} (b nn : Nat) (D0 : DataW H) (R : Value → Option (DataW H × List MemPlace)) (w : World) (hown : w.ownsMap Tryz.prog 9 R b nn D0) (hmax : Maps.size D0 ≤ maxLen) (hbytes : Maps.size D0 * 16 ≤ 140737488355328) :
    CallsIn Fence.wide 5 Tryz.prog 104 #[.func (.func 152) #[] #[.pointer (some ⟨w.heap.size, 0, none⟩)]] (w.alloc (.cells #[.map (some b)] 111)) fun e w' => ∃ (v : Value) (ss : List (List UInt8)), e = .returned v ∧ ss.Perm (strKeys D0) ∧
      w'.ownsRow (w.alloc (.cells #[.map (some b)] 111)).heap.size 9 1 v ss.length ((ss.mergeSort (fun x y => decide (x ≤ y))).map encStr) ∧ (v = .slice none 0 0 ↔ ss = []) ∧ Below (w.alloc (.cells #[.map (some b)] 111)).heap.size (w.alloc (.cells #[.map (some b)] 111)) w' := by
  have hbl := hown.lt
  have hseq : SeqGives Fence.wide 2 Tryz.prog 152 #[.pointer (some ⟨w.heap.size, 0, none⟩)] encStr (fun ss => ss.Perm (strKeys D0)) (Maps.size D0) (w.alloc (.cells #[.map (some b)] 111)) :=
    AnyZ.keys_gives (ρ := Tryz.keys105_ren) { Tryz.keys105 with } Fence.wide _ trivial rfl (by omega) w.heap.size b nn D0 _ (by simp) (by simp) (by
      obtain ⟨es, clock, hb, Ft, hs, hD⟩ := hown
      exact ⟨es, clock, (Below.heap_alloc _ _ b hbl).trans hb, Ft, hs, hD⟩)
  exact AnyZ.sorted_in Tryz.sorted104 Fence.wide 5 trivial trivial trivial trivial rfl (by omega) (Tryz.sorts104 _) (enters_of Tryz.func151 (by kernel_rfl) rfl) 152 #[.pointer (some ⟨w.heap.size, 0, none⟩)] trivial (enters_of Tryz.func152 (by kernel_rfl) rfl) _ _ hmax hbytes _ hseq
open Go.RowKit Go.Maps Go.Sort in
theorem Tryz.slices_Sorted_keys_nil_104_105 (w : World) :
    CallsIn Fence.wide 5 Tryz.prog 104 #[.func (.func 152) #[] #[.pointer (some ⟨w.heap.size, 0, none⟩)]] (w.alloc (.cells #[.map none] 111)) fun e w' => ∃ (v : Value) (ss : List (List UInt8)), e = .returned v ∧ ss = [] ∧
      w'.ownsRow (w.alloc (.cells #[.map none] 111)).heap.size 9 1 v ss.length ((ss.mergeSort (fun x y => decide (x ≤ y))).map encStr) ∧ (v = .slice none 0 0 ↔ ss = []) ∧ Below (w.alloc (.cells #[.map none] 111)).heap.size (w.alloc (.cells #[.map none] 111)) w' := by
  have hseq : SeqGives Fence.wide 2 Tryz.prog 152 #[.pointer (some ⟨w.heap.size, 0, none⟩)] encStr (fun ss : List (List UInt8) => ss = []) 0 (w.alloc (.cells #[.map none] 111)) :=
    AnyZ.keys_gives_nil (ρ := Tryz.keys105_ren) { Tryz.keys105 with } Fence.wide _ trivial rfl w.heap.size _ (by simp) (by simp)
  exact AnyZ.sorted_in Tryz.sorted104 Fence.wide 5 trivial trivial trivial trivial rfl (by omega) (Tryz.sorts104 _) (enters_of Tryz.func151 (by kernel_rfl) rfl) 152 #[.pointer (some ⟨w.heap.size, 0, none⟩)] trivial (enters_of Tryz.func152 (by kernel_rfl) rfl) _ 0 (Nat.zero_le _) (by omega) _ hseq
end Go.Proofs
