/- Contracts of the library functions that this seat reaches (bytes.Clone, bytes.Equal, the sorted keys of a map), laid at this seat's numbers by the tools of the kit. No condition beyond those each theorem states. -/
import Derived.Shelf.Bytes.SlSearch0
import Derived.Ground.SlbCloneProg
import Derived.Shelf.Bytes.SlClone
import Derived.Ground.SlgmProg
import Derived.Shelf.SortM.Plain
import Derived.Shelf.SortM.SortNone
import Derived.Shelf.Bytes.SlEqualAll
import Derived.Shelf.Bytes.Small
import Derived.Shelf.SlIter.Nil
import Derived.Ground.GgzProg
import Derived.Test.YtmapijpphnlcmaaProg
namespace Go.Proofs
open Go.Shelf
def Try.lays115_ren : Go.Shelf.Ren := ⟨fun | 115 => 59 | n => n, fun | 37 => 27 | 4 => 4 | 9 => 9 | 5 => 5 | n => n, fun | n => n⟩
theorem Try.lays115 : Go.Proofs.Lays.n115 Try.prog Try.lays115_ren := {
  mixed := by kernel_rfl
  f115 := Try.func59.trans (congrArg some (by kernel_rfl))
  t4 := Try.underlying4
  a4 := Try.isAgg4
  z4 := Try.sizeOf4
  v4 := Try.zeroValue4
  t9 := Try.underlying9
  a9 := Try.isAgg9
  z9 := Try.sizeOf9
  v9 := Try.zeroValue9
  t37 := Try.underlying27
  a37 := Try.isAgg27
  z37 := Try.sizeOf27
  v37 := Try.zeroValue27 }
def Try.laysSlK4_ren : Go.Shelf.Ren := ⟨fun | 4 => 46 | n => n, fun | 22 => 27 | 4 => 4 | 5 => 5 | n => n, fun | n => n⟩
theorem Try.laysSlK4 : Go.Proofs.SlLaysK.n4 Try.prog Try.laysSlK4_ren := {
  mixed := by kernel_rfl
  f4 := Try.func46.trans (congrArg some (by kernel_rfl))
  t4 := Try.underlying4
  a4 := Try.isAgg4
  z4 := Try.sizeOf4
  v4 := Try.zeroValue4
  t22 := Try.underlying27
  a22 := Try.isAgg27
  z22 := Try.sizeOf27
  v22 := Try.zeroValue27
  t5 := Try.underlying5
  i5 := by kernel_rfl }
open Go.RowKit Go.Lib in
theorem Try.bytes_Clone_at (a : Addr) (n c : Nat) (xs : List Int) (w : World) (hx : xs.length = n) (hbig : n ≤ 140737488355328) (hc : ∀ i, i < n → w.cell? (a.add i) = some (.int .u8 (xs.getD i 0))) :
    Calls Try.prog 46 #[.slice (some a) n c] w fun e w' => ∃ v', e = .returned v' ∧ w'.ownsRow w.heap.size 5 1 v' n (xs.map (Value.int .u8)) ∧ v' ≠ .slice none 0 0 ∧ Below w.heap.size w w' := Any.bytes_Clone_at Try.laysSlK4 a n c xs w hx hbig hc
open Go.RowKit Go.Lib in
theorem Try.bytes_Clone_nil (n c : Nat) (w : World) :
    Calls Try.prog 46 #[.slice none n c] w fun e w' => e = .returned (.slice none 0 0) ∧ w' = w := Any.bytes_Clone_nil Try.laysSlK4 n c w
theorem Try.bytes_Equal (v1 v2 : Value) (xs ys : List Int) (w : World) (h1 : (convert 27 9 v1).run Try.prog w = .ok (.string (strOfNums xs)) w) (h2 : (convert 27 9 v2).run Try.prog w = .ok (.string (strOfNums ys)) w) :
    Calls Try.prog 59 #[v1, v2] w fun e w' => e = .returned (.bool (Lib.bytesOf xs == Lib.bytesOf ys)) ∧ w' = w := Any.bytes_Equal Try.lays115 v1 v2 xs ys w h1 h2
def Try.keys69_ren : Go.Shelf.Ren := ⟨fun | 7 => 69 | 10 => 80 | n => n, fun | 23 => 71 | 26 => 9 | 3 => 75 | 28 => 106 | 0 => 0 | 27 => 105 | 33 => 114 | 4 => 4 | n => n, fun | n => n⟩
theorem Try.keys69 : Go.Proofs.SlLaysZ.n7 Try.prog Try.keys69_ren := {
  mixed := by kernel_rfl
  f7 := ⟨Try.f69.name, by decide, Try.func69.trans (congrArg some (by kernel_rfl))⟩
  f10 := ⟨Try.f80.name, by decide, Try.func80.trans (congrArg some (by kernel_rfl))⟩
  t0 := Try.underlying0
  a0 := Try.isAgg0
  z0 := Try.sizeOf0
  v0 := Try.zeroValue0
  t4 := Try.underlying4
  a4 := Try.isAgg4
  z4 := Try.sizeOf4
  v4 := Try.zeroValue4
  t23 := Try.underlying71
  a23 := Try.isAgg71
  z23 := Try.sizeOf71
  v23 := Try.zeroValue71
  t26 := Try.underlying9
  a26 := Try.isAgg9
  z26 := Try.sizeOf9
  v26 := Try.zeroValue9
  t27 := Try.underlying105
  a27 := Try.isAgg105
  z27 := Try.sizeOf105
  v27 := Try.zeroValue105
  t28 := Try.underlying106
  a28 := Try.isAgg106
  z28 := Try.sizeOf106
  v28 := Try.zeroValue106
  t33 := Try.underlying114
  a33 := Try.isAgg114
  z33 := Try.sizeOf114
  v33 := Try.zeroValue114 }
def Try.sorted68_ren : Go.Shelf.Ren := ⟨fun | 6 => 68 | 8 => 78 | 9 => 79 | 11 => 84 | 13 => 86 | 12 => 85 | 23 => 102 | 24 => 103 | 14 => 93 | 15 => 94 | 16 => 95 | 17 => 96 | 18 => 97 | 19 => 98 | 20 => 99 | 21 => 100 | 22 => 101 | 25 => 107 | 26 => 108 | 27 => 109 | 28 => 110 | 29 => 111 | 30 => 112 | 31 => 113 | n => n, fun | 26 => 9 | 28 => 106 | 24 => 69 | 0 => 0 | 3 => 3 | 37 => 111 | 48 => 136 | 50 => 91 | 4 => 4 | 40 => 128 | 39 => 127 | 45 => 133 | 5 => 5 | 9 => 9 | 51 => 142 | 55 => 146 | 57 => 148 | 58 => 149 | 33 => 114 | n => n, fun | n => n⟩
theorem Try.sorted68 : Go.Proofs.SlLaysZ.n6 Try.prog Try.sorted68_ren := {
  mixed := by kernel_rfl
  f6 := ⟨Try.f68.name, by decide, Try.func68.trans (congrArg some (by kernel_rfl))⟩
  f8 := ⟨Try.f78.name, by decide, Try.func78.trans (congrArg some (by kernel_rfl))⟩
  f11 := ⟨Try.f84.name, by decide, Try.func84.trans (congrArg some (by kernel_rfl))⟩
  t0 := Try.underlying0
  a0 := Try.isAgg0
  z0 := Try.sizeOf0
  v0 := Try.zeroValue0
  t24 := Try.underlying69
  a24 := Try.isAgg69
  z24 := Try.sizeOf69
  v24 := Try.zeroValue69
  t26 := Try.underlying9
  a26 := Try.isAgg9
  z26 := Try.sizeOf9
  v26 := Try.zeroValue9
  t28 := Try.underlying106
  a28 := Try.isAgg106
  z28 := Try.sizeOf106
  v28 := Try.zeroValue106
  i26 := by kernel_rfl }
def Try.sort79_ren : Go.Shelf.Ren := ⟨fun | 6 => 79 | 8 => 86 | 9 => 85 | 19 => 102 | 20 => 103 | 21 => 93 | 22 => 94 | 23 => 95 | 24 => 96 | 25 => 97 | 26 => 98 | 27 => 99 | 28 => 100 | 29 => 101 | 36 => 107 | 31 => 108 | 32 => 109 | 37 => 110 | 38 => 111 | 39 => 112 | 41 => 113 | n => n, fun | 27 => 69 | 29 => 9 | 3 => 3 | 32 => 111 | 26 => 69 | 0 => 0 | 44 => 136 | 46 => 91 | 4 => 4 | 36 => 128 | 35 => 127 | 41 => 133 | 5 => 5 | 9 => 9 | 53 => 142 | 57 => 146 | 63 => 148 | 64 => 149 | n => n, fun | n => n⟩
theorem Try.sort79 : Go.Proofs.SlLaysM.n6 Try.prog Try.sort79_ren := {
  mixed := by kernel_rfl
  f6 := ⟨Try.f79.name, by decide, Try.func79.trans (congrArg some (by kernel_rfl))⟩
  f8 := Try.func86.trans (congrArg some (by kernel_rfl))
  f9 := ⟨Try.f85.name, by decide, Try.func85.trans (congrArg some (by kernel_rfl))⟩
  f19 := Try.func102.trans (congrArg some (by kernel_rfl))
  f20 := Try.func103.trans (congrArg some (by kernel_rfl))
  f21 := ⟨Try.f93.name, by decide, Try.func93.trans (congrArg some (by kernel_rfl))⟩
  f22 := ⟨Try.f94.name, by decide, Try.func94.trans (congrArg some (by kernel_rfl))⟩
  f23 := ⟨Try.f95.name, by decide, Try.func95.trans (congrArg some (by kernel_rfl))⟩
  f24 := ⟨Try.f96.name, by decide, Try.func96.trans (congrArg some (by kernel_rfl))⟩
  f25 := ⟨Try.f97.name, by decide, Try.func97.trans (congrArg some (by kernel_rfl))⟩
  f26 := ⟨Try.f98.name, by decide, Try.func98.trans (congrArg some (by kernel_rfl))⟩
  f27 := ⟨Try.f99.name, by decide, Try.func99.trans (congrArg some (by kernel_rfl))⟩
  f28 := ⟨Try.f100.name, by decide, Try.func100.trans (congrArg some (by kernel_rfl))⟩
  f29 := ⟨Try.f101.name, by decide, Try.func101.trans (congrArg some (by kernel_rfl))⟩
  f31 := Try.func108.trans (congrArg some (by kernel_rfl))
  f32 := Try.func109.trans (congrArg some (by kernel_rfl))
  f36 := ⟨Try.f107.name, by decide, Try.func107.trans (congrArg some (by kernel_rfl))⟩
  f37 := ⟨Try.f110.name, by decide, Try.func110.trans (congrArg some (by kernel_rfl))⟩
  f38 := ⟨Try.f111.name, by decide, Try.func111.trans (congrArg some (by kernel_rfl))⟩
  f39 := ⟨Try.f112.name, by decide, Try.func112.trans (congrArg some (by kernel_rfl))⟩
  f41 := ⟨Try.f113.name, by decide, Try.func113.trans (congrArg some (by kernel_rfl))⟩
  t0 := Try.underlying0
  a0 := Try.isAgg0
  z0 := Try.sizeOf0
  v0 := Try.zeroValue0
  t3 := Try.underlying3
  a3 := Try.isAgg3
  z3 := Try.sizeOf3
  v3 := Try.zeroValue3
  t4 := Try.underlying4
  a4 := Try.isAgg4
  z4 := Try.sizeOf4
  v4 := Try.zeroValue4
  t5 := Try.underlying5
  a5 := Try.isAgg5
  z5 := Try.sizeOf5
  v5 := Try.zeroValue5
  t9 := Try.underlying9
  a9 := Try.isAgg9
  z9 := Try.sizeOf9
  v9 := Try.zeroValue9
  t26 := Try.underlying69
  a26 := Try.isAgg69
  z26 := Try.sizeOf69
  v26 := Try.zeroValue69
  t27 := Try.underlying69
  a27 := Try.isAgg69
  z27 := Try.sizeOf69
  v27 := Try.zeroValue69
  t29 := Try.underlying9
  a29 := Try.isAgg9
  z29 := Try.sizeOf9
  v29 := Try.zeroValue9
  t32 := Try.underlying111
  a32 := Try.isAgg111
  z32 := Try.sizeOf111
  v32 := Try.zeroValue111
  t35 := Try.underlying127
  a35 := Try.isAgg127
  z35 := Try.sizeOf127
  v35 := Try.zeroValue127
  t36 := Try.underlying128
  a36 := Try.isAgg128
  z36 := Try.sizeOf128
  v36 := Try.zeroValue128
  t41 := Try.underlying133
  a41 := Try.isAgg133
  z41 := Try.sizeOf133
  v41 := Try.zeroValue133
  t44 := Try.underlying136
  a44 := Try.isAgg136
  z44 := Try.sizeOf136
  v44 := Try.zeroValue136
  t46 := Try.underlying91
  a46 := Try.isAgg91
  z46 := Try.sizeOf91
  v46 := Try.zeroValue91
  t53 := Try.underlying142
  a53 := Try.isAgg142
  z53 := Try.sizeOf142
  v53 := Try.zeroValue142
  t57 := Try.underlying146
  a57 := Try.isAgg146
  z57 := Try.sizeOf146
  v57 := Try.zeroValue146
  t63 := Try.underlying148
  a63 := Try.isAgg148
  z63 := Try.sizeOf148
  v63 := Try.zeroValue148
  t64 := Try.underlying149
  a64 := Try.isAgg149
  z64 := Try.sizeOf149
  v64 := Try.zeroValue149 }
section
open Go.RowKit Go.Maps Go.Sort Go.Shelf
theorem Try.sorts68 (m : Nat) : AnyZ.SortsIn Try.prog Try.sorted68_ren Fence.wide m :=
  ⟨fun blk off cap ss W hH hblk hsz => callsIn_wide.2 (AnyM.slices_Sort_string Try.sort79 blk off cap ss W hH hblk hsz),
   fun p cap W => callsIn_wide.2 (AnyM.slices_Sort_string_none Try.sort79 p cap W)⟩

theorem Try.maps_Keys_69 (mb : Option Nat) (W : World) : CallsIn Fence.wide 5 Try.prog 69 #[.map mb] W fun e w' => e = .returned (.func (.func 80) #[] #[.pointer (some ⟨W.heap.size, 0, none⟩)]) ∧ w' = W.alloc (.cells #[.map mb] 71) :=
  AnyZ.keys_in Try.keys69 Fence.wide 5 trivial rfl mb W

set_option maxHeartbeats 1000000 in
theorem Try.slices_Sorted_keys_68_69 {H : Type} (b nn : Nat) (D0 : DataW H) (R : Value → Option (DataW H × List MemPlace)) (w : World) (hown : w.ownsMap Try.prog 9 R b nn D0) (hmax : Maps.size D0 ≤ maxLen) (hbytes : Maps.size D0 * 16 ≤ 140737488355328) :
    CallsIn Fence.wide 5 Try.prog 68 #[.func (.func 80) #[] #[.pointer (some ⟨w.heap.size, 0, none⟩)]] (w.alloc (.cells #[.map (some b)] 71)) fun e w' => ∃ (v : Value) (ss : List (List UInt8)), e = .returned v ∧ ss.Perm (strKeys D0) ∧
      w'.ownsRow (w.alloc (.cells #[.map (some b)] 71)).heap.size 9 1 v ss.length ((ss.mergeSort (fun x y => decide (x ≤ y))).map encStr) ∧ (v = .slice none 0 0 ↔ ss = []) ∧ Below (w.alloc (.cells #[.map (some b)] 71)).heap.size (w.alloc (.cells #[.map (some b)] 71)) w' := by
  have hbl := hown.lt
  have hseq : SeqGives Fence.wide 2 Try.prog 80 #[.pointer (some ⟨w.heap.size, 0, none⟩)] encStr (fun ss => ss.Perm (strKeys D0)) (Maps.size D0) (w.alloc (.cells #[.map (some b)] 71)) :=
    AnyZ.keys_gives (ρ := Try.keys69_ren) { Try.keys69 with } Fence.wide _ trivial rfl (by omega) w.heap.size b nn D0 _ (by simp) (by simp) (by
      obtain ⟨es, clock, hb, Ft, hs, hD⟩ := hown
      exact ⟨es, clock, (Below.heap_alloc _ _ b hbl).trans hb, Ft, hs, hD⟩)
  exact AnyZ.sorted_in Try.sorted68 Fence.wide 5 trivial trivial trivial trivial rfl (by omega) (Try.sorts68 _) (enters_of Try.func79 (by kernel_rfl) rfl) 80 #[.pointer (some ⟨w.heap.size, 0, none⟩)] trivial (enters_of Try.func80 (by kernel_rfl) rfl) _ _ hmax hbytes _ hseq

set_option maxHeartbeats 1000000 in
theorem Try.slices_Sorted_keys_nil_68_69 (w : World) :
    CallsIn Fence.wide 5 Try.prog 68 #[.func (.func 80) #[] #[.pointer (some ⟨w.heap.size, 0, none⟩)]] (w.alloc (.cells #[.map none] 71)) fun e w' => ∃ (v : Value) (ss : List (List UInt8)), e = .returned v ∧ ss = [] ∧
      w'.ownsRow (w.alloc (.cells #[.map none] 71)).heap.size 9 1 v ss.length ((ss.mergeSort (fun x y => decide (x ≤ y))).map encStr) ∧ (v = .slice none 0 0 ↔ ss = []) ∧ Below (w.alloc (.cells #[.map none] 71)).heap.size (w.alloc (.cells #[.map none] 71)) w' := by
  have hseq : SeqGives Fence.wide 2 Try.prog 80 #[.pointer (some ⟨w.heap.size, 0, none⟩)] encStr (fun ss : List (List UInt8) => ss = []) 0 (w.alloc (.cells #[.map none] 71)) :=
    AnyZ.keys_gives_nil (ρ := Try.keys69_ren) { Try.keys69 with } Fence.wide _ trivial rfl w.heap.size _ (by simp) (by simp)
  exact AnyZ.sorted_in Try.sorted68 Fence.wide 5 trivial trivial trivial trivial rfl (by omega) (Try.sorts68 _) (enters_of Try.func79 (by kernel_rfl) rfl) 80 #[.pointer (some ⟨w.heap.size, 0, none⟩)] trivial (enters_of Try.func80 (by kernel_rfl) rfl) _ 0 (Nat.zero_le _) (by omega) _ hseq
end
end Go.Proofs
