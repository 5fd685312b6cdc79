/- The library's contracts of bytes.Buffer's Write and Bytes at this program: each one application of a theorem of the kit's shelf, under its premises; written by the shelf's own tools. -/
import Derived.Shelf.LaysM
import Derived.Shelf.Bytes.Bytes
import Derived.Shelf.Bytes.WriteAny
import Derived.Test.YtlfkeohlnhlcoaaDoorProg
namespace Go.Proofs.YtlfkeohlnhlcoaaDoor
open Go.Shelf Go.RowKit
def lays183_ren : Go.Shelf.Ren := ⟨fun | 183 => 28 | n => n, fun | 130 => 68 | 37 => 22 | 0 => 0 | 93 => 58 | 3 => 3 | 5 => 5 | 91 => 56 | n => n, fun | n => n⟩
theorem lays183 : Go.Proofs.LaysM.n183 Tryd.prog lays183_ren := {
  mixed := by kernel_rfl
  f183 := Tryd.func28.trans (congrArg some (by kernel_rfl))
  t0 := Tryd.underlying0
  a0 := Tryd.isAgg0
  z0 := Tryd.sizeOf0
  v0 := Tryd.zeroValue0
  t3 := Tryd.underlying3
  a3 := Tryd.isAgg3
  z3 := Tryd.sizeOf3
  v3 := Tryd.zeroValue3
  t37 := Tryd.underlying22
  a37 := Tryd.isAgg22
  z37 := Tryd.sizeOf22
  v37 := Tryd.zeroValue22
  t93 := Tryd.underlying58
  a93 := Tryd.isAgg58
  z93 := Tryd.sizeOf58
  v93 := Tryd.zeroValue58
  t130 := Tryd.underlying68
  a130 := Tryd.isAgg68
  z130 := Tryd.sizeOf68
  v130 := Tryd.zeroValue68
  t5 := Tryd.underlying5
  a5 := Tryd.isAgg5
  z5 := Tryd.sizeOf5
  v5 := Tryd.zeroValue5
  t91 := Tryd.underlying56
  a91 := Tryd.isAgg56
  z91 := Tryd.sizeOf56
  v91 := Tryd.zeroValue56
  i0 := by kernel_rfl
  i3 := by kernel_rfl
  i5 := by kernel_rfl
  i37 := by kernel_rfl
  i91 := by kernel_rfl
  i93 := by kernel_rfl
  i130 := by kernel_rfl }
theorem buf_bytes (B b : Nat) (bs : List Value) (w : World) (h : Lib.IsBuffer 58 5 B b bs w) :
    Calls Tryd.prog 28 #[.pointer (some ⟨b, 0, none⟩)] w fun e w' => ∃ v, e = .returned v ∧ w'.ownsRow B 5 1 v bs.length bs ∧ ∃ n, w' = w.drewN n := Any.Buffer_Bytes lays183 B b bs w h
def lays180_ren : Go.Shelf.Ren := ⟨fun | 180 => 27 | 251 => 32 | 252 => 33 | 181 => 36 | 184 => 37 | 290 => 38 | 324 => 39 | n => n, fun | 130 => 68 | 37 => 22 | 3 => 3 | 75 => 60 | 0 => 0 | 93 => 58 | 91 => 56 | 131 => 50 | 4 => 4 | 20 => 20 | 5 => 5 | 80 => 73 | 9 => 9 | n => n, fun | 14 => 0 | n => n⟩
theorem lays180 : Go.Proofs.LaysM.n180 Tryd.prog lays180_ren := {
  mixed := by kernel_rfl
  f180 := Tryd.func27.trans (congrArg some (by kernel_rfl))
  f181 := Tryd.func36.trans (congrArg some (by kernel_rfl))
  f184 := Tryd.func37.trans (congrArg some (by kernel_rfl))
  f251 := Tryd.func32.trans (congrArg some (by kernel_rfl))
  f252 := Tryd.func33.trans (congrArg some (by kernel_rfl))
  f290 := Tryd.func38.trans (congrArg some (by kernel_rfl))
  f324 := Tryd.func39.trans (congrArg some (by kernel_rfl))
  t0 := Tryd.underlying0
  a0 := Tryd.isAgg0
  z0 := Tryd.sizeOf0
  v0 := Tryd.zeroValue0
  t3 := Tryd.underlying3
  a3 := Tryd.isAgg3
  z3 := Tryd.sizeOf3
  v3 := Tryd.zeroValue3
  t4 := Tryd.underlying4
  a4 := Tryd.isAgg4
  z4 := Tryd.sizeOf4
  v4 := Tryd.zeroValue4
  t20 := Tryd.underlying20
  a20 := Tryd.isAgg20
  z20 := Tryd.sizeOf20
  v20 := Tryd.zeroValue20
  t37 := Tryd.underlying22
  a37 := Tryd.isAgg22
  z37 := Tryd.sizeOf22
  v37 := Tryd.zeroValue22
  t75 := Tryd.underlying60
  a75 := Tryd.isAgg60
  z75 := Tryd.sizeOf60
  v75 := Tryd.zeroValue60
  t91 := Tryd.underlying56
  a91 := Tryd.isAgg56
  z91 := Tryd.sizeOf56
  v91 := Tryd.zeroValue56
  t93 := Tryd.underlying58
  a93 := Tryd.isAgg58
  z93 := Tryd.sizeOf58
  v93 := Tryd.zeroValue58
  t130 := Tryd.underlying68
  a130 := Tryd.isAgg68
  z130 := Tryd.sizeOf68
  v130 := Tryd.zeroValue68
  t131 := Tryd.underlying50
  a131 := Tryd.isAgg50
  z131 := Tryd.sizeOf50
  v131 := Tryd.zeroValue50
  g14 := by kernel_rfl
  t5 := Tryd.underlying5
  a5 := Tryd.isAgg5
  z5 := Tryd.sizeOf5
  v5 := Tryd.zeroValue5
  t9 := Tryd.underlying9
  a9 := Tryd.isAgg9
  z9 := Tryd.sizeOf9
  v9 := Tryd.zeroValue9
  t80 := Tryd.underlying73
  a80 := Tryd.isAgg73
  z80 := Tryd.sizeOf73
  v80 := Tryd.zeroValue73
  i0 := by kernel_rfl
  i3 := by kernel_rfl
  i4 := by kernel_rfl
  i5 := by kernel_rfl
  i9 := by kernel_rfl
  i20 := by kernel_rfl
  i37 := by kernel_rfl
  i75 := by kernel_rfl
  i80 := by kernel_rfl
  i91 := by kernel_rfl
  i93 := by kernel_rfl
  i130 := by kernel_rfl
  i131 := by kernel_rfl
  m14 := by kernel_rfl }
theorem buf_write (B b : Nat) (bs cs : List Value) (a : Addr) (n c : Nat) (w : World) (h : Lib.IsBuffer 58 5 B b bs w) (hBw : B ≤ w.heap.size) (h1 : ∀ v ∈ bs, v.oneCell' = true) (hn : cs.length = n) (hab : a.block ≠ b) (hsrc : ∀ j v, cs[j]? = some v → w.cell? (a.add j) = some v) (h1c : ∀ v ∈ cs, v.oneCell' = true) (hlim : bs.length + n ≤ 140737488355328) :
    Calls Tryd.prog 27 #[.pointer (some ⟨b, 0, none⟩), .slice (some a) n c] w fun e w' => e = .returned (.tuple #[.int .i64 n, .nilIface]) ∧ Lib.IsBuffer 58 5 B b (bs ++ cs) w' ∧ Below B w w' ∧ Lib.OthersKept 5 (some b) w w' := Any.Buffer_Write_any lays180 B b bs cs a n c w h hBw h1 hn hab hsrc h1c hlim
end Go.Proofs.YtlfkeohlnhlcoaaDoor

