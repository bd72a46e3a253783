/- This session's texts, joined by a program of this session's: contracts of functions, printed and typed, and plain laws; what nothing needs is left out. -/
import Derived.Test.YtnfolcefjkannaaDoorMF0
import Derived.Shelf.Strings.Builder1
import Derived.Shelf.Strings.Builder2
import Derived.Shelf.Strings.OnBuilder
import Derived.Shelf.Small.Wraps
import Derived.Shelf.Strings.BuilderF
import Derived.Shelf.Strings.BuilderK
import Derived.Shelf.Strings.Builder2Cap
import Derived.Shelf.Strings.Search1
import Derived.Shelf.Strings.Search2
import Derived.Shelf.Strings.Search3
import Derived.Shelf.Strings.Count
import Derived.Shelf.LaysM
import Derived.Shelf.Strings.Shaped
import Derived.Shelf.Strings.LastIndex
import Derived.Shelf.Strings.Split
import Derived.Shelf.Strings.SplitShaped
import Derived.Shelf.Unicode.Decode
import Derived.Shelf.Strings.RuneCount
import Derived.Shelf.Strings.Explode
import Derived.Shelf.Unicode.DecodeSlow
import Derived.Shelf.Strings.BuilderCap
import Derived.Shelf.Slices.Turned
import Derived.Ground.Names2Prog
import Derived.Shelf.Slices.Clone
import Derived.Shelf.Slices.SearchI
import Derived.Ground.PaProg
import Derived.Shelf.Path.Small
import Derived.Test.YtnfolcefjkannaaDoorProg
import Derived.WalkLawsBesides
import Derived.Below
import Derived.Deep.Draws
import Derived.Deep.AppendLies
import Derived.Maps.AppendAt
import Derived.OwnWalk
import Derived.Laws.BytesArg
import Derived.Laws.MakeOwn
import Derived.Laws.OwnMore
import Derived.Deep.OwnRows
import Derived.Tactics
import Derived.Lib.ConvBytes
import Derived.Laws.Slices
import Derived.WalkKit
import Derived.KernelRfl
import Derived.RowKit3
import Derived.Deep.LoopGhost
import Derived.Deep.QuietTactic
import Derived.BigQuiet
import Derived.WideLaws
import Derived.Deep.DeepCutAuto
import Derived.Deep.CutBlock
import Derived.Deep.RegionHeld3
import Derived.Laws.Rows
import Derived.Lib.AppendStr
import Derived.ArgAppend
import Derived.Laws.IdiomCopy
import Derived.OrdersHeld
import Derived.Laws.BitsLemmas
import Derived.RowKit
import Derived.Test.YtnfolcefjkannaaDoorRows
import Derived.ProofKit
import Derived.OpenShut
import Derived.SliceStrings
import Derived.Deep.Slices
import Derived.Lib.SmallJoins
import Derived.Carry
namespace Go.Proofs
open Go.Shelf
def Tryd.lays156_ren : Go.Shelf.Ren := ⟨fun | 156 => 77 | 165 => 92 | 166 => 93 | 169 => 94 | 240 => 98 | 241 => 99 | 276 => 105 | 277 => 106 | n => n, fun | 31 => 23 | 9 => 9 | 3 => 3 | 4 => 4 | 0 => 0 | 20 => 20 | 72 => 117 | 76 => 121 | 70 => 115 | 37 => 48 | 75 => 120 | 127 => 127 | 164 => 132 | 5 => 5 | 80 => 123 | n => n, fun | n => n⟩
theorem Tryd.lays156 : Go.Proofs.Lays.n156 Tryd.prog Tryd.lays156_ren := {
  mixed := by kernel_rfl
  f156 := Tryd.func77.trans (congrArg some (by kernel_rfl))
  f165 := Tryd.func92.trans (congrArg some (by kernel_rfl))
  f166 := Tryd.func93.trans (congrArg some (by kernel_rfl))
  f169 := Tryd.func94.trans (congrArg some (by kernel_rfl))
  f240 := Tryd.func98.trans (congrArg some (by kernel_rfl))
  f241 := Tryd.func99.trans (congrArg some (by kernel_rfl))
  f276 := Tryd.func105.trans (congrArg some (by kernel_rfl))
  f277 := Tryd.func106.trans (congrArg some (by kernel_rfl))
  t0 := Tryd.underlying0
  a0 := Tryd.isAgg0
  z0 := Tryd.sizeOf0
  v0 := Tryd.zeroValue0
  t3 := Tryd.underlying3
  a3 := Tryd.isAgg3
  z3 := Tryd.sizeOf3
  v3 := Tryd.zeroValue3
  t4 := Tryd.underlying4
  a4 := Tryd.isAgg4
  z4 := Tryd.sizeOf4
  v4 := Tryd.zeroValue4
  t9 := Tryd.underlying9
  a9 := Tryd.isAgg9
  z9 := Tryd.sizeOf9
  v9 := Tryd.zeroValue9
  t20 := Tryd.underlying20
  a20 := Tryd.isAgg20
  z20 := Tryd.sizeOf20
  v20 := Tryd.zeroValue20
  t31 := Tryd.underlying23
  a31 := Tryd.isAgg23
  z31 := Tryd.sizeOf23
  v31 := Tryd.zeroValue23
  t37 := Tryd.underlying48
  a37 := Tryd.isAgg48
  z37 := Tryd.sizeOf48
  v37 := Tryd.zeroValue48
  t70 := Tryd.underlying115
  a70 := Tryd.isAgg115
  z70 := Tryd.sizeOf115
  v70 := Tryd.zeroValue115
  t72 := Tryd.underlying117
  a72 := Tryd.isAgg117
  z72 := Tryd.sizeOf117
  v72 := Tryd.zeroValue117
  t75 := Tryd.underlying120
  a75 := Tryd.isAgg120
  z75 := Tryd.sizeOf120
  v75 := Tryd.zeroValue120
  t76 := Tryd.underlying121
  a76 := Tryd.isAgg121
  z76 := Tryd.sizeOf121
  v76 := Tryd.zeroValue121
  t127 := Tryd.underlying127
  a127 := Tryd.isAgg127
  z127 := Tryd.sizeOf127
  v127 := Tryd.zeroValue127
  t164 := Tryd.underlying132
  a164 := Tryd.isAgg132
  z164 := Tryd.sizeOf132
  v164 := Tryd.zeroValue132 }
theorem Tryd.Builder_Extra_156 : Builder.Extra Tryd.prog Tryd.lays156_ren := {
  sizeBuilder := by kernel_rfl
  liesBuilder := by kernel_rfl
  t5 := Tryd.underlying5
  a5 := Tryd.isAgg5
  z5 := Tryd.sizeOf5
  v5 := Tryd.zeroValue5
  infoByte := by kernel_rfl
  cellsByte := by kernel_rfl
  sizeByte := by kernel_rfl
  neB5 := by decide }
open Go.RowKit in
theorem Tryd.strings_Join_none (a : Option Addr) (c : Nat) (sep : ByteArray) (w : World) :
    Calls Tryd.prog 77 #[.slice a 0 c, .string sep] w fun e w' => e = .returned (.string ⟨#[]⟩) ∧ w' = w := Any.strings_Join_none Tryd.lays156 Tryd.Builder_Extra_156 a c sep w
open Go.RowKit in
theorem Tryd.strings_Join (bk o c : Nat) (xs : List ByteArray) (sep : ByteArray) (w : World) (hcells : ∀ (j : Nat) x, xs[j]? = some x → w.cell? ⟨bk, o + j, none⟩ = some (.string x)) (hbk : bk < w.heap.size) (hN : xs.length ≤ 140737488355328) (hcap : xs.length ≤ c) (hlen : (Lib.join (xs.map (·.data.toList)) sep.data.toList).length ≤ 140737488355328) :
    Calls Tryd.prog 77 #[.slice (some ⟨bk, o, none⟩) xs.length c, .string sep] w fun e w' => e = .returned (.string ⟨(Lib.join (xs.map (·.data.toList)) sep.data.toList).toArray⟩) ∧ Below w.heap.size w w' := Any.strings_Join Tryd.lays156 Tryd.Builder_Extra_156 bk o c xs sep w hcells hbk hN hcap hlen
def Tryd.lays219_ren : Go.Shelf.Ren := ⟨fun | 219 => 96 | 217 => 100 | 225 => 101 | 224 => 102 | 267 => 103 | 266 => 107 | 314 => 108 | n => n, fun | 9 => 9 | 3 => 3 | 4 => 4 | 5 => 5 | 46 => 129 | 146 => 136 | 51 => 135 | n => n, fun | 1 => 0 | n => n⟩
def Tryd.lays143_ren : Go.Shelf.Ren := ⟨fun | 143 => 90 | 219 => 96 | 217 => 100 | 225 => 101 | 224 => 102 | 267 => 103 | 266 => 107 | 314 => 108 | n => n, fun | 9 => 9 | 3 => 3 | 4 => 4 | 5 => 5 | 46 => 129 | 146 => 136 | 51 => 135 | n => n, fun | 1 => 0 | n => n⟩
theorem Tryd.lays143 : Go.Proofs.Lays.n143 Tryd.prog Tryd.lays143_ren := {
  mixed := by kernel_rfl
  f143 := Tryd.func90.trans (congrArg some (by kernel_rfl))
  f217 := Tryd.func100.trans (congrArg some (by kernel_rfl))
  f219 := Tryd.func96.trans (congrArg some (by kernel_rfl))
  f224 := Tryd.func102.trans (congrArg some (by kernel_rfl))
  f225 := Tryd.func101.trans (congrArg some (by kernel_rfl))
  f266 := Tryd.func107.trans (congrArg some (by kernel_rfl))
  f267 := Tryd.func103.trans (congrArg some (by kernel_rfl))
  f314 := Tryd.func108.trans (congrArg some (by kernel_rfl))
  t3 := Tryd.underlying3
  a3 := Tryd.isAgg3
  z3 := Tryd.sizeOf3
  v3 := Tryd.zeroValue3
  t4 := Tryd.underlying4
  a4 := Tryd.isAgg4
  z4 := Tryd.sizeOf4
  v4 := Tryd.zeroValue4
  t5 := Tryd.underlying5
  a5 := Tryd.isAgg5
  z5 := Tryd.sizeOf5
  v5 := Tryd.zeroValue5
  t9 := Tryd.underlying9
  a9 := Tryd.isAgg9
  z9 := Tryd.sizeOf9
  v9 := Tryd.zeroValue9
  t46 := Tryd.underlying129
  a46 := Tryd.isAgg129
  z46 := Tryd.sizeOf129
  v46 := Tryd.zeroValue129
  t51 := Tryd.underlying135
  a51 := Tryd.isAgg135
  z51 := Tryd.sizeOf135
  v51 := Tryd.zeroValue135
  t146 := Tryd.underlying136
  a146 := Tryd.isAgg136
  z146 := Tryd.sizeOf136
  v146 := Tryd.zeroValue136
  g1 := by kernel_rfl }
open Go.RowKit Go.Lib in
theorem Tryd.strings_Index_one (s : ByteArray) (c : UInt8) (w : World) :
    Calls Tryd.prog 90 #[.string s, .string ⟨#[c]⟩] w fun e w' => e = .returned (.int .i64 (Lib.indexByte s.data.toList c)) ∧ w' = w := Any.strings_Index_one Tryd.lays143 s c w
def Tryd.lays138_ren : Go.Shelf.Ren := ⟨fun | 138 => 74 | 195 => 88 | 218 => 89 | 143 => 90 | 219 => 96 | 217 => 100 | 225 => 101 | 224 => 102 | 267 => 103 | 266 => 107 | 314 => 108 | n => n, fun | 9 => 9 | 3 => 3 | 4 => 4 | 5 => 5 | 0 => 0 | 46 => 129 | 146 => 136 | 51 => 135 | n => n, fun | 1 => 0 | n => n⟩
theorem Tryd.lays138 : Go.Proofs.Lays.n138 Tryd.prog Tryd.lays138_ren := {
  mixed := by kernel_rfl
  f138 := Tryd.func74.trans (congrArg some (by kernel_rfl))
  f143 := Tryd.func90.trans (congrArg some (by kernel_rfl))
  f195 := Tryd.func88.trans (congrArg some (by kernel_rfl))
  f217 := Tryd.func100.trans (congrArg some (by kernel_rfl))
  f218 := Tryd.func89.trans (congrArg some (by kernel_rfl))
  f219 := Tryd.func96.trans (congrArg some (by kernel_rfl))
  f224 := Tryd.func102.trans (congrArg some (by kernel_rfl))
  f225 := Tryd.func101.trans (congrArg some (by kernel_rfl))
  f266 := Tryd.func107.trans (congrArg some (by kernel_rfl))
  f267 := Tryd.func103.trans (congrArg some (by kernel_rfl))
  f314 := Tryd.func108.trans (congrArg some (by kernel_rfl))
  t0 := Tryd.underlying0
  a0 := Tryd.isAgg0
  z0 := Tryd.sizeOf0
  v0 := Tryd.zeroValue0
  t3 := Tryd.underlying3
  a3 := Tryd.isAgg3
  z3 := Tryd.sizeOf3
  v3 := Tryd.zeroValue3
  t4 := Tryd.underlying4
  a4 := Tryd.isAgg4
  z4 := Tryd.sizeOf4
  v4 := Tryd.zeroValue4
  t5 := Tryd.underlying5
  a5 := Tryd.isAgg5
  z5 := Tryd.sizeOf5
  v5 := Tryd.zeroValue5
  t9 := Tryd.underlying9
  a9 := Tryd.isAgg9
  z9 := Tryd.sizeOf9
  v9 := Tryd.zeroValue9
  t46 := Tryd.underlying129
  a46 := Tryd.isAgg129
  z46 := Tryd.sizeOf129
  v46 := Tryd.zeroValue129
  t51 := Tryd.underlying135
  a51 := Tryd.isAgg135
  z51 := Tryd.sizeOf135
  v51 := Tryd.zeroValue135
  t146 := Tryd.underlying136
  a146 := Tryd.isAgg136
  z146 := Tryd.sizeOf136
  v146 := Tryd.zeroValue136
  g1 := by kernel_rfl }
open Go.RowKit Go.Lib in
theorem Tryd.strings_Count_one (s : ByteArray) (c : UInt8) (w : World) :
    Calls Tryd.prog 74 #[.string s, .string ⟨#[c]⟩] w fun e w' => e = .returned (.int .i64 (Lib.countByte s.data.toList c)) ∧ w' = w := Any.strings_Count_one Tryd.lays138 s c w
def Tryd.lays221_ren : Go.Shelf.Ren := ⟨fun | 221 => 91 | 268 => 97 | 138 => 74 | 143 => 90 | 195 => 88 | 197 => 104 | 218 => 89 | 219 => 96 | 260 => 109 | 217 => 100 | 225 => 101 | 224 => 102 | 267 => 103 | 266 => 107 | 314 => 108 | n => n, fun | 9 => 9 | 3 => 3 | 31 => 23 | 4 => 4 | 0 => 0 | 105 => 130 | 21 => 21 | 5 => 5 | 46 => 129 | 119 => 138 | 139 => 141 | 138 => 140 | 146 => 136 | 51 => 135 | n => n, fun | 1 => 0 | 3 => 1 | 4 => 2 | n => n⟩
theorem Tryd.lays221 : Go.Proofs.Lays.n221 Tryd.prog Tryd.lays221_ren := {
  mixed := by kernel_rfl
  f138 := Tryd.func74.trans (congrArg some (by kernel_rfl))
  f143 := Tryd.func90.trans (congrArg some (by kernel_rfl))
  f195 := Tryd.func88.trans (congrArg some (by kernel_rfl))
  f197 := Tryd.func104.trans (congrArg some (by kernel_rfl))
  f217 := Tryd.func100.trans (congrArg some (by kernel_rfl))
  f218 := Tryd.func89.trans (congrArg some (by kernel_rfl))
  f219 := Tryd.func96.trans (congrArg some (by kernel_rfl))
  f221 := Tryd.func91.trans (congrArg some (by kernel_rfl))
  f224 := Tryd.func102.trans (congrArg some (by kernel_rfl))
  f225 := Tryd.func101.trans (congrArg some (by kernel_rfl))
  f260 := Tryd.func109.trans (congrArg some (by kernel_rfl))
  f266 := Tryd.func107.trans (congrArg some (by kernel_rfl))
  f267 := Tryd.func103.trans (congrArg some (by kernel_rfl))
  f268 := Tryd.func97.trans (congrArg some (by kernel_rfl))
  f314 := Tryd.func108.trans (congrArg some (by kernel_rfl))
  t0 := Tryd.underlying0
  a0 := Tryd.isAgg0
  z0 := Tryd.sizeOf0
  v0 := Tryd.zeroValue0
  t3 := Tryd.underlying3
  a3 := Tryd.isAgg3
  z3 := Tryd.sizeOf3
  v3 := Tryd.zeroValue3
  t4 := Tryd.underlying4
  a4 := Tryd.isAgg4
  z4 := Tryd.sizeOf4
  v4 := Tryd.zeroValue4
  t5 := Tryd.underlying5
  a5 := Tryd.isAgg5
  z5 := Tryd.sizeOf5
  v5 := Tryd.zeroValue5
  t9 := Tryd.underlying9
  a9 := Tryd.isAgg9
  z9 := Tryd.sizeOf9
  v9 := Tryd.zeroValue9
  t21 := Tryd.underlying21
  a21 := Tryd.isAgg21
  z21 := Tryd.sizeOf21
  v21 := Tryd.zeroValue21
  t31 := Tryd.underlying23
  a31 := Tryd.isAgg23
  z31 := Tryd.sizeOf23
  v31 := Tryd.zeroValue23
  t46 := Tryd.underlying129
  a46 := Tryd.isAgg129
  z46 := Tryd.sizeOf129
  v46 := Tryd.zeroValue129
  t51 := Tryd.underlying135
  a51 := Tryd.isAgg135
  z51 := Tryd.sizeOf135
  v51 := Tryd.zeroValue135
  t105 := Tryd.underlying130
  a105 := Tryd.isAgg130
  z105 := Tryd.sizeOf130
  v105 := Tryd.zeroValue130
  t119 := Tryd.underlying138
  a119 := Tryd.isAgg138
  z119 := Tryd.sizeOf138
  t138 := Tryd.underlying140
  a138 := Tryd.isAgg140
  z138 := Tryd.sizeOf140
  v138 := Tryd.zeroValue140
  t139 := Tryd.underlying141
  a139 := Tryd.isAgg141
  z139 := Tryd.sizeOf141
  v139 := Tryd.zeroValue141
  t146 := Tryd.underlying136
  a146 := Tryd.isAgg136
  z146 := Tryd.sizeOf136
  v146 := Tryd.zeroValue136
  g1 := by kernel_rfl
  g3 := by kernel_rfl
  g4 := by kernel_rfl }
def Tryd.laysNm216_ren : Go.Shelf.Ren := ⟨fun | 16 => 32 | n => n, fun | 24 => 23 | 9 => 9 | 4 => 4 | n => n, fun | n => n⟩
theorem Tryd.laysNm216 : Go.Proofs.Lays2.n16 Tryd.prog Tryd.laysNm216_ren := {
  mixed := by kernel_rfl
  f16 := Tryd.func32.trans (congrArg some (by kernel_rfl))
  t4 := Tryd.underlying4
  a4 := Tryd.isAgg4
  z4 := Tryd.sizeOf4
  v4 := Tryd.zeroValue4
  t9 := Tryd.underlying9
  a9 := Tryd.isAgg9
  z9 := Tryd.sizeOf9
  v9 := Tryd.zeroValue9
  t24 := Tryd.underlying23
  a24 := Tryd.isAgg23
  z24 := Tryd.sizeOf23
  v24 := Tryd.zeroValue23
  i9 := by kernel_rfl }
open Go.RowKit Go.Lib in
theorem Tryd.slices_Clone_string (b off n c : Nat) (zs : List ByteArray) (w : World) (hz : n ≤ zs.length) (hbig : n * 16 ≤ 140737488355328) (hc : ∀ j, j < zs.length → w.cell? ⟨b, off + j, none⟩ = some (.string (zs.getD j ByteArray.empty))) :
    Calls Tryd.prog 32 #[.slice (some ⟨b, off, none⟩) n c] w fun e w' => ∃ v', e = .returned v' ∧ w'.ownsRow w.heap.size 9 1 v' n ((zs.take n).map (Value.string)) ∧ v' ≠ .slice none 0 0 ∧ Below w.heap.size w w' := Any.slices_Clone_string Tryd.laysNm216 b off n c zs w hz hbig hc
open Go.RowKit Go.Lib in
theorem Tryd.slices_Clone_string_nil (n c : Nat) (w : World) :
    Calls Tryd.prog 32 #[.slice none n c] w fun e w' => e = .returned (.slice none 0 0) ∧ w' = w := Any.slices_Clone_string_nil Tryd.laysNm216 n c w
open Go.RowKit Go.Lib in
theorem Tryd.slices_Clone_string_zero (a : Addr) (c : Nat) (w : World) :
    Calls Tryd.prog 32 #[.slice (some a) 0 c] w fun e w' => ∃ v', e = .returned v' ∧ w'.ownsRow w.heap.size 9 1 v' 0 [] ∧ v' ≠ .slice none 0 0 ∧ Below w.heap.size w w' := Any.slices_Clone_string_zero Tryd.laysNm216 a c w
end Go.Proofs
namespace Go.Proofs.YtnfolcefjkannaaDoor.SumA
open Go.RowKit Go.Proofs.YtnfolcefjkannaaDoorW.PrintWords Go.Proofs.YtnfolcefjkannaaDoor.Base
def comLen : List ByteArray → List ByteArray → Nat
  | a :: x, b :: y => if a.toList = b.toList then comLen x y + 1 else 0
  | _, _ => 0
theorem comLen_le (x y : List ByteArray) : comLen x y ≤ x.length ∧ comLen x y ≤ y.length := by
  induction x generalizing y with
  | nil => simp [comLen]
  | cons a x ih =>
    cases y with
    | nil => simp [comLen]
    | cons b y =>
      have := ih y
      unfold comLen
      split <;> simp <;> omega
theorem comLen_drop (x y : List ByteArray) (j : Nat) (hx : j < x.length) (hy : j < y.length) :
    comLen (x.drop j) (y.drop j) = if (rdOf ByteArray.empty x (j : Int)).toList = (rdOf ByteArray.empty y (j : Int)).toList then comLen (x.drop (j + 1)) (y.drop (j + 1)) + 1 else 0 := by
  rw [List.drop_eq_getElem_cons hx, List.drop_eq_getElem_cons hy]
  simp [comLen, rdOf, List.getD_eq_getElem?_getD, List.getElem?_eq_getElem hx, List.getElem?_eq_getElem hy]
set_option maxHeartbeats 1000000 in
set_option maxRecDepth 100000 in
theorem common_calls (A0 : Option Addr) (c0 : Nat) (l0 : List ByteArray) (A1 : Option Addr) (c1 : Nat) (l1 : List ByteArray) (w : World) (hr0 : Kd.C Kd.string w A0 l0.length l0) (hr1 : Kd.C Kd.string w A1 l1.length l1) :
    Calls Tryd.prog 59 #[.slice A0 l0.length c0, .slice A1 l1.length c1] w fun e w' => e = .returned (.int .i64 (comLen l0 l1 : Int)) ∧ Drawn0 w w' := by
  have hm0 : l0.length ≤ 9223372036854775807 := hr0.2.1
  have hm1 : l1.length ≤ 9223372036854775807 := hr1.2.1
  have HR0 := Aside0.mk hr0
  have HR1 := Aside0.mk hr1
  clear hr0 hr1
  go_enter Tryd.func59, Tryd.ntmps59
  go_wp2
  go_step3
  go_wp2
  go_step3
  go_wp2
  go_loopw [5] (fun v5 w' => ∃ j : Nat, v5 = .int .i64 (j : Int) ∧ j ≤ l0.length ∧ j ≤ l1.length ∧ Aside0 (comLen (l0.drop j) (l1.drop j) + j = comLen l0 l1) ∧ Drawn0 w w') (fun v5 _ => l0.length - (intOf v5).toNat)
  case atStart => exact ⟨0, rfl, by omega, by omega, ⟨by simp⟩, Drawn0.refl _⟩
  case round =>
    obtain ⟨j, rfl, hj0, hj1, HC, ⟨m1, rfl⟩⟩ := hrel
    by_cases h0 : j < l0.length
    · by_cases h1 : j < l1.length
      · have hs := comLen_drop l0 l1 j h0 h1
        obtain ⟨ad0, e0, hx0⟩ := Kd.at_string HR0.out (j : Int) (by omega) (by omega)
        obtain ⟨ad1, e1, hx1⟩ := Kd.at_string HR1.out (j : Int) (by omega) (by omega)
        cases e0
        cases e1
        have hne : ((j : Int) == (l1.length : Int)) = false := beq_eq_false_iff_ne.2 (by omega)
        have d0 : decide (j < l0.length) = true := decide_eq_true h0
        rw [Int.toNat_natCast] at hx0 hx1
        have p0 : (0 : Int) ≤ (j : Int) := by omega
        have q0 : (j : Int) < (l0.length : Int) := by omega
        have q1 : (j : Int) < (l1.length : Int) := by omega
        by_cases hc : (rdOf ByteArray.empty l0 (j : Int)).toList = (rdOf ByteArray.empty l1 (j : Int)).toList
        · rw [if_pos hc] at hs
          have hs' := Aside0.mk hs
          clear hs
          have hcb : ((rdOf ByteArray.empty l0 (j : Int)).toList != (rdOf ByteArray.empty l1 (j : Int)).toList) = false := bne_eq_false_iff_eq.mpr hc
          have hcb2 : ((rdOf ByteArray.empty l0 (j : Int)).toList == (rdOf ByteArray.empty l1 (j : Int)).toList) = true := beq_iff_eq.mpr hc
          clear hc
          go_wp2
          go_quiet (fail)
          go_wp2
          go_roundw
          case rel => exact ⟨j + 1, by go_num, by omega, by omega, ⟨by have := HC.out; rw [hs'.out] at this; omega⟩, by repeat (first | exact Drawn0.refl _ | apply Drawn0.step)⟩
          case measure => simp [intOf]; omega
        · rw [if_neg hc] at hs
          have hs' := Aside0.mk hs
          clear hs
          have hcb : ((rdOf ByteArray.empty l0 (j : Int)).toList != (rdOf ByteArray.empty l1 (j : Int)).toList) = true := bne_iff_ne.mpr hc
          have hcb2 : ((rdOf ByteArray.empty l0 (j : Int)).toList == (rdOf ByteArray.empty l1 (j : Int)).toList) = false := beq_eq_false_iff_ne.mpr hc
          clear hc
          go_wp2
          repeat (go_quiet (fail); try go_wp2)
          rw [Exit.noGoto_ret]
          go_ret
          exact ⟨by rw [← HC.out, hs'.out]; simp, by repeat (first | exact Drawn0.refl _ | apply Drawn0.step)⟩
      · have he : j = l1.length := by omega
        have hne : ((j : Int) == (l1.length : Int)) = true := beq_iff_eq.2 (by omega)
        have d0 : decide (j < l0.length) = true := decide_eq_true h0
        have hE := Aside0.mk he
        clear he
        go_wp2
        rw [Exit.noGoto_ret]
        go_ret
        exact ⟨by rw [← HC.out, hE.out]; simp [comLen], by repeat (first | exact Drawn0.refl _ | apply Drawn0.step)⟩
    · have he : j = l0.length := by omega
      have d0 : decide (j < l0.length) = false := decide_eq_false h0
      have hE := Aside0.mk he
      clear he
      go_wp2
      rw [Exit.noGoto_ret]
      go_ret
      exact ⟨by rw [← HC.out, hE.out]; simp [comLen], by repeat (first | exact Drawn0.refl _ | apply Drawn0.step)⟩
theorem split_w (s : ByteArray) (c : UInt8) (w : World) (hs : s.size < 4294967281) :
    Calls Tryd.prog 75 #[.string s, .string ⟨#[c]⟩] w fun e w' =>
      e = .returned (.slice (some ⟨w.heap.size, 0, none⟩) (pieces c s.data.toList).length (pieces c s.data.toList).length) ∧ w' = w.alloc (.cells (((pieces c s.data.toList).map mkB).map Value.string).toArray 9) := by
  have h1 : 1 ≤ (⟨#[c]⟩ : ByteArray).size := Nat.le_refl 1
  have hle := Lib.countB_le ⟨#[c]⟩ h1 s.size s (Nat.le_refl _)
  have hlen := Lib.splitB_all ⟨#[c]⟩ h1 0 _ s rfl
  have k := Any.strings_genSplit_core Tryd.lays221 (by kernel_rfl) s ⟨#[c]⟩ 0 (-1) (Lib.countB s ⟨#[c]⟩ + 1) w hs h1 (Nat.zero_le _)
    (fun x cc _ => (Tryd.strings_Index_one x c _).mono fun e w' h => ⟨by rw [h.1, Lib.one x ⟨#[c]⟩ rfl]; exact congrArg (fun z => Ending.returned (.int .i64 (Lib.indexByte x.data.toList z))) (Lib.byte_back c).symm, h.2⟩)
    ((Tryd.strings_Count_one s c w).mono fun e w' h => ⟨by rw [h.1, countB_one]; rfl, h.2⟩) (by decide) (by decide) (by rw [if_pos (by decide)]; omega)
  rw [Nat.add_sub_cancel, hlen] at k
  have e2 : Lib.cellsOf (Lib.splitB ⟨#[c]⟩ 0 (Lib.countB s ⟨#[c]⟩) s) (Lib.countB s ⟨#[c]⟩ + 1) = ((Lib.splitB ⟨#[c]⟩ 0 (Lib.countB s ⟨#[c]⟩) s).map Value.string).toArray := by rw [← hlen]; exact Lib.cellsOf_full _
  rw [e2, splitB_one] at k
  have hl : Lib.countB s ⟨#[c]⟩ + 1 = (pieces c s.data.toList).length := by rw [countB_one, pieces_length]
  rw [hl] at k
  have K := Aside0.mk k
  clear k e2 hlen hle hl
  go_enter Tryd.func75, Tryd.ntmps75
  go_wp2_with (go_at_call 91; refine K.out.mono ?_; rintro e w' ⟨rfl, rfl⟩)
  go_ret
  exact ⟨rfl, by rw [List.map_map]; rfl⟩
theorem strs_own (w : World) (base e : Nat) (l : List ByteArray) (hb : base ≤ w.heap.size) (hm : l.length ≤ 9223372036854775807) :
    Kd.R Kd.string e (w.alloc (.cells (l.map Value.string).toArray e)) base (fun _ => True) (.slice (some ⟨w.heap.size, 0, none⟩) l.length l.length) l := by
  have h := World.ownsRow_lit (base := base) (e := e) (size := 1) w (l.map Value.string).toArray l.length hb (by simpa [maxLen] using hm) (by simp)
  exact Kd.R_of_own (by simpa [encs] using h) (fun _ _ => trivial)
theorem split_calls (s sep : ByteArray) (r : List ByteArray) (w : World) (c : UInt8) (hc : sep = ⟨#[c]⟩) (hs : s.size < 4294967281) (hr : r = (pieces c s.data.toList).map mkB) :
    Calls Tryd.prog 75 #[.string s, .string sep] w fun e w' => ∃ v0_ : Value, e = .returned v0_ ∧ Kd.R Kd.string 9 w' w.heap.size (fun _ => True) v0_ r ∧ Below w.heap.size w w' := by
  subst hc hr
  refine (split_w s c w hs).mono ?_
  rintro e w' ⟨rfl, rfl⟩
  have hl := pieces_length c s.data.toList
  have hcn := List.count_le_length (a := c) (l := s.data.toList)
  have hsz := size_data s
  refine ⟨_, rfl, ?_, below_alloc (Below.refl _ _) _⟩
  have := strs_own w w.heap.size 9 ((pieces c s.data.toList).map mkB) (Nat.le_refl _) (by rw [List.length_map]; omega)
  rwa [List.length_map] at this
theorem count_calls (s sep : ByteArray) (r : Int) (w : World) (c : UInt8) (hc : sep = ⟨#[c]⟩) (hr : r = (s.data.toList.count c : Nat)) :
    Calls Tryd.prog 74 #[.string s, .string sep] w fun e w' => e = .returned (.int .i64 r) ∧ Drawn0 w w' := by
  subst hc hr
  exact (Tryd.strings_Count_one s c w).mono fun e w' h => ⟨h.1, h.2 ▸ Drawn0.refl _⟩
theorem glue_join (c : UInt8) (l : List B) : Lib.join l [c] = glue c l := by
  unfold Lib.join
  induction l with
  | nil => rfl
  | cons p r ih =>
    cases r with
    | nil => simp [glue]
    | cons q r =>
      rw [glue_cons _ _ _ (by simp), ← ih]
      simp [List.intercalate]
theorem cells_of_C {w : World} {A : Option Addr} {xs : List ByteArray} (h : Kd.C Kd.string w A xs.length xs) (hp : 0 < xs.length) :
    ∃ ad, A = some ad ∧ ∀ (j : Nat) x, xs[j]? = some x → w.cell? (ad.add j) = some (.string x) := by
  obtain ⟨ad, e, h0⟩ := Kd.at_string h 0 (by omega) (by omega)
  refine ⟨ad, e, fun j x hj => ?_⟩
  obtain ⟨hlt, hx⟩ := List.getElem?_eq_some_iff.1 hj
  obtain ⟨ad', e', h'⟩ := Kd.at_string h (j : Int) (by omega) (by omega)
  rw [e] at e'
  injection e' with e'
  subst e'
  rw [Int.toNat_natCast] at h'
  rw [h']
  simp [rdOf, List.getD_eq_getElem?_getD, hj]
theorem join_calls (A0 : Option Addr) (c0 : Nat) (l0 : List ByteArray) (sep : ByteArray) (r : ByteArray) (w : World) (c : UInt8) (hc : sep = ⟨#[c]⟩) (hr0 : Kd.C Kd.string w A0 l0.length l0) (hc0 : l0.length ≤ c0)
    (hN : l0.length ≤ 140737488355328) (hlen : (glue c (l0.map (·.data.toList))).length ≤ 140737488355328) (hr : r = mkB (glue c (l0.map (·.data.toList)))) :
    Calls Tryd.prog 77 #[.slice A0 l0.length c0, .string sep] w fun e w' => e = .returned (.string r) ∧ Below w.heap.size w w' := by
  subst hc hr
  rcases Nat.eq_zero_or_pos l0.length with h0 | h0
  · obtain rfl : l0 = [] := List.eq_nil_of_length_eq_zero h0
    refine (Tryd.strings_Join_none A0 c0 ⟨#[c]⟩ w).mono fun e w' h => ?_
    obtain ⟨h1, h2⟩ := h
    subst h2
    exact ⟨h1, Below.refl _ _⟩
  · obtain ⟨ad, rfl, hcells⟩ := cells_of_C hr0 h0
    obtain ⟨bk, o, sp⟩ := ad
    have hsp : sp = none := by
      have h1 := hcells 0 _ (List.getElem?_eq_getElem h0)
      unfold World.cell? at h1
      split at h1
      · by_cases hs : (Addr.add ⟨bk, o, sp⟩ 0).spot.isSome = true
        · rw [if_pos hs] at h1; cases h1
        · cases sp with
          | none => rfl
          | some z => simp [Addr.add] at hs
      · cases h1
    subst hsp
    have hcells' : ∀ (j : Nat) x, l0[j]? = some x → w.cell? ⟨bk, o + j, none⟩ = some (.string x) := by
      intro j x hj
      have := hcells j x hj
      have ha : (⟨bk, o, none⟩ : Addr).add j = ⟨bk, o + j, none⟩ := by unfold Addr.add; split <;> simp_all
      rwa [ha] at this
    have hbk : bk < w.heap.size := World.block_lt_of_cell? w ⟨bk, o + 0, none⟩ (hcells' 0 _ (List.getElem?_eq_getElem h0))
    have e : ([c] : List UInt8) = (⟨#[c]⟩ : ByteArray).data.toList := rfl
    refine (Tryd.strings_Join bk o c0 l0 ⟨#[c]⟩ w hcells' hbk hN hc0 (by rw [← e, glue_join]; exact hlen)).mono fun e w' h => ⟨?_, h.2⟩
    rw [h.1]
    exact congrArg (fun z : List UInt8 => Ending.returned (.string ⟨z.toArray⟩)) (glue_join c _)
theorem clone_calls (A0 : Option Addr) (c0 : Nat) (l0 : List ByteArray) (w : World) (hr0 : Kd.C Kd.string w A0 l0.length l0) (hb : l0.length * 16 ≤ 140737488355328) :
    Calls Tryd.prog 32 #[.slice A0 l0.length c0] w fun e w' => ∃ v0_ : Value, e = .returned v0_ ∧ Kd.R Kd.string 9 w' w.heap.size (fun _ => True) v0_ l0 ∧ Below w.heap.size w w' := by
  have fin : ∀ (v' : Value) (w' : World), w'.ownsRow w.heap.size 9 1 v' l0.length (l0.map Value.string) → Kd.R Kd.string 9 w' w.heap.size (fun _ => True) v' l0 := fun v' w' h => Kd.R_of_own (by simpa [encs] using h) (fun _ _ => trivial)
  rcases Nat.eq_zero_or_pos l0.length with h0 | h0
  · obtain rfl : l0 = [] := List.eq_nil_of_length_eq_zero h0
    cases A0 with
    | none =>
      refine (Tryd.slices_Clone_string_nil 0 c0 w).mono fun e w' h => ?_
      obtain ⟨h1, h2⟩ := h
      subst h2
      exact ⟨_, h1, Kd.R_nil _ _ _ _ _, Below.refl _ _⟩
    | some a =>
      refine (Tryd.slices_Clone_string_zero a c0 w).mono fun e w' h => ?_
      obtain ⟨v', h1, h2, _, h4⟩ := h
      exact ⟨v', h1, fin v' w' h2, h4⟩
  · obtain ⟨ad, rfl, hcells⟩ := cells_of_C hr0 h0
    obtain ⟨bk, o, sp⟩ := ad
    have hsp : sp = none := by
      have h1 := hcells 0 _ (List.getElem?_eq_getElem h0)
      unfold World.cell? at h1
      split at h1
      · by_cases hs : (Addr.add ⟨bk, o, sp⟩ 0).spot.isSome = true
        · rw [if_pos hs] at h1; cases h1
        · cases sp with
          | none => rfl
          | some z => simp [Addr.add] at hs
      · cases h1
    subst hsp
    have hcells' : ∀ j, j < l0.length → w.cell? ⟨bk, o + j, none⟩ = some (.string (l0.getD j ByteArray.empty)) := by
      intro j hj
      have := hcells j _ (List.getElem?_eq_getElem hj)
      have ha : (⟨bk, o, none⟩ : Addr).add j = ⟨bk, o + j, none⟩ := by unfold Addr.add; split <;> simp_all
      rw [ha] at this
      rw [this, List.getD_eq_getElem?_getD, List.getElem?_eq_getElem hj]; rfl
    refine (Tryd.slices_Clone_string bk o l0.length c0 l0 w (Nat.le_refl _) hb hcells').mono fun e w' h => ?_
    obtain ⟨v', h1, h2, _, h4⟩ := h
    rw [List.take_length] at h2
    exact ⟨v', h1, fin v' w' h2, h4⟩
theorem less_cmpT (a b : B) : Op.bytesLess a b = decide (cmpT a b = -1) := by
  induction a generalizing b with
  | nil => cases b <;> simp [Op.bytesLess, cmpT]
  | cons x a ih =>
    cases b with
    | nil => simp [Op.bytesLess, cmpT]
    | cons y b =>
      unfold Op.bytesLess cmpT
      by_cases h1 : x < y
      · simp [h1]
      · by_cases h2 : y < x
        · have hne : x ≠ y := fun e => by subst e; exact UInt8.lt_irrefl x h2
          simp [h1, h2, hne]
        · have : x = y := UInt8.le_antisymm (UInt8.not_lt.1 h2) (UInt8.not_lt.1 h1)
          subst this
          simp [ih]
set_option maxHeartbeats 1000000 in
theorem cmpString_calls (a b : ByteArray) (w : World) :
    Calls Tryd.prog 60 #[.string a, .string b] w fun e w' => e = .returned (.int .i64 (cmpT a.data.toList b.data.toList)) ∧ Drawn0 w w' := by
  have nan : ∀ (x : ByteArray) (w : World), Calls Tryd.prog 78 #[.string x] w fun e w' => e = .returned (.bool false) ∧ w = w' := by
    intro x w
    have h1 : (x.toList != x.toList) = false := by simp
    go_enter Tryd.func78, Tryd.ntmps78
    go_wp2
    go_ret
    exact ⟨rfl, rfl⟩
  have e1 := less_cmpT a.toList b.toList
  have e2 : (a.toList == b.toList) = decide (cmpT a.toList b.toList = 0) := by
    rw [Bool.eq_iff_iff]; simp [cmpT_eq]
  rw [← toList_eq_data, ← toList_eq_data]
  rcases cmpT_cases a.toList b.toList with hc | hc | hc
  all_goals
    rw [hc] at e1 e2
    have HC := Aside0.mk hc
    clear hc
    simp (decide := true) only [decide_true, decide_false] at e1 e2
    go_enter Tryd.func60, Tryd.ntmps60
    go_wp2_with (go_at_call 78; refine (nan _ _).mono ?_; rintro e w' ⟨rfl, rfl⟩)
    go_ret
    exact ⟨by rw [HC.out]; rfl, Drawn0.refl _⟩
end Go.Proofs.YtnfolcefjkannaaDoor.SumA
namespace Go.Proofs.YtnfolcefjkannaaDoorW.PrintWords
open Go Go.RowKit
abbrev T := true
abbrev F := false
theorem zS {A : Type} (l : List A) (i : Nat) (a : A) : l.toArray.setIfInBounds i a = (l.set i a).toArray := List.setIfInBounds_toArray ..
theorem zZ {A : Type} {a b : A} {l : List A} : (a :: l).set 0 b = b :: l := List.set_cons_zero
theorem zC {A : Type} {a b : A} {l : List A} {n : Nat} : (a :: l).set (n + 1) b = a :: l.set n b := List.set_cons_succ
abbrev zB := @World.block_lt_of_cell?
abbrev zN := @pw_below_drewN
abbrev zL := @below_alloc
abbrev zD := @below_drew1
abbrev zA := @Aside0.mk
abbrev zO := @of_decide_eq_true
end Go.Proofs.YtnfolcefjkannaaDoorW.PrintWords
namespace Go.Proofs.YtnfolcefjkannaaDoor.G
open Go.RowKit Go.Proofs.YtnfolcefjkannaaDoorW.PrintWords Go.Proofs.YtnfolcefjkannaaDoorW.PrintLast Go.Proofs.YtnfolcefjkannaaDoorW.PrintMore
attribute [local go_sem] max2_int min2_int max_two min_two max_three min_three max_four min_four
set_option linter.unusedVariables false
set_option linter.unusedSimpArgs false
theorem info9 : (Tryd.prog.info? 9).map (fun i => (i.zero, i.size, i.bytes)) = some (some (.string ⟨#[]⟩), 1, 16) := by kernel_rfl
theorem info45 : (Tryd.prog.info? 45).map (fun i => (i.zero, i.size, i.bytes)) = some (some (.agg #[(.string ⟨#[]⟩), (.string ⟨#[]⟩), (.int .i64 0), (.int .i64 0)]), 4, 48) := by kernel_rfl
theorem info81 : (Tryd.prog.info? 81).map (fun i => (i.zero, i.size, i.bytes)) = some (some (.agg #[(.string ⟨#[]⟩), (.int .i64 0)]), 2, 24) := by kernel_rfl
structure S45 where
 f0 : ByteArray
 f1 : ByteArray
 f2 : Int
 f3 : Int
def z45 : S45 := ⟨(⟨#[]⟩ : ByteArray), (⟨#[]⟩ : ByteArray), (0 : Int), (0 : Int)⟩
def k45 : Kd S45 := Kd.iso (Kd.pair Kd.string (Kd.pair Kd.string (Kd.pair (Kd.int .i64) (Kd.int .i64)))) (fun x : S45 => (x.f0, x.f1, x.f2, x.f3))
theorem k45_open {w : World} {x : S45} {cs : List Value} (h : k45.K w x cs) : cs = [.string x.f0, .string x.f1, .int .i64 x.f2, .int .i64 x.f3] := by
 obtain ⟨_, _, rfl, rfl, ⟨_, _, rfl, rfl, ⟨_, _, rfl, rfl, rfl⟩⟩⟩ := h
 exact rfl
theorem k45_mkM (w : World) (base : Nat) (ok : Nat → Prop) (x : S45)  : k45.M w base ok x [.string x.f0, .string x.f1, .int .i64 x.f2, .int .i64 x.f3] := ⟨[.string x.f0], [.string x.f1, .int .i64 x.f2, .int .i64 x.f3], rfl, rfl, ⟨[.string x.f1], [.int .i64 x.f2, .int .i64 x.f3], rfl, rfl, ⟨[.int .i64 x.f2], [.int .i64 x.f3], rfl, rfl, rfl⟩⟩⟩
def rd_T45 (xs : List S45) (i : Int) : S45 := xs.getD i.toNat z45
theorem at_T45 {w : World} {A : Option Addr} {n : Nat} {xs : List S45} (h : Kd.C k45 w A n xs) (i : Int) (h0 : 0 ≤ i) (h1 : i < n) : ∃ ad , A = some ad ∧ w.cell? (ad.add (i.toNat * 4)) = some (.string (rd_T45 xs i).f0) ∧ w.cell? ⟨(ad.add (i.toNat * 4)).block, (ad.add (i.toNat * 4)).off + 1, none⟩ = some (.string (rd_T45 xs i).f1) ∧ w.cell? ⟨(ad.add (i.toNat * 4)).block, (ad.add (i.toNat * 4)).off + 2, none⟩ = some (.int .i64 (rd_T45 xs i).f2) ∧ w.cell? ⟨(ad.add (i.toNat * 4)).block, (ad.add (i.toNat * 4)).off + 3, none⟩ = some (.int .i64 (rd_T45 xs i).f3) := by
 obtain ⟨ad, c, e, _, hK, hc0⟩ := Kd.C_get h z45 i h0 h1
 have hc : ∀ j u, c[j]? = some u → w.cell? (ad.add (i.toNat * 4 + j)) = some u := hc0
 obtain rfl := k45_open hK
 exact ⟨ad, e, hc 0 _ rfl, by rw [← add_field _ _ 1 (by omega)]; exact hc 1 _ rfl, by rw [← add_field _ _ 2 (by omega)]; exact hc 2 _ rfl, by rw [← add_field _ _ 3 (by omega)]; exact hc 3 _ rfl⟩
structure S81 where
 f0 : ByteArray
 f1 : Int
def z81 : S81 := ⟨(⟨#[]⟩ : ByteArray), (0 : Int)⟩
def k81 : Kd S81 := Kd.iso (Kd.pair Kd.string (Kd.int .i64)) (fun x : S81 => (x.f0, x.f1))
theorem k81_open {w : World} {x : S81} {cs : List Value} (h : k81.K w x cs) : cs = [.string x.f0, .int .i64 x.f1] := by
 obtain ⟨_, _, rfl, rfl, rfl⟩ := h
 exact rfl
theorem k81_mkM (w : World) (base : Nat) (ok : Nat → Prop) (x : S81)  : k81.M w base ok x [.string x.f0, .int .i64 x.f1] := ⟨[.string x.f0], [.int .i64 x.f1], rfl, rfl, rfl⟩
def rd_T81 (xs : List S81) (i : Int) : S81 := xs.getD i.toNat z81
theorem at_T81 {w : World} {A : Option Addr} {n : Nat} {xs : List S81} (h : Kd.C k81 w A n xs) (i : Int) (h0 : 0 ≤ i) (h1 : i < n) : ∃ ad , A = some ad ∧ w.cell? (ad.add (i.toNat * 2)) = some (.string (rd_T81 xs i).f0) ∧ w.cell? ⟨(ad.add (i.toNat * 2)).block, (ad.add (i.toNat * 2)).off + 1, none⟩ = some (.int .i64 (rd_T81 xs i).f1) := by
 obtain ⟨ad, c, e, _, hK, hc0⟩ := Kd.C_get h z81 i h0 h1
 have hc : ∀ j u, c[j]? = some u → w.cell? (ad.add (i.toNat * 2 + j)) = some u := hc0
 obtain rfl := k81_open hK
 exact ⟨ad, e, hc 0 _ rfl, by rw [← add_field _ _ 1 (by omega)]; exact hc 1 _ rfl⟩
end Go.Proofs.YtnfolcefjkannaaDoor.G
namespace Go.Proofs.YtnfolcefjkannaaDoor.G
open Go Go.ChangeShapes Go.WideShapes Go.ChangeAt Go.RowKit Go.Deep Go.Lib Go.Joins Go.Proofs.YtnfolcefjkannaaDoorW.PrintWords
section
variable {H : Type} {enc : TypeId × Value → H} {P : Program} {w : World} {spare : Nat → Bool} {held : Bool}
theorem bulk_part {d : DataW H} {l : List (DataW H)} (h : d ∈ l) : Rows.uptoBulk d ≤ Rows.uptoBulkAll l := by
  induction l with
  | nil => cases h
  | cons x r ih =>
    simp only [Rows.uptoBulkAll]
    rcases List.mem_cons.1 h with e | e
    · subst e; omega
    · have := ih e; omega
theorem bulk_one (d : DataW H) : 1 ≤ Rows.uptoBulk d := by
  cases d with
  | lit l => cases l <;> simp [Rows.uptoBulk]
  | nil => simp [Rows.uptoBulk]
  | ptr d => simp [Rows.uptoBulk]
  | slice elems spare => simp [Rows.uptoBulk]
  | agg parts => simp [Rows.uptoBulk]
  | iface t d => simp [Rows.uptoBulk]
  | map entries => simp [Rows.uptoBulk]
  | held h => simp [Rows.uptoBulk]
theorem bulk_len (l : List (DataW H)) : l.length ≤ Rows.uptoBulkAll l := by
  induction l with
  | nil => simp [Rows.uptoBulkAll]
  | cons x r ih => have := bulk_one x; simp only [Rows.uptoBulkAll, List.length_cons]; omega
theorem open_texts {t e : TypeId} {v : Value} {d : DataW H} {ps : List MemPlace} (ht : P.underlying t = some (.slice e)) (he : P.underlying e = some .string) (hc : P.cellsOf e = 1) (h : DataW.Trod enc P w 0 spare held t v d ps) (hv : ∃ a n c, v = .slice a n c) :
    ∃ (A : Option Addr) (c : Nat) (l : List ByteArray), v = .slice A l.length c ∧ l.length ≤ c ∧ Kd.C Kd.string w A l.length l ∧ l.length ≤ Rows.uptoBulk d ∧ ∀ s ∈ l, s.size ≤ Rows.uptoBulk d := by
  obtain ⟨a, n, c, rfl⟩ := hv
  obtain ⟨fuel, hf⟩ := h
  rcases open_strings ht he hc hf with ⟨hcs, hx⟩ | ⟨ad, len, cap, ss, hcs, _, hl, hm, hz, hx, hcell, hsz⟩
  · simp only [Value.cells, List.cons.injEq, Value.slice.injEq, and_true] at hcs
    obtain ⟨rfl, rfl, rfl⟩ := hcs
    exact ⟨none, 0, [], rfl, Nat.le_refl _, ⟨rfl, by simp, fun h => by simp at h⟩, Nat.zero_le _, by simp⟩
  · simp only [Value.cells, List.cons.injEq, Value.slice.injEq, and_true] at hcs
    obtain ⟨rfl, rfl, rfl⟩ := hcs
    have hd : d = .slice (strs (ss.take n)) (strs (ss.drop n)) := congrArg Prod.fst hx
    have hn : n ≤ ss.length := by rw [hz]; split <;> omega
    have hlen : (ss.take n).length = n := by rw [List.length_take]; omega
    have hb : Rows.uptoBulk d = Rows.uptoBulkAll (strs (H := H) (ss.take n)) + Rows.uptoBulkAll (strs (H := H) (ss.drop n)) + 1 := by rw [hd]; simp only [Rows.uptoBulk]
    refine ⟨some ad, c, ss.take n, by rw [hlen], by omega, ?_, ?_, ?_⟩
    · refine ⟨rfl, by rw [hlen]; unfold maxLen at hm; omega, fun _ => ⟨ad, rfl, fun j p hj => ⟨[.string p], rfl, rfl, fun i u hi => ?_⟩⟩⟩
      have hi0 : i = 0 := by
        cases i with
        | zero => rfl
        | succ i => simp at hi
      subst hi0
      have hjn : j < n := by
        have := (List.getElem?_eq_some_iff.1 hj).1
        omega
      have e1 : u = .string p := by simpa using hi.symm
      have e2 : ss.getD j ByteArray.empty = p := by
        rw [List.getElem?_take, if_pos hjn] at hj
        rw [List.getD_eq_getElem?_getD, hj]; rfl
      rw [e1, ← e2]
      have := hcell j (by omega)
      simpa [Kd.string, Kd.scalar] using this
    · have := bulk_len (strs (H := H) (ss.take n))
      unfold strs at this
      rw [List.length_map] at this
      unfold strs at hb
      omega
    · intro s hs
      have hm : DataW.lit (H := H) (.string s.data.toList) ∈ strs (ss.take n) := List.mem_map.2 ⟨s, hs, rfl⟩
      have := bulk_part hm
      have e : Rows.uptoBulk (DataW.lit (H := H) (.string s.data.toList)) = s.data.toList.length + 1 := by simp only [Rows.uptoBulk]
      have e2 : s.size = s.data.toList.length := by rw [Array.length_toList]; rfl
      omega
theorem open_files {t e : TypeId} {f0 f1 f2 f3 : Field} {v : Value} {d : DataW H} {ps : List MemPlace} (ht : P.underlying t = some (.slice e)) (he : P.underlying e = some (.struct #[f0, f1, f2, f3])) (hone : oneCellFields P #[f0, f1, f2, f3] = true) (hc : P.cellsOf e = 4)
    (h0 : P.underlying f0.type = some .string) (h1 : P.underlying f1.type = some .string) (h2 : P.underlying f2.type = some (.int .i64)) (h3 : P.underlying f3.type = some (.int .i64))
    (h : DataW.Trod enc P w 0 spare held t v d ps) (hv : ∃ a n c, v = .slice a n c) :
    ∃ (A : Option Addr) (c : Nat) (l : List S45), v = .slice A l.length c ∧ l.length ≤ c ∧ Kd.C k45 w A l.length l ∧ l.length ≤ Rows.uptoBulk d ∧ ∀ s ∈ l, s.f0.size ≤ Rows.uptoBulk d ∧ s.f1.size ≤ Rows.uptoBulk d := by
  obtain ⟨a, n, c, rfl⟩ := hv
  obtain ⟨fuel, hf⟩ := h
  rcases open_slice ht hf with ⟨hcs, hx⟩ | ⟨ad, len, cap, m, fu, D, Pl, hcs, _, hl, hm, hmm, hx, hcell⟩
  · simp only [Value.cells, List.cons.injEq, Value.slice.injEq, and_true] at hcs
    obtain ⟨rfl, rfl, rfl⟩ := hcs
    exact ⟨none, 0, [], rfl, Nat.le_refl _, ⟨rfl, by simp, fun h => by simp at h⟩, Nat.zero_le _, by simp⟩
  · simp only [Value.cells, List.cons.injEq, Value.slice.injEq, and_true] at hcs
    obtain ⟨rfl, rfl, rfl⟩ := hcs
    have hd : d = .slice ((List.range n).map D) ((List.range (m - n)).map fun j => D (n + j)) := congrArg Prod.fst hx
    have hn : n ≤ m := by rw [hmm]; split <;> omega
    obtain ⟨o0, k0⟩ := hone_of hone 0 f0 rfl
    obtain ⟨o1, k1⟩ := hone_of hone 1 f1 rfl
    obtain ⟨o2, k2⟩ := hone_of hone 2 f2 rfl
    obtain ⟨o3, k3⟩ := hone_of hone 3 f3 rfl
    have each : ∀ i, i < n → ∃ F : S45, w.cells? 0 (ad.add (i * 4)) 4 = some [.string F.f0, .string F.f1, .int .i64 F.f2, .int .i64 F.f3] ∧ D i = .agg [.lit (.string F.f0.data.toList), .lit (.string F.f1.data.toList), .lit (.int .i64 F.f2), .lit (.int .i64 F.f3)] := by
      intro i hi
      obtain ⟨cs', g1, g2⟩ := hcell i (by omega)
      rw [hc] at g1
      obtain ⟨y0, y1, y2, y3, q, e1, e2, t0, t1, t2, t3⟩ := trod_struct4 he g2
      rw [hc] at e2
      match cs', e2 with
      | [c0, c1, c2, c3], _ =>
        simp only [o0, k0, o1, k1, o2, k2, o3, k3] at t0 t1 t2 t3
        obtain ⟨s0, z0, x0, _⟩ := DataW.trod_string h0 t0
        obtain ⟨s1, z1, x1, _⟩ := DataW.trod_string h1 t1
        obtain ⟨i2, z2, x2, _⟩ := DataW.trod_int h2 t2
        obtain ⟨i3, z3, x3, _⟩ := DataW.trod_int h3 t3
        refine ⟨⟨s0, s1, i2, i3⟩, ?_, ?_⟩
        · rw [g1]
          simp at z0 z1 z2 z3
          rw [z0, z1, z2, z3]
        · have := congrArg Prod.fst e1
          simp only [x0, x1, x2, x3] at this
          exact this
    haveI : Inhabited S45 := ⟨z45⟩
    obtain ⟨F, hF⟩ := choose_lt each
    have hb : Rows.uptoBulk d = Rows.uptoBulkAll ((List.range n).map D) + Rows.uptoBulkAll ((List.range (m - n)).map fun j => D (n + j)) + 1 := by rw [hd]; simp only [Rows.uptoBulk]
    have hlen : ((List.range n).map F).length = n := by simp
    refine ⟨some ad, c, (List.range n).map F, by rw [hlen], by omega, ?_, ?_, ?_⟩
    · refine ⟨rfl, by rw [hlen]; unfold maxLen at hm; omega, fun _ => ⟨ad, rfl, fun j p hj => ?_⟩⟩
      have hjn : j < n := by
        have := (List.getElem?_eq_some_iff.1 hj).1
        omega
      have hp : p = F j := by
        rw [List.getElem?_map, List.getElem?_range hjn] at hj
        exact (Option.some.inj hj).symm
      subst hp
      refine ⟨[.string (F j).f0, .string (F j).f1, .int .i64 (F j).f2, .int .i64 (F j).f3], rfl, ⟨[.string (F j).f0], [.string (F j).f1, .int .i64 (F j).f2, .int .i64 (F j).f3], rfl, rfl, [.string (F j).f1], [.int .i64 (F j).f2, .int .i64 (F j).f3], rfl, rfl, [.int .i64 (F j).f2], [.int .i64 (F j).f3], rfl, rfl, rfl⟩, fun i u hi => ?_⟩
      obtain ⟨_, _, hh⟩ := World.cells?_some (hF j hjn).1
      have hi4 : i < 4 := (List.getElem?_eq_some_iff.1 hi).1
      have := hh i hi4
      rw [hi] at this
      show w.cell? (ad.add (j * 4 + i)) = some u
      rw [← this]
      congr 1
      by_cases hj0 : j * 4 = 0
      · by_cases hi0 : i = 0
        · simp [Addr.add, hj0, hi0]
        · simp [Addr.add, hj0, hi0]
      · by_cases hi0 : i = 0
        · simp [Addr.add, hj0, hi0]
        · simp [Addr.add, hj0, hi0, Nat.add_assoc]
    · have := bulk_len ((List.range n).map D)
      rw [List.length_map, List.length_range] at this
      rw [hlen]
      omega
    · intro s hs
      obtain ⟨i, hi, rfl⟩ := List.mem_map.1 hs
      have hin := List.mem_range.1 hi
      have hmem : D i ∈ (List.range n).map D := List.mem_map.2 ⟨i, hi, rfl⟩
      have := bulk_part hmem
      rw [(hF i hin).2] at this
      simp only [Rows.uptoBulk, Rows.uptoBulkAll] at this
      have e0 : (F i).f0.size = (F i).f0.data.toList.length := by rw [Array.length_toList]; rfl
      have e1 : (F i).f1.size = (F i).f1.data.toList.length := by rw [Array.length_toList]; rfl
      omega
end
end Go.Proofs.YtnfolcefjkannaaDoor.G
namespace Go.Proofs.YtnfolcefjkannaaDoor.G
open Go.RowKit Go.Proofs.YtnfolcefjkannaaDoorW.PrintWords Go.Proofs.YtnfolcefjkannaaDoorW.PrintLast Go.Proofs.YtnfolcefjkannaaDoorW.PrintMore
attribute [local go_sem] max2_int min2_int max_two min_two max_three min_three max_four min_four
set_option linter.unusedVariables false
set_option linter.unusedSimpArgs false
theorem eqA45 (d : Nat) (w : World) (x0 y0 : ByteArray) (x1 y1 : ByteArray) (x2 y2 : Int) (x3 y3 : Int) :
  (Op.equalIn (d + 2) 45 (.agg #[.string x0, .string x1, .int .i64 x2, .int .i64 x3]) (.agg #[.string y0, .string y1, .int .i64 y2, .int .i64 y3])).run Tryd.prog w = .ok (x0.toList == y0.toList && (x1.toList == y1.toList && (x2 == y2 && (x3 == y3)))) w := by
 refine eqA_of Tryd.underlying45 (by kernel_rfl) ?_
 refine eqf_cons (by rfl) (by go_simp; rfl) (by go_simp; rfl) (by go_simp) ?_
 refine eqf_cons (by rfl) (by go_simp; rfl) (by go_simp; rfl) (by go_simp) ?_
 refine eqf_cons (by rfl) (by go_simp; rfl) (by go_simp; rfl) (by go_simp) ?_
 exact eqf_last (by rfl) (by go_simp; rfl) (by go_simp; rfl) (by go_simp)
def strings_Split.f (a0 a1 : ByteArray) : Option (List ByteArray) := (Go.Proofs.YtnfolcefjkannaaDoor.Base.sep1 a1).bind fun c => if a0.size < 4294967281 then some ((Go.Proofs.YtnfolcefjkannaaDoor.Base.pieces c a0.data.toList).map Go.Proofs.YtnfolcefjkannaaDoor.Base.mkB) else none
theorem strings_Split.calls (a0 : ByteArray) (a1 : ByteArray) (r : List ByteArray) (w : World) (h : strings_Split.f a0 a1 = some r) :
  Calls Tryd.prog 75 #[.string a0, .string a1] w fun e w' => ∃ v0_ : Value, e = .returned (v0_) ∧ Kd.R Kd.string 9 w' w.heap.size (fun _ => True) v0_ r ∧ Below w.heap.size w w' := by
 obtain ⟨c, h1, h2⟩ := Option.bind_eq_some_iff.1 h
 split at h2
 ·rename_i hs
  injection h2 with h2
  exact Go.Proofs.YtnfolcefjkannaaDoor.SumA.split_calls a0 a1 r w c (Go.Proofs.YtnfolcefjkannaaDoor.Base.sep1_eq h1) hs h2.symm
 ·cases h2
def path_Split.f (a0 : ByteArray) : Option (List ByteArray) := if a0.toList = ([] : List UInt8) then (some ([] : List ByteArray)) else ((strings_Split.f a0 (⟨#[47]⟩ : ByteArray)).bind fun t101 => (some t101))
set_option maxHeartbeats 8000000 in
set_option maxRecDepth 100000 in
theorem path_Split.calls (a0 : ByteArray) (r : List ByteArray) (w : World) (h : path_Split.f a0 = some r) :
  Calls Tryd.prog 52 #[.string a0] w fun e w' => ∃ v0_ : Value, e = .returned (v0_) ∧ Kd.R Kd.string 9 w' w.heap.size (fun _ => True) v0_ r ∧ Below w.heap.size w w' := by
 have HB := zA (Below.refl w.heap.size w)
 have H : (if a0.toList = ([] : List UInt8) then (some ([] : List ByteArray)) else ((strings_Split.f a0 (⟨#[47]⟩ : ByteArray)).bind fun t101 => (some t101))) = some r := h
 clear h
 by_cases c2 : a0.toList = ([] : List UInt8)
 ·rw [if_pos c2] at H
  have c2b0 : (a0.toList == ([] : List UInt8)) = true := beq_iff_eq.mpr c2
  have c2b1 : (a0.toList != ([] : List UInt8)) = false := bne_eq_false_iff_eq.mpr c2
  clear c2; obtain rfl := Option.some.inj H
  go_enter Tryd.func52, Tryd.ntmps52
  go_wp2; go_ret
  exact ⟨_, by first | rfl | (simp [errW_none, errW_some] <;> rfl) | (simp [*, errW_none, errW_some] <;> rfl), by first | exact Kd.R_nil _ _ _ _ _ | exact Kd.N_nil _ _ _ _ _ | exact Kd.V_nil _ _ _ _ _ | exact Kd.Q_nil _ _ _ _ _ | exact Kd.S_nil _ _ _ _ _, by repeat (first | (with_reducible first | exact HB.out | apply zL | apply zN | apply zD) | exact HB.out)⟩
 rw [if_neg c2] at H
 have c2b0 : (a0.toList == ([] : List UInt8)) = false := beq_eq_false_iff_ne.mpr c2
 have c2b1 : (a0.toList != ([] : List UInt8)) = true := bne_iff_ne.mpr c2
 replace H := Option.bind_eq_some_iff.mp H; obtain ⟨t101, A30, H⟩ := H
 replace H : (some t101) = some r := H
 have A3 := zA A30; clear A30; obtain rfl := Option.some.inj H
 go_enter Tryd.func52, Tryd.ntmps52
 go_wp2_with (first | ((with_reducible refine gate_callee (f := 75) rfl ?_); refine goesL_ (some 6) rfl rfl Tryd.func75 (by kernel_rfl) rfl #[.string a0, .string (⟨#[47]⟩ : ByteArray)] rfl (by (try simp only [List.map_toArray, List.map_cons, List.map_nil]); first | done | rfl | (simp only [List.length_drop, List.length_take]; rfl)) ?_; (with_reducible refine (strings_Split.calls a0 (⟨#[47]⟩ : ByteArray) t101 _ A3.out).mono ?_); rintro e w4 ⟨v102, rfl, ho0, hb⟩; refine ⟨_, rfl, ?_⟩; have n0_ := zA (Kd.R_lower ho0 (below_size (by repeat (first | (with_reducible first | exact HB.out | apply zL | apply zN | apply zD) | exact HB.out)))); have n1_ := zA (below_step (by repeat (first | (with_reducible first | exact HB.out | apply zL | apply zN | apply zD) | exact HB.out)) hb); clear HB; have HO103 := n0_; have HB := n1_; clear n0_ n1_; (try clear hb); (try clear hb2); (try clear hk); (try clear hi); (try clear ho0)))
 go_ret
 exact ⟨_, by first | rfl | (simp [errW_none, errW_some] <;> rfl) | (simp [*, errW_none, errW_some] <;> rfl), by (with_reducible repeat (first | apply Kd.R_alloc | apply Kd.R_drewN | apply Kd.R_drew)); exact HO103.out, by repeat (first | (with_reducible first | exact HB.out | apply zL | apply zN | apply zD) | exact HB.out)⟩
def path_common.f (l0 l1 : List ByteArray) : Option Int := some ((Go.Proofs.YtnfolcefjkannaaDoor.SumA.comLen l0 l1 : Nat) : Int)
theorem path_common.calls (A0 : Option Addr) (c0 : Nat) (l0 : List ByteArray) (A1 : Option Addr) (c1 : Nat) (l1 : List ByteArray) (r : Int) (w : World) (hr0 : Kd.C Kd.string w A0 l0.length l0) (_hc0 : l0.length ≤ c0) (hr1 : Kd.C Kd.string w A1 l1.length l1) (_hc1 : l1.length ≤ c1) (h : path_common.f l0 l1 = some r) :
  Calls Tryd.prog 59 #[.slice A0 l0.length c0, .slice A1 l1.length c1] w fun e w' => e = .returned (.int .i64 r) ∧ Drawn0 w w' := by
 injection h with h
 subst h
 exact Go.Proofs.YtnfolcefjkannaaDoor.SumA.common_calls A0 c0 l0 A1 c1 l1 w hr0 hr1
def cmp_Compare_string.f (a0 : ByteArray) (a1 : ByteArray) : Option Int := some (Go.Proofs.YtnfolcefjkannaaDoor.Base.cmpT a0.data.toList a1.data.toList)
theorem cmp_Compare_string.calls (a0 : ByteArray) (a1 : ByteArray) (r : Int) (w : World) (h : cmp_Compare_string.f a0 a1 = some r) :
  Calls Tryd.prog 60 #[.string a0, .string a1] w fun e w' => e = .returned (.int .i64 r) ∧ Drawn0 w w' := by
 injection h with h
 subst h
 exact Go.Proofs.YtnfolcefjkannaaDoor.SumA.cmpString_calls a0 a1 w
def cmp_isNaN_int.f (a0 : Int) : Option (Bool) := some (a0 != a0)
set_option maxHeartbeats 8000000 in
set_option maxRecDepth 100000 in
theorem cmp_isNaN_int.calls (a0 : Int) (r : Bool) (w : World) (h : cmp_isNaN_int.f a0 = some r) :
  Calls Tryd.prog 79 #[.int .i64 a0] w fun e w' => e = .returned (.bool r) ∧ Drawn0 w w' := by
 have H : (some (a0 != a0)) = some r := h
 clear h; obtain rfl := Option.some.inj H
 go_enter Tryd.func79, Tryd.ntmps79
 go_wp2; go_ret
 exact ⟨by first | rfl | (simp; done) | (simp [*]; done), by repeat (first | exact Drawn0.refl _ | apply Drawn0.step)⟩
def cmp_Compare_int.f (a0 : Int) (a1 : Int) : Option (Int) := (cmp_isNaN_int.f a0).bind fun t104 => ((cmp_isNaN_int.f a1).bind fun t105 => (if t104 = true then (if t105 = true then (some 0) else (some (-1))) else (if t105 = true then (some 1) else (if a0 < a1 then (some (-1)) else (if a0 > a1 then (some 1) else (some 0))))))
set_option maxHeartbeats 8000000 in
set_option maxRecDepth 100000 in
theorem cmp_Compare_int.calls (a0 : Int) (a1 : Int) (r : Int) (w : World) (h : cmp_Compare_int.f a0 a1 = some r) :
  Calls Tryd.prog 61 #[.int .i64 a0, .int .i64 a1] w fun e w' => e = .returned (.int .i64 r) ∧ Drawn0 w w' := by
 have H : ((cmp_isNaN_int.f a0).bind fun t104 => ((cmp_isNaN_int.f a1).bind fun t105 => (if t104 = true then (if t105 = true then (some 0) else (some (-1))) else (if t105 = true then (some 1) else (if a0 < a1 then (some (-1)) else (if a0 > a1 then (some 1) else (some 0))))))) = some r := h
 clear h; replace H := Option.bind_eq_some_iff.mp H; obtain ⟨t104, A30, H⟩ := H
 replace H : ((cmp_isNaN_int.f a1).bind fun t105 => (if t104 = true then (if t105 = true then (some 0) else (some (-1))) else (if t105 = true then (some 1) else (if a0 < a1 then (some (-1)) else (if a0 > a1 then (some 1) else (some 0)))))) = some r := H
 have A3 := zA A30; clear A30; replace H := Option.bind_eq_some_iff.mp H; obtain ⟨t105, A40, H⟩ := H
 replace H : (if t104 = true then (if t105 = true then (some 0) else (some (-1))) else (if t105 = true then (some 1) else (if a0 < a1 then (some (-1)) else (if a0 > a1 then (some 1) else (some 0))))) = some r := H
 have A4 := zA A40; clear A40
 by_cases c5 : t104 = true
 ·subst c5
  have H1 : (if t105 = true then (some 0) else (some (-1))) = some r := by rw [if_pos rfl] at H; exact H
  clear H; have H := H1; clear H1
  by_cases c6 : t105 = true
  ·subst c6
   have H1 : (some 0) = some r := by rw [if_pos rfl] at H; exact H
   clear H; have H := H1; clear H1; obtain rfl := Option.some.inj H
   go_enter Tryd.func61, Tryd.ntmps61
   go_wp2_with (first | ((with_reducible refine gate_callee (f := 79) rfl ?_); refine goesL_ (some 8) rfl rfl Tryd.func79 (by kernel_rfl) rfl #[.int .i64 a0] rfl (by (try simp only [List.map_toArray, List.map_cons, List.map_nil]); first | done | rfl | (simp only [List.length_drop, List.length_take]; rfl)) ?_; (with_reducible refine (cmp_isNaN_int.calls a0 true _ A3.out).mono ?_); rintro e w' ⟨rfl, ⟨nd, rfl⟩⟩; refine ⟨_, rfl, ?_⟩) | ((with_reducible refine gate_callee (f := 79) rfl ?_); refine goesL_ (some 10) rfl rfl Tryd.func79 (by kernel_rfl) rfl #[.int .i64 a1] rfl (by (try simp only [List.map_toArray, List.map_cons, List.map_nil]); first | done | rfl | (simp only [List.length_drop, List.length_take]; rfl)) ?_; (with_reducible refine (cmp_isNaN_int.calls a1 true _ A4.out).mono ?_); rintro e w' ⟨rfl, ⟨nd, rfl⟩⟩; refine ⟨_, rfl, ?_⟩))
   go_ret
   exact ⟨by first | rfl | (simp; done) | (simp [*]; done), by repeat (first | exact Drawn0.refl _ | apply Drawn0.step)⟩
  replace c6 := Bool.eq_false_iff.mpr c6
  subst c6
  have H1 : (some (-1)) = some r := by rw [if_neg (show ¬ (false = true) by decide)] at H; exact H
  clear H; have H := H1; clear H1; obtain rfl := Option.some.inj H
  go_enter Tryd.func61, Tryd.ntmps61
  go_wp2_with (first | ((with_reducible refine gate_callee (f := 79) rfl ?_); refine goesL_ (some 8) rfl rfl Tryd.func79 (by kernel_rfl) rfl #[.int .i64 a0] rfl (by (try simp only [List.map_toArray, List.map_cons, List.map_nil]); first | done | rfl | (simp only [List.length_drop, List.length_take]; rfl)) ?_; (with_reducible refine (cmp_isNaN_int.calls a0 true _ A3.out).mono ?_); rintro e w' ⟨rfl, ⟨nd, rfl⟩⟩; refine ⟨_, rfl, ?_⟩) | ((with_reducible refine gate_callee (f := 79) rfl ?_); refine goesL_ (some 10) rfl rfl Tryd.func79 (by kernel_rfl) rfl #[.int .i64 a1] rfl (by (try simp only [List.map_toArray, List.map_cons, List.map_nil]); first | done | rfl | (simp only [List.length_drop, List.length_take]; rfl)) ?_; (with_reducible refine (cmp_isNaN_int.calls a1 false _ A4.out).mono ?_); rintro e w' ⟨rfl, ⟨nd, rfl⟩⟩; refine ⟨_, rfl, ?_⟩))
  go_ret
  exact ⟨by first | rfl | (simp; done) | (simp [*]; done), by repeat (first | exact Drawn0.refl _ | apply Drawn0.step)⟩
 replace c5 := Bool.eq_false_iff.mpr c5
 subst c5
 have H1 : (if t105 = true then (some 1) else (if a0 < a1 then (some (-1)) else (if a0 > a1 then (some 1) else (some 0)))) = some r := by rw [if_neg (show ¬ (false = true) by decide)] at H; exact H
 clear H; have H := H1; clear H1
 by_cases c7 : t105 = true
 ·subst c7
  have H1 : (some 1) = some r := by rw [if_pos rfl] at H; exact H
  clear H; have H := H1; clear H1; obtain rfl := Option.some.inj H
  go_enter Tryd.func61, Tryd.ntmps61
  go_wp2_with (first | ((with_reducible refine gate_callee (f := 79) rfl ?_); refine goesL_ (some 8) rfl rfl Tryd.func79 (by kernel_rfl) rfl #[.int .i64 a0] rfl (by (try simp only [List.map_toArray, List.map_cons, List.map_nil]); first | done | rfl | (simp only [List.length_drop, List.length_take]; rfl)) ?_; (with_reducible refine (cmp_isNaN_int.calls a0 false _ A3.out).mono ?_); rintro e w' ⟨rfl, ⟨nd, rfl⟩⟩; refine ⟨_, rfl, ?_⟩) | ((with_reducible refine gate_callee (f := 79) rfl ?_); refine goesL_ (some 10) rfl rfl Tryd.func79 (by kernel_rfl) rfl #[.int .i64 a1] rfl (by (try simp only [List.map_toArray, List.map_cons, List.map_nil]); first | done | rfl | (simp only [List.length_drop, List.length_take]; rfl)) ?_; (with_reducible refine (cmp_isNaN_int.calls a1 true _ A4.out).mono ?_); rintro e w' ⟨rfl, ⟨nd, rfl⟩⟩; refine ⟨_, rfl, ?_⟩))
  go_ret
  exact ⟨by first | rfl | (simp; done) | (simp [*]; done), by repeat (first | exact Drawn0.refl _ | apply Drawn0.step)⟩
 replace c7 := Bool.eq_false_iff.mpr c7
 subst c7
 have H1 : (if a0 < a1 then (some (-1)) else (if a0 > a1 then (some 1) else (some 0))) = some r := by rw [if_neg (show ¬ (false = true) by decide)] at H; exact H
 clear H; have H := H1; clear H1
 by_cases c8 : a0 < a1
 ·rw [if_pos c8] at H
  have c8b0 : decide (a0 < a1) = true := decide_eq_true c8
  clear c8; obtain rfl := Option.some.inj H
  go_enter Tryd.func61, Tryd.ntmps61
  go_wp2_with (first | ((with_reducible refine gate_callee (f := 79) rfl ?_); refine goesL_ (some 8) rfl rfl Tryd.func79 (by kernel_rfl) rfl #[.int .i64 a0] rfl (by (try simp only [List.map_toArray, List.map_cons, List.map_nil]); first | done | rfl | (simp only [List.length_drop, List.length_take]; rfl)) ?_; (with_reducible refine (cmp_isNaN_int.calls a0 false _ A3.out).mono ?_); rintro e w' ⟨rfl, ⟨nd, rfl⟩⟩; refine ⟨_, rfl, ?_⟩) | ((with_reducible refine gate_callee (f := 79) rfl ?_); refine goesL_ (some 10) rfl rfl Tryd.func79 (by kernel_rfl) rfl #[.int .i64 a1] rfl (by (try simp only [List.map_toArray, List.map_cons, List.map_nil]); first | done | rfl | (simp only [List.length_drop, List.length_take]; rfl)) ?_; (with_reducible refine (cmp_isNaN_int.calls a1 false _ A4.out).mono ?_); rintro e w' ⟨rfl, ⟨nd, rfl⟩⟩; refine ⟨_, rfl, ?_⟩))
  go_ret
  exact ⟨by first | rfl | (simp; done) | (simp [*]; done), by repeat (first | exact Drawn0.refl _ | apply Drawn0.step)⟩
 rw [if_neg c8] at H
 have c8b0 : decide (a0 < a1) = false := decide_eq_false c8
 clear c8
 by_cases c9 : a0 > a1
 ·rw [if_pos c9] at H
  have c9b0 : decide (a1 < a0) = true := decide_eq_true c9
  clear c9; obtain rfl := Option.some.inj H
  go_enter Tryd.func61, Tryd.ntmps61
  go_wp2_with (first | ((with_reducible refine gate_callee (f := 79) rfl ?_); refine goesL_ (some 8) rfl rfl Tryd.func79 (by kernel_rfl) rfl #[.int .i64 a0] rfl (by (try simp only [List.map_toArray, List.map_cons, List.map_nil]); first | done | rfl | (simp only [List.length_drop, List.length_take]; rfl)) ?_; (with_reducible refine (cmp_isNaN_int.calls a0 false _ A3.out).mono ?_); rintro e w' ⟨rfl, ⟨nd, rfl⟩⟩; refine ⟨_, rfl, ?_⟩) | ((with_reducible refine gate_callee (f := 79) rfl ?_); refine goesL_ (some 10) rfl rfl Tryd.func79 (by kernel_rfl) rfl #[.int .i64 a1] rfl (by (try simp only [List.map_toArray, List.map_cons, List.map_nil]); first | done | rfl | (simp only [List.length_drop, List.length_take]; rfl)) ?_; (with_reducible refine (cmp_isNaN_int.calls a1 false _ A4.out).mono ?_); rintro e w' ⟨rfl, ⟨nd, rfl⟩⟩; refine ⟨_, rfl, ?_⟩))
  go_ret
  exact ⟨by first | rfl | (simp; done) | (simp [*]; done), by repeat (first | exact Drawn0.refl _ | apply Drawn0.step)⟩
 rw [if_neg c9] at H
 have c9b0 : decide (a1 < a0) = false := decide_eq_false c9
 clear c9; obtain rfl := Option.some.inj H
 go_enter Tryd.func61, Tryd.ntmps61
 go_wp2_with (first | ((with_reducible refine gate_callee (f := 79) rfl ?_); refine goesL_ (some 8) rfl rfl Tryd.func79 (by kernel_rfl) rfl #[.int .i64 a0] rfl (by (try simp only [List.map_toArray, List.map_cons, List.map_nil]); first | done | rfl | (simp only [List.length_drop, List.length_take]; rfl)) ?_; (with_reducible refine (cmp_isNaN_int.calls a0 false _ A3.out).mono ?_); rintro e w' ⟨rfl, ⟨nd, rfl⟩⟩; refine ⟨_, rfl, ?_⟩) | ((with_reducible refine gate_callee (f := 79) rfl ?_); refine goesL_ (some 10) rfl rfl Tryd.func79 (by kernel_rfl) rfl #[.int .i64 a1] rfl (by (try simp only [List.map_toArray, List.map_cons, List.map_nil]); first | done | rfl | (simp only [List.length_drop, List.length_take]; rfl)) ?_; (with_reducible refine (cmp_isNaN_int.calls a1 false _ A4.out).mono ?_); rintro e w' ⟨rfl, ⟨nd, rfl⟩⟩; refine ⟨_, rfl, ?_⟩))
 go_ret
 exact ⟨by first | rfl | (simp; done) | (simp [*]; done), by repeat (first | exact Drawn0.refl _ | apply Drawn0.step)⟩
def path_Cmp.j0 : Nat → List ByteArray → List ByteArray → Int → Bool → Option (Int)
 | 0, _, _, _, _ => none
 | k + 1, x5, x6, x7, x24 => if x24 = true then (if 0 ≤ x7 then (if x7 < (x5.length : Int) then (if x7 < (x6.length : Int) then ((cmp_Compare_string.f (rdOf ByteArray.empty x5 x7) (rdOf ByteArray.empty x6 x7)).bind fun t115 => (some t115)) else (none)) else (none)) else (none)) else ((cmp_Compare_int.f (x5.length : Int) (x6.length : Int)).bind fun t116 => (some t116))
def path_Cmp.f (k : Nat) (a0 : ByteArray) (a1 : ByteArray) : Option (Int) := (path_Split.f a0).bind fun t106 => ((path_Split.f a1).bind fun t109 => ((path_common.f t106 t109).bind fun t112 => (if t112 < (t106.length : Int) then (path_Cmp.j0 k t106 t109 t112 (decide (t112 < (t109.length : Int)))) else (path_Cmp.j0 k t106 t109 t112 false))))
set_option maxHeartbeats 8000000 in
set_option maxRecDepth 100000 in
theorem path_Cmp.calls (k : Nat) (a0 : ByteArray) (a1 : ByteArray) (r : Int) (w : World) (h : path_Cmp.f k a0 a1 = some r) :
  Calls Tryd.prog 36 #[.string a0, .string a1] w fun e w' => e = .returned (.int .i64 r) ∧ Below w.heap.size w w' := by
 have HB := zA (Below.refl w.heap.size w)
 have H : ((path_Split.f a0).bind fun t106 => ((path_Split.f a1).bind fun t109 => ((path_common.f t106 t109).bind fun t112 => (if t112 < (t106.length : Int) then (path_Cmp.j0 k t106 t109 t112 (decide (t112 < (t109.length : Int)))) else (path_Cmp.j0 k t106 t109 t112 false))))) = some r := h
 clear h; replace H := Option.bind_eq_some_iff.mp H; obtain ⟨t106, A30, H⟩ := H
 replace H : ((path_Split.f a1).bind fun t109 => ((path_common.f t106 t109).bind fun t112 => (if t112 < (t106.length : Int) then (path_Cmp.j0 k t106 t109 t112 (decide (t112 < (t109.length : Int)))) else (path_Cmp.j0 k t106 t109 t112 false)))) = some r := H
 have A3 := zA A30; clear A30; replace H := Option.bind_eq_some_iff.mp H; obtain ⟨t109, A40, H⟩ := H
 replace H : ((path_common.f t106 t109).bind fun t112 => (if t112 < (t106.length : Int) then (path_Cmp.j0 k t106 t109 t112 (decide (t112 < (t109.length : Int)))) else (path_Cmp.j0 k t106 t109 t112 false))) = some r := H
 have A4 := zA A40; clear A40; replace H := Option.bind_eq_some_iff.mp H; obtain ⟨t112, A50, H⟩ := H
 replace H : (if t112 < (t106.length : Int) then (path_Cmp.j0 k t106 t109 t112 (decide (t112 < (t109.length : Int)))) else (path_Cmp.j0 k t106 t109 t112 false)) = some r := H
 have A5 := zA A50; clear A50; have HC6 := zA H; clear H
 go_enter Tryd.func36, Tryd.ntmps36
 go_upto_region 3 with (first | (go_at_call 52; (with_reducible refine (path_Split.calls a0 t106 _ A3.out).mono ?_); rintro e w7 ⟨v107, rfl, ho0, hb⟩; have n0_ := zA (Kd.R_lower ho0 (below_size (by repeat (first | (with_reducible first | exact HB.out | apply zL | apply zN | apply zD) | exact HB.out)))); have n1_ := zA (below_step (by repeat (first | (with_reducible first | exact HB.out | apply zL | apply zN | apply zD) | exact HB.out)) hb); clear HB; have HO108 := n0_; have HB := n1_; clear n0_ n1_; (try clear hb); (try clear hb2); (try clear hk); (try clear hi); (try clear ho0)) | (go_at_call 52; (with_reducible refine (path_Split.calls a1 t109 _ A4.out).mono ?_); rintro e w8 ⟨v110, rfl, ho0, hb⟩; have n0_ := zA (Kd.R_elder' (by (with_reducible repeat (first | apply Kd.R_alloc | apply Kd.R_drewN | apply Kd.R_drew)); exact HO108.out) (Kd.R_base ho0) hb); have n1_ := zA (Kd.R_lower (Kd.R_new' ho0 (Kd.R_lt (by (with_reducible repeat (first | apply Kd.R_alloc | apply Kd.R_drewN | apply Kd.R_drew)); exact HO108.out))) (below_size (by repeat (first | (with_reducible first | exact HB.out | apply zL | apply zN | apply zD) | exact HB.out)))); have n2_ := zA (below_step (by repeat (first | (with_reducible first | exact HB.out | apply zL | apply zN | apply zD) | exact HB.out)) hb); clear HO108; clear HB; have HO108 := n0_; have HO111 := n1_; have HB := n2_; clear n0_ n1_ n2_; (try clear hb); (try clear hb2); (try clear hk); (try clear hi); (try clear ho0); obtain ⟨Ao9, co9, eo9⟩ := Kd.R_slice HO108.out; subst eo9; obtain ⟨Ao10, co10, eo10⟩ := Kd.R_slice HO111.out; subst eo10) | (go_at_call 59; (with_reducible refine (path_common.calls _ _ t106 _ _ t109 t112 _ ?side1 ?side2 ?side3 ?side4 A5.out).mono ?_); (case side1 => repeat (first | exact (Kd.R_reads' HO108.out).2.2 | (with_reducible refine Kd.C_alloc ?_ _) | (with_reducible refine Kd.C_drewN ?_ _) | (with_reducible refine Kd.C_drew ?_))); (case side2 => exact (Kd.R_reads' HO108.out).2.1); (case side3 => repeat (first | exact (Kd.R_reads' HO111.out).2.2 | (with_reducible refine Kd.C_alloc ?_ _) | (with_reducible refine Kd.C_drewN ?_ _) | (with_reducible refine Kd.C_drew ?_))); (case side4 => exact (Kd.R_reads' HO111.out).2.1); rintro e w' ⟨rfl, ⟨nd, rfl⟩⟩; (try first | exact ⟨rfl, _, World.drewN_drewN _ _ _⟩ | exact ⟨rfl, _, Eq.trans (World.drewN_drewN _ _ _) (congrArg (World.drewN _) (Nat.add_assoc _ _ _))⟩)))
 repeat (go_quiet (first | (go_at_call 52; (with_reducible refine (path_Split.calls a0 t106 _ A3.out).mono ?_); rintro e w7 ⟨v107, rfl, ho0, hb⟩; have n0_ := zA (Kd.R_lower ho0 (below_size (by repeat (first | (with_reducible first | exact HB.out | apply zL | apply zN | apply zD) | exact HB.out)))); have n1_ := zA (below_step (by repeat (first | (with_reducible first | exact HB.out | apply zL | apply zN | apply zD) | exact HB.out)) hb); clear HB; have HO108 := n0_; have HB := n1_; clear n0_ n1_; (try clear hb); (try clear hb2); (try clear hk); (try clear hi); (try clear ho0)) | (go_at_call 52; (with_reducible refine (path_Split.calls a1 t109 _ A4.out).mono ?_); rintro e w8 ⟨v110, rfl, ho0, hb⟩; have n0_ := zA (Kd.R_elder' (by (with_reducible repeat (first | apply Kd.R_alloc | apply Kd.R_drewN | apply Kd.R_drew)); exact HO108.out) (Kd.R_base ho0) hb); have n1_ := zA (Kd.R_lower (Kd.R_new' ho0 (Kd.R_lt (by (with_reducible repeat (first | apply Kd.R_alloc | apply Kd.R_drewN | apply Kd.R_drew)); exact HO108.out))) (below_size (by repeat (first | (with_reducible first | exact HB.out | apply zL | apply zN | apply zD) | exact HB.out)))); have n2_ := zA (below_step (by repeat (first | (with_reducible first | exact HB.out | apply zL | apply zN | apply zD) | exact HB.out)) hb); clear HO108; clear HB; have HO108 := n0_; have HO111 := n1_; have HB := n2_; clear n0_ n1_ n2_; (try clear hb); (try clear hb2); (try clear hk); (try clear hi); (try clear ho0); obtain ⟨Ao9, co9, eo9⟩ := Kd.R_slice HO108.out; subst eo9; obtain ⟨Ao10, co10, eo10⟩ := Kd.R_slice HO111.out; subst eo10) | (go_at_call 59; (with_reducible refine (path_common.calls _ _ t106 _ _ t109 t112 _ ?side1 ?side2 ?side3 ?side4 A5.out).mono ?_); (case side1 => repeat (first | exact (Kd.R_reads' HO108.out).2.2 | (with_reducible refine Kd.C_alloc ?_ _) | (with_reducible refine Kd.C_drewN ?_ _) | (with_reducible refine Kd.C_drew ?_))); (case side2 => exact (Kd.R_reads' HO108.out).2.1); (case side3 => repeat (first | exact (Kd.R_reads' HO111.out).2.2 | (with_reducible refine Kd.C_alloc ?_ _) | (with_reducible refine Kd.C_drewN ?_ _) | (with_reducible refine Kd.C_drew ?_))); (case side4 => exact (Kd.R_reads' HO111.out).2.1); rintro e w' ⟨rfl, ⟨nd, rfl⟩⟩; (try first | exact ⟨rfl, _, World.drewN_drewN _ _ _⟩ | exact ⟨rfl, _, Eq.trans (World.drewN_drewN _ _ _) (congrArg (World.drewN _) (Nat.add_assoc _ _ _))⟩))); go_upto_region 3 with (first | (go_at_call 52; (with_reducible refine (path_Split.calls a0 t106 _ A3.out).mono ?_); rintro e w7 ⟨v107, rfl, ho0, hb⟩; have n0_ := zA (Kd.R_lower ho0 (below_size (by repeat (first | (with_reducible first | exact HB.out | apply zL | apply zN | apply zD) | exact HB.out)))); have n1_ := zA (below_step (by repeat (first | (with_reducible first | exact HB.out | apply zL | apply zN | apply zD) | exact HB.out)) hb); clear HB; have HO108 := n0_; have HB := n1_; clear n0_ n1_; (try clear hb); (try clear hb2); (try clear hk); (try clear hi); (try clear ho0)) | (go_at_call 52; (with_reducible refine (path_Split.calls a1 t109 _ A4.out).mono ?_); rintro e w8 ⟨v110, rfl, ho0, hb⟩; have n0_ := zA (Kd.R_elder' (by (with_reducible repeat (first | apply Kd.R_alloc | apply Kd.R_drewN | apply Kd.R_drew)); exact HO108.out) (Kd.R_base ho0) hb); have n1_ := zA (Kd.R_lower (Kd.R_new' ho0 (Kd.R_lt (by (with_reducible repeat (first | apply Kd.R_alloc | apply Kd.R_drewN | apply Kd.R_drew)); exact HO108.out))) (below_size (by repeat (first | (with_reducible first | exact HB.out | apply zL | apply zN | apply zD) | exact HB.out)))); have n2_ := zA (below_step (by repeat (first | (with_reducible first | exact HB.out | apply zL | apply zN | apply zD) | exact HB.out)) hb); clear HO108; clear HB; have HO108 := n0_; have HO111 := n1_; have HB := n2_; clear n0_ n1_ n2_; (try clear hb); (try clear hb2); (try clear hk); (try clear hi); (try clear ho0); obtain ⟨Ao9, co9, eo9⟩ := Kd.R_slice HO108.out; subst eo9; obtain ⟨Ao10, co10, eo10⟩ := Kd.R_slice HO111.out; subst eo10) | (go_at_call 59; (with_reducible refine (path_common.calls _ _ t106 _ _ t109 t112 _ ?side1 ?side2 ?side3 ?side4 A5.out).mono ?_); (case side1 => repeat (first | exact (Kd.R_reads' HO108.out).2.2 | (with_reducible refine Kd.C_alloc ?_ _) | (with_reducible refine Kd.C_drewN ?_ _) | (with_reducible refine Kd.C_drew ?_))); (case side2 => exact (Kd.R_reads' HO108.out).2.1); (case side3 => repeat (first | exact (Kd.R_reads' HO111.out).2.2 | (with_reducible refine Kd.C_alloc ?_ _) | (with_reducible refine Kd.C_drewN ?_ _) | (with_reducible refine Kd.C_drew ?_))); (case side4 => exact (Kd.R_reads' HO111.out).2.1); rintro e w' ⟨rfl, ⟨nd, rfl⟩⟩; (try first | exact ⟨rfl, _, World.drewN_drewN _ _ _⟩ | exact ⟨rfl, _, Eq.trans (World.drewN_drewN _ _ _) (congrArg (World.drewN _) (Nat.add_assoc _ _ _))⟩))))
 (try simp only [Act.put, zS, zZ, zC])
 go_cut [24] (fun v24 wc => ∃ (kq : Nat) (x24_5 : Bool), v24 = .bool x24_5 ∧ Aside0 (path_Cmp.j0 kq t106 t109 t112 x24_5 = some r) ∧ Aside0 (kq ≤ k) ∧ Aside0 (Kd.R Kd.string 9 wc w.heap.size (fun k_ => some k_ ≠ ((.slice Ao10 t109.length co10) : Value).ownBlock) (.slice Ao9 t106.length co9) t106) ∧ Aside0 (Kd.R Kd.string 9 wc w.heap.size (fun k_ => some k_ ≠ ((.slice Ao9 t106.length co9) : Value).ownBlock) (.slice Ao10 t109.length co10) t109) ∧ Aside0 (Below w.heap.size w wc))
 case first =>
  have H := HC6.out
  clear HC6
  by_cases c11 : t112 < (t106.length : Int)
  rotate_left
  ·rw [if_neg c11] at H
   have c11b0 : decide (t112 < (t106.length : Int)) = false := decide_eq_false c11
   clear c11
   (first | rw [c11b0] | (simp only [i64_w, i32_w]; rw [c11b0]) | skip)
   have H' := zA H
   clear H; go_wp2
   repeat (go_quiet (fail); try go_wp2)
   go_meet
   case rel => exact ⟨_, (false), (by first | rfl | (simp; done) | (simp [*]; done)), H', ⟨by first | omega | exact Nat.le_refl _⟩, ⟨by (with_reducible repeat (first | apply Kd.R_alloc | apply Kd.R_drewN | apply Kd.R_drew)); exact Kd.R_mono HO108.out (fun _ hk => hk.2)⟩, ⟨by (with_reducible repeat (first | apply Kd.R_alloc | apply Kd.R_drewN | apply Kd.R_drew)); exact Kd.R_mono HO111.out (fun _ hk => hk.2)⟩, ⟨by repeat (first | (with_reducible first | exact HB.out | apply zL | apply zN | apply zD) | exact HB.out)⟩⟩
  rw [if_pos c11] at H
  have c11b0 : decide (t112 < (t106.length : Int)) = true := decide_eq_true c11
  clear c11
  (first | rw [c11b0] | (simp only [i64_w, i32_w]; rw [c11b0]) | skip)
  have H' := zA H
  clear H; go_wp2
  repeat (go_quiet (fail); try go_wp2)
  go_meet
  case rel => exact ⟨_, (decide (t112 < (t109.length : Int))), (by first | rfl | (simp; done) | (simp [*]; done)), H', ⟨by first | omega | exact Nat.le_refl _⟩, ⟨by (with_reducible repeat (first | apply Kd.R_alloc | apply Kd.R_drewN | apply Kd.R_drew)); exact Kd.R_mono HO108.out (fun _ hk => hk.2)⟩, ⟨by (with_reducible repeat (first | apply Kd.R_alloc | apply Kd.R_drewN | apply Kd.R_drew)); exact Kd.R_mono HO111.out (fun _ hk => hk.2)⟩, ⟨by repeat (first | (with_reducible first | exact HB.out | apply zL | apply zN | apply zD) | exact HB.out)⟩⟩
 case rest =>
  clear HC6
  try clear c1
  try clear p2
  try clear c3
  try clear c11
  try clear c11b0
  obtain ⟨kq, x24_5, rfl, HA, HJ5, HO_5, HO_6, HB⟩ := hcut
  cases kq with
  | zero => exact absurd HA.out (by simp [path_Cmp.j0])
  | succ kj5 =>
   have H := HA.out
   clear HA
   simp only [path_Cmp.j0] at H
   by_cases c12 : x24_5 = true
   rotate_left
   ·replace c12 := Bool.eq_false_iff.mpr c12
    subst c12
    have H1 : ((cmp_Compare_int.f (t106.length : Int) (t109.length : Int)).bind fun t116 => (some t116)) = some r := by rw [if_neg (show ¬ (false = true) by decide)] at H; exact H
    clear H; have H := H1; clear H1; replace H := Option.bind_eq_some_iff.mp H; obtain ⟨t116, A170, H⟩ := H
    replace H : (some t116) = some r := H
    have A17 := zA A170; clear A170; obtain rfl := Option.some.inj H
    go_wp2_with (first | (go_at_call 61; (with_reducible refine (cmp_Compare_int.calls (t106.length : Int) (t109.length : Int) t116 _ A17.out).mono ?_); rintro e w' ⟨rfl, ⟨nd, rfl⟩⟩; (try first | exact ⟨rfl, _, World.drewN_drewN _ _ _⟩ | exact ⟨rfl, _, Eq.trans (World.drewN_drewN _ _ _) (congrArg (World.drewN _) (Nat.add_assoc _ _ _))⟩)))
    repeat (go_quiet (first | (go_at_call 61; (with_reducible refine (cmp_Compare_int.calls (t106.length : Int) (t109.length : Int) t116 _ A17.out).mono ?_); rintro e w' ⟨rfl, ⟨nd, rfl⟩⟩; (try first | exact ⟨rfl, _, World.drewN_drewN _ _ _⟩ | exact ⟨rfl, _, Eq.trans (World.drewN_drewN _ _ _) (congrArg (World.drewN _) (Nat.add_assoc _ _ _))⟩))); try go_wp2_with (first | (go_at_call 61; (with_reducible refine (cmp_Compare_int.calls (t106.length : Int) (t109.length : Int) t116 _ A17.out).mono ?_); rintro e w' ⟨rfl, ⟨nd, rfl⟩⟩; (try first | exact ⟨rfl, _, World.drewN_drewN _ _ _⟩ | exact ⟨rfl, _, Eq.trans (World.drewN_drewN _ _ _) (congrArg (World.drewN _) (Nat.add_assoc _ _ _))⟩))))
    go_ret
    exact ⟨by first | rfl | (simp [errW_none, errW_some] <;> rfl) | (simp [*, errW_none, errW_some] <;> rfl), by repeat (first | (with_reducible first | exact HB.out | apply zL | apply zN | apply zD) | exact HB.out)⟩
   subst c12
   have H1 : (if 0 ≤ t112 then (if t112 < (t106.length : Int) then (if t112 < (t109.length : Int) then ((cmp_Compare_string.f (rdOf ByteArray.empty t106 t112) (rdOf ByteArray.empty t109 t112)).bind fun t115 => (some t115)) else (none)) else (none)) else (none)) = some r := by rw [if_pos rfl] at H; exact H
   clear H; have H := H1; clear H1
   by_cases c13 : 0 ≤ t112
   rotate_left
   ·rw [if_neg c13] at H
    exact absurd H (by simp)
   rw [if_pos c13] at H
   have c13b0 : decide (0 ≤ t112) = true := decide_eq_true c13
   clear c13
   by_cases c14 : t112 < (t106.length : Int)
   rotate_left
   ·rw [if_neg c14] at H
    exact absurd H (by simp)
   rw [if_pos c14] at H
   have c14b0 : decide (t112 < (t106.length : Int)) = true := decide_eq_true c14
   clear c14
   by_cases c15 : t112 < (t109.length : Int)
   rotate_left
   ·rw [if_neg c15] at H
    exact absurd H (by simp)
   rw [if_pos c15] at H
   have c15b0 : decide (t112 < (t109.length : Int)) = true := decide_eq_true c15
   clear c15; replace H := Option.bind_eq_some_iff.mp H; obtain ⟨t115, A160, H⟩ := H
   replace H : (some t115) = some r := H
   have A16 := zA A160; clear A160; obtain rfl := Option.some.inj H
   have p113 : 0 ≤ (t112 : Int) := zO (by first | (with_reducible assumption) | assumption)
   have q113 : t112 < (t106.length : Int) := zO (by first | (with_reducible assumption) | assumption)
   obtain ⟨ad113, e113, hx113_0⟩ := Kd.at_string (Kd.R_reads' HO_5.out).2.2 t112 p113 q113
   cases e113
   replace p113 := eq_true p113
   replace q113 := eq_true q113
   have p114 : 0 ≤ (t112 : Int) := zO (by first | (with_reducible assumption) | assumption)
   have q114 : t112 < (t109.length : Int) := zO (by first | (with_reducible assumption) | assumption)
   obtain ⟨ad114, e114, hx114_0⟩ := Kd.at_string (Kd.R_reads' HO_6.out).2.2 t112 p114 q114
   cases e114
   replace p114 := eq_true p114
   replace q114 := eq_true q114
   go_wp2_with (first | (go_at_call 60; (with_reducible refine (cmp_Compare_string.calls (rdOf ByteArray.empty t106 t112) (rdOf ByteArray.empty t109 t112) t115 _ A16.out).mono ?_); rintro e w' ⟨rfl, ⟨nd, rfl⟩⟩; (try first | exact ⟨rfl, _, World.drewN_drewN _ _ _⟩ | exact ⟨rfl, _, Eq.trans (World.drewN_drewN _ _ _) (congrArg (World.drewN _) (Nat.add_assoc _ _ _))⟩)))
   repeat (go_quiet (first | (go_at_call 60; (with_reducible refine (cmp_Compare_string.calls (rdOf ByteArray.empty t106 t112) (rdOf ByteArray.empty t109 t112) t115 _ A16.out).mono ?_); rintro e w' ⟨rfl, ⟨nd, rfl⟩⟩; (try first | exact ⟨rfl, _, World.drewN_drewN _ _ _⟩ | exact ⟨rfl, _, Eq.trans (World.drewN_drewN _ _ _) (congrArg (World.drewN _) (Nat.add_assoc _ _ _))⟩))); try go_wp2_with (first | (go_at_call 60; (with_reducible refine (cmp_Compare_string.calls (rdOf ByteArray.empty t106 t112) (rdOf ByteArray.empty t109 t112) t115 _ A16.out).mono ?_); rintro e w' ⟨rfl, ⟨nd, rfl⟩⟩; (try first | exact ⟨rfl, _, World.drewN_drewN _ _ _⟩ | exact ⟨rfl, _, Eq.trans (World.drewN_drewN _ _ _) (congrArg (World.drewN _) (Nat.add_assoc _ _ _))⟩))))
   go_ret
   exact ⟨by first | rfl | (simp [errW_none, errW_some] <;> rfl) | (simp [*, errW_none, errW_some] <;> rfl), by repeat (first | (with_reducible first | exact HB.out | apply zL | apply zN | apply zD) | exact HB.out)⟩
def path_Above.f (a0 : ByteArray) (a1 : ByteArray) : Option (Bool) := (path_Split.f a0).bind fun t117 => ((path_Split.f a1).bind fun t120 => (if (t117.length : Int) < (t120.length : Int) then ((path_common.f t117 t120).bind fun t123 => (some (t123 == (t117.length : Int)))) else (some false)))
set_option maxHeartbeats 8000000 in
set_option maxRecDepth 100000 in
theorem path_Above.calls (a0 : ByteArray) (a1 : ByteArray) (r : Bool) (w : World) (h : path_Above.f a0 a1 = some r) :
  Calls Tryd.prog 37 #[.string a0, .string a1] w fun e w' => e = .returned (.bool r) ∧ Below w.heap.size w w' := by
 have HB := zA (Below.refl w.heap.size w)
 have H : ((path_Split.f a0).bind fun t117 => ((path_Split.f a1).bind fun t120 => (if (t117.length : Int) < (t120.length : Int) then ((path_common.f t117 t120).bind fun t123 => (some (t123 == (t117.length : Int)))) else (some false)))) = some r := h
 clear h; replace H := Option.bind_eq_some_iff.mp H; obtain ⟨t117, A30, H⟩ := H
 replace H : ((path_Split.f a1).bind fun t120 => (if (t117.length : Int) < (t120.length : Int) then ((path_common.f t117 t120).bind fun t123 => (some (t123 == (t117.length : Int)))) else (some false))) = some r := H
 have A3 := zA A30; clear A30; replace H := Option.bind_eq_some_iff.mp H; obtain ⟨t120, A40, H⟩ := H
 replace H : (if (t117.length : Int) < (t120.length : Int) then ((path_common.f t117 t120).bind fun t123 => (some (t123 == (t117.length : Int)))) else (some false)) = some r := H
 have A4 := zA A40; clear A40
 by_cases c5 : (t117.length : Int) < (t120.length : Int)
 rotate_left
 ·rw [if_neg c5] at H
  have c5b0 : decide ((t117.length : Int) < (t120.length : Int)) = false := decide_eq_false c5
  have c5b1 : decide (t117.length < t120.length) = false := decide_eq_false (fun h => c5 (Int.ofNat_lt.mpr h))
  clear c5; obtain rfl := Option.some.inj H
  go_enter Tryd.func37, Tryd.ntmps37
  go_wp2_with (first | ((with_reducible refine gate_callee (f := 52) rfl ?_); refine goesL_ (some 8) rfl rfl Tryd.func52 (by kernel_rfl) rfl #[.string a0] rfl (by (try simp only [List.map_toArray, List.map_cons, List.map_nil]); first | done | rfl | (simp only [List.length_drop, List.length_take]; rfl)) ?_; (with_reducible refine (path_Split.calls a0 t117 _ A3.out).mono ?_); rintro e w11 ⟨v118, rfl, ho0, hb⟩; refine ⟨_, rfl, ?_⟩; have n0_ := zA (Kd.R_lower ho0 (below_size (by repeat (first | (with_reducible first | exact HB.out | apply zL | apply zN | apply zD) | exact HB.out)))); have n1_ := zA (below_step (by repeat (first | (with_reducible first | exact HB.out | apply zL | apply zN | apply zD) | exact HB.out)) hb); clear HB; have HO119 := n0_; have HB := n1_; clear n0_ n1_; (try clear hb); (try clear hb2); (try clear hk); (try clear hi); (try clear ho0)) | ((with_reducible refine gate_callee (f := 52) rfl ?_); refine goesL_ (some 10) rfl rfl Tryd.func52 (by kernel_rfl) rfl #[.string a1] rfl (by (try simp only [List.map_toArray, List.map_cons, List.map_nil]); first | done | rfl | (simp only [List.length_drop, List.length_take]; rfl)) ?_; (with_reducible refine (path_Split.calls a1 t120 _ A4.out).mono ?_); rintro e w12 ⟨v121, rfl, ho0, hb⟩; refine ⟨_, rfl, ?_⟩; have n0_ := zA (Kd.R_elder' (by (with_reducible repeat (first | apply Kd.R_alloc | apply Kd.R_drewN | apply Kd.R_drew)); exact HO119.out) (Kd.R_base ho0) hb); have n1_ := zA (Kd.R_lower (Kd.R_new' ho0 (Kd.R_lt (by (with_reducible repeat (first | apply Kd.R_alloc | apply Kd.R_drewN | apply Kd.R_drew)); exact HO119.out))) (below_size (by repeat (first | (with_reducible first | exact HB.out | apply zL | apply zN | apply zD) | exact HB.out)))); have n2_ := zA (below_step (by repeat (first | (with_reducible first | exact HB.out | apply zL | apply zN | apply zD) | exact HB.out)) hb); clear HO119; clear HB; have HO119 := n0_; have HO122 := n1_; have HB := n2_; clear n0_ n1_ n2_; (try clear hb); (try clear hb2); (try clear hk); (try clear hi); (try clear ho0); obtain ⟨Ao13, co13, eo13⟩ := Kd.R_slice HO119.out; subst eo13; obtain ⟨Ao14, co14, eo14⟩ := Kd.R_slice HO122.out; subst eo14))
  go_ret
  exact ⟨by first | rfl | (simp [errW_none, errW_some] <;> rfl) | (simp [*, errW_none, errW_some] <;> rfl), by repeat (first | (with_reducible first | exact HB.out | apply zL | apply zN | apply zD) | exact HB.out)⟩
 rw [if_pos c5] at H
 have c5b0 : decide ((t117.length : Int) < (t120.length : Int)) = true := decide_eq_true c5
 have c5b1 : decide (t117.length < t120.length) = true := decide_eq_true (Int.ofNat_lt.mp c5)
 clear c5; replace H := Option.bind_eq_some_iff.mp H; obtain ⟨t123, A60, H⟩ := H
 replace H : (some (t123 == (t117.length : Int))) = some r := H
 have A6 := zA A60; clear A60; obtain rfl := Option.some.inj H
 go_enter Tryd.func37, Tryd.ntmps37
 go_wp2_with (first | ((with_reducible refine gate_callee (f := 52) rfl ?_); refine goesL_ (some 8) rfl rfl Tryd.func52 (by kernel_rfl) rfl #[.string a0] rfl (by (try simp only [List.map_toArray, List.map_cons, List.map_nil]); first | done | rfl | (simp only [List.length_drop, List.length_take]; rfl)) ?_; (with_reducible refine (path_Split.calls a0 t117 _ A3.out).mono ?_); rintro e w7 ⟨v118, rfl, ho0, hb⟩; refine ⟨_, rfl, ?_⟩; have n0_ := zA (Kd.R_lower ho0 (below_size (by repeat (first | (with_reducible first | exact HB.out | apply zL | apply zN | apply zD) | exact HB.out)))); have n1_ := zA (below_step (by repeat (first | (with_reducible first | exact HB.out | apply zL | apply zN | apply zD) | exact HB.out)) hb); clear HB; have HO119 := n0_; have HB := n1_; clear n0_ n1_; (try clear hb); (try clear hb2); (try clear hk); (try clear hi); (try clear ho0)) | ((with_reducible refine gate_callee (f := 52) rfl ?_); refine goesL_ (some 10) rfl rfl Tryd.func52 (by kernel_rfl) rfl #[.string a1] rfl (by (try simp only [List.map_toArray, List.map_cons, List.map_nil]); first | done | rfl | (simp only [List.length_drop, List.length_take]; rfl)) ?_; (with_reducible refine (path_Split.calls a1 t120 _ A4.out).mono ?_); rintro e w8 ⟨v121, rfl, ho0, hb⟩; refine ⟨_, rfl, ?_⟩; have n0_ := zA (Kd.R_elder' (by (with_reducible repeat (first | apply Kd.R_alloc | apply Kd.R_drewN | apply Kd.R_drew)); exact HO119.out) (Kd.R_base ho0) hb); have n1_ := zA (Kd.R_lower (Kd.R_new' ho0 (Kd.R_lt (by (with_reducible repeat (first | apply Kd.R_alloc | apply Kd.R_drewN | apply Kd.R_drew)); exact HO119.out))) (below_size (by repeat (first | (with_reducible first | exact HB.out | apply zL | apply zN | apply zD) | exact HB.out)))); have n2_ := zA (below_step (by repeat (first | (with_reducible first | exact HB.out | apply zL | apply zN | apply zD) | exact HB.out)) hb); clear HO119; clear HB; have HO119 := n0_; have HO122 := n1_; have HB := n2_; clear n0_ n1_ n2_; (try clear hb); (try clear hb2); (try clear hk); (try clear hi); (try clear ho0); obtain ⟨Ao9, co9, eo9⟩ := Kd.R_slice HO119.out; subst eo9; obtain ⟨Ao10, co10, eo10⟩ := Kd.R_slice HO122.out; subst eo10) | (go_at_call 59; (with_reducible refine (path_common.calls _ _ t117 _ _ t120 t123 _ ?side1 ?side2 ?side3 ?side4 A6.out).mono ?_); (case side1 => repeat (first | exact (Kd.R_reads' HO119.out).2.2 | (with_reducible refine Kd.C_alloc ?_ _) | (with_reducible refine Kd.C_drewN ?_ _) | (with_reducible refine Kd.C_drew ?_))); (case side2 => exact (Kd.R_reads' HO119.out).2.1); (case side3 => repeat (first | exact (Kd.R_reads' HO122.out).2.2 | (with_reducible refine Kd.C_alloc ?_ _) | (with_reducible refine Kd.C_drewN ?_ _) | (with_reducible refine Kd.C_drew ?_))); (case side4 => exact (Kd.R_reads' HO122.out).2.1); rintro e w' ⟨rfl, ⟨nd, rfl⟩⟩))
 go_ret
 exact ⟨by first | rfl | (simp [errW_none, errW_some] <;> rfl) | (simp [*, errW_none, errW_some] <;> rfl), by repeat (first | (with_reducible first | exact HB.out | apply zL | apply zN | apply zD) | exact HB.out)⟩
def strings_Count.f (a0 a1 : ByteArray) : Option Int := (Go.Proofs.YtnfolcefjkannaaDoor.Base.sep1 a1).bind fun c => some ((a0.data.toList.count c : Nat) : Int)
theorem strings_Count.calls (a0 : ByteArray) (a1 : ByteArray) (r : Int) (w : World) (h : strings_Count.f a0 a1 = some r) :
  Calls Tryd.prog 74 #[.string a0, .string a1] w fun e w' => e = .returned (.int .i64 r) ∧ Drawn0 w w' := by
 obtain ⟨c, h1, h2⟩ := Option.bind_eq_some_iff.1 h
 injection h2 with h2
 exact Go.Proofs.YtnfolcefjkannaaDoor.SumA.count_calls a0 a1 r w c (Go.Proofs.YtnfolcefjkannaaDoor.Base.sep1_eq h1) h2.symm
def path_Depth.f (a0 : ByteArray) : Option (Int) := if a0.toList = ([] : List UInt8) then (some 0) else ((strings_Count.f a0 (⟨#[47]⟩ : ByteArray)).bind fun t124 => (some (wrap64 (t124 + 1))))
set_option maxHeartbeats 8000000 in
set_option maxRecDepth 100000 in
theorem path_Depth.calls (a0 : ByteArray) (r : Int) (w : World) (h : path_Depth.f a0 = some r) :
  Calls Tryd.prog 51 #[.string a0] w fun e w' => e = .returned (.int .i64 r) ∧ Drawn0 w w' := by
 have H : (if a0.toList = ([] : List UInt8) then (some 0) else ((strings_Count.f a0 (⟨#[47]⟩ : ByteArray)).bind fun t124 => (some (wrap64 (t124 + 1))))) = some r := h
 clear h
 by_cases c2 : a0.toList = ([] : List UInt8)
 ·rw [if_pos c2] at H
  have c2b0 : (a0.toList == ([] : List UInt8)) = true := beq_iff_eq.mpr c2
  have c2b1 : (a0.toList != ([] : List UInt8)) = false := bne_eq_false_iff_eq.mpr c2
  clear c2; obtain rfl := Option.some.inj H
  go_enter Tryd.func51, Tryd.ntmps51
  go_wp2; go_ret
  exact ⟨by first | rfl | (simp; done) | (simp [*]; done), by repeat (first | exact Drawn0.refl _ | apply Drawn0.step)⟩
 rw [if_neg c2] at H
 have c2b0 : (a0.toList == ([] : List UInt8)) = false := beq_eq_false_iff_ne.mpr c2
 have c2b1 : (a0.toList != ([] : List UInt8)) = true := bne_iff_ne.mpr c2
 replace H := Option.bind_eq_some_iff.mp H; obtain ⟨t124, A30, H⟩ := H
 replace H : (some (wrap64 (t124 + 1))) = some r := H
 have A3 := zA A30; clear A30; obtain rfl := Option.some.inj H
 go_enter Tryd.func51, Tryd.ntmps51
 go_wp2_with (first | ((with_reducible refine gate_callee (f := 74) rfl ?_); refine goesL_ (some 6) rfl rfl Tryd.func74 (by kernel_rfl) rfl #[.string a0, .string (⟨#[47]⟩ : ByteArray)] rfl (by (try simp only [List.map_toArray, List.map_cons, List.map_nil]); first | done | rfl | (simp only [List.length_drop, List.length_take]; rfl)) ?_; (with_reducible refine (strings_Count.calls a0 (⟨#[47]⟩ : ByteArray) t124 _ A3.out).mono ?_); rintro e w' ⟨rfl, ⟨nd, rfl⟩⟩; refine ⟨_, rfl, ?_⟩))
 go_ret
 exact ⟨by first | rfl | (simp; done) | (simp [*]; done), by repeat (first | exact Drawn0.refl _ | apply Drawn0.step)⟩
mutual
def path_Component.j0 : Nat → ByteArray → Bool → Option (Bool)
 | 0, _, _ => none
 | k + 1, x0, x23 => if x23 = true then (some false) else (path_Component.l0 k x0 (x0.size : Int) 0)
def path_Component.l0 : Nat → ByteArray → Int → Int → Option (Bool)
 | 0, _, _, _ => none
 | k + 1, x0, x25, x26 => if x26 < x25 then (if 0 ≤ x26 then (if x26 < (x0.size : Int) then (if 97 ≤ (bt x0 x26) then (if (bt x0 x26) ≤ 122 then (path_Component.l0 k x0 x25 (wrap64 (x26 + 1))) else (if 65 ≤ (bt x0 x26) then (if (bt x0 x26) ≤ 90 then (path_Component.l0 k x0 x25 (wrap64 (x26 + 1))) else (if 48 ≤ (bt x0 x26) then (if (bt x0 x26) ≤ 57 then (path_Component.l0 k x0 x25 (wrap64 (x26 + 1))) else (if (bt x0 x26) = 46 then (path_Component.l0 k x0 x25 (wrap64 (x26 + 1))) else (if (bt x0 x26) = 95 then (path_Component.l0 k x0 x25 (wrap64 (x26 + 1))) else (if ((bt x0 x26) = 45) then (path_Component.l0 k x0 x25 (wrap64 (x26 + 1))) else (some false))))) else (if (bt x0 x26) = 46 then (path_Component.l0 k x0 x25 (wrap64 (x26 + 1))) else (if (bt x0 x26) = 95 then (path_Component.l0 k x0 x25 (wrap64 (x26 + 1))) else (if ((bt x0 x26) = 45) then (path_Component.l0 k x0 x25 (wrap64 (x26 + 1))) else (some false)))))) else (if 48 ≤ (bt x0 x26) then (if (bt x0 x26) ≤ 57 then (path_Component.l0 k x0 x25 (wrap64 (x26 + 1))) else (if (bt x0 x26) = 46 then (path_Component.l0 k x0 x25 (wrap64 (x26 + 1))) else (if (bt x0 x26) = 95 then (path_Component.l0 k x0 x25 (wrap64 (x26 + 1))) else (if ((bt x0 x26) = 45) then (path_Component.l0 k x0 x25 (wrap64 (x26 + 1))) else (some false))))) else (if (bt x0 x26) = 46 then (path_Component.l0 k x0 x25 (wrap64 (x26 + 1))) else (if (bt x0 x26) = 95 then (path_Component.l0 k x0 x25 (wrap64 (x26 + 1))) else (if ((bt x0 x26) = 45) then (path_Component.l0 k x0 x25 (wrap64 (x26 + 1))) else (some false))))))) else (if 65 ≤ (bt x0 x26) then (if (bt x0 x26) ≤ 90 then (path_Component.l0 k x0 x25 (wrap64 (x26 + 1))) else (if 48 ≤ (bt x0 x26) then (if (bt x0 x26) ≤ 57 then (path_Component.l0 k x0 x25 (wrap64 (x26 + 1))) else (if (bt x0 x26) = 46 then (path_Component.l0 k x0 x25 (wrap64 (x26 + 1))) else (if (bt x0 x26) = 95 then (path_Component.l0 k x0 x25 (wrap64 (x26 + 1))) else (if ((bt x0 x26) = 45) then (path_Component.l0 k x0 x25 (wrap64 (x26 + 1))) else (some false))))) else (if (bt x0 x26) = 46 then (path_Component.l0 k x0 x25 (wrap64 (x26 + 1))) else (if (bt x0 x26) = 95 then (path_Component.l0 k x0 x25 (wrap64 (x26 + 1))) else (if ((bt x0 x26) = 45) then (path_Component.l0 k x0 x25 (wrap64 (x26 + 1))) else (some false)))))) else (if 48 ≤ (bt x0 x26) then (if (bt x0 x26) ≤ 57 then (path_Component.l0 k x0 x25 (wrap64 (x26 + 1))) else (if (bt x0 x26) = 46 then (path_Component.l0 k x0 x25 (wrap64 (x26 + 1))) else (if (bt x0 x26) = 95 then (path_Component.l0 k x0 x25 (wrap64 (x26 + 1))) else (if ((bt x0 x26) = 45) then (path_Component.l0 k x0 x25 (wrap64 (x26 + 1))) else (some false))))) else (if (bt x0 x26) = 46 then (path_Component.l0 k x0 x25 (wrap64 (x26 + 1))) else (if (bt x0 x26) = 95 then (path_Component.l0 k x0 x25 (wrap64 (x26 + 1))) else (if ((bt x0 x26) = 45) then (path_Component.l0 k x0 x25 (wrap64 (x26 + 1))) else (some false))))))) else (none)) else (none)) else (some true)
end
def path_Component.f (k : Nat) (a0 : ByteArray) : Option (Bool) := if a0.toList = ([] : List UInt8) then (path_Component.j0 k a0 true) else (if (a0.size : Int) > 32 then (path_Component.j0 k a0 true) else (if a0.toList = ([46] : List UInt8) then (path_Component.j0 k a0 true) else (if a0.toList = ([46, 46] : List UInt8) then (path_Component.j0 k a0 true) else (path_Component.j0 k a0 (a0.toList == ([46, 46, 46] : List UInt8))))))
set_option maxHeartbeats 8000000 in
set_option maxRecDepth 100000 in
theorem path_Component.calls (k : Nat) (a0 : ByteArray) (r : Bool) (w : World) (h : path_Component.f k a0 = some r) :
  Calls Tryd.prog 53 #[.string a0] w fun e w' => e = .returned (.bool r) ∧ Drawn0 w w' := by
 have H : (if a0.toList = ([] : List UInt8) then (path_Component.j0 k a0 true) else (if (a0.size : Int) > 32 then (path_Component.j0 k a0 true) else (if a0.toList = ([46] : List UInt8) then (path_Component.j0 k a0 true) else (if a0.toList = ([46, 46] : List UInt8) then (path_Component.j0 k a0 true) else (path_Component.j0 k a0 (a0.toList == ([46, 46, 46] : List UInt8))))))) = some r := h
 clear h; have HC2 := zA H; clear H
 go_enter Tryd.func53, Tryd.ntmps53
 go_upto_region 1 with (fail)
 go_cut [23] (fun v23 wc => ∃ (kq : Nat) (x23_1 : Bool), v23 = .bool x23_1 ∧ Aside0 (path_Component.j0 kq a0 x23_1 = some r) ∧ Aside0 (kq ≤ k) ∧ Drawn0 w wc)
 case first =>
  have H := HC2.out
  clear HC2
  by_cases c3 : a0.toList = ([] : List UInt8)
  ·rw [if_pos c3] at H
   have c3b0 : (a0.toList == ([] : List UInt8)) = true := beq_iff_eq.mpr c3
   have c3b1 : (a0.toList != ([] : List UInt8)) = false := bne_eq_false_iff_eq.mpr c3
   clear c3
   (first | rw [c3b0] | (simp only [i64_w, i32_w]; rw [c3b0]) | skip)
   have H' := zA H
   clear H; go_wp2
   go_meet
   case rel => exact ⟨_, (true), (by first | rfl | (simp; done) | (simp [*]; done)), H', ⟨by first | omega | exact Nat.le_refl _⟩, by repeat (first | exact Drawn0.refl _ | apply Drawn0.step)⟩
  rw [if_neg c3] at H
  have c3b0 : (a0.toList == ([] : List UInt8)) = false := beq_eq_false_iff_ne.mpr c3
  have c3b1 : (a0.toList != ([] : List UInt8)) = true := bne_iff_ne.mpr c3
  (first | rw [c3b0] | (simp only [i64_w, i32_w]; rw [c3b0]) | skip)
  by_cases c4 : (a0.size : Int) > 32
  ·rw [if_pos c4] at H
   have c4b0 : decide (32 < (a0.size : Int)) = true := decide_eq_true c4
   have c4b1 : decide (32 < a0.size) = true := decide_eq_true (by omega)
   clear c4
   have H' := zA H
   clear H; go_wp2
   go_meet
   case rel => exact ⟨_, (true), (by first | rfl | (simp; done) | (simp [*]; done)), H', ⟨by first | omega | exact Nat.le_refl _⟩, by repeat (first | exact Drawn0.refl _ | apply Drawn0.step)⟩
  rw [if_neg c4] at H
  have c4b0 : decide (32 < (a0.size : Int)) = false := decide_eq_false c4
  have c4b1 : decide (32 < a0.size) = false := decide_eq_false (by omega)
  clear c4
  by_cases c5 : a0.toList = ([46] : List UInt8)
  ·rw [if_pos c5] at H
   have c5b0 : (a0.toList == ([46] : List UInt8)) = true := beq_iff_eq.mpr c5
   have c5b1 : (a0.toList != ([46] : List UInt8)) = false := bne_eq_false_iff_eq.mpr c5
   clear c5
   have H' := zA H
   clear H; go_wp2
   go_meet
   case rel => exact ⟨_, (true), (by first | rfl | (simp; done) | (simp [*]; done)), H', ⟨by first | omega | exact Nat.le_refl _⟩, by repeat (first | exact Drawn0.refl _ | apply Drawn0.step)⟩
  rw [if_neg c5] at H
  have c5b0 : (a0.toList == ([46] : List UInt8)) = false := beq_eq_false_iff_ne.mpr c5
  have c5b1 : (a0.toList != ([46] : List UInt8)) = true := bne_iff_ne.mpr c5
  by_cases c6 : a0.toList = ([46, 46] : List UInt8)
  ·rw [if_pos c6] at H
   have c6b0 : (a0.toList == ([46, 46] : List UInt8)) = true := beq_iff_eq.mpr c6
   have c6b1 : (a0.toList != ([46, 46] : List UInt8)) = false := bne_eq_false_iff_eq.mpr c6
   clear c6
   have H' := zA H
   clear H; go_wp2
   go_meet
   case rel => exact ⟨_, (true), (by first | rfl | (simp; done) | (simp [*]; done)), H', ⟨by first | omega | exact Nat.le_refl _⟩, by repeat (first | exact Drawn0.refl _ | apply Drawn0.step)⟩
  rw [if_neg c6] at H
  have c6b0 : (a0.toList == ([46, 46] : List UInt8)) = false := beq_eq_false_iff_ne.mpr c6
  have c6b1 : (a0.toList != ([46, 46] : List UInt8)) = true := bne_iff_ne.mpr c6
  have H' := zA H
  clear H; go_wp2
  go_meet
  case rel => exact ⟨_, ((a0.toList == ([46, 46, 46] : List UInt8))), (by first | rfl | (simp; done) | (simp [*]; done)), H', ⟨by first | omega | exact Nat.le_refl _⟩, by repeat (first | exact Drawn0.refl _ | apply Drawn0.step)⟩
 case rest =>
  clear HC2
  try clear p2
  try clear c3
  try clear c3b0
  try clear c3b1
  try clear c4
  try clear c4b0
  try clear c4b1
  try clear c5
  try clear c5b0
  try clear c5b1
  try clear c6
  try clear c6b0
  try clear c6b1
  obtain ⟨kq, x23_1, rfl, HA, HJ1, ⟨mc1, rfl⟩⟩ := hcut
  cases kq with
  | zero => exact absurd HA.out (by simp [path_Component.j0])
  | succ kj1 =>
   have H := HA.out
   clear HA
   simp only [path_Component.j0] at H
   by_cases c7 : x23_1 = true
   ·subst c7
    have H1 : (some false) = some r := by rw [if_pos rfl] at H; exact H
    clear H; have H := H1; clear H1; obtain rfl := Option.some.inj H; go_wp2; go_ret
    exact ⟨by first | rfl | (simp; done) | (simp [*]; done), by repeat (first | exact Drawn0.refl _ | apply Drawn0.step)⟩
   replace c7 := Bool.eq_false_iff.mpr c7
   subst c7
   have H1 : (path_Component.l0 kj1 a0 (a0.size : Int) 0) = some r := by rw [if_neg (show ¬ (false = true) by decide)] at H; exact H
   clear H; have H := H1; clear H1
   have H' := zA H
   clear H; go_wp2
   go_loopg [26] kj1 (fun kq v26 w' => ∃ (x26_2 : Int), v26 = .int .i64 x26_2 ∧ Aside0 (path_Component.l0 kq a0 (a0.size : Int) x26_2 = some r) ∧ Aside0 (kq ≤ kj1) ∧ Drawn0 w w')
   case atStart => exact ⟨(0), (by first | rfl | (simp; done) | (simp [*]; done)), H', ⟨Nat.le_refl _⟩, by repeat (first | exact Drawn0.refl _ | apply Drawn0.step)⟩
   case round =>
    clear H'
    try clear c1
    try clear p2
    try clear c3
    try clear c3b0
    try clear c3b1
    try clear c4
    try clear c4b0
    try clear c4b1
    try clear c5
    try clear c5b0
    try clear c5b1
    try clear c6
    try clear c6b0
    try clear c6b1
    try clear c7
    try clear p2
    obtain ⟨x26_2, rfl, HA, HK2, ⟨m2, rfl⟩⟩ := hrel
    cases gk with
    | zero => exact absurd HA.out (by simp [path_Component.l0])
    | succ k2 =>
     have H := HA.out
     clear HA
     simp only [path_Component.l0] at H
     by_cases c8 : x26_2 < (a0.size : Int)
     rotate_left
     ·rw [if_neg c8] at H
      have c8b0 : decide (x26_2 < (a0.size : Int)) = false := decide_eq_false c8
      clear c8; obtain rfl := Option.some.inj H; go_wp2; go_ret
      exact ⟨by first | rfl | (simp; done) | (simp [*]; done), by repeat (first | exact Drawn0.refl _ | apply Drawn0.step)⟩
     rw [if_pos c8] at H
     have c8b0 : decide (x26_2 < (a0.size : Int)) = true := decide_eq_true c8
     clear c8
     by_cases c9 : 0 ≤ x26_2
     rotate_left
     ·rw [if_neg c9] at H
      exact absurd H (by simp)
     rw [if_pos c9] at H
     have c9b0 : decide (0 ≤ x26_2) = true := decide_eq_true c9
     clear c9
     by_cases c10 : x26_2 < (a0.size : Int)
     rotate_left
     ·rw [if_neg c10] at H
      exact absurd H (by simp)
     rw [if_pos c10] at H
     have c10b0 : decide (x26_2 < (a0.size : Int)) = true := decide_eq_true c10
     clear c10
     by_cases c12 : 97 ≤ (bt a0 x26_2)
     rotate_left
     ·rw [if_neg c12] at H
      have c12b0 : decide (97 ≤ (bt a0 x26_2)) = false := decide_eq_false c12
      clear c12
      by_cases c32 : 65 ≤ (bt a0 x26_2)
      rotate_left
      ·rw [if_neg c32] at H
       have c32b0 : decide (65 ≤ (bt a0 x26_2)) = false := decide_eq_false c32
       clear c32
       by_cases c42 : 48 ≤ (bt a0 x26_2)
       rotate_left
       ·rw [if_neg c42] at H
        have c42b0 : decide (48 ≤ (bt a0 x26_2)) = false := decide_eq_false c42
        clear c42
        by_cases c47 : (bt a0 x26_2) = 46
        ·rw [if_pos c47] at H
         have c47b0 : ((bt a0 x26_2) == 46) = true := beq_iff_eq.mpr c47
         have c47b1 : ((bt a0 x26_2) != 46) = false := bne_eq_false_iff_eq.mpr c47
         clear c47
         have H' := zA H
         clear H
         have p11 : 0 ≤ (x26_2 : Int) := zO (by first | (with_reducible assumption) | assumption)
         have q11 : x26_2 < (a0.size : Int) := zO (by first | (with_reducible assumption) | assumption)
         have hx11 := bt_at a0 x26_2
         replace p11 := eq_true p11
         replace q11 := eq_true q11
         go_wp2
         go_roundg k2
         case measure => have := HJ1.out; have := HK2.out; omega
         case rel => exact ⟨(wrap64 (x26_2 + 1)), (by first | rfl | (simp; done) | (simp [*]; done)), H', ⟨by have := HJ1.out; have := HK2.out; omega⟩, by repeat (first | exact Drawn0.refl _ | apply Drawn0.step)⟩
        rw [if_neg c47] at H
        have c47b0 : ((bt a0 x26_2) == 46) = false := beq_eq_false_iff_ne.mpr c47
        have c47b1 : ((bt a0 x26_2) != 46) = true := bne_iff_ne.mpr c47
        by_cases c48 : (bt a0 x26_2) = 95
        ·rw [if_pos c48] at H
         have c48b0 : ((bt a0 x26_2) == 95) = true := beq_iff_eq.mpr c48
         have c48b1 : ((bt a0 x26_2) != 95) = false := bne_eq_false_iff_eq.mpr c48
         clear c48
         have H' := zA H
         clear H
         have p11 : 0 ≤ (x26_2 : Int) := zO (by first | (with_reducible assumption) | assumption)
         have q11 : x26_2 < (a0.size : Int) := zO (by first | (with_reducible assumption) | assumption)
         have hx11 := bt_at a0 x26_2
         replace p11 := eq_true p11
         replace q11 := eq_true q11
         go_wp2
         go_roundg k2
         case measure => have := HJ1.out; have := HK2.out; omega
         case rel => exact ⟨(wrap64 (x26_2 + 1)), (by first | rfl | (simp; done) | (simp [*]; done)), H', ⟨by have := HJ1.out; have := HK2.out; omega⟩, by repeat (first | exact Drawn0.refl _ | apply Drawn0.step)⟩
        rw [if_neg c48] at H
        have c48b0 : ((bt a0 x26_2) == 95) = false := beq_eq_false_iff_ne.mpr c48
        have c48b1 : ((bt a0 x26_2) != 95) = true := bne_iff_ne.mpr c48
        by_cases c49 : ((bt a0 x26_2) = 45)
        rotate_left
        ·rw [if_neg c49] at H
         have c49b0 : ((bt a0 x26_2) == 45) = false := beq_eq_false_iff_ne.mpr c49
         have c49b1 : ((bt a0 x26_2) != 45) = true := bne_iff_ne.mpr c49
         obtain rfl := Option.some.inj H
         have p11 : 0 ≤ (x26_2 : Int) := zO (by first | (with_reducible assumption) | assumption)
         have q11 : x26_2 < (a0.size : Int) := zO (by first | (with_reducible assumption) | assumption)
         have hx11 := bt_at a0 x26_2
         replace p11 := eq_true p11
         replace q11 := eq_true q11
         go_wp2; go_ret
         exact ⟨by first | rfl | (simp; done) | (simp [*]; done), by repeat (first | exact Drawn0.refl _ | apply Drawn0.step)⟩
        rw [if_pos c49] at H
        have c49b0 : ((bt a0 x26_2) == 45) = true := beq_iff_eq.mpr c49
        have c49b1 : ((bt a0 x26_2) != 45) = false := bne_eq_false_iff_eq.mpr c49
        clear c49
        have H' := zA H
        clear H
        have p11 : 0 ≤ (x26_2 : Int) := zO (by first | (with_reducible assumption) | assumption)
        have q11 : x26_2 < (a0.size : Int) := zO (by first | (with_reducible assumption) | assumption)
        have hx11 := bt_at a0 x26_2
        replace p11 := eq_true p11
        replace q11 := eq_true q11
        go_wp2
        go_roundg k2
        case measure => have := HJ1.out; have := HK2.out; omega
        case rel => exact ⟨(wrap64 (x26_2 + 1)), (by first | rfl | (simp; done) | (simp [*]; done)), H', ⟨by have := HJ1.out; have := HK2.out; omega⟩, by repeat (first | exact Drawn0.refl _ | apply Drawn0.step)⟩
       rw [if_pos c42] at H
       have c42b0 : decide (48 ≤ (bt a0 x26_2)) = true := decide_eq_true c42
       clear c42
       by_cases c43 : (bt a0 x26_2) ≤ 57
       ·rw [if_pos c43] at H
        have c43b0 : decide ((bt a0 x26_2) ≤ 57) = true := decide_eq_true c43
        clear c43
        have H' := zA H
        clear H
        have p11 : 0 ≤ (x26_2 : Int) := zO (by first | (with_reducible assumption) | assumption)
        have q11 : x26_2 < (a0.size : Int) := zO (by first | (with_reducible assumption) | assumption)
        have hx11 := bt_at a0 x26_2
        replace p11 := eq_true p11
        replace q11 := eq_true q11
        go_wp2
        go_roundg k2
        case measure => have := HJ1.out; have := HK2.out; omega
        case rel => exact ⟨(wrap64 (x26_2 + 1)), (by first | rfl | (simp; done) | (simp [*]; done)), H', ⟨by have := HJ1.out; have := HK2.out; omega⟩, by repeat (first | exact Drawn0.refl _ | apply Drawn0.step)⟩
       rw [if_neg c43] at H
       have c43b0 : decide ((bt a0 x26_2) ≤ 57) = false := decide_eq_false c43
       clear c43
       by_cases c44 : (bt a0 x26_2) = 46
       ·rw [if_pos c44] at H
        have c44b0 : ((bt a0 x26_2) == 46) = true := beq_iff_eq.mpr c44
        have c44b1 : ((bt a0 x26_2) != 46) = false := bne_eq_false_iff_eq.mpr c44
        clear c44
        have H' := zA H
        clear H
        have p11 : 0 ≤ (x26_2 : Int) := zO (by first | (with_reducible assumption) | assumption)
        have q11 : x26_2 < (a0.size : Int) := zO (by first | (with_reducible assumption) | assumption)
        have hx11 := bt_at a0 x26_2
        replace p11 := eq_true p11
        replace q11 := eq_true q11
        go_wp2
        go_roundg k2
        case measure => have := HJ1.out; have := HK2.out; omega
        case rel => exact ⟨(wrap64 (x26_2 + 1)), (by first | rfl | (simp; done) | (simp [*]; done)), H', ⟨by have := HJ1.out; have := HK2.out; omega⟩, by repeat (first | exact Drawn0.refl _ | apply Drawn0.step)⟩
       rw [if_neg c44] at H
       have c44b0 : ((bt a0 x26_2) == 46) = false := beq_eq_false_iff_ne.mpr c44
       have c44b1 : ((bt a0 x26_2) != 46) = true := bne_iff_ne.mpr c44
       by_cases c45 : (bt a0 x26_2) = 95
       ·rw [if_pos c45] at H
        have c45b0 : ((bt a0 x26_2) == 95) = true := beq_iff_eq.mpr c45
        have c45b1 : ((bt a0 x26_2) != 95) = false := bne_eq_false_iff_eq.mpr c45
        clear c45
        have H' := zA H
        clear H
        have p11 : 0 ≤ (x26_2 : Int) := zO (by first | (with_reducible assumption) | assumption)
        have q11 : x26_2 < (a0.size : Int) := zO (by first | (with_reducible assumption) | assumption)
        have hx11 := bt_at a0 x26_2
        replace p11 := eq_true p11
        replace q11 := eq_true q11
        go_wp2
        go_roundg k2
        case measure => have := HJ1.out; have := HK2.out; omega
        case rel => exact ⟨(wrap64 (x26_2 + 1)), (by first | rfl | (simp; done) | (simp [*]; done)), H', ⟨by have := HJ1.out; have := HK2.out; omega⟩, by repeat (first | exact Drawn0.refl _ | apply Drawn0.step)⟩
       rw [if_neg c45] at H
       have c45b0 : ((bt a0 x26_2) == 95) = false := beq_eq_false_iff_ne.mpr c45
       have c45b1 : ((bt a0 x26_2) != 95) = true := bne_iff_ne.mpr c45
       by_cases c46 : ((bt a0 x26_2) = 45)
       rotate_left
       ·rw [if_neg c46] at H
        have c46b0 : ((bt a0 x26_2) == 45) = false := beq_eq_false_iff_ne.mpr c46
        have c46b1 : ((bt a0 x26_2) != 45) = true := bne_iff_ne.mpr c46
        obtain rfl := Option.some.inj H
        have p11 : 0 ≤ (x26_2 : Int) := zO (by first | (with_reducible assumption) | assumption)
        have q11 : x26_2 < (a0.size : Int) := zO (by first | (with_reducible assumption) | assumption)
        have hx11 := bt_at a0 x26_2
        replace p11 := eq_true p11
        replace q11 := eq_true q11
        go_wp2; go_ret
        exact ⟨by first | rfl | (simp; done) | (simp [*]; done), by repeat (first | exact Drawn0.refl _ | apply Drawn0.step)⟩
       rw [if_pos c46] at H
       have c46b0 : ((bt a0 x26_2) == 45) = true := beq_iff_eq.mpr c46
       have c46b1 : ((bt a0 x26_2) != 45) = false := bne_eq_false_iff_eq.mpr c46
       clear c46
       have H' := zA H
       clear H
       have p11 : 0 ≤ (x26_2 : Int) := zO (by first | (with_reducible assumption) | assumption)
       have q11 : x26_2 < (a0.size : Int) := zO (by first | (with_reducible assumption) | assumption)
       have hx11 := bt_at a0 x26_2
       replace p11 := eq_true p11
       replace q11 := eq_true q11
       go_wp2
       go_roundg k2
       case measure => have := HJ1.out; have := HK2.out; omega
       case rel => exact ⟨(wrap64 (x26_2 + 1)), (by first | rfl | (simp; done) | (simp [*]; done)), H', ⟨by have := HJ1.out; have := HK2.out; omega⟩, by repeat (first | exact Drawn0.refl _ | apply Drawn0.step)⟩
      rw [if_pos c32] at H
      have c32b0 : decide (65 ≤ (bt a0 x26_2)) = true := decide_eq_true c32
      clear c32
      by_cases c33 : (bt a0 x26_2) ≤ 90
      ·rw [if_pos c33] at H
       have c33b0 : decide ((bt a0 x26_2) ≤ 90) = true := decide_eq_true c33
       clear c33
       have H' := zA H
       clear H
       have p11 : 0 ≤ (x26_2 : Int) := zO (by first | (with_reducible assumption) | assumption)
       have q11 : x26_2 < (a0.size : Int) := zO (by first | (with_reducible assumption) | assumption)
       have hx11 := bt_at a0 x26_2
       replace p11 := eq_true p11
       replace q11 := eq_true q11
       go_wp2
       go_roundg k2
       case measure => have := HJ1.out; have := HK2.out; omega
       case rel => exact ⟨(wrap64 (x26_2 + 1)), (by first | rfl | (simp; done) | (simp [*]; done)), H', ⟨by have := HJ1.out; have := HK2.out; omega⟩, by repeat (first | exact Drawn0.refl _ | apply Drawn0.step)⟩
      rw [if_neg c33] at H
      have c33b0 : decide ((bt a0 x26_2) ≤ 90) = false := decide_eq_false c33
      clear c33
      by_cases c34 : 48 ≤ (bt a0 x26_2)
      rotate_left
      ·rw [if_neg c34] at H
       have c34b0 : decide (48 ≤ (bt a0 x26_2)) = false := decide_eq_false c34
       clear c34
       by_cases c39 : (bt a0 x26_2) = 46
       ·rw [if_pos c39] at H
        have c39b0 : ((bt a0 x26_2) == 46) = true := beq_iff_eq.mpr c39
        have c39b1 : ((bt a0 x26_2) != 46) = false := bne_eq_false_iff_eq.mpr c39
        clear c39
        have H' := zA H
        clear H
        have p11 : 0 ≤ (x26_2 : Int) := zO (by first | (with_reducible assumption) | assumption)
        have q11 : x26_2 < (a0.size : Int) := zO (by first | (with_reducible assumption) | assumption)
        have hx11 := bt_at a0 x26_2
        replace p11 := eq_true p11
        replace q11 := eq_true q11
        go_wp2
        go_roundg k2
        case measure => have := HJ1.out; have := HK2.out; omega
        case rel => exact ⟨(wrap64 (x26_2 + 1)), (by first | rfl | (simp; done) | (simp [*]; done)), H', ⟨by have := HJ1.out; have := HK2.out; omega⟩, by repeat (first | exact Drawn0.refl _ | apply Drawn0.step)⟩
       rw [if_neg c39] at H
       have c39b0 : ((bt a0 x26_2) == 46) = false := beq_eq_false_iff_ne.mpr c39
       have c39b1 : ((bt a0 x26_2) != 46) = true := bne_iff_ne.mpr c39
       by_cases c40 : (bt a0 x26_2) = 95
       ·rw [if_pos c40] at H
        have c40b0 : ((bt a0 x26_2) == 95) = true := beq_iff_eq.mpr c40
        have c40b1 : ((bt a0 x26_2) != 95) = false := bne_eq_false_iff_eq.mpr c40
        clear c40
        have H' := zA H
        clear H
        have p11 : 0 ≤ (x26_2 : Int) := zO (by first | (with_reducible assumption) | assumption)
        have q11 : x26_2 < (a0.size : Int) := zO (by first | (with_reducible assumption) | assumption)
        have hx11 := bt_at a0 x26_2
        replace p11 := eq_true p11
        replace q11 := eq_true q11
        go_wp2
        go_roundg k2
        case measure => have := HJ1.out; have := HK2.out; omega
        case rel => exact ⟨(wrap64 (x26_2 + 1)), (by first | rfl | (simp; done) | (simp [*]; done)), H', ⟨by have := HJ1.out; have := HK2.out; omega⟩, by repeat (first | exact Drawn0.refl _ | apply Drawn0.step)⟩
       rw [if_neg c40] at H
       have c40b0 : ((bt a0 x26_2) == 95) = false := beq_eq_false_iff_ne.mpr c40
       have c40b1 : ((bt a0 x26_2) != 95) = true := bne_iff_ne.mpr c40
       by_cases c41 : ((bt a0 x26_2) = 45)
       rotate_left
       ·rw [if_neg c41] at H
        have c41b0 : ((bt a0 x26_2) == 45) = false := beq_eq_false_iff_ne.mpr c41
        have c41b1 : ((bt a0 x26_2) != 45) = true := bne_iff_ne.mpr c41
        obtain rfl := Option.some.inj H
        have p11 : 0 ≤ (x26_2 : Int) := zO (by first | (with_reducible assumption) | assumption)
        have q11 : x26_2 < (a0.size : Int) := zO (by first | (with_reducible assumption) | assumption)
        have hx11 := bt_at a0 x26_2
        replace p11 := eq_true p11
        replace q11 := eq_true q11
        go_wp2; go_ret
        exact ⟨by first | rfl | (simp; done) | (simp [*]; done), by repeat (first | exact Drawn0.refl _ | apply Drawn0.step)⟩
       rw [if_pos c41] at H
       have c41b0 : ((bt a0 x26_2) == 45) = true := beq_iff_eq.mpr c41
       have c41b1 : ((bt a0 x26_2) != 45) = false := bne_eq_false_iff_eq.mpr c41
       clear c41
       have H' := zA H
       clear H
       have p11 : 0 ≤ (x26_2 : Int) := zO (by first | (with_reducible assumption) | assumption)
       have q11 : x26_2 < (a0.size : Int) := zO (by first | (with_reducible assumption) | assumption)
       have hx11 := bt_at a0 x26_2
       replace p11 := eq_true p11
       replace q11 := eq_true q11
       go_wp2
       go_roundg k2
       case measure => have := HJ1.out; have := HK2.out; omega
       case rel => exact ⟨(wrap64 (x26_2 + 1)), (by first | rfl | (simp; done) | (simp [*]; done)), H', ⟨by have := HJ1.out; have := HK2.out; omega⟩, by repeat (first | exact Drawn0.refl _ | apply Drawn0.step)⟩
      rw [if_pos c34] at H
      have c34b0 : decide (48 ≤ (bt a0 x26_2)) = true := decide_eq_true c34
      clear c34
      by_cases c35 : (bt a0 x26_2) ≤ 57
      ·rw [if_pos c35] at H
       have c35b0 : decide ((bt a0 x26_2) ≤ 57) = true := decide_eq_true c35
       clear c35
       have H' := zA H
       clear H
       have p11 : 0 ≤ (x26_2 : Int) := zO (by first | (with_reducible assumption) | assumption)
       have q11 : x26_2 < (a0.size : Int) := zO (by first | (with_reducible assumption) | assumption)
       have hx11 := bt_at a0 x26_2
       replace p11 := eq_true p11
       replace q11 := eq_true q11
       go_wp2
       go_roundg k2
       case measure => have := HJ1.out; have := HK2.out; omega
       case rel => exact ⟨(wrap64 (x26_2 + 1)), (by first | rfl | (simp; done) | (simp [*]; done)), H', ⟨by have := HJ1.out; have := HK2.out; omega⟩, by repeat (first | exact Drawn0.refl _ | apply Drawn0.step)⟩
      rw [if_neg c35] at H
      have c35b0 : decide ((bt a0 x26_2) ≤ 57) = false := decide_eq_false c35
      clear c35
      by_cases c36 : (bt a0 x26_2) = 46
      ·rw [if_pos c36] at H
       have c36b0 : ((bt a0 x26_2) == 46) = true := beq_iff_eq.mpr c36
       have c36b1 : ((bt a0 x26_2) != 46) = false := bne_eq_false_iff_eq.mpr c36
       clear c36
       have H' := zA H
       clear H
       have p11 : 0 ≤ (x26_2 : Int) := zO (by first | (with_reducible assumption) | assumption)
       have q11 : x26_2 < (a0.size : Int) := zO (by first | (with_reducible assumption) | assumption)
       have hx11 := bt_at a0 x26_2
       replace p11 := eq_true p11
       replace q11 := eq_true q11
       go_wp2
       go_roundg k2
       case measure => have := HJ1.out; have := HK2.out; omega
       case rel => exact ⟨(wrap64 (x26_2 + 1)), (by first | rfl | (simp; done) | (simp [*]; done)), H', ⟨by have := HJ1.out; have := HK2.out; omega⟩, by repeat (first | exact Drawn0.refl _ | apply Drawn0.step)⟩
      rw [if_neg c36] at H
      have c36b0 : ((bt a0 x26_2) == 46) = false := beq_eq_false_iff_ne.mpr c36
      have c36b1 : ((bt a0 x26_2) != 46) = true := bne_iff_ne.mpr c36
      by_cases c37 : (bt a0 x26_2) = 95
      ·rw [if_pos c37] at H
       have c37b0 : ((bt a0 x26_2) == 95) = true := beq_iff_eq.mpr c37
       have c37b1 : ((bt a0 x26_2) != 95) = false := bne_eq_false_iff_eq.mpr c37
       clear c37
       have H' := zA H
       clear H
       have p11 : 0 ≤ (x26_2 : Int) := zO (by first | (with_reducible assumption) | assumption)
       have q11 : x26_2 < (a0.size : Int) := zO (by first | (with_reducible assumption) | assumption)
       have hx11 := bt_at a0 x26_2
       replace p11 := eq_true p11
       replace q11 := eq_true q11
       go_wp2
       go_roundg k2
       case measure => have := HJ1.out; have := HK2.out; omega
       case rel => exact ⟨(wrap64 (x26_2 + 1)), (by first | rfl | (simp; done) | (simp [*]; done)), H', ⟨by have := HJ1.out; have := HK2.out; omega⟩, by repeat (first | exact Drawn0.refl _ | apply Drawn0.step)⟩
      rw [if_neg c37] at H
      have c37b0 : ((bt a0 x26_2) == 95) = false := beq_eq_false_iff_ne.mpr c37
      have c37b1 : ((bt a0 x26_2) != 95) = true := bne_iff_ne.mpr c37
      by_cases c38 : ((bt a0 x26_2) = 45)
      rotate_left
      ·rw [if_neg c38] at H
       have c38b0 : ((bt a0 x26_2) == 45) = false := beq_eq_false_iff_ne.mpr c38
       have c38b1 : ((bt a0 x26_2) != 45) = true := bne_iff_ne.mpr c38
       obtain rfl := Option.some.inj H
       have p11 : 0 ≤ (x26_2 : Int) := zO (by first | (with_reducible assumption) | assumption)
       have q11 : x26_2 < (a0.size : Int) := zO (by first | (with_reducible assumption) | assumption)
       have hx11 := bt_at a0 x26_2
       replace p11 := eq_true p11
       replace q11 := eq_true q11
       go_wp2; go_ret
       exact ⟨by first | rfl | (simp; done) | (simp [*]; done), by repeat (first | exact Drawn0.refl _ | apply Drawn0.step)⟩
      rw [if_pos c38] at H
      have c38b0 : ((bt a0 x26_2) == 45) = true := beq_iff_eq.mpr c38
      have c38b1 : ((bt a0 x26_2) != 45) = false := bne_eq_false_iff_eq.mpr c38
      clear c38
      have H' := zA H
      clear H
      have p11 : 0 ≤ (x26_2 : Int) := zO (by first | (with_reducible assumption) | assumption)
      have q11 : x26_2 < (a0.size : Int) := zO (by first | (with_reducible assumption) | assumption)
      have hx11 := bt_at a0 x26_2
      replace p11 := eq_true p11
      replace q11 := eq_true q11
      go_wp2
      go_roundg k2
      case measure => have := HJ1.out; have := HK2.out; omega
      case rel => exact ⟨(wrap64 (x26_2 + 1)), (by first | rfl | (simp; done) | (simp [*]; done)), H', ⟨by have := HJ1.out; have := HK2.out; omega⟩, by repeat (first | exact Drawn0.refl _ | apply Drawn0.step)⟩
     rw [if_pos c12] at H
     have c12b0 : decide (97 ≤ (bt a0 x26_2)) = true := decide_eq_true c12
     clear c12
     by_cases c13 : (bt a0 x26_2) ≤ 122
     ·rw [if_pos c13] at H
      have c13b0 : decide ((bt a0 x26_2) ≤ 122) = true := decide_eq_true c13
      clear c13
      have H' := zA H
      clear H
      have p11 : 0 ≤ (x26_2 : Int) := zO (by first | (with_reducible assumption) | assumption)
      have q11 : x26_2 < (a0.size : Int) := zO (by first | (with_reducible assumption) | assumption)
      have hx11 := bt_at a0 x26_2
      replace p11 := eq_true p11
      replace q11 := eq_true q11
      go_wp2
      go_roundg k2
      case measure => have := HJ1.out; have := HK2.out; omega
      case rel => exact ⟨(wrap64 (x26_2 + 1)), (by first | rfl | (simp; done) | (simp [*]; done)), H', ⟨by have := HJ1.out; have := HK2.out; omega⟩, by repeat (first | exact Drawn0.refl _ | apply Drawn0.step)⟩
     rw [if_neg c13] at H
     have c13b0 : decide ((bt a0 x26_2) ≤ 122) = false := decide_eq_false c13
     clear c13
     by_cases c14 : 65 ≤ (bt a0 x26_2)
     rotate_left
     ·rw [if_neg c14] at H
      have c14b0 : decide (65 ≤ (bt a0 x26_2)) = false := decide_eq_false c14
      clear c14
      by_cases c24 : 48 ≤ (bt a0 x26_2)
      rotate_left
      ·rw [if_neg c24] at H
       have c24b0 : decide (48 ≤ (bt a0 x26_2)) = false := decide_eq_false c24
       clear c24
       by_cases c29 : (bt a0 x26_2) = 46
       ·rw [if_pos c29] at H
        have c29b0 : ((bt a0 x26_2) == 46) = true := beq_iff_eq.mpr c29
        have c29b1 : ((bt a0 x26_2) != 46) = false := bne_eq_false_iff_eq.mpr c29
        clear c29
        have H' := zA H
        clear H
        have p11 : 0 ≤ (x26_2 : Int) := zO (by first | (with_reducible assumption) | assumption)
        have q11 : x26_2 < (a0.size : Int) := zO (by first | (with_reducible assumption) | assumption)
        have hx11 := bt_at a0 x26_2
        replace p11 := eq_true p11
        replace q11 := eq_true q11
        go_wp2
        go_roundg k2
        case measure => have := HJ1.out; have := HK2.out; omega
        case rel => exact ⟨(wrap64 (x26_2 + 1)), (by first | rfl | (simp; done) | (simp [*]; done)), H', ⟨by have := HJ1.out; have := HK2.out; omega⟩, by repeat (first | exact Drawn0.refl _ | apply Drawn0.step)⟩
       rw [if_neg c29] at H
       have c29b0 : ((bt a0 x26_2) == 46) = false := beq_eq_false_iff_ne.mpr c29
       have c29b1 : ((bt a0 x26_2) != 46) = true := bne_iff_ne.mpr c29
       by_cases c30 : (bt a0 x26_2) = 95
       ·rw [if_pos c30] at H
        have c30b0 : ((bt a0 x26_2) == 95) = true := beq_iff_eq.mpr c30
        have c30b1 : ((bt a0 x26_2) != 95) = false := bne_eq_false_iff_eq.mpr c30
        clear c30
        have H' := zA H
        clear H
        have p11 : 0 ≤ (x26_2 : Int) := zO (by first | (with_reducible assumption) | assumption)
        have q11 : x26_2 < (a0.size : Int) := zO (by first | (with_reducible assumption) | assumption)
        have hx11 := bt_at a0 x26_2
        replace p11 := eq_true p11
        replace q11 := eq_true q11
        go_wp2
        go_roundg k2
        case measure => have := HJ1.out; have := HK2.out; omega
        case rel => exact ⟨(wrap64 (x26_2 + 1)), (by first | rfl | (simp; done) | (simp [*]; done)), H', ⟨by have := HJ1.out; have := HK2.out; omega⟩, by repeat (first | exact Drawn0.refl _ | apply Drawn0.step)⟩
       rw [if_neg c30] at H
       have c30b0 : ((bt a0 x26_2) == 95) = false := beq_eq_false_iff_ne.mpr c30
       have c30b1 : ((bt a0 x26_2) != 95) = true := bne_iff_ne.mpr c30
       by_cases c31 : ((bt a0 x26_2) = 45)
       rotate_left
       ·rw [if_neg c31] at H
        have c31b0 : ((bt a0 x26_2) == 45) = false := beq_eq_false_iff_ne.mpr c31
        have c31b1 : ((bt a0 x26_2) != 45) = true := bne_iff_ne.mpr c31
        obtain rfl := Option.some.inj H
        have p11 : 0 ≤ (x26_2 : Int) := zO (by first | (with_reducible assumption) | assumption)
        have q11 : x26_2 < (a0.size : Int) := zO (by first | (with_reducible assumption) | assumption)
        have hx11 := bt_at a0 x26_2
        replace p11 := eq_true p11
        replace q11 := eq_true q11
        go_wp2; go_ret
        exact ⟨by first | rfl | (simp; done) | (simp [*]; done), by repeat (first | exact Drawn0.refl _ | apply Drawn0.step)⟩
       rw [if_pos c31] at H
       have c31b0 : ((bt a0 x26_2) == 45) = true := beq_iff_eq.mpr c31
       have c31b1 : ((bt a0 x26_2) != 45) = false := bne_eq_false_iff_eq.mpr c31
       clear c31
       have H' := zA H
       clear H
       have p11 : 0 ≤ (x26_2 : Int) := zO (by first | (with_reducible assumption) | assumption)
       have q11 : x26_2 < (a0.size : Int) := zO (by first | (with_reducible assumption) | assumption)
       have hx11 := bt_at a0 x26_2
       replace p11 := eq_true p11
       replace q11 := eq_true q11
       go_wp2
       go_roundg k2
       case measure => have := HJ1.out; have := HK2.out; omega
       case rel => exact ⟨(wrap64 (x26_2 + 1)), (by first | rfl | (simp; done) | (simp [*]; done)), H', ⟨by have := HJ1.out; have := HK2.out; omega⟩, by repeat (first | exact Drawn0.refl _ | apply Drawn0.step)⟩
      rw [if_pos c24] at H
      have c24b0 : decide (48 ≤ (bt a0 x26_2)) = true := decide_eq_true c24
      clear c24
      by_cases c25 : (bt a0 x26_2) ≤ 57
      ·rw [if_pos c25] at H
       have c25b0 : decide ((bt a0 x26_2) ≤ 57) = true := decide_eq_true c25
       clear c25
       have H' := zA H
       clear H
       have p11 : 0 ≤ (x26_2 : Int) := zO (by first | (with_reducible assumption) | assumption)
       have q11 : x26_2 < (a0.size : Int) := zO (by first | (with_reducible assumption) | assumption)
       have hx11 := bt_at a0 x26_2
       replace p11 := eq_true p11
       replace q11 := eq_true q11
       go_wp2
       go_roundg k2
       case measure => have := HJ1.out; have := HK2.out; omega
       case rel => exact ⟨(wrap64 (x26_2 + 1)), (by first | rfl | (simp; done) | (simp [*]; done)), H', ⟨by have := HJ1.out; have := HK2.out; omega⟩, by repeat (first | exact Drawn0.refl _ | apply Drawn0.step)⟩
      rw [if_neg c25] at H
      have c25b0 : decide ((bt a0 x26_2) ≤ 57) = false := decide_eq_false c25
      clear c25
      by_cases c26 : (bt a0 x26_2) = 46
      ·rw [if_pos c26] at H
       have c26b0 : ((bt a0 x26_2) == 46) = true := beq_iff_eq.mpr c26
       have c26b1 : ((bt a0 x26_2) != 46) = false := bne_eq_false_iff_eq.mpr c26
       clear c26
       have H' := zA H
       clear H
       have p11 : 0 ≤ (x26_2 : Int) := zO (by first | (with_reducible assumption) | assumption)
       have q11 : x26_2 < (a0.size : Int) := zO (by first | (with_reducible assumption) | assumption)
       have hx11 := bt_at a0 x26_2
       replace p11 := eq_true p11
       replace q11 := eq_true q11
       go_wp2
       go_roundg k2
       case measure => have := HJ1.out; have := HK2.out; omega
       case rel => exact ⟨(wrap64 (x26_2 + 1)), (by first | rfl | (simp; done) | (simp [*]; done)), H', ⟨by have := HJ1.out; have := HK2.out; omega⟩, by repeat (first | exact Drawn0.refl _ | apply Drawn0.step)⟩
      rw [if_neg c26] at H
      have c26b0 : ((bt a0 x26_2) == 46) = false := beq_eq_false_iff_ne.mpr c26
      have c26b1 : ((bt a0 x26_2) != 46) = true := bne_iff_ne.mpr c26
      by_cases c27 : (bt a0 x26_2) = 95
      ·rw [if_pos c27] at H
       have c27b0 : ((bt a0 x26_2) == 95) = true := beq_iff_eq.mpr c27
       have c27b1 : ((bt a0 x26_2) != 95) = false := bne_eq_false_iff_eq.mpr c27
       clear c27
       have H' := zA H
       clear H
       have p11 : 0 ≤ (x26_2 : Int) := zO (by first | (with_reducible assumption) | assumption)
       have q11 : x26_2 < (a0.size : Int) := zO (by first | (with_reducible assumption) | assumption)
       have hx11 := bt_at a0 x26_2
       replace p11 := eq_true p11
       replace q11 := eq_true q11
       go_wp2
       go_roundg k2
       case measure => have := HJ1.out; have := HK2.out; omega
       case rel => exact ⟨(wrap64 (x26_2 + 1)), (by first | rfl | (simp; done) | (simp [*]; done)), H', ⟨by have := HJ1.out; have := HK2.out; omega⟩, by repeat (first | exact Drawn0.refl _ | apply Drawn0.step)⟩
      rw [if_neg c27] at H
      have c27b0 : ((bt a0 x26_2) == 95) = false := beq_eq_false_iff_ne.mpr c27
      have c27b1 : ((bt a0 x26_2) != 95) = true := bne_iff_ne.mpr c27
      by_cases c28 : ((bt a0 x26_2) = 45)
      rotate_left
      ·rw [if_neg c28] at H
       have c28b0 : ((bt a0 x26_2) == 45) = false := beq_eq_false_iff_ne.mpr c28
       have c28b1 : ((bt a0 x26_2) != 45) = true := bne_iff_ne.mpr c28
       obtain rfl := Option.some.inj H
       have p11 : 0 ≤ (x26_2 : Int) := zO (by first | (with_reducible assumption) | assumption)
       have q11 : x26_2 < (a0.size : Int) := zO (by first | (with_reducible assumption) | assumption)
       have hx11 := bt_at a0 x26_2
       replace p11 := eq_true p11
       replace q11 := eq_true q11
       go_wp2; go_ret
       exact ⟨by first | rfl | (simp; done) | (simp [*]; done), by repeat (first | exact Drawn0.refl _ | apply Drawn0.step)⟩
      rw [if_pos c28] at H
      have c28b0 : ((bt a0 x26_2) == 45) = true := beq_iff_eq.mpr c28
      have c28b1 : ((bt a0 x26_2) != 45) = false := bne_eq_false_iff_eq.mpr c28
      clear c28
      have H' := zA H
      clear H
      have p11 : 0 ≤ (x26_2 : Int) := zO (by first | (with_reducible assumption) | assumption)
      have q11 : x26_2 < (a0.size : Int) := zO (by first | (with_reducible assumption) | assumption)
      have hx11 := bt_at a0 x26_2
      replace p11 := eq_true p11
      replace q11 := eq_true q11
      go_wp2
      go_roundg k2
      case measure => have := HJ1.out; have := HK2.out; omega
      case rel => exact ⟨(wrap64 (x26_2 + 1)), (by first | rfl | (simp; done) | (simp [*]; done)), H', ⟨by have := HJ1.out; have := HK2.out; omega⟩, by repeat (first | exact Drawn0.refl _ | apply Drawn0.step)⟩
     rw [if_pos c14] at H
     have c14b0 : decide (65 ≤ (bt a0 x26_2)) = true := decide_eq_true c14
     clear c14
     by_cases c15 : (bt a0 x26_2) ≤ 90
     ·rw [if_pos c15] at H
      have c15b0 : decide ((bt a0 x26_2) ≤ 90) = true := decide_eq_true c15
      clear c15
      have H' := zA H
      clear H
      have p11 : 0 ≤ (x26_2 : Int) := zO (by first | (with_reducible assumption) | assumption)
      have q11 : x26_2 < (a0.size : Int) := zO (by first | (with_reducible assumption) | assumption)
      have hx11 := bt_at a0 x26_2
      replace p11 := eq_true p11
      replace q11 := eq_true q11
      go_wp2
      go_roundg k2
      case measure => have := HJ1.out; have := HK2.out; omega
      case rel => exact ⟨(wrap64 (x26_2 + 1)), (by first | rfl | (simp; done) | (simp [*]; done)), H', ⟨by have := HJ1.out; have := HK2.out; omega⟩, by repeat (first | exact Drawn0.refl _ | apply Drawn0.step)⟩
     rw [if_neg c15] at H
     have c15b0 : decide ((bt a0 x26_2) ≤ 90) = false := decide_eq_false c15
     clear c15
     by_cases c16 : 48 ≤ (bt a0 x26_2)
     rotate_left
     ·rw [if_neg c16] at H
      have c16b0 : decide (48 ≤ (bt a0 x26_2)) = false := decide_eq_false c16
      clear c16
      by_cases c21 : (bt a0 x26_2) = 46
      ·rw [if_pos c21] at H
       have c21b0 : ((bt a0 x26_2) == 46) = true := beq_iff_eq.mpr c21
       have c21b1 : ((bt a0 x26_2) != 46) = false := bne_eq_false_iff_eq.mpr c21
       clear c21
       have H' := zA H
       clear H
       have p11 : 0 ≤ (x26_2 : Int) := zO (by first | (with_reducible assumption) | assumption)
       have q11 : x26_2 < (a0.size : Int) := zO (by first | (with_reducible assumption) | assumption)
       have hx11 := bt_at a0 x26_2
       replace p11 := eq_true p11
       replace q11 := eq_true q11
       go_wp2
       go_roundg k2
       case measure => have := HJ1.out; have := HK2.out; omega
       case rel => exact ⟨(wrap64 (x26_2 + 1)), (by first | rfl | (simp; done) | (simp [*]; done)), H', ⟨by have := HJ1.out; have := HK2.out; omega⟩, by repeat (first | exact Drawn0.refl _ | apply Drawn0.step)⟩
      rw [if_neg c21] at H
      have c21b0 : ((bt a0 x26_2) == 46) = false := beq_eq_false_iff_ne.mpr c21
      have c21b1 : ((bt a0 x26_2) != 46) = true := bne_iff_ne.mpr c21
      by_cases c22 : (bt a0 x26_2) = 95
      ·rw [if_pos c22] at H
       have c22b0 : ((bt a0 x26_2) == 95) = true := beq_iff_eq.mpr c22
       have c22b1 : ((bt a0 x26_2) != 95) = false := bne_eq_false_iff_eq.mpr c22
       clear c22
       have H' := zA H
       clear H
       have p11 : 0 ≤ (x26_2 : Int) := zO (by first | (with_reducible assumption) | assumption)
       have q11 : x26_2 < (a0.size : Int) := zO (by first | (with_reducible assumption) | assumption)
       have hx11 := bt_at a0 x26_2
       replace p11 := eq_true p11
       replace q11 := eq_true q11
       go_wp2
       go_roundg k2
       case measure => have := HJ1.out; have := HK2.out; omega
       case rel => exact ⟨(wrap64 (x26_2 + 1)), (by first | rfl | (simp; done) | (simp [*]; done)), H', ⟨by have := HJ1.out; have := HK2.out; omega⟩, by repeat (first | exact Drawn0.refl _ | apply Drawn0.step)⟩
      rw [if_neg c22] at H
      have c22b0 : ((bt a0 x26_2) == 95) = false := beq_eq_false_iff_ne.mpr c22
      have c22b1 : ((bt a0 x26_2) != 95) = true := bne_iff_ne.mpr c22
      by_cases c23 : ((bt a0 x26_2) = 45)
      rotate_left
      ·rw [if_neg c23] at H
       have c23b0 : ((bt a0 x26_2) == 45) = false := beq_eq_false_iff_ne.mpr c23
       have c23b1 : ((bt a0 x26_2) != 45) = true := bne_iff_ne.mpr c23
       obtain rfl := Option.some.inj H
       have p11 : 0 ≤ (x26_2 : Int) := zO (by first | (with_reducible assumption) | assumption)
       have q11 : x26_2 < (a0.size : Int) := zO (by first | (with_reducible assumption) | assumption)
       have hx11 := bt_at a0 x26_2
       replace p11 := eq_true p11
       replace q11 := eq_true q11
       go_wp2; go_ret
       exact ⟨by first | rfl | (simp; done) | (simp [*]; done), by repeat (first | exact Drawn0.refl _ | apply Drawn0.step)⟩
      rw [if_pos c23] at H
      have c23b0 : ((bt a0 x26_2) == 45) = true := beq_iff_eq.mpr c23
      have c23b1 : ((bt a0 x26_2) != 45) = false := bne_eq_false_iff_eq.mpr c23
      clear c23
      have H' := zA H
      clear H
      have p11 : 0 ≤ (x26_2 : Int) := zO (by first | (with_reducible assumption) | assumption)
      have q11 : x26_2 < (a0.size : Int) := zO (by first | (with_reducible assumption) | assumption)
      have hx11 := bt_at a0 x26_2
      replace p11 := eq_true p11
      replace q11 := eq_true q11
      go_wp2
      go_roundg k2
      case measure => have := HJ1.out; have := HK2.out; omega
      case rel => exact ⟨(wrap64 (x26_2 + 1)), (by first | rfl | (simp; done) | (simp [*]; done)), H', ⟨by have := HJ1.out; have := HK2.out; omega⟩, by repeat (first | exact Drawn0.refl _ | apply Drawn0.step)⟩
     rw [if_pos c16] at H
     have c16b0 : decide (48 ≤ (bt a0 x26_2)) = true := decide_eq_true c16
     clear c16
     by_cases c17 : (bt a0 x26_2) ≤ 57
     ·rw [if_pos c17] at H
      have c17b0 : decide ((bt a0 x26_2) ≤ 57) = true := decide_eq_true c17
      clear c17
      have H' := zA H
      clear H
      have p11 : 0 ≤ (x26_2 : Int) := zO (by first | (with_reducible assumption) | assumption)
      have q11 : x26_2 < (a0.size : Int) := zO (by first | (with_reducible assumption) | assumption)
      have hx11 := bt_at a0 x26_2
      replace p11 := eq_true p11
      replace q11 := eq_true q11
      go_wp2
      go_roundg k2
      case measure => have := HJ1.out; have := HK2.out; omega
      case rel => exact ⟨(wrap64 (x26_2 + 1)), (by first | rfl | (simp; done) | (simp [*]; done)), H', ⟨by have := HJ1.out; have := HK2.out; omega⟩, by repeat (first | exact Drawn0.refl _ | apply Drawn0.step)⟩
     rw [if_neg c17] at H
     have c17b0 : decide ((bt a0 x26_2) ≤ 57) = false := decide_eq_false c17
     clear c17
     by_cases c18 : (bt a0 x26_2) = 46
     ·rw [if_pos c18] at H
      have c18b0 : ((bt a0 x26_2) == 46) = true := beq_iff_eq.mpr c18
      have c18b1 : ((bt a0 x26_2) != 46) = false := bne_eq_false_iff_eq.mpr c18
      clear c18
      have H' := zA H
      clear H
      have p11 : 0 ≤ (x26_2 : Int) := zO (by first | (with_reducible assumption) | assumption)
      have q11 : x26_2 < (a0.size : Int) := zO (by first | (with_reducible assumption) | assumption)
      have hx11 := bt_at a0 x26_2
      replace p11 := eq_true p11
      replace q11 := eq_true q11
      go_wp2
      go_roundg k2
      case measure => have := HJ1.out; have := HK2.out; omega
      case rel => exact ⟨(wrap64 (x26_2 + 1)), (by first | rfl | (simp; done) | (simp [*]; done)), H', ⟨by have := HJ1.out; have := HK2.out; omega⟩, by repeat (first | exact Drawn0.refl _ | apply Drawn0.step)⟩
     rw [if_neg c18] at H
     have c18b0 : ((bt a0 x26_2) == 46) = false := beq_eq_false_iff_ne.mpr c18
     have c18b1 : ((bt a0 x26_2) != 46) = true := bne_iff_ne.mpr c18
     by_cases c19 : (bt a0 x26_2) = 95
     ·rw [if_pos c19] at H
      have c19b0 : ((bt a0 x26_2) == 95) = true := beq_iff_eq.mpr c19
      have c19b1 : ((bt a0 x26_2) != 95) = false := bne_eq_false_iff_eq.mpr c19
      clear c19
      have H' := zA H
      clear H
      have p11 : 0 ≤ (x26_2 : Int) := zO (by first | (with_reducible assumption) | assumption)
      have q11 : x26_2 < (a0.size : Int) := zO (by first | (with_reducible assumption) | assumption)
      have hx11 := bt_at a0 x26_2
      replace p11 := eq_true p11
      replace q11 := eq_true q11
      go_wp2
      go_roundg k2
      case measure => have := HJ1.out; have := HK2.out; omega
      case rel => exact ⟨(wrap64 (x26_2 + 1)), (by first | rfl | (simp; done) | (simp [*]; done)), H', ⟨by have := HJ1.out; have := HK2.out; omega⟩, by repeat (first | exact Drawn0.refl _ | apply Drawn0.step)⟩
     rw [if_neg c19] at H
     have c19b0 : ((bt a0 x26_2) == 95) = false := beq_eq_false_iff_ne.mpr c19
     have c19b1 : ((bt a0 x26_2) != 95) = true := bne_iff_ne.mpr c19
     by_cases c20 : ((bt a0 x26_2) = 45)
     rotate_left
     ·rw [if_neg c20] at H
      have c20b0 : ((bt a0 x26_2) == 45) = false := beq_eq_false_iff_ne.mpr c20
      have c20b1 : ((bt a0 x26_2) != 45) = true := bne_iff_ne.mpr c20
      obtain rfl := Option.some.inj H
      have p11 : 0 ≤ (x26_2 : Int) := zO (by first | (with_reducible assumption) | assumption)
      have q11 : x26_2 < (a0.size : Int) := zO (by first | (with_reducible assumption) | assumption)
      have hx11 := bt_at a0 x26_2
      replace p11 := eq_true p11
      replace q11 := eq_true q11
      go_wp2; go_ret
      exact ⟨by first | rfl | (simp; done) | (simp [*]; done), by repeat (first | exact Drawn0.refl _ | apply Drawn0.step)⟩
     rw [if_pos c20] at H
     have c20b0 : ((bt a0 x26_2) == 45) = true := beq_iff_eq.mpr c20
     have c20b1 : ((bt a0 x26_2) != 45) = false := bne_eq_false_iff_eq.mpr c20
     clear c20
     have H' := zA H
     clear H
     have p11 : 0 ≤ (x26_2 : Int) := zO (by first | (with_reducible assumption) | assumption)
     have q11 : x26_2 < (a0.size : Int) := zO (by first | (with_reducible assumption) | assumption)
     have hx11 := bt_at a0 x26_2
     replace p11 := eq_true p11
     replace q11 := eq_true q11
     go_wp2
     go_roundg k2
     case measure => have := HJ1.out; have := HK2.out; omega
     case rel => exact ⟨(wrap64 (x26_2 + 1)), (by first | rfl | (simp; done) | (simp [*]; done)), H', ⟨by have := HJ1.out; have := HK2.out; omega⟩, by repeat (first | exact Drawn0.refl _ | apply Drawn0.step)⟩
mutual
def path_Valid.j0 : Nat → ByteArray → Bool → Option (Bool)
 | 0, _, _ => none
 | k + 1, x0, x12 => if x12 = true then (some false) else ((path_Split.f x0).bind fun t126 => (path_Valid.l0 k t126 (t126.length : Int) 0))
def path_Valid.l0 : Nat → List ByteArray → Int → Int → Option (Bool)
 | 0, _, _, _ => none
 | k + 1, x14, x15, x16 => if x16 < x15 then (if 0 ≤ x16 then (if x16 < (x14.length : Int) then ((path_Component.f k (rdOf ByteArray.empty x14 x16)).bind fun t130 => (if t130 = true then (path_Valid.l0 k x14 x15 (wrap64 (x16 + 1))) else (some false))) else (none)) else (none)) else (some true)
end
def path_Valid.f (k : Nat) (a0 : ByteArray) : Option (Bool) := if (a0.size : Int) > 120 then (path_Valid.j0 k a0 true) else ((path_Depth.f a0).bind fun t125 => (path_Valid.j0 k a0 (decide (t125 > 12))))
set_option maxHeartbeats 8000000 in
set_option maxRecDepth 100000 in
theorem path_Valid.calls (k : Nat) (a0 : ByteArray) (r : Bool) (w : World) (h : path_Valid.f k a0 = some r) :
  Calls Tryd.prog 28 #[.string a0] w fun e w' => e = .returned (.bool r) ∧ Below w.heap.size w w' := by
 have HB := zA (Below.refl w.heap.size w)
 have H : (if (a0.size : Int) > 120 then (path_Valid.j0 k a0 true) else ((path_Depth.f a0).bind fun t125 => (path_Valid.j0 k a0 (decide (t125 > 12))))) = some r := h
 clear h; have HC2 := zA H; clear H
 go_enter Tryd.func28, Tryd.ntmps28
 go_upto_region 1 with (fail)
 go_cut [12] (fun v12 wc => ∃ (kq : Nat) (x12_1 : Bool), v12 = .bool x12_1 ∧ Aside0 (path_Valid.j0 kq a0 x12_1 = some r) ∧ Aside0 (kq ≤ k) ∧ Aside0 (Below w.heap.size w wc))
 case first =>
  have H := HC2.out
  clear HC2
  by_cases c3 : (a0.size : Int) > 120
  ·rw [if_pos c3] at H
   have c3b0 : decide (120 < (a0.size : Int)) = true := decide_eq_true c3
   have c3b1 : decide (120 < a0.size) = true := decide_eq_true (by omega)
   clear c3
   (first | rw [c3b0] | (simp only [i64_w, i32_w]; rw [c3b0]) | skip)
   have H' := zA H
   clear H; go_wp2
   go_meet
   case rel => exact ⟨_, (true), (by first | rfl | (simp; done) | (simp [*]; done)), H', ⟨by first | omega | exact Nat.le_refl _⟩, ⟨by repeat (first | (with_reducible first | exact HB.out | apply zL | apply zN | apply zD) | exact HB.out)⟩⟩
  rw [if_neg c3] at H
  have c3b0 : decide (120 < (a0.size : Int)) = false := decide_eq_false c3
  have c3b1 : decide (120 < a0.size) = false := decide_eq_false (by omega)
  clear c3
  (first | rw [c3b0] | (simp only [i64_w, i32_w]; rw [c3b0]) | skip)
  replace H := Option.bind_eq_some_iff.mp H; obtain ⟨t125, A40, H⟩ := H
  replace H : (path_Valid.j0 k a0 (decide (t125 > 12))) = some r := H
  have A4 := zA A40; clear A40
  have H' := zA H
  clear H
  go_wp2_with (first | (go_at_call 51; (with_reducible refine (path_Depth.calls a0 t125 _ A4.out).mono ?_); rintro e w' ⟨rfl, ⟨nd, rfl⟩⟩))
  go_meet
  case rel => exact ⟨_, (decide (t125 > 12)), (by first | rfl | (simp; done) | (simp [*]; done)), H', ⟨by first | omega | exact Nat.le_refl _⟩, ⟨by repeat (first | (with_reducible first | exact HB.out | apply zL | apply zN | apply zD) | exact HB.out)⟩⟩
 case rest =>
  clear HC2
  try clear c2
  try clear p2
  try clear c3
  try clear c3b0
  try clear c3b1
  obtain ⟨kq, x12_1, rfl, HA, HJ1, HB⟩ := hcut
  cases kq with
  | zero => exact absurd HA.out (by simp [path_Valid.j0])
  | succ kj1 =>
   have H := HA.out
   clear HA
   simp only [path_Valid.j0] at H
   by_cases c5 : x12_1 = true
   ·subst c5
    have H1 : (some false) = some r := by rw [if_pos rfl] at H; exact H
    clear H; have H := H1; clear H1; obtain rfl := Option.some.inj H; go_wp2; go_ret
    exact ⟨by first | rfl | (simp [errW_none, errW_some] <;> rfl) | (simp [*, errW_none, errW_some] <;> rfl), by repeat (first | (with_reducible first | exact HB.out | apply zL | apply zN | apply zD) | exact HB.out)⟩
   replace c5 := Bool.eq_false_iff.mpr c5
   subst c5
   have H1 : ((path_Split.f a0).bind fun t126 => (path_Valid.l0 kj1 t126 (t126.length : Int) 0)) = some r := by rw [if_neg (show ¬ (false = true) by decide)] at H; exact H
   clear H; have H := H1; clear H1; replace H := Option.bind_eq_some_iff.mp H; obtain ⟨t126, A60, H⟩ := H
   replace H : (path_Valid.l0 kj1 t126 (t126.length : Int) 0) = some r := H
   have A6 := zA A60; clear A60
   have H' := zA H
   clear H
   go_wp2_with (first | ((with_reducible refine gate_callee (f := 52) rfl ?_); refine goesL_ (some 14) rfl rfl Tryd.func52 (by kernel_rfl) rfl #[.string a0] rfl (by (try simp only [List.map_toArray, List.map_cons, List.map_nil]); first | done | rfl | (simp only [List.length_drop, List.length_take]; rfl)) ?_; (with_reducible refine (path_Split.calls a0 t126 _ A6.out).mono ?_); rintro e w7 ⟨v127, rfl, ho0, hb⟩; refine ⟨_, rfl, ?_⟩; have n0_ := zA (Kd.R_lower ho0 (below_size (by repeat (first | (with_reducible first | exact HB.out | apply zL | apply zN | apply zD) | exact HB.out)))); have n1_ := zA (below_step (by repeat (first | (with_reducible first | exact HB.out | apply zL | apply zN | apply zD) | exact HB.out)) hb); clear HB; have HO128 := n0_; have HB := n1_; clear n0_ n1_; (try clear hb); (try clear hb2); (try clear hk); (try clear hi); (try clear ho0); obtain ⟨Ao8, co8, eo8⟩ := Kd.R_slice HO128.out; subst eo8))
   go_loopg [16] kj1 (fun kq v16 w' => ∃ (x16_2 : Int), v16 = .int .i64 x16_2 ∧ Aside0 (path_Valid.l0 kq t126 (t126.length : Int) x16_2 = some r) ∧ Aside0 (kq ≤ kj1) ∧ Aside0 (Kd.R Kd.string 9 w' w.heap.size (fun _ => True) (.slice Ao8 t126.length co8) t126) ∧ Aside0 (Below w.heap.size w w'))
   case atStart => exact ⟨(0), (by first | rfl | (simp; done) | (simp [*]; done)), H', ⟨Nat.le_refl _⟩, ⟨by (with_reducible repeat (first | apply Kd.R_alloc | apply Kd.R_drewN | apply Kd.R_drew)); exact HO128.out⟩, ⟨by repeat (first | (with_reducible first | exact HB.out | apply zL | apply zN | apply zD) | exact HB.out)⟩⟩
   case round =>
    clear H'
    try clear c2
    try clear p2
    try clear c3
    try clear c3b0
    try clear c3b1
    try clear c5
    try clear p2
    obtain ⟨x16_2, rfl, HA, HK2, HO_14, HB⟩ := hrel
    cases gk with
    | zero => exact absurd HA.out (by simp [path_Valid.l0])
    | succ k2 =>
     have H := HA.out
     clear HA
     simp only [path_Valid.l0] at H
     by_cases c9 : x16_2 < (t126.length : Int)
     rotate_left
     ·rw [if_neg c9] at H
      have c9b0 : decide (x16_2 < (t126.length : Int)) = false := decide_eq_false c9
      clear c9; obtain rfl := Option.some.inj H; go_wp2; go_ret
      exact ⟨by first | rfl | (simp [errW_none, errW_some] <;> rfl) | (simp [*, errW_none, errW_some] <;> rfl), by repeat (first | (with_reducible first | exact HB.out | apply zL | apply zN | apply zD) | exact HB.out)⟩
     rw [if_pos c9] at H
     have c9b0 : decide (x16_2 < (t126.length : Int)) = true := decide_eq_true c9
     clear c9
     by_cases c10 : 0 ≤ x16_2
     rotate_left
     ·rw [if_neg c10] at H
      exact absurd H (by simp)
     rw [if_pos c10] at H
     have c10b0 : decide (0 ≤ x16_2) = true := decide_eq_true c10
     clear c10
     by_cases c11 : x16_2 < (t126.length : Int)
     rotate_left
     ·rw [if_neg c11] at H
      exact absurd H (by simp)
     rw [if_pos c11] at H
     have c11b0 : decide (x16_2 < (t126.length : Int)) = true := decide_eq_true c11
     clear c11; replace H := Option.bind_eq_some_iff.mp H; obtain ⟨t130, A120, H⟩ := H
     replace H : (if t130 = true then (path_Valid.l0 k2 t126 (t126.length : Int) (wrap64 (x16_2 + 1))) else (some false)) = some r := H
     have A12 := zA A120; clear A120
     by_cases c13 : t130 = true
     rotate_left
     ·replace c13 := Bool.eq_false_iff.mpr c13
      subst c13
      have H1 : (some false) = some r := by rw [if_neg (show ¬ (false = true) by decide)] at H; exact H
      clear H; have H := H1; clear H1; obtain rfl := Option.some.inj H
      have p129 : 0 ≤ (x16_2 : Int) := zO (by first | (with_reducible assumption) | assumption)
      have q129 : x16_2 < (t126.length : Int) := zO (by first | (with_reducible assumption) | assumption)
      obtain ⟨ad129, e129, hx129_0⟩ := Kd.at_string (Kd.R_reads' HO_14.out).2.2 x16_2 p129 q129
      cases e129
      replace p129 := eq_true p129
      replace q129 := eq_true q129
      go_wp2_with (first | ((with_reducible refine gate_callee (f := 53) rfl ?_); refine goesL_ (some 21) rfl rfl Tryd.func53 (by kernel_rfl) rfl #[.string (rdOf ByteArray.empty t126 x16_2)] rfl (by (try simp only [List.map_toArray, List.map_cons, List.map_nil]); first | done | rfl | (simp only [List.length_drop, List.length_take]; rfl)) ?_; (with_reducible refine (path_Component.calls k2 (rdOf ByteArray.empty t126 x16_2) false _ A12.out).mono ?_); rintro e w' ⟨rfl, ⟨nd, rfl⟩⟩; refine ⟨_, rfl, ?_⟩))
      go_ret
      exact ⟨by first | rfl | (simp [errW_none, errW_some] <;> rfl) | (simp [*, errW_none, errW_some] <;> rfl), by repeat (first | (with_reducible first | exact HB.out | apply zL | apply zN | apply zD) | exact HB.out)⟩
     subst c13
     have H1 : (path_Valid.l0 k2 t126 (t126.length : Int) (wrap64 (x16_2 + 1))) = some r := by rw [if_pos rfl] at H; exact H
     clear H; have H := H1; clear H1
     have H' := zA H
     clear H
     have p129 : 0 ≤ (x16_2 : Int) := zO (by first | (with_reducible assumption) | assumption)
     have q129 : x16_2 < (t126.length : Int) := zO (by first | (with_reducible assumption) | assumption)
     obtain ⟨ad129, e129, hx129_0⟩ := Kd.at_string (Kd.R_reads' HO_14.out).2.2 x16_2 p129 q129
     cases e129
     replace p129 := eq_true p129
     replace q129 := eq_true q129
     go_wp2_with (first | ((with_reducible refine gate_callee (f := 53) rfl ?_); refine goesL_ (some 21) rfl rfl Tryd.func53 (by kernel_rfl) rfl #[.string (rdOf ByteArray.empty t126 x16_2)] rfl (by (try simp only [List.map_toArray, List.map_cons, List.map_nil]); first | done | rfl | (simp only [List.length_drop, List.length_take]; rfl)) ?_; (with_reducible refine (path_Component.calls k2 (rdOf ByteArray.empty t126 x16_2) true _ A12.out).mono ?_); rintro e w' ⟨rfl, ⟨nd, rfl⟩⟩; refine ⟨_, rfl, ?_⟩))
     go_roundg k2
     case measure => have := HJ1.out; have := HK2.out; omega
     case rel => exact ⟨(wrap64 (x16_2 + 1)), (by first | rfl | (simp; done) | (simp [*]; done)), H', ⟨by have := HJ1.out; have := HK2.out; omega⟩, ⟨by (with_reducible repeat (first | apply Kd.R_alloc | apply Kd.R_drewN | apply Kd.R_drew)); exact HO_14.out⟩, ⟨by repeat (first | (with_reducible first | exact HB.out | apply zL | apply zN | apply zD) | exact HB.out)⟩⟩
def snap_placed.f (k : Nat) (a0_0 : ByteArray) (a0_1 : ByteArray) (a0_2 : Int) (a0_3 : Int) : Option (Bool) := if a0_0.toList = ([] : List UInt8) then (some false) else ((path_Valid.f k a0_0).bind fun t132 => (some t132))
set_option maxHeartbeats 8000000 in
set_option maxRecDepth 100000 in
theorem snap_placed.calls (k : Nat) (a0_0 : ByteArray) (a0_1 : ByteArray) (a0_2 : Int) (a0_3 : Int) (r : Bool) (w : World) (h : snap_placed.f k a0_0 a0_1 a0_2 a0_3 = some r) :
  Calls Tryd.prog 62 #[.agg #[.string a0_0, .string a0_1, .int .i64 a0_2, .int .i64 a0_3]] w fun e w' => e = .returned (.bool r) ∧ Below w.heap.size w w' := by
 have hu45 := Tryd.underlying45
 have HB := zA (Below.refl w.heap.size w)
 have H : (if a0_0.toList = ([] : List UInt8) then (some false) else ((path_Valid.f k a0_0).bind fun t132 => (some t132))) = some r := h
 clear h
 by_cases c2 : a0_0.toList = ([] : List UInt8)
 ·rw [if_pos c2] at H
  have c2b0 : (a0_0.toList == ([] : List UInt8)) = true := beq_iff_eq.mpr c2
  have c2b1 : (a0_0.toList != ([] : List UInt8)) = false := bne_eq_false_iff_eq.mpr c2
  clear c2; obtain rfl := Option.some.inj H
  go_enter Tryd.func62, Tryd.ntmps62
  go_wp2_with (first | ((with_reducible refine gate_dst (N := 1) rfl ?_); refine box_event ?hg (N := 1) ?hd (cs := #[.string a0_0, .string a0_1, .int .i64 a0_2, .int .i64 a0_3]) (t := 45) ?hr ?_; (case hd => rfl); (case hg => rfl); (case hr => first | (go_simp; done) | (go_simp; rfl)); intro gb131 hg w3 hbox hb; have n0_ := zA (below_step (by repeat (first | (with_reducible first | exact HB.out | apply zL | apply zN | apply zD) | exact HB.out)) hb); have n1_ := zA (hbox); have n2_ := zA ((by rw [hg]; exact (below_size (by repeat (first | (with_reducible first | exact HB.out | apply zL | apply zN | apply zD) | exact HB.out))) : w.heap.size ≤ gb131)); have n3_ := zA ((by rw [hg]; exact (below_size (by repeat (first | (with_reducible first | exact HB.out | apply zL | apply zN | apply zD) | exact HB.out))) : w.heap.size ≤ gb131)); clear HB; have HB := n0_; have BK131 := n1_; have GW131 := n2_; have GE131 := n3_; clear n0_ n1_ n2_ n3_; clear hb hbox hg; have hcz4_0 : w3.cell? ⟨gb131, 0, none⟩ = some (.string a0_0) := (blk_cell BK131.out 0).trans rfl; have hcz4_1 : w3.cell? ⟨gb131, 1, none⟩ = some (.string a0_1) := (blk_cell BK131.out 1).trans rfl; have hcz4_2 : w3.cell? ⟨gb131, 2, none⟩ = some (.int .i64 a0_2) := (blk_cell BK131.out 2).trans rfl; have hcz4_3 : w3.cell? ⟨gb131, 3, none⟩ = some (.int .i64 a0_3) := (blk_cell BK131.out 3).trans rfl; have hfz4_0 := blk_frozen BK131.out 0; have hfz4_1 := blk_frozen BK131.out 1; have hfz4_2 := blk_frozen BK131.out 2; have hfz4_3 := blk_frozen BK131.out 3))
  go_ret
  exact ⟨by first | rfl | (simp [errW_none, errW_some] <;> rfl) | (simp [*, errW_none, errW_some] <;> rfl), by repeat (first | (with_reducible first | exact HB.out | apply zL | apply zN | apply zD | refine below_set ?_ GE131.out) | exact HB.out)⟩
 rw [if_neg c2] at H
 have c2b0 : (a0_0.toList == ([] : List UInt8)) = false := beq_eq_false_iff_ne.mpr c2
 have c2b1 : (a0_0.toList != ([] : List UInt8)) = true := bne_iff_ne.mpr c2
 replace H := Option.bind_eq_some_iff.mp H; obtain ⟨t132, A50, H⟩ := H
 replace H : (some t132) = some r := H
 have A5 := zA A50; clear A50; obtain rfl := Option.some.inj H
 go_enter Tryd.func62, Tryd.ntmps62
 go_wp2_with (first | ((with_reducible refine gate_dst (N := 1) rfl ?_); refine box_event ?hg (N := 1) ?hd (cs := #[.string a0_0, .string a0_1, .int .i64 a0_2, .int .i64 a0_3]) (t := 45) ?hr ?_; (case hd => rfl); (case hg => rfl); (case hr => first | (go_simp; done) | (go_simp; rfl)); intro gb131 hg w6 hbox hb; have n0_ := zA (below_step (by repeat (first | (with_reducible first | exact HB.out | apply zL | apply zN | apply zD) | exact HB.out)) hb); have n1_ := zA (hbox); have n2_ := zA ((by rw [hg]; exact (below_size (by repeat (first | (with_reducible first | exact HB.out | apply zL | apply zN | apply zD) | exact HB.out))) : w.heap.size ≤ gb131)); have n3_ := zA ((by rw [hg]; exact (below_size (by repeat (first | (with_reducible first | exact HB.out | apply zL | apply zN | apply zD) | exact HB.out))) : w.heap.size ≤ gb131)); clear HB; have HB := n0_; have BK131 := n1_; have GW131 := n2_; have GE131 := n3_; clear n0_ n1_ n2_ n3_; clear hb hbox hg; have hcz7_0 : w6.cell? ⟨gb131, 0, none⟩ = some (.string a0_0) := (blk_cell BK131.out 0).trans rfl; have hcz7_1 : w6.cell? ⟨gb131, 1, none⟩ = some (.string a0_1) := (blk_cell BK131.out 1).trans rfl; have hcz7_2 : w6.cell? ⟨gb131, 2, none⟩ = some (.int .i64 a0_2) := (blk_cell BK131.out 2).trans rfl; have hcz7_3 : w6.cell? ⟨gb131, 3, none⟩ = some (.int .i64 a0_3) := (blk_cell BK131.out 3).trans rfl; have hfz7_0 := blk_frozen BK131.out 0; have hfz7_1 := blk_frozen BK131.out 1; have hfz7_2 := blk_frozen BK131.out 2; have hfz7_3 := blk_frozen BK131.out 3) | (go_at_call 28; (with_reducible refine (path_Valid.calls k a0_0 t132 _ A5.out).mono ?_); rintro e w8 ⟨rfl, hb⟩; have n0_ := zA (blk_below (g := gb131) (o := .cells #[.string a0_0, .string a0_1, .int .i64 a0_2, .int .i64 a0_3] 45 (0, 0)) (by (with_reducible repeat (first | refine blk_drewN ?_ _ | refine blk_drew ?_ | refine blk_alloc ?_ _)); exact BK131.out) hb); have n1_ := zA (below_step (by repeat (first | (with_reducible first | exact HB.out | apply zL | apply zN | apply zD | refine below_set ?_ GE131.out) | exact HB.out)) hb); clear BK131; clear HB; have BK131 := n0_; have HB := n1_; clear n0_ n1_; (try clear hb); (try clear hb2); (try clear hk); (try clear hi)))
 go_ret
 exact ⟨by first | rfl | (simp [errW_none, errW_some] <;> rfl) | (simp [*, errW_none, errW_some] <;> rfl), by repeat (first | (with_reducible first | exact HB.out | apply zL | apply zN | apply zD | refine below_set ?_ GE131.out) | exact HB.out)⟩
def bytealg_LastIndexByteString.l0 : Nat → ByteArray → Int → Int → Option (Int)
 | 0, _, _, _ => none
 | k + 1, x0, x1, x5 => if x5 ≥ 0 then (if 0 ≤ x5 then (if x5 < (x0.size : Int) then (if (bt x0 x5) = x1 then (some x5) else (bytealg_LastIndexByteString.l0 k x0 x1 (wrap64 (x5 - 1)))) else (none)) else (none)) else (some (-1))
def bytealg_LastIndexByteString.f (k : Nat) (a0 : ByteArray) (a1 : Int) : Option (Int) := bytealg_LastIndexByteString.l0 k a0 a1 (wrap64 ((a0.size : Int) - 1))
theorem bytealg_LastIndexByteString.mono_l : ∀ k, (∀ y0 y1 y2, LeO (bytealg_LastIndexByteString.l0 k y0 y1 y2) (bytealg_LastIndexByteString.l0 (k + 1) y0 y1 y2))
 | 0 => fun _ _ _ r h => by simp [bytealg_LastIndexByteString.l0] at h
 | k + 1 => by
  have ih0 := bytealg_LastIndexByteString.mono_l k
  ·intro y0 y1 y2
   unfold bytealg_LastIndexByteString.l0
   repeat' first
   | (with_reducible exact ih0 _ _ _)
   | (with_reducible exact LeO.refl _)
   | (with_reducible exact LeO.none _)
   | (with_reducible refine LeO.ite ?_ ?_)
   | (with_reducible refine LeO.bind ?_ (fun _ => ?_))
   | exact ih0 _ _ _
   | exact LeO.none _
   | refine LeO.ite ?_ ?_
   | refine LeO.bind ?_ (fun _ => ?_)
theorem bytealg_LastIndexByteString.mono : ∀ a0 a1 k, LeO (bytealg_LastIndexByteString.f k a0 a1) (bytealg_LastIndexByteString.f (k + 1) a0 a1) := by
 intro a0 a1 k
 have ih0 := bytealg_LastIndexByteString.mono_l k
 unfold bytealg_LastIndexByteString.f
 repeat' first
   | (with_reducible exact ih0 _ _ _)
   | (with_reducible exact LeO.refl _)
   | (with_reducible exact LeO.none _)
   | (with_reducible refine LeO.ite ?_ ?_)
   | (with_reducible refine LeO.bind ?_ (fun _ => ?_))
   | exact ih0 _ _ _
   | exact LeO.none _
   | refine LeO.ite ?_ ?_
   | refine LeO.bind ?_ (fun _ => ?_)
set_option maxHeartbeats 8000000 in
set_option maxRecDepth 100000 in
theorem bytealg_LastIndexByteString.calls (k : Nat) (a0 : ByteArray) (a1 : Int) (r : Int) (w : World) (h : bytealg_LastIndexByteString.f k a0 a1 = some r) :
  Calls Tryd.prog 85 #[.string a0, .int .u8 a1] w fun e w' => e = .returned (.int .i64 r) ∧ Drawn0 w w' := by
 have H : (bytealg_LastIndexByteString.l0 k a0 a1 (wrap64 ((a0.size : Int) - 1))) = some r := h
 clear h
 have H' := zA H
 clear H
 go_enter Tryd.func85, Tryd.ntmps85
 go_wp2
 go_loopg [5] k (fun kq v5 w' => ∃ (x5_1 : Int), v5 = .int .i64 x5_1 ∧ Aside0 (bytealg_LastIndexByteString.l0 kq a0 a1 x5_1 = some r) ∧ Aside0 (kq ≤ k) ∧ Drawn0 w w')
 case atStart => exact ⟨(wrap64 ((a0.size : Int) - 1)), (by first | rfl | (simp; done) | (simp [*]; done)), H', ⟨Nat.le_refl _⟩, by repeat (first | exact Drawn0.refl _ | apply Drawn0.step)⟩
 case round =>
  clear H'
  try clear p2
  obtain ⟨x5_1, rfl, HA, HK1, ⟨m1, rfl⟩⟩ := hrel
  cases gk with
  | zero => exact absurd HA.out (by simp [bytealg_LastIndexByteString.l0])
  | succ k1 =>
   have H := HA.out
   clear HA
   simp only [bytealg_LastIndexByteString.l0] at H
   by_cases c3 : x5_1 ≥ 0
   rotate_left
   ·rw [if_neg c3] at H
    have c3b0 : decide (0 ≤ x5_1) = false := decide_eq_false c3
    clear c3; obtain rfl := Option.some.inj H; go_wp2; go_ret
    exact ⟨by first | rfl | (simp; done) | (simp [*]; done), by repeat (first | exact Drawn0.refl _ | apply Drawn0.step)⟩
   rw [if_pos c3] at H
   have c3b0 : decide (0 ≤ x5_1) = true := decide_eq_true c3
   clear c3
   by_cases c4 : 0 ≤ x5_1
   rotate_left
   ·rw [if_neg c4] at H
    exact absurd H (by simp)
   rw [if_pos c4] at H
   have c4b0 : decide (0 ≤ x5_1) = true := decide_eq_true c4
   clear c4
   by_cases c5 : x5_1 < (a0.size : Int)
   rotate_left
   ·rw [if_neg c5] at H
    exact absurd H (by simp)
   rw [if_pos c5] at H
   have c5b0 : decide (x5_1 < (a0.size : Int)) = true := decide_eq_true c5
   clear c5
   by_cases c7 : (bt a0 x5_1) = a1
   ·rw [if_pos c7] at H
    have c7b0 : ((bt a0 x5_1) == a1) = true := beq_iff_eq.mpr c7
    have c7b1 : ((bt a0 x5_1) != a1) = false := bne_eq_false_iff_eq.mpr c7
    clear c7; obtain rfl := Option.some.inj H
    have p6 : 0 ≤ (x5_1 : Int) := zO (by first | (with_reducible assumption) | assumption)
    have q6 : x5_1 < (a0.size : Int) := zO (by first | (with_reducible assumption) | assumption)
    have hx6 := bt_at a0 x5_1
    replace p6 := eq_true p6
    replace q6 := eq_true q6
    go_wp2; go_ret
    exact ⟨by first | rfl | (simp; done) | (simp [*]; done), by repeat (first | exact Drawn0.refl _ | apply Drawn0.step)⟩
   rw [if_neg c7] at H
   have c7b0 : ((bt a0 x5_1) == a1) = false := beq_eq_false_iff_ne.mpr c7
   have c7b1 : ((bt a0 x5_1) != a1) = true := bne_iff_ne.mpr c7
   have H' := zA H
   clear H
   have p6 : 0 ≤ (x5_1 : Int) := zO (by first | (with_reducible assumption) | assumption)
   have q6 : x5_1 < (a0.size : Int) := zO (by first | (with_reducible assumption) | assumption)
   have hx6 := bt_at a0 x5_1
   replace p6 := eq_true p6
   replace q6 := eq_true q6
   go_wp2
   go_roundg k1
   case measure => have := HK1.out; omega
   case rel => exact ⟨(wrap64 (x5_1 - 1)), (by first | rfl | (simp; done) | (simp [*]; done)), H', ⟨by have := HK1.out; omega⟩, by repeat (first | exact Drawn0.refl _ | apply Drawn0.step)⟩
def strings_LastIndexByte.f (k : Nat) (a0 : ByteArray) (a1 : Int) : Option (Int) := (bytealg_LastIndexByteString.f k a0 a1).bind fun t133 => (some t133)
theorem strings_LastIndexByte.mono : ∀ a0 a1 k, LeO (strings_LastIndexByte.f k a0 a1) (strings_LastIndexByte.f (k + 1) a0 a1) := by
 intro a0 a1 k
 unfold strings_LastIndexByte.f
 repeat' first
   | (with_reducible exact bytealg_LastIndexByteString.mono _ _ _)
   | (with_reducible exact LeO.refl _)
   | (with_reducible exact LeO.none _)
   | (with_reducible refine LeO.ite ?_ ?_)
   | (with_reducible refine LeO.bind ?_ (fun _ => ?_))
   | exact bytealg_LastIndexByteString.mono _ _ _
   | exact LeO.none _
   | refine LeO.ite ?_ ?_
   | refine LeO.bind ?_ (fun _ => ?_)
set_option maxHeartbeats 8000000 in
set_option maxRecDepth 100000 in
theorem strings_LastIndexByte.calls (k : Nat) (a0 : ByteArray) (a1 : Int) (r : Int) (w : World) (h : strings_LastIndexByte.f k a0 a1 = some r) :
  Calls Tryd.prog 70 #[.string a0, .int .u8 a1] w fun e w' => e = .returned (.int .i64 r) ∧ Drawn0 w w' := by
 have H : ((bytealg_LastIndexByteString.f k a0 a1).bind fun t133 => (some t133)) = some r := h
 clear h; replace H := Option.bind_eq_some_iff.mp H; obtain ⟨t133, A30, H⟩ := H
 replace H : (some t133) = some r := H
 have A3 := zA A30; clear A30; obtain rfl := Option.some.inj H
 go_enter Tryd.func70, Tryd.ntmps70
 go_wp2_with (first | ((with_reducible refine gate_callee (f := 85) rfl ?_); refine goesL_ (some 7) rfl rfl Tryd.func85 (by kernel_rfl) rfl #[.string a0, .int .u8 a1] rfl (by (try simp only [List.map_toArray, List.map_cons, List.map_nil]); first | done | rfl | (simp only [List.length_drop, List.length_take]; rfl)) ?_; (with_reducible refine (bytealg_LastIndexByteString.calls k a0 a1 t133 _ A3.out).mono ?_); rintro e w' ⟨rfl, ⟨nd, rfl⟩⟩; refine ⟨_, rfl, ?_⟩))
 go_ret
 exact ⟨by first | rfl | (simp; done) | (simp [*]; done), by repeat (first | exact Drawn0.refl _ | apply Drawn0.step)⟩
def path_Base.f (k : Nat) (a0 : ByteArray) : Option (ByteArray) := (strings_LastIndexByte.f k a0 47).bind fun t134 => (if 0 ≤ (wrap64 (t134 + 1)) then (if (wrap64 (t134 + 1)) ≤ (a0.size : Int) then (some (a0.extract ((wrap64 (t134 + 1)) : Int).toNat a0.size)) else (none)) else (none))
theorem path_Base.mono : ∀ a0 k, LeO (path_Base.f k a0) (path_Base.f (k + 1) a0) := by
 intro a0 k
 unfold path_Base.f
 repeat' first
   | (with_reducible exact strings_LastIndexByte.mono _ _ _)
   | (with_reducible exact LeO.refl _)
   | (with_reducible exact LeO.none _)
   | (with_reducible refine LeO.ite ?_ ?_)
   | (with_reducible refine LeO.bind ?_ (fun _ => ?_))
   | exact strings_LastIndexByte.mono _ _ _
   | exact LeO.none _
   | refine LeO.ite ?_ ?_
   | refine LeO.bind ?_ (fun _ => ?_)
set_option maxHeartbeats 8000000 in
set_option maxRecDepth 100000 in
theorem path_Base.calls (k : Nat) (a0 : ByteArray) (r : ByteArray) (w : World) (h : path_Base.f k a0 = some r) :
  Calls Tryd.prog 80 #[.string a0] w fun e w' => e = .returned (.string r) ∧ Drawn0 w w' := by
 have H : ((strings_LastIndexByte.f k a0 47).bind fun t134 => (if 0 ≤ (wrap64 (t134 + 1)) then (if (wrap64 (t134 + 1)) ≤ (a0.size : Int) then (some (a0.extract ((wrap64 (t134 + 1)) : Int).toNat a0.size)) else (none)) else (none))) = some r := h
 clear h; replace H := Option.bind_eq_some_iff.mp H; obtain ⟨t134, A20, H⟩ := H
 replace H : (if 0 ≤ (wrap64 (t134 + 1)) then (if (wrap64 (t134 + 1)) ≤ (a0.size : Int) then (some (a0.extract ((wrap64 (t134 + 1)) : Int).toNat a0.size)) else (none)) else (none)) = some r := H
 have A2 := zA A20; clear A20
 obtain ⟨ji3, hji3⟩ : ∃ j_ : Int, (wrap64 (t134 + 1)) = j_ := ⟨_, rfl⟩
 replace H : (if 0 ≤ (ji3) then (if (ji3) ≤ (a0.size : Int) then (some (a0.extract ((ji3) : Int).toNat a0.size)) else (none)) else (none)) = some r := by first | (rw [hji3] at H; exact H) | (simp only [hji3] at H ⊢; exact H)
 (try rw [hji3] at A2)
 have hji3w : (IntKind.i64.wrap (t134 + 1)) = ji3 := (i64_w _).trans hji3
 by_cases c4 : 0 ≤ (ji3)
 rotate_left
 ·rw [if_neg c4] at H
  exact absurd H (by simp)
 rw [if_pos c4] at H
 have c4b0 := eq_true c4
 have c4b1 : decide (0 ≤ (ji3)) = true := decide_eq_true c4
 clear c4
 by_cases c5 : (ji3) ≤ (a0.size : Int)
 rotate_left
 ·rw [if_neg c5] at H
  exact absurd H (by simp)
 rw [if_pos c5] at H
 have c5b0 := eq_true c5
 have c5b1 : decide ((ji3) ≤ (a0.size : Int)) = true := decide_eq_true c5
 clear c5; obtain rfl := Option.some.inj H
 go_enter Tryd.func80, Tryd.ntmps80
 go_wp2_with (first | ((with_reducible refine gate_callee (f := 70) rfl ?_); refine goesL_ (some 5) rfl rfl Tryd.func70 (by kernel_rfl) rfl #[.string a0, .int .u8 47] rfl (by (try simp only [List.map_toArray, List.map_cons, List.map_nil]); first | done | rfl | (simp only [List.length_drop, List.length_take]; rfl)) ?_; (with_reducible refine (strings_LastIndexByte.calls k a0 47 t134 _ A2.out).mono ?_); rintro e w' ⟨rfl, ⟨nd, rfl⟩⟩; refine ⟨_, rfl, ?_⟩))
 go_ret
 exact ⟨by first | rfl | (simp; done) | (simp only [← hji3] <;> (first | rfl | simp)) | (simp [*]; done), by repeat (first | exact Drawn0.refl _ | apply Drawn0.step)⟩
def snap_File.j0 : Nat → Bool → Option (Int)
 | 0, _ => none
 | k + 1, x20 => if x20 = true then (some 8) else (some 0)
def snap_File.f (k : Nat) (a0_0 : ByteArray) (a0_1 : ByteArray) (a0_2 : Int) (a0_3 : Int) : Option (Int) := (snap_placed.f k a0_0 a0_1 a0_2 a0_3).bind fun t136 => (if t136 = true then ((path_Base.f k a0_0).bind fun t137 => (if t137.toList = ([84, 65, 82, 71, 69, 84, 83] : List UInt8) then (if a0_2 = 0 then (snap_File.j0 k (a0_3 != (a0_1.size : Int))) else (snap_File.j0 k true)) else (if a0_1.toList = ([] : List UInt8) then (if a0_2 < 0 then (some 8) else (if a0_2 > 1152921504606846976 then (some 8) else (if a0_3 < 0 then (some 8) else (if a0_3 > 4611686018427387904 then (some 8) else (some 0))))) else (some 8)))) else (some 7))
set_option maxHeartbeats 8000000 in
set_option maxRecDepth 100000 in
theorem snap_File.calls (k : Nat) (a0_0 : ByteArray) (a0_1 : ByteArray) (a0_2 : Int) (a0_3 : Int) (r : Int) (w : World) (h : snap_File.f k a0_0 a0_1 a0_2 a0_3 = some r) :
  Calls Tryd.prog 63 #[.agg #[.string a0_0, .string a0_1, .int .i64 a0_2, .int .i64 a0_3]] w fun e w' => e = .returned (.int .i64 r) ∧ Below w.heap.size w w' := by
 have hu45 := Tryd.underlying45
 have HB := zA (Below.refl w.heap.size w)
 have H : ((snap_placed.f k a0_0 a0_1 a0_2 a0_3).bind fun t136 => (if t136 = true then ((path_Base.f k a0_0).bind fun t137 => (if t137.toList = ([84, 65, 82, 71, 69, 84, 83] : List UInt8) then (if a0_2 = 0 then (snap_File.j0 k (a0_3 != (a0_1.size : Int))) else (snap_File.j0 k true)) else (if a0_1.toList = ([] : List UInt8) then (if a0_2 < 0 then (some 8) else (if a0_2 > 1152921504606846976 then (some 8) else (if a0_3 < 0 then (some 8) else (if a0_3 > 4611686018427387904 then (some 8) else (some 0))))) else (some 8)))) else (some 7))) = some r := h
 clear h; replace H := Option.bind_eq_some_iff.mp H; obtain ⟨t136, A20, H⟩ := H
 replace H : (if t136 = true then ((path_Base.f k a0_0).bind fun t137 => (if t137.toList = ([84, 65, 82, 71, 69, 84, 83] : List UInt8) then (if a0_2 = 0 then (snap_File.j0 k (a0_3 != (a0_1.size : Int))) else (snap_File.j0 k true)) else (if a0_1.toList = ([] : List UInt8) then (if a0_2 < 0 then (some 8) else (if a0_2 > 1152921504606846976 then (some 8) else (if a0_3 < 0 then (some 8) else (if a0_3 > 4611686018427387904 then (some 8) else (some 0))))) else (some 8)))) else (some 7)) = some r := H
 have A2 := zA A20; clear A20
 by_cases c3 : t136 = true
 rotate_left
 ·replace c3 := Bool.eq_false_iff.mpr c3
  subst c3
  have H1 : (some 7) = some r := by rw [if_neg (show ¬ (false = true) by decide)] at H; exact H
  clear H; have H := H1; clear H1; obtain rfl := Option.some.inj H
  go_enter Tryd.func63, Tryd.ntmps63
  go_wp2_with (first | ((with_reducible refine gate_dst (N := 1) rfl ?_); (try (refine gate_guard (by rfl) ?_; dsimp only)); refine box_event ?hg (N := 1) ?hd (cs := #[.string a0_0, .string a0_1, .int .i64 a0_2, .int .i64 a0_3]) (t := 45) ?hr ?_; (case hd => rfl); (case hg => rfl); (case hr => first | (go_simp; done) | (go_simp; rfl)); intro gb135 hg w44 hbox hb; have n0_ := zA (below_step (by repeat (first | (with_reducible first | exact HB.out | apply zL | apply zN | apply zD) | exact HB.out)) hb); have n1_ := zA (hbox); have n2_ := zA ((by rw [hg]; exact (below_size (by repeat (first | (with_reducible first | exact HB.out | apply zL | apply zN | apply zD) | exact HB.out))) : w.heap.size ≤ gb135)); have n3_ := zA ((by rw [hg]; exact (below_size (by repeat (first | (with_reducible first | exact HB.out | apply zL | apply zN | apply zD) | exact HB.out))) : w.heap.size ≤ gb135)); clear HB; have HB := n0_; have BK135 := n1_; have GW135 := n2_; have GE135 := n3_; clear n0_ n1_ n2_ n3_; clear hb hbox hg; have hcz45_0 : w44.cell? ⟨gb135, 0, none⟩ = some (.string a0_0) := (blk_cell BK135.out 0).trans rfl; have hcz45_1 : w44.cell? ⟨gb135, 1, none⟩ = some (.string a0_1) := (blk_cell BK135.out 1).trans rfl; have hcz45_2 : w44.cell? ⟨gb135, 2, none⟩ = some (.int .i64 a0_2) := (blk_cell BK135.out 2).trans rfl; have hcz45_3 : w44.cell? ⟨gb135, 3, none⟩ = some (.int .i64 a0_3) := (blk_cell BK135.out 3).trans rfl; have hfz45_0 := blk_frozen BK135.out 0; have hfz45_1 := blk_frozen BK135.out 1; have hfz45_2 := blk_frozen BK135.out 2; have hfz45_3 := blk_frozen BK135.out 3) | ((with_reducible refine gate_callee (f := 62) rfl ?_); refine goesL_ (some 4) rfl rfl Tryd.func62 (by kernel_rfl) rfl #[.agg #[.string a0_0, .string a0_1, .int .i64 a0_2, .int .i64 a0_3]] rfl (by (try simp only [List.map_toArray, List.map_cons, List.map_nil]); first | done | rfl | (simp only [List.length_drop, List.length_take]; rfl)) ?_; (with_reducible refine (snap_placed.calls k a0_0 a0_1 a0_2 a0_3 false _ A2.out).mono ?_); rintro e w46 ⟨rfl, hb⟩; refine ⟨_, rfl, ?_⟩; have n0_ := zA (blk_below (g := gb135) (o := .cells #[.string a0_0, .string a0_1, .int .i64 a0_2, .int .i64 a0_3] 45 (0, 0)) (by (with_reducible repeat (first | refine blk_drewN ?_ _ | refine blk_drew ?_ | refine blk_alloc ?_ _)); exact BK135.out) hb); have n1_ := zA (below_step (by repeat (first | (with_reducible first | exact HB.out | apply zL | apply zN | apply zD | refine below_set ?_ GE135.out) | exact HB.out)) hb); clear BK135; clear HB; have BK135 := n0_; have HB := n1_; clear n0_ n1_; (try clear hb); (try clear hb2); (try clear hk); (try clear hi)))
  go_ret
  exact ⟨by first | rfl | (simp [errW_none, errW_some] <;> rfl) | (simp [*, errW_none, errW_some] <;> rfl), by repeat (first | (with_reducible first | exact HB.out | apply zL | apply zN | apply zD | refine below_set ?_ GE135.out) | exact HB.out)⟩
 subst c3
 have H1 : ((path_Base.f k a0_0).bind fun t137 => (if t137.toList = ([84, 65, 82, 71, 69, 84, 83] : List UInt8) then (if a0_2 = 0 then (snap_File.j0 k (a0_3 != (a0_1.size : Int))) else (snap_File.j0 k true)) else (if a0_1.toList = ([] : List UInt8) then (if a0_2 < 0 then (some 8) else (if a0_2 > 1152921504606846976 then (some 8) else (if a0_3 < 0 then (some 8) else (if a0_3 > 4611686018427387904 then (some 8) else (some 0))))) else (some 8)))) = some r := by rw [if_pos rfl] at H; exact H
 clear H; have H := H1; clear H1; replace H := Option.bind_eq_some_iff.mp H; obtain ⟨t137, A40, H⟩ := H
 replace H : (if t137.toList = ([84, 65, 82, 71, 69, 84, 83] : List UInt8) then (if a0_2 = 0 then (snap_File.j0 k (a0_3 != (a0_1.size : Int))) else (snap_File.j0 k true)) else (if a0_1.toList = ([] : List UInt8) then (if a0_2 < 0 then (some 8) else (if a0_2 > 1152921504606846976 then (some 8) else (if a0_3 < 0 then (some 8) else (if a0_3 > 4611686018427387904 then (some 8) else (some 0))))) else (some 8))) = some r := H
 have A4 := zA A40; clear A40
 by_cases c5 : t137.toList = ([84, 65, 82, 71, 69, 84, 83] : List UInt8)
 ·rw [if_pos c5] at H
  have c5b0 : (t137.toList == ([84, 65, 82, 71, 69, 84, 83] : List UInt8)) = true := beq_iff_eq.mpr c5
  have c5b1 : (t137.toList != ([84, 65, 82, 71, 69, 84, 83] : List UInt8)) = false := bne_eq_false_iff_eq.mpr c5
  clear c5; have HC6 := zA H; clear H
  go_enter Tryd.func63, Tryd.ntmps63
  go_upto_region 4 with (first | ((with_reducible refine gate_dst (N := 1) rfl ?_); (try (refine gate_guard (by rfl) ?_; dsimp only)); refine box_event ?hg (N := 1) ?hd (cs := #[.string a0_0, .string a0_1, .int .i64 a0_2, .int .i64 a0_3]) (t := 45) ?hr ?_; (case hd => rfl); (case hg => rfl); (case hr => first | (go_simp; done) | (go_simp; rfl)); intro gb135 hg w7 hbox hb; have n0_ := zA (below_step (by repeat (first | (with_reducible first | exact HB.out | apply zL | apply zN | apply zD) | exact HB.out)) hb); have n1_ := zA (hbox); have n2_ := zA ((by rw [hg]; exact (below_size (by repeat (first | (with_reducible first | exact HB.out | apply zL | apply zN | apply zD) | exact HB.out))) : w.heap.size ≤ gb135)); have n3_ := zA ((by rw [hg]; exact (below_size (by repeat (first | (with_reducible first | exact HB.out | apply zL | apply zN | apply zD) | exact HB.out))) : w.heap.size ≤ gb135)); clear HB; have HB := n0_; have BK135 := n1_; have GW135 := n2_; have GE135 := n3_; clear n0_ n1_ n2_ n3_; clear hb hbox hg; have hcz8_0 : w7.cell? ⟨gb135, 0, none⟩ = some (.string a0_0) := (blk_cell BK135.out 0).trans rfl; have hcz8_1 : w7.cell? ⟨gb135, 1, none⟩ = some (.string a0_1) := (blk_cell BK135.out 1).trans rfl; have hcz8_2 : w7.cell? ⟨gb135, 2, none⟩ = some (.int .i64 a0_2) := (blk_cell BK135.out 2).trans rfl; have hcz8_3 : w7.cell? ⟨gb135, 3, none⟩ = some (.int .i64 a0_3) := (blk_cell BK135.out 3).trans rfl; have hfz8_0 := blk_frozen BK135.out 0; have hfz8_1 := blk_frozen BK135.out 1; have hfz8_2 := blk_frozen BK135.out 2; have hfz8_3 := blk_frozen BK135.out 3) | ((with_reducible refine gate_callee (f := 62) rfl ?_); refine goesL_ (some 4) rfl rfl Tryd.func62 (by kernel_rfl) rfl #[.agg #[.string a0_0, .string a0_1, .int .i64 a0_2, .int .i64 a0_3]] rfl (by (try simp only [List.map_toArray, List.map_cons, List.map_nil]); first | done | rfl | (simp only [List.length_drop, List.length_take]; rfl)) ?_; (with_reducible refine (snap_placed.calls k a0_0 a0_1 a0_2 a0_3 true _ A2.out).mono ?_); rintro e w9 ⟨rfl, hb⟩; refine ⟨_, rfl, ?_⟩; have n0_ := zA (blk_below (g := gb135) (o := .cells #[.string a0_0, .string a0_1, .int .i64 a0_2, .int .i64 a0_3] 45 (0, 0)) (by (with_reducible repeat (first | refine blk_drewN ?_ _ | refine blk_drew ?_ | refine blk_alloc ?_ _)); exact BK135.out) hb); have n1_ := zA (below_step (by repeat (first | (with_reducible first | exact HB.out | apply zL | apply zN | apply zD | refine below_set ?_ GE135.out) | exact HB.out)) hb); clear BK135; clear HB; have BK135 := n0_; have HB := n1_; clear n0_ n1_; (try clear hb); (try clear hb2); (try clear hk); (try clear hi); have hcz10_0 : w9.cell? ⟨gb135, 0, none⟩ = some (.string a0_0) := (blk_cell BK135.out 0).trans rfl; have hcz10_1 : w9.cell? ⟨gb135, 1, none⟩ = some (.string a0_1) := (blk_cell BK135.out 1).trans rfl; have hcz10_2 : w9.cell? ⟨gb135, 2, none⟩ = some (.int .i64 a0_2) := (blk_cell BK135.out 2).trans rfl; have hcz10_3 : w9.cell? ⟨gb135, 3, none⟩ = some (.int .i64 a0_3) := (blk_cell BK135.out 3).trans rfl; have hfz10_0 := blk_frozen BK135.out 0; have hfz10_1 := blk_frozen BK135.out 1; have hfz10_2 := blk_frozen BK135.out 2; have hfz10_3 := blk_frozen BK135.out 3) | ((with_reducible refine gate_callee (f := 80) rfl ?_); refine goesL_ (some 8) rfl rfl Tryd.func80 (by kernel_rfl) rfl #[.string a0_0] rfl (by (try simp only [List.map_toArray, List.map_cons, List.map_nil]); first | done | rfl | (simp only [List.length_drop, List.length_take]; rfl)) ?_; (with_reducible refine (path_Base.calls k a0_0 t137 _ A4.out).mono ?_); rintro e w' ⟨rfl, ⟨nd, rfl⟩⟩; refine ⟨_, rfl, ?_⟩))
  (try simp only [Act.put, zS, zZ, zC])
  go_cut [20] (fun v20 wc => ∃ (kq : Nat) (x20_5 : Bool), v20 = .bool x20_5 ∧ Aside0 (snap_File.j0 kq x20_5 = some r) ∧ Aside0 (kq ≤ k) ∧ Aside0 (wc.heap[gb135]? = some (.cells #[.string a0_0, .string a0_1, .int .i64 a0_2, .int .i64 a0_3] 45 (0, 0))) ∧ Aside0 (Below w.heap.size w wc))
  case first =>
   have H := HC6.out
   clear HC6
   by_cases c11 : a0_2 = 0
   rotate_left
   ·rw [if_neg c11] at H
    have c11b0 : (a0_2 == 0) = false := beq_eq_false_iff_ne.mpr c11
    have c11b1 : (a0_2 != 0) = true := bne_iff_ne.mpr c11
    (first | rw [c11b0] | (simp only [i64_w, i32_w]; rw [c11b0]) | skip)
    have H' := zA H
    clear H
    have hcz13_0 : w9.cell? ⟨gb135, 0, none⟩ = some (.string a0_0) := (blk_cell BK135.out 0).trans rfl
    have hcz13_1 : w9.cell? ⟨gb135, 1, none⟩ = some (.string a0_1) := (blk_cell BK135.out 1).trans rfl
    have hcz13_2 : w9.cell? ⟨gb135, 2, none⟩ = some (.int .i64 a0_2) := (blk_cell BK135.out 2).trans rfl
    have hcz13_3 : w9.cell? ⟨gb135, 3, none⟩ = some (.int .i64 a0_3) := (blk_cell BK135.out 3).trans rfl
    have hfz13_0 := blk_frozen BK135.out 0
    have hfz13_1 := blk_frozen BK135.out 1
    have hfz13_2 := blk_frozen BK135.out 2
    have hfz13_3 := blk_frozen BK135.out 3
    go_wp2
    go_meet
    case rel => exact ⟨_, (true), (by first | rfl | (simp; done) | (simp [*]; done)), H', ⟨by first | omega | exact Nat.le_refl _⟩, ⟨by (with_reducible repeat (first | refine blk_drewN ?_ _ | refine blk_drew ?_ | refine blk_alloc ?_ _)); exact BK135.out⟩, ⟨by repeat (first | (with_reducible first | exact HB.out | apply zL | apply zN | apply zD | refine below_set ?_ GE135.out) | exact HB.out)⟩⟩
   rw [if_pos c11] at H
   have c11b0 : (a0_2 == 0) = true := beq_iff_eq.mpr c11
   have c11b1 : (a0_2 != 0) = false := bne_eq_false_iff_eq.mpr c11
   clear c11
   (first | rw [c11b0] | (simp only [i64_w, i32_w]; rw [c11b0]) | skip)
   have H' := zA H
   clear H
   have hcz12_0 : w9.cell? ⟨gb135, 0, none⟩ = some (.string a0_0) := (blk_cell BK135.out 0).trans rfl
   have hcz12_1 : w9.cell? ⟨gb135, 1, none⟩ = some (.string a0_1) := (blk_cell BK135.out 1).trans rfl
   have hcz12_2 : w9.cell? ⟨gb135, 2, none⟩ = some (.int .i64 a0_2) := (blk_cell BK135.out 2).trans rfl
   have hcz12_3 : w9.cell? ⟨gb135, 3, none⟩ = some (.int .i64 a0_3) := (blk_cell BK135.out 3).trans rfl
   have hfz12_0 := blk_frozen BK135.out 0
   have hfz12_1 := blk_frozen BK135.out 1
   have hfz12_2 := blk_frozen BK135.out 2
   have hfz12_3 := blk_frozen BK135.out 3
   go_wp2
   go_meet
   case rel => exact ⟨_, ((a0_3 != (a0_1.size : Int))), (by first | rfl | (simp; done) | (simp [*]; done)), H', ⟨by first | omega | exact Nat.le_refl _⟩, ⟨by (with_reducible repeat (first | refine blk_drewN ?_ _ | refine blk_drew ?_ | refine blk_alloc ?_ _)); exact BK135.out⟩, ⟨by repeat (first | (with_reducible first | exact HB.out | apply zL | apply zN | apply zD | refine below_set ?_ GE135.out) | exact HB.out)⟩⟩
  case rest =>
   clear HC6
   try clear c1
   try clear p2
   try clear c3
   try clear c5
   try clear c5b0
   try clear c5b1
   try clear c6
   try clear c8
   try clear c11
   try clear c11b0
   try clear c11b1
   try clear hcz10_0
   try clear hcz10_1
   try clear hcz10_2
   try clear hcz10_3
   try clear hcz12_0
   try clear hcz12_1
   try clear hcz12_2
   try clear hcz12_3
   try clear hcz13_0
   try clear hcz13_1
   try clear hcz13_2
   try clear hcz13_3
   try clear hcz8_0
   try clear hcz8_1
   try clear hcz8_2
   try clear hcz8_3
   try clear hfz10_0
   try clear hfz10_1
   try clear hfz10_2
   try clear hfz10_3
   try clear hfz12_0
   try clear hfz12_1
   try clear hfz12_2
   try clear hfz12_3
   try clear hfz13_0
   try clear hfz13_1
   try clear hfz13_2
   try clear hfz13_3
   try clear hfz8_0
   try clear hfz8_1
   try clear hfz8_2
   try clear hfz8_3
   obtain ⟨kq, x20_5, rfl, HA, HJ5, BK135, HB⟩ := hcut
   cases kq with
   | zero => exact absurd HA.out (by simp [snap_File.j0])
   | succ kj5 =>
    have H := HA.out
    clear HA
    simp only [snap_File.j0] at H
    by_cases c14 : x20_5 = true
    ·subst c14
     have H1 : (some 8) = some r := by rw [if_pos rfl] at H; exact H
     clear H; have H := H1; clear H1; obtain rfl := Option.some.inj H; go_wp2; go_ret
     exact ⟨by first | rfl | (simp [errW_none, errW_some] <;> rfl) | (simp [*, errW_none, errW_some] <;> rfl), by repeat (first | (with_reducible first | exact HB.out | apply zL | apply zN | apply zD | refine below_set ?_ GE135.out) | exact HB.out)⟩
    replace c14 := Bool.eq_false_iff.mpr c14
    subst c14
    have H1 : (some 0) = some r := by rw [if_neg (show ¬ (false = true) by decide)] at H; exact H
    clear H; have H := H1; clear H1; obtain rfl := Option.some.inj H; go_wp2; go_ret
    exact ⟨by first | rfl | (simp [errW_none, errW_some] <;> rfl) | (simp [*, errW_none, errW_some] <;> rfl), by repeat (first | (with_reducible first | exact HB.out | apply zL | apply zN | apply zD | refine below_set ?_ GE135.out) | exact HB.out)⟩
 rw [if_neg c5] at H
 have c5b0 : (t137.toList == ([84, 65, 82, 71, 69, 84, 83] : List UInt8)) = false := beq_eq_false_iff_ne.mpr c5
 have c5b1 : (t137.toList != ([84, 65, 82, 71, 69, 84, 83] : List UInt8)) = true := bne_iff_ne.mpr c5
 by_cases c15 : a0_1.toList = ([] : List UInt8)
 rotate_left
 ·rw [if_neg c15] at H
  have c15b0 : (a0_1.toList == ([] : List UInt8)) = false := beq_eq_false_iff_ne.mpr c15
  have c15b1 : (a0_1.toList != ([] : List UInt8)) = true := bne_iff_ne.mpr c15
  obtain rfl := Option.some.inj H
  go_enter Tryd.func63, Tryd.ntmps63
  go_wp2_with (first | ((with_reducible refine gate_dst (N := 1) rfl ?_); (try (refine gate_guard (by rfl) ?_; dsimp only)); refine box_event ?hg (N := 1) ?hd (cs := #[.string a0_0, .string a0_1, .int .i64 a0_2, .int .i64 a0_3]) (t := 45) ?hr ?_; (case hd => rfl); (case hg => rfl); (case hr => first | (go_simp; done) | (go_simp; rfl)); intro gb135 hg w40 hbox hb; have n0_ := zA (below_step (by repeat (first | (with_reducible first | exact HB.out | apply zL | apply zN | apply zD) | exact HB.out)) hb); have n1_ := zA (hbox); have n2_ := zA ((by rw [hg]; exact (below_size (by repeat (first | (with_reducible first | exact HB.out | apply zL | apply zN | apply zD) | exact HB.out))) : w.heap.size ≤ gb135)); have n3_ := zA ((by rw [hg]; exact (below_size (by repeat (first | (with_reducible first | exact HB.out | apply zL | apply zN | apply zD) | exact HB.out))) : w.heap.size ≤ gb135)); clear HB; have HB := n0_; have BK135 := n1_; have GW135 := n2_; have GE135 := n3_; clear n0_ n1_ n2_ n3_; clear hb hbox hg; have hcz41_0 : w40.cell? ⟨gb135, 0, none⟩ = some (.string a0_0) := (blk_cell BK135.out 0).trans rfl; have hcz41_1 : w40.cell? ⟨gb135, 1, none⟩ = some (.string a0_1) := (blk_cell BK135.out 1).trans rfl; have hcz41_2 : w40.cell? ⟨gb135, 2, none⟩ = some (.int .i64 a0_2) := (blk_cell BK135.out 2).trans rfl; have hcz41_3 : w40.cell? ⟨gb135, 3, none⟩ = some (.int .i64 a0_3) := (blk_cell BK135.out 3).trans rfl; have hfz41_0 := blk_frozen BK135.out 0; have hfz41_1 := blk_frozen BK135.out 1; have hfz41_2 := blk_frozen BK135.out 2; have hfz41_3 := blk_frozen BK135.out 3) | ((with_reducible refine gate_callee (f := 62) rfl ?_); refine goesL_ (some 4) rfl rfl Tryd.func62 (by kernel_rfl) rfl #[.agg #[.string a0_0, .string a0_1, .int .i64 a0_2, .int .i64 a0_3]] rfl (by (try simp only [List.map_toArray, List.map_cons, List.map_nil]); first | done | rfl | (simp only [List.length_drop, List.length_take]; rfl)) ?_; (with_reducible refine (snap_placed.calls k a0_0 a0_1 a0_2 a0_3 true _ A2.out).mono ?_); rintro e w42 ⟨rfl, hb⟩; refine ⟨_, rfl, ?_⟩; have n0_ := zA (blk_below (g := gb135) (o := .cells #[.string a0_0, .string a0_1, .int .i64 a0_2, .int .i64 a0_3] 45 (0, 0)) (by (with_reducible repeat (first | refine blk_drewN ?_ _ | refine blk_drew ?_ | refine blk_alloc ?_ _)); exact BK135.out) hb); have n1_ := zA (below_step (by repeat (first | (with_reducible first | exact HB.out | apply zL | apply zN | apply zD | refine below_set ?_ GE135.out) | exact HB.out)) hb); clear BK135; clear HB; have BK135 := n0_; have HB := n1_; clear n0_ n1_; (try clear hb); (try clear hb2); (try clear hk); (try clear hi); have hcz43_0 : w42.cell? ⟨gb135, 0, none⟩ = some (.string a0_0) := (blk_cell BK135.out 0).trans rfl; have hcz43_1 : w42.cell? ⟨gb135, 1, none⟩ = some (.string a0_1) := (blk_cell BK135.out 1).trans rfl; have hcz43_2 : w42.cell? ⟨gb135, 2, none⟩ = some (.int .i64 a0_2) := (blk_cell BK135.out 2).trans rfl; have hcz43_3 : w42.cell? ⟨gb135, 3, none⟩ = some (.int .i64 a0_3) := (blk_cell BK135.out 3).trans rfl; have hfz43_0 := blk_frozen BK135.out 0; have hfz43_1 := blk_frozen BK135.out 1; have hfz43_2 := blk_frozen BK135.out 2; have hfz43_3 := blk_frozen BK135.out 3) | ((with_reducible refine gate_callee (f := 80) rfl ?_); refine goesL_ (some 8) rfl rfl Tryd.func80 (by kernel_rfl) rfl #[.string a0_0] rfl (by (try simp only [List.map_toArray, List.map_cons, List.map_nil]); first | done | rfl | (simp only [List.length_drop, List.length_take]; rfl)) ?_; (with_reducible refine (path_Base.calls k a0_0 t137 _ A4.out).mono ?_); rintro e w' ⟨rfl, ⟨nd, rfl⟩⟩; refine ⟨_, rfl, ?_⟩))
  go_ret
  exact ⟨by first | rfl | (simp [errW_none, errW_some] <;> rfl) | (simp [*, errW_none, errW_some] <;> rfl), by repeat (first | (with_reducible first | exact HB.out | apply zL | apply zN | apply zD | refine below_set ?_ GE135.out) | exact HB.out)⟩
 rw [if_pos c15] at H
 have c15b0 : (a0_1.toList == ([] : List UInt8)) = true := beq_iff_eq.mpr c15
 have c15b1 : (a0_1.toList != ([] : List UInt8)) = false := bne_eq_false_iff_eq.mpr c15
 clear c15
 by_cases c16 : a0_2 < 0
 ·rw [if_pos c16] at H
  have c16b0 : decide (a0_2 < 0) = true := decide_eq_true c16
  clear c16; obtain rfl := Option.some.inj H
  go_enter Tryd.func63, Tryd.ntmps63
  go_wp2_with (first | ((with_reducible refine gate_dst (N := 1) rfl ?_); (try (refine gate_guard (by rfl) ?_; dsimp only)); refine box_event ?hg (N := 1) ?hd (cs := #[.string a0_0, .string a0_1, .int .i64 a0_2, .int .i64 a0_3]) (t := 45) ?hr ?_; (case hd => rfl); (case hg => rfl); (case hr => first | (go_simp; done) | (go_simp; rfl)); intro gb135 hg w17 hbox hb; have n0_ := zA (below_step (by repeat (first | (with_reducible first | exact HB.out | apply zL | apply zN | apply zD) | exact HB.out)) hb); have n1_ := zA (hbox); have n2_ := zA ((by rw [hg]; exact (below_size (by repeat (first | (with_reducible first | exact HB.out | apply zL | apply zN | apply zD) | exact HB.out))) : w.heap.size ≤ gb135)); have n3_ := zA ((by rw [hg]; exact (below_size (by repeat (first | (with_reducible first | exact HB.out | apply zL | apply zN | apply zD) | exact HB.out))) : w.heap.size ≤ gb135)); clear HB; have HB := n0_; have BK135 := n1_; have GW135 := n2_; have GE135 := n3_; clear n0_ n1_ n2_ n3_; clear hb hbox hg; have hcz18_0 : w17.cell? ⟨gb135, 0, none⟩ = some (.string a0_0) := (blk_cell BK135.out 0).trans rfl; have hcz18_1 : w17.cell? ⟨gb135, 1, none⟩ = some (.string a0_1) := (blk_cell BK135.out 1).trans rfl; have hcz18_2 : w17.cell? ⟨gb135, 2, none⟩ = some (.int .i64 a0_2) := (blk_cell BK135.out 2).trans rfl; have hcz18_3 : w17.cell? ⟨gb135, 3, none⟩ = some (.int .i64 a0_3) := (blk_cell BK135.out 3).trans rfl; have hfz18_0 := blk_frozen BK135.out 0; have hfz18_1 := blk_frozen BK135.out 1; have hfz18_2 := blk_frozen BK135.out 2; have hfz18_3 := blk_frozen BK135.out 3) | ((with_reducible refine gate_callee (f := 62) rfl ?_); refine goesL_ (some 4) rfl rfl Tryd.func62 (by kernel_rfl) rfl #[.agg #[.string a0_0, .string a0_1, .int .i64 a0_2, .int .i64 a0_3]] rfl (by (try simp only [List.map_toArray, List.map_cons, List.map_nil]); first | done | rfl | (simp only [List.length_drop, List.length_take]; rfl)) ?_; (with_reducible refine (snap_placed.calls k a0_0 a0_1 a0_2 a0_3 true _ A2.out).mono ?_); rintro e w19 ⟨rfl, hb⟩; refine ⟨_, rfl, ?_⟩; have n0_ := zA (blk_below (g := gb135) (o := .cells #[.string a0_0, .string a0_1, .int .i64 a0_2, .int .i64 a0_3] 45 (0, 0)) (by (with_reducible repeat (first | refine blk_drewN ?_ _ | refine blk_drew ?_ | refine blk_alloc ?_ _)); exact BK135.out) hb); have n1_ := zA (below_step (by repeat (first | (with_reducible first | exact HB.out | apply zL | apply zN | apply zD | refine below_set ?_ GE135.out) | exact HB.out)) hb); clear BK135; clear HB; have BK135 := n0_; have HB := n1_; clear n0_ n1_; (try clear hb); (try clear hb2); (try clear hk); (try clear hi); have hcz20_0 : w19.cell? ⟨gb135, 0, none⟩ = some (.string a0_0) := (blk_cell BK135.out 0).trans rfl; have hcz20_1 : w19.cell? ⟨gb135, 1, none⟩ = some (.string a0_1) := (blk_cell BK135.out 1).trans rfl; have hcz20_2 : w19.cell? ⟨gb135, 2, none⟩ = some (.int .i64 a0_2) := (blk_cell BK135.out 2).trans rfl; have hcz20_3 : w19.cell? ⟨gb135, 3, none⟩ = some (.int .i64 a0_3) := (blk_cell BK135.out 3).trans rfl; have hfz20_0 := blk_frozen BK135.out 0; have hfz20_1 := blk_frozen BK135.out 1; have hfz20_2 := blk_frozen BK135.out 2; have hfz20_3 := blk_frozen BK135.out 3) | ((with_reducible refine gate_callee (f := 80) rfl ?_); refine goesL_ (some 8) rfl rfl Tryd.func80 (by kernel_rfl) rfl #[.string a0_0] rfl (by (try simp only [List.map_toArray, List.map_cons, List.map_nil]); first | done | rfl | (simp only [List.length_drop, List.length_take]; rfl)) ?_; (with_reducible refine (path_Base.calls k a0_0 t137 _ A4.out).mono ?_); rintro e w' ⟨rfl, ⟨nd, rfl⟩⟩; refine ⟨_, rfl, ?_⟩))
  go_ret
  exact ⟨by first | rfl | (simp [errW_none, errW_some] <;> rfl) | (simp [*, errW_none, errW_some] <;> rfl), by repeat (first | (with_reducible first | exact HB.out | apply zL | apply zN | apply zD | refine below_set ?_ GE135.out) | exact HB.out)⟩
 rw [if_neg c16] at H
 have c16b0 : decide (a0_2 < 0) = false := decide_eq_false c16
 clear c16
 by_cases c21 : a0_2 > 1152921504606846976
 ·rw [if_pos c21] at H
  have c21b0 : decide (1152921504606846976 < a0_2) = true := decide_eq_true c21
  clear c21; obtain rfl := Option.some.inj H
  go_enter Tryd.func63, Tryd.ntmps63
  go_wp2_with (first | ((with_reducible refine gate_dst (N := 1) rfl ?_); (try (refine gate_guard (by rfl) ?_; dsimp only)); refine box_event ?hg (N := 1) ?hd (cs := #[.string a0_0, .string a0_1, .int .i64 a0_2, .int .i64 a0_3]) (t := 45) ?hr ?_; (case hd => rfl); (case hg => rfl); (case hr => first | (go_simp; done) | (go_simp; rfl)); intro gb135 hg w22 hbox hb; have n0_ := zA (below_step (by repeat (first | (with_reducible first | exact HB.out | apply zL | apply zN | apply zD) | exact HB.out)) hb); have n1_ := zA (hbox); have n2_ := zA ((by rw [hg]; exact (below_size (by repeat (first | (with_reducible first | exact HB.out | apply zL | apply zN | apply zD) | exact HB.out))) : w.heap.size ≤ gb135)); have n3_ := zA ((by rw [hg]; exact (below_size (by repeat (first | (with_reducible first | exact HB.out | apply zL | apply zN | apply zD) | exact HB.out))) : w.heap.size ≤ gb135)); clear HB; have HB := n0_; have BK135 := n1_; have GW135 := n2_; have GE135 := n3_; clear n0_ n1_ n2_ n3_; clear hb hbox hg; have hcz23_0 : w22.cell? ⟨gb135, 0, none⟩ = some (.string a0_0) := (blk_cell BK135.out 0).trans rfl; have hcz23_1 : w22.cell? ⟨gb135, 1, none⟩ = some (.string a0_1) := (blk_cell BK135.out 1).trans rfl; have hcz23_2 : w22.cell? ⟨gb135, 2, none⟩ = some (.int .i64 a0_2) := (blk_cell BK135.out 2).trans rfl; have hcz23_3 : w22.cell? ⟨gb135, 3, none⟩ = some (.int .i64 a0_3) := (blk_cell BK135.out 3).trans rfl; have hfz23_0 := blk_frozen BK135.out 0; have hfz23_1 := blk_frozen BK135.out 1; have hfz23_2 := blk_frozen BK135.out 2; have hfz23_3 := blk_frozen BK135.out 3) | ((with_reducible refine gate_callee (f := 62) rfl ?_); refine goesL_ (some 4) rfl rfl Tryd.func62 (by kernel_rfl) rfl #[.agg #[.string a0_0, .string a0_1, .int .i64 a0_2, .int .i64 a0_3]] rfl (by (try simp only [List.map_toArray, List.map_cons, List.map_nil]); first | done | rfl | (simp only [List.length_drop, List.length_take]; rfl)) ?_; (with_reducible refine (snap_placed.calls k a0_0 a0_1 a0_2 a0_3 true _ A2.out).mono ?_); rintro e w24 ⟨rfl, hb⟩; refine ⟨_, rfl, ?_⟩; have n0_ := zA (blk_below (g := gb135) (o := .cells #[.string a0_0, .string a0_1, .int .i64 a0_2, .int .i64 a0_3] 45 (0, 0)) (by (with_reducible repeat (first | refine blk_drewN ?_ _ | refine blk_drew ?_ | refine blk_alloc ?_ _)); exact BK135.out) hb); have n1_ := zA (below_step (by repeat (first | (with_reducible first | exact HB.out | apply zL | apply zN | apply zD | refine below_set ?_ GE135.out) | exact HB.out)) hb); clear BK135; clear HB; have BK135 := n0_; have HB := n1_; clear n0_ n1_; (try clear hb); (try clear hb2); (try clear hk); (try clear hi); have hcz25_0 : w24.cell? ⟨gb135, 0, none⟩ = some (.string a0_0) := (blk_cell BK135.out 0).trans rfl; have hcz25_1 : w24.cell? ⟨gb135, 1, none⟩ = some (.string a0_1) := (blk_cell BK135.out 1).trans rfl; have hcz25_2 : w24.cell? ⟨gb135, 2, none⟩ = some (.int .i64 a0_2) := (blk_cell BK135.out 2).trans rfl; have hcz25_3 : w24.cell? ⟨gb135, 3, none⟩ = some (.int .i64 a0_3) := (blk_cell BK135.out 3).trans rfl; have hfz25_0 := blk_frozen BK135.out 0; have hfz25_1 := blk_frozen BK135.out 1; have hfz25_2 := blk_frozen BK135.out 2; have hfz25_3 := blk_frozen BK135.out 3) | ((with_reducible refine gate_callee (f := 80) rfl ?_); refine goesL_ (some 8) rfl rfl Tryd.func80 (by kernel_rfl) rfl #[.string a0_0] rfl (by (try simp only [List.map_toArray, List.map_cons, List.map_nil]); first | done | rfl | (simp only [List.length_drop, List.length_take]; rfl)) ?_; (with_reducible refine (path_Base.calls k a0_0 t137 _ A4.out).mono ?_); rintro e w' ⟨rfl, ⟨nd, rfl⟩⟩; refine ⟨_, rfl, ?_⟩))
  go_ret
  exact ⟨by first | rfl | (simp [errW_none, errW_some] <;> rfl) | (simp [*, errW_none, errW_some] <;> rfl), by repeat (first | (with_reducible first | exact HB.out | apply zL | apply zN | apply zD | refine below_set ?_ GE135.out) | exact HB.out)⟩
 rw [if_neg c21] at H
 have c21b0 : decide (1152921504606846976 < a0_2) = false := decide_eq_false c21
 clear c21
 by_cases c26 : a0_3 < 0
 ·rw [if_pos c26] at H
  have c26b0 : decide (a0_3 < 0) = true := decide_eq_true c26
  clear c26; obtain rfl := Option.some.inj H
  go_enter Tryd.func63, Tryd.ntmps63
  go_wp2_with (first | ((with_reducible refine gate_dst (N := 1) rfl ?_); (try (refine gate_guard (by rfl) ?_; dsimp only)); refine box_event ?hg (N := 1) ?hd (cs := #[.string a0_0, .string a0_1, .int .i64 a0_2, .int .i64 a0_3]) (t := 45) ?hr ?_; (case hd => rfl); (case hg => rfl); (case hr => first | (go_simp; done) | (go_simp; rfl)); intro gb135 hg w27 hbox hb; have n0_ := zA (below_step (by repeat (first | (with_reducible first | exact HB.out | apply zL | apply zN | apply zD) | exact HB.out)) hb); have n1_ := zA (hbox); have n2_ := zA ((by rw [hg]; exact (below_size (by repeat (first | (with_reducible first | exact HB.out | apply zL | apply zN | apply zD) | exact HB.out))) : w.heap.size ≤ gb135)); have n3_ := zA ((by rw [hg]; exact (below_size (by repeat (first | (with_reducible first | exact HB.out | apply zL | apply zN | apply zD) | exact HB.out))) : w.heap.size ≤ gb135)); clear HB; have HB := n0_; have BK135 := n1_; have GW135 := n2_; have GE135 := n3_; clear n0_ n1_ n2_ n3_; clear hb hbox hg; have hcz28_0 : w27.cell? ⟨gb135, 0, none⟩ = some (.string a0_0) := (blk_cell BK135.out 0).trans rfl; have hcz28_1 : w27.cell? ⟨gb135, 1, none⟩ = some (.string a0_1) := (blk_cell BK135.out 1).trans rfl; have hcz28_2 : w27.cell? ⟨gb135, 2, none⟩ = some (.int .i64 a0_2) := (blk_cell BK135.out 2).trans rfl; have hcz28_3 : w27.cell? ⟨gb135, 3, none⟩ = some (.int .i64 a0_3) := (blk_cell BK135.out 3).trans rfl; have hfz28_0 := blk_frozen BK135.out 0; have hfz28_1 := blk_frozen BK135.out 1; have hfz28_2 := blk_frozen BK135.out 2; have hfz28_3 := blk_frozen BK135.out 3) | ((with_reducible refine gate_callee (f := 62) rfl ?_); refine goesL_ (some 4) rfl rfl Tryd.func62 (by kernel_rfl) rfl #[.agg #[.string a0_0, .string a0_1, .int .i64 a0_2, .int .i64 a0_3]] rfl (by (try simp only [List.map_toArray, List.map_cons, List.map_nil]); first | done | rfl | (simp only [List.length_drop, List.length_take]; rfl)) ?_; (with_reducible refine (snap_placed.calls k a0_0 a0_1 a0_2 a0_3 true _ A2.out).mono ?_); rintro e w29 ⟨rfl, hb⟩; refine ⟨_, rfl, ?_⟩; have n0_ := zA (blk_below (g := gb135) (o := .cells #[.string a0_0, .string a0_1, .int .i64 a0_2, .int .i64 a0_3] 45 (0, 0)) (by (with_reducible repeat (first | refine blk_drewN ?_ _ | refine blk_drew ?_ | refine blk_alloc ?_ _)); exact BK135.out) hb); have n1_ := zA (below_step (by repeat (first | (with_reducible first | exact HB.out | apply zL | apply zN | apply zD | refine below_set ?_ GE135.out) | exact HB.out)) hb); clear BK135; clear HB; have BK135 := n0_; have HB := n1_; clear n0_ n1_; (try clear hb); (try clear hb2); (try clear hk); (try clear hi); have hcz30_0 : w29.cell? ⟨gb135, 0, none⟩ = some (.string a0_0) := (blk_cell BK135.out 0).trans rfl; have hcz30_1 : w29.cell? ⟨gb135, 1, none⟩ = some (.string a0_1) := (blk_cell BK135.out 1).trans rfl; have hcz30_2 : w29.cell? ⟨gb135, 2, none⟩ = some (.int .i64 a0_2) := (blk_cell BK135.out 2).trans rfl; have hcz30_3 : w29.cell? ⟨gb135, 3, none⟩ = some (.int .i64 a0_3) := (blk_cell BK135.out 3).trans rfl; have hfz30_0 := blk_frozen BK135.out 0; have hfz30_1 := blk_frozen BK135.out 1; have hfz30_2 := blk_frozen BK135.out 2; have hfz30_3 := blk_frozen BK135.out 3) | ((with_reducible refine gate_callee (f := 80) rfl ?_); refine goesL_ (some 8) rfl rfl Tryd.func80 (by kernel_rfl) rfl #[.string a0_0] rfl (by (try simp only [List.map_toArray, List.map_cons, List.map_nil]); first | done | rfl | (simp only [List.length_drop, List.length_take]; rfl)) ?_; (with_reducible refine (path_Base.calls k a0_0 t137 _ A4.out).mono ?_); rintro e w' ⟨rfl, ⟨nd, rfl⟩⟩; refine ⟨_, rfl, ?_⟩))
  go_ret
  exact ⟨by first | rfl | (simp [errW_none, errW_some] <;> rfl) | (simp [*, errW_none, errW_some] <;> rfl), by repeat (first | (with_reducible first | exact HB.out | apply zL | apply zN | apply zD | refine below_set ?_ GE135.out) | exact HB.out)⟩
 rw [if_neg c26] at H
 have c26b0 : decide (a0_3 < 0) = false := decide_eq_false c26
 clear c26
 by_cases c31 : a0_3 > 4611686018427387904
 ·rw [if_pos c31] at H
  have c31b0 : decide (4611686018427387904 < a0_3) = true := decide_eq_true c31
  clear c31; obtain rfl := Option.some.inj H
  go_enter Tryd.func63, Tryd.ntmps63
  go_wp2_with (first | ((with_reducible refine gate_dst (N := 1) rfl ?_); (try (refine gate_guard (by rfl) ?_; dsimp only)); refine box_event ?hg (N := 1) ?hd (cs := #[.string a0_0, .string a0_1, .int .i64 a0_2, .int .i64 a0_3]) (t := 45) ?hr ?_; (case hd => rfl); (case hg => rfl); (case hr => first | (go_simp; done) | (go_simp; rfl)); intro gb135 hg w32 hbox hb; have n0_ := zA (below_step (by repeat (first | (with_reducible first | exact HB.out | apply zL | apply zN | apply zD) | exact HB.out)) hb); have n1_ := zA (hbox); have n2_ := zA ((by rw [hg]; exact (below_size (by repeat (first | (with_reducible first | exact HB.out | apply zL | apply zN | apply zD) | exact HB.out))) : w.heap.size ≤ gb135)); have n3_ := zA ((by rw [hg]; exact (below_size (by repeat (first | (with_reducible first | exact HB.out | apply zL | apply zN | apply zD) | exact HB.out))) : w.heap.size ≤ gb135)); clear HB; have HB := n0_; have BK135 := n1_; have GW135 := n2_; have GE135 := n3_; clear n0_ n1_ n2_ n3_; clear hb hbox hg; have hcz33_0 : w32.cell? ⟨gb135, 0, none⟩ = some (.string a0_0) := (blk_cell BK135.out 0).trans rfl; have hcz33_1 : w32.cell? ⟨gb135, 1, none⟩ = some (.string a0_1) := (blk_cell BK135.out 1).trans rfl; have hcz33_2 : w32.cell? ⟨gb135, 2, none⟩ = some (.int .i64 a0_2) := (blk_cell BK135.out 2).trans rfl; have hcz33_3 : w32.cell? ⟨gb135, 3, none⟩ = some (.int .i64 a0_3) := (blk_cell BK135.out 3).trans rfl; have hfz33_0 := blk_frozen BK135.out 0; have hfz33_1 := blk_frozen BK135.out 1; have hfz33_2 := blk_frozen BK135.out 2; have hfz33_3 := blk_frozen BK135.out 3) | ((with_reducible refine gate_callee (f := 62) rfl ?_); refine goesL_ (some 4) rfl rfl Tryd.func62 (by kernel_rfl) rfl #[.agg #[.string a0_0, .string a0_1, .int .i64 a0_2, .int .i64 a0_3]] rfl (by (try simp only [List.map_toArray, List.map_cons, List.map_nil]); first | done | rfl | (simp only [List.length_drop, List.length_take]; rfl)) ?_; (with_reducible refine (snap_placed.calls k a0_0 a0_1 a0_2 a0_3 true _ A2.out).mono ?_); rintro e w34 ⟨rfl, hb⟩; refine ⟨_, rfl, ?_⟩; have n0_ := zA (blk_below (g := gb135) (o := .cells #[.string a0_0, .string a0_1, .int .i64 a0_2, .int .i64 a0_3] 45 (0, 0)) (by (with_reducible repeat (first | refine blk_drewN ?_ _ | refine blk_drew ?_ | refine blk_alloc ?_ _)); exact BK135.out) hb); have n1_ := zA (below_step (by repeat (first | (with_reducible first | exact HB.out | apply zL | apply zN | apply zD | refine below_set ?_ GE135.out) | exact HB.out)) hb); clear BK135; clear HB; have BK135 := n0_; have HB := n1_; clear n0_ n1_; (try clear hb); (try clear hb2); (try clear hk); (try clear hi); have hcz35_0 : w34.cell? ⟨gb135, 0, none⟩ = some (.string a0_0) := (blk_cell BK135.out 0).trans rfl; have hcz35_1 : w34.cell? ⟨gb135, 1, none⟩ = some (.string a0_1) := (blk_cell BK135.out 1).trans rfl; have hcz35_2 : w34.cell? ⟨gb135, 2, none⟩ = some (.int .i64 a0_2) := (blk_cell BK135.out 2).trans rfl; have hcz35_3 : w34.cell? ⟨gb135, 3, none⟩ = some (.int .i64 a0_3) := (blk_cell BK135.out 3).trans rfl; have hfz35_0 := blk_frozen BK135.out 0; have hfz35_1 := blk_frozen BK135.out 1; have hfz35_2 := blk_frozen BK135.out 2; have hfz35_3 := blk_frozen BK135.out 3) | ((with_reducible refine gate_callee (f := 80) rfl ?_); refine goesL_ (some 8) rfl rfl Tryd.func80 (by kernel_rfl) rfl #[.string a0_0] rfl (by (try simp only [List.map_toArray, List.map_cons, List.map_nil]); first | done | rfl | (simp only [List.length_drop, List.length_take]; rfl)) ?_; (with_reducible refine (path_Base.calls k a0_0 t137 _ A4.out).mono ?_); rintro e w' ⟨rfl, ⟨nd, rfl⟩⟩; refine ⟨_, rfl, ?_⟩))
  go_ret
  exact ⟨by first | rfl | (simp [errW_none, errW_some] <;> rfl) | (simp [*, errW_none, errW_some] <;> rfl), by repeat (first | (with_reducible first | exact HB.out | apply zL | apply zN | apply zD | refine below_set ?_ GE135.out) | exact HB.out)⟩
 rw [if_neg c31] at H
 have c31b0 : decide (4611686018427387904 < a0_3) = false := decide_eq_false c31
 clear c31; obtain rfl := Option.some.inj H
 go_enter Tryd.func63, Tryd.ntmps63
 go_wp2_with (first | ((with_reducible refine gate_dst (N := 1) rfl ?_); (try (refine gate_guard (by rfl) ?_; dsimp only)); refine box_event ?hg (N := 1) ?hd (cs := #[.string a0_0, .string a0_1, .int .i64 a0_2, .int .i64 a0_3]) (t := 45) ?hr ?_; (case hd => rfl); (case hg => rfl); (case hr => first | (go_simp; done) | (go_simp; rfl)); intro gb135 hg w36 hbox hb; have n0_ := zA (below_step (by repeat (first | (with_reducible first | exact HB.out | apply zL | apply zN | apply zD) | exact HB.out)) hb); have n1_ := zA (hbox); have n2_ := zA ((by rw [hg]; exact (below_size (by repeat (first | (with_reducible first | exact HB.out | apply zL | apply zN | apply zD) | exact HB.out))) : w.heap.size ≤ gb135)); have n3_ := zA ((by rw [hg]; exact (below_size (by repeat (first | (with_reducible first | exact HB.out | apply zL | apply zN | apply zD) | exact HB.out))) : w.heap.size ≤ gb135)); clear HB; have HB := n0_; have BK135 := n1_; have GW135 := n2_; have GE135 := n3_; clear n0_ n1_ n2_ n3_; clear hb hbox hg; have hcz37_0 : w36.cell? ⟨gb135, 0, none⟩ = some (.string a0_0) := (blk_cell BK135.out 0).trans rfl; have hcz37_1 : w36.cell? ⟨gb135, 1, none⟩ = some (.string a0_1) := (blk_cell BK135.out 1).trans rfl; have hcz37_2 : w36.cell? ⟨gb135, 2, none⟩ = some (.int .i64 a0_2) := (blk_cell BK135.out 2).trans rfl; have hcz37_3 : w36.cell? ⟨gb135, 3, none⟩ = some (.int .i64 a0_3) := (blk_cell BK135.out 3).trans rfl; have hfz37_0 := blk_frozen BK135.out 0; have hfz37_1 := blk_frozen BK135.out 1; have hfz37_2 := blk_frozen BK135.out 2; have hfz37_3 := blk_frozen BK135.out 3) | ((with_reducible refine gate_callee (f := 62) rfl ?_); refine goesL_ (some 4) rfl rfl Tryd.func62 (by kernel_rfl) rfl #[.agg #[.string a0_0, .string a0_1, .int .i64 a0_2, .int .i64 a0_3]] rfl (by (try simp only [List.map_toArray, List.map_cons, List.map_nil]); first | done | rfl | (simp only [List.length_drop, List.length_take]; rfl)) ?_; (with_reducible refine (snap_placed.calls k a0_0 a0_1 a0_2 a0_3 true _ A2.out).mono ?_); rintro e w38 ⟨rfl, hb⟩; refine ⟨_, rfl, ?_⟩; have n0_ := zA (blk_below (g := gb135) (o := .cells #[.string a0_0, .string a0_1, .int .i64 a0_2, .int .i64 a0_3] 45 (0, 0)) (by (with_reducible repeat (first | refine blk_drewN ?_ _ | refine blk_drew ?_ | refine blk_alloc ?_ _)); exact BK135.out) hb); have n1_ := zA (below_step (by repeat (first | (with_reducible first | exact HB.out | apply zL | apply zN | apply zD | refine below_set ?_ GE135.out) | exact HB.out)) hb); clear BK135; clear HB; have BK135 := n0_; have HB := n1_; clear n0_ n1_; (try clear hb); (try clear hb2); (try clear hk); (try clear hi); have hcz39_0 : w38.cell? ⟨gb135, 0, none⟩ = some (.string a0_0) := (blk_cell BK135.out 0).trans rfl; have hcz39_1 : w38.cell? ⟨gb135, 1, none⟩ = some (.string a0_1) := (blk_cell BK135.out 1).trans rfl; have hcz39_2 : w38.cell? ⟨gb135, 2, none⟩ = some (.int .i64 a0_2) := (blk_cell BK135.out 2).trans rfl; have hcz39_3 : w38.cell? ⟨gb135, 3, none⟩ = some (.int .i64 a0_3) := (blk_cell BK135.out 3).trans rfl; have hfz39_0 := blk_frozen BK135.out 0; have hfz39_1 := blk_frozen BK135.out 1; have hfz39_2 := blk_frozen BK135.out 2; have hfz39_3 := blk_frozen BK135.out 3) | ((with_reducible refine gate_callee (f := 80) rfl ?_); refine goesL_ (some 8) rfl rfl Tryd.func80 (by kernel_rfl) rfl #[.string a0_0] rfl (by (try simp only [List.map_toArray, List.map_cons, List.map_nil]); first | done | rfl | (simp only [List.length_drop, List.length_take]; rfl)) ?_; (with_reducible refine (path_Base.calls k a0_0 t137 _ A4.out).mono ?_); rintro e w' ⟨rfl, ⟨nd, rfl⟩⟩; refine ⟨_, rfl, ?_⟩))
 go_ret
 exact ⟨by first | rfl | (simp [errW_none, errW_some] <;> rfl) | (simp [*, errW_none, errW_some] <;> rfl), by repeat (first | (with_reducible first | exact HB.out | apply zL | apply zN | apply zD | refine below_set ?_ GE135.out) | exact HB.out)⟩
end Go.Proofs.YtnfolcefjkannaaDoor.G
