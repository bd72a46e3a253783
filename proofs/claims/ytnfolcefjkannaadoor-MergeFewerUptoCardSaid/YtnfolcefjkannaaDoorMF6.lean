/- MergeFewer (copselaw16.MergeFewer): for every input the stage's theorem holds of the program, without the document's answer: Down step by step gives fewer cones that cover the earlier ones, views that grow, costs that do not fall, and no other two neighbours would have cost less; the law returns true. Conditions: the arguments together hold at most 1048576 values and letters (the second form, 'Upto'); the two tables of unicode/utf8 read as the program's text lays them (the card ties them). -/
import Derived.Test.YtnfolcefjkannaaDoorMF5
import Derived.Test.YtnfolcefjkannaaDoorCards
import Derived.Test.YtnfolcefjkannaaDoorTie
import Derived.WalkKit
import Derived.ProofKit
import Derived.Deep.DeepHandedRow
import Derived.Lib.LaidTab
namespace Go.Proofs.YtnfolcefjkannaaDoor.G
open Go Go.RowKit
def numCells : List (DataW Unit) → List Value
  | [] => []
  | .lit (.int k n) :: r => .int k n :: numCells r
  | _ :: r => numCells r
def flatCells : List (DataW Unit) → List Value
  | [] => []
  | .agg l :: r => numCells l ++ flatCells r
  | x :: r => numCells [x] ++ flatCells r
def tabCells : DataW Unit → List Value
  | .agg l => flatCells l
  | _ => []
def relaid (d : DataW Unit) : Obj → Obj
  | .cells _ t frozen => .cells (tabCells d).toArray t frozen
  | o => o
noncomputable def laidWorld (os : Os) : World :=
  { World.holding Tryd.prog os ⟨#[], #[], []⟩ with heap := ((World.holding Tryd.prog os ⟨#[], #[], []⟩).heap.modify 1 (relaid Rows.laid_unicode_utf8_first)).modify 2 (relaid Rows.laid_unicode_utf8_acceptRanges) }
theorem own : ownKnob Tryd.prog.godebug = none := by kernel_rfl
end Go.Proofs.YtnfolcefjkannaaDoor.G
namespace Go.Proofs.YtnfolcefjkannaaDoor.mergeFewer
open Go Go.ChangeShapes Go.WideShapes Go.ChangeAt Go.RowKit Go.Joins Go.Proofs.YtnfolcefjkannaaDoor.G
open Go.ChangeMaps (open_string shut_string)
set_option linter.unusedVariables false
set_option maxRecDepth 100000 in
theorem contract (H : Type) (enc : TypeId × Value → H) (W : World) (base : Nat) (args : Array Value) (ds gs : List (DataW H)) (before : List MemPlace)
    (hval : ∀ (j : Nat) t v, Tryd.f5.params[j]? = some t → args[j]? = some v → Value.okWide Tryd.prog W .any base t v)
    (hW : DataW.Whole enc Tryd.prog Tryd.f5.params.toList Rows.mergeFewerSpec.vars false W args.toList ds gs before) (hk : Rows.uptoSmall H (ds ++ gs) = true) :
    Calls Tryd.prog 5 args W fun e W' => ∃ v, e = .returned v ∧ Rows.mergeFewerSpec.post enc Tryd.prog Tryd.f5 false true false false W args v W' := by
  have hW' := hW
  have hlt := hW.lt
  obtain ⟨p, q, hA0, hV, rfl, hfz, hnd⟩ := hW
  have hA : DataW.TrodAll enc Tryd.prog W 0 (fun _ => true) true Tryd.f5.params.toList args.toList ds p := hA0
  rw [Tryd.params5] at hA hval
  obtain ⟨v0, vs0, d0, ds0, p0, q0, hargs, rfl, rfl, h0, r0⟩ := trodAll_cons hA
  obtain ⟨v1, vs1, d1, ds1, p1, q1, rfl, rfl, rfl, h1, r1⟩ := trodAll_cons r0
  obtain ⟨v2, vs2, d2, ds2, p2, q2, rfl, rfl, rfl, h2, r2⟩ := trodAll_cons r1
  obtain ⟨rfl, rfl, rfl⟩ := trodAll_nil r2
  obtain rfl : args = #[v0, v1, v2] := by cases args; simp_all
  obtain ⟨rfl, rfl⟩ := trodVars_none hV
  have hbulk : Rows.uptoBulk d0 + (Rows.uptoBulk d1 + Rows.uptoBulk d2) ≤ 1048576 := by
    have h := of_decide_eq_true hk
    simp only [List.append_nil, Rows.uptoBulkAll, Nat.add_zero] at h
    exact h
  obtain ⟨A0, c0, l0, rfl, hc0, R0, b0, s0⟩ := open_files Tryd.underlying22 Tryd.underlying45 (by kernel_rfl) (by kernel_rfl) (by kernel_rfl) (by kernel_rfl) (by kernel_rfl) (by kernel_rfl) h0 (okWide_slice Tryd.underlying22 (hval 0 _ v0 rfl rfl))
  obtain ⟨A1, c1, l1, rfl, hc1, R1, b1, s1⟩ := open_texts Tryd.underlying23 Tryd.underlying9 (by kernel_rfl) h1 (okWide_slice Tryd.underlying23 (hval 1 _ v1 rfl rfl))
  obtain ⟨bud, rfl, rfl, rfl, wb⟩ := open_int Tryd.underlying3 (hval 2 _ v2 rfl rfl) h2
  obtain ⟨kh, hh⟩ := head_pure
  have hf : ShortF (l0.take 120) := fun f hf => by
    have := s0 f (List.mem_of_mem_take hf)
    unfold Short
    omega
  have hx : ∀ c ∈ l1.take 16, Short c := fun c hc => by
    have := s1 c (List.mem_of_mem_take hc)
    unfold Short
    omega
  have hl : (l0.take 120).length ≤ 2147483649 := by rw [List.length_take]; omega
  have hxl : (l1.take 16).length ≤ 2147483640 := by rw [List.length_take]; omega
  have key : Calls Tryd.prog 5 #[.slice A0 l0.length c0, .slice A1 l1.length c1, .int .i64 bud] W fun e w' => e = .returned (.bool true) ∧ Below W.heap.size W w' := by
    by_cases hz : lookedP (l0.take 120) (l1.take 16) = 0
    · have hs : snapP (l0.take 120) = 0 := by
        unfold lookedP at hz
        by_cases h1 : snapP (l0.take 120) = 0
        · exact h1
        · rw [if_neg h1] at hz; exact hz
      obtain ⟨hg, _⟩ := looked_zero (l0.take 120) hf hl (l1.take 16) hx (by omega) hz
      obtain ⟨k, Inv, g1, g2, g3, g4, g5, g6, g7⟩ := fewer_pure (l0.take 120) hf hl hs (l1.take 16) hg hxl (1 + bud % 16) (by omega)
      exact mergeFewer_walk k A0 c0 l0 A1 c1 l1 bud W R0 hc0 R1 hc1 (fun w => copselaw16_head.calls kh w hh) _ g1 (1 + bud % 16) rfl Inv g2 g3 g4 g5 g6 g7
    · obtain ⟨k, g1, g2, g3⟩ := fewer_bad (l0.take 120) hf hl (l1.take 16) hx hxl hz
      exact mergeFewer_bad k A0 c0 l0 A1 c1 l1 bud W R0 hc0 R1 hc1 (fun w => copselaw16_head.calls kh w hh) _ _ g1 hz _ g2 g3
  refine key.mono fun e W' ⟨he, bel⟩ => ?_
  subst he
  have m0 : ∀ x ∈ p0, x.block < W.heap.size := fun x hx => hlt x (by simp [hx])
  have m1 : ∀ x ∈ p1, x.block < W.heap.size := fun x hx => hlt x (by simp [hx])
  exact ⟨_, rfl, _, _, _, [], _, [], hW', trodAll_mk1 (shut_bool Tryd.underlying4 _), (trodAll_cons_mk (Below.trod (by kernel_rfl) (by kernel_rfl) (of_decide_eq_true (by kernel_rfl)) h0 bel m0) (trodAll_cons_mk (Below.trod (by kernel_rfl) (by kernel_rfl) (of_decide_eq_true (by kernel_rfl)) h1 bel m1) (trodAll_cons_mk (shut_int Tryd.underlying3 wb) trodAll_mk0))), rfl, bel.frame _, fun h => by cases h⟩
theorem laid_met (os : Os) : laidMet Tryd.prog Rows.mergeFewerRow.laid ((laidWorld os).forCall (fun _ _ => 0) ⟨#[], #[.slice none 0 0, .slice none 0 0, .int .i64 0], []⟩).memory :=
  laidMet_of_run' 8 (by kernel_rfl) (by kernel_rfl)
theorem reads (os : Os) {H : Type} (enc : TypeId × Value → H) : ∃ places, DataW.whole enc Tryd.prog ((laidWorld os).forCall (fun _ _ => 0) ⟨#[], #[.slice none 0 0, .slice none 0 0, .int .i64 0], []⟩).memory Tryd.f5.params.toList Rows.mergeFewerSpec.vars false #[Value.slice none 0 0, .slice none 0 0, .int .i64 0].toList 8 = some ([.nil, .nil, .lit (.int .i64 0)], [], places) :=
  ⟨[], by kernel_rfl⟩
set_option maxRecDepth 100000 in
theorem liftedUpto (os : Os) (started : os.Started) (H : Type) (enc : TypeId × Value → H) (F : Stop.Interp) :
    ReturnsInHanded {} Tryd.checked os 5 .any ((Rows.OpenSpec.upto Rows.mergeFewerSpec).preRow enc Tryd.prog Tryd.f5 Rows.mergeFewerUptoRow.domain false Rows.mergeFewerUptoRow.laid) (((Rows.OpenSpec.upto Rows.mergeFewerSpec).at F).post enc Tryd.prog Tryd.f5 false true false false) := by
  obtain ⟨places, hx⟩ := reads os enc
  refine returnsInHanded_of_row (C := Tryd.checked) (s := Rows.OpenSpec.upto Rows.mergeFewerSpec) own started (by kernel_rfl) Tryd.func5
    (witness_row_at (enc := enc) (C := Tryd.checked) false (laidWorld os) #[.slice none 0 0, .slice none 0 0, .int .i64 0] rfl (by kernel_rfl) (by kernel_rfl) (by kernel_rfl)
      (OpenSpec.preRow_of_cond 8 hx (by kernel_rfl) (fun k hk => by cases hk; kernel_rfl) (by kernel_rfl) (laid_met os))) ?_
  intro W base args ds gs before hval hW _ hcond _ _ _ _
  exact contract H enc W base args ds gs before hval hW (hcond _ rfl)
theorem saidUpto : Rows.MergeFewerUptoSaid :=
  OpenClaim.holds_of_cond 5 Tryd.f5 rfl rfl rfl rfl rfl rfl rfl ⟨rfl, rfl, rfl, rfl, rfl⟩ rfl rfl rfl rfl rfl (by kernel_rfl) Tryd.func5 (by kernel_rfl)
    (of_decide_eq_true (by kernel_rfl)) (by unfold Func.isWrapper; first | (rw [if_pos (by decide +kernel)]; kernel_rfl) | (rw [if_neg (by decide +kernel)]; exact ⟨rfl, rfl⟩))
    (fun os started H enc _ F => by rw [OpenClaim.pre_eq_preRow]; exact liftedUpto os started H enc F)
theorem plain (f : FuncId) (fn : Func) (hf : Tryd.pinned.checked.prog.funcNamed "copse/copselaw16.MergeFewer" = some f) (hfn : Tryd.pinned.checked.prog.funcs[f]? = some fn) :
    false = Tryd.pinned.checked.prog.looks [] ∧ ∀ (j : Nat) t, fn.params[j]? = some t → Tryd.pinned.checked.prog.wantsStandIn t = false := by
  obtain rfl : f = 5 := Option.some.inj ((show Tryd.prog.funcNamed "copse/copselaw16.MergeFewer" = some 5 by kernel_rfl).symm.trans hf) |>.symm
  obtain rfl : fn = Tryd.f5 := (Option.some.inj (Tryd.func5.symm.trans hfn)).symm
  refine ⟨by kernel_rfl, fun j t ht => ?_⟩
  rw [Tryd.params5] at ht
  have hm := Array.mem_of_getElem? ht
  simp only [List.mem_toArray, List.mem_cons, List.not_mem_nil, or_false] at hm
  rcases hm with rfl | rfl | rfl
  · exact (show Tryd.prog.wantsStandIn 22 = false by kernel_rfl)
  · exact (show Tryd.prog.wantsStandIn 23 = false by kernel_rfl)
  · exact (show Tryd.prog.wantsStandIn 3 = false by kernel_rfl)
theorem cardUpto : Rows.MergeFewerUptoCardSaid :=
  Claim7.holds_tied_plain_at .later [] _ _ _ _ saidUpto (fun _ h => by cases h) (by kernel_rfl) (fun _ h => by cases h) mergeFewerUpto_row_tie rfl ⟨rfl, rfl⟩ (by kernel_rfl) rfl plain (by kernel_rfl)
end Go.Proofs.YtnfolcefjkannaaDoor.mergeFewer
namespace Go.Proofs.YtnfolcefjkannaaDoor
theorem mergeFewer_upto : Rows.MergeFewerUptoCardSaid := mergeFewer.cardUpto
end Go.Proofs.YtnfolcefjkannaaDoor
