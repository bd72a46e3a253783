/- This session's texts, joined by a program of this session's: contracts of functions, printed and typed, and plain laws; what nothing needs is left out. -/
import Derived.Test.YtnfolcefjkannaaDoorMF1
namespace Go.Proofs.YtnfolcefjkannaaDoor.G
open Go.RowKit Go.Proofs.YtnfolcefjkannaaDoorW.PrintWords Go.Proofs.YtnfolcefjkannaaDoorW.PrintLast Go.Proofs.YtnfolcefjkannaaDoorW.PrintMore
attribute [local go_sem] max2_int min2_int max_two min_two max_three min_three max_four min_four
set_option linter.unusedVariables false
set_option linter.unusedSimpArgs false
mutual
def snap_Valid.l0 : Nat → List (S45) → List (S45) → Int → Int → Option (Int)
 | 0, _, _, _, _ => none
 | k + 1, x0, x7, x8, x9 => if x9 < x8 then (if 0 ≤ x9 then (if x9 < (x7.length : Int) then ((snap_placed.f k ((rd_T45 x7 x9).f0) ((rd_T45 x7 x9).f1) ((rd_T45 x7 x9).f2) ((rd_T45 x7 x9).f3)).bind fun t140 => (if t140 = true then (snap_Valid.l0 k x0 x7 x8 (wrap64 (x9 + 1))) else (some 7))) else (none)) else (none)) else (if (x0.length : Int) > 512 then (some 8) else (snap_Valid.l1 k x0 x0 (x0.length : Int) 0))
def snap_Valid.l1 : Nat → List (S45) → List (S45) → Int → Int → Option (Int)
 | 0, _, _, _, _ => none
 | k + 1, x0, x20, x21, x22 => if x22 < x21 then (if 0 ≤ x22 then (if x22 < (x20.length : Int) then ((snap_File.f k ((rd_T45 x20 x22).f0) ((rd_T45 x20 x22).f1) ((rd_T45 x20 x22).f2) ((rd_T45 x20 x22).f3)).bind fun t143 => (if t143 = 0 then (if x22 > 0 then (if 0 ≤ (wrap64 (x22 - 1)) then (if (wrap64 (x22 - 1)) < (x0.length : Int) then ((path_Cmp.f k ((rd_T45 x0 (wrap64 (x22 - 1))).f0) ((rd_T45 x20 x22).f0)).bind fun t145 => (if t145 ≥ 0 then (some 8) else ((path_Above.f ((rd_T45 x0 (wrap64 (x22 - 1))).f0) ((rd_T45 x20 x22).f0)).bind fun t147 => (if t147 = true then (some 8) else (snap_Valid.l1 k x0 x20 x21 (wrap64 (x22 + 1))))))) else (none)) else (none)) else (snap_Valid.l1 k x0 x20 x21 (wrap64 (x22 + 1)))) else (some 8))) else (none)) else (none)) else (some 0)
end
def snap_Valid.f (k : Nat) (l0 : List (S45)) : Option (Int) := snap_Valid.l0 k l0 l0 (l0.length : Int) 0
def snap_Valid.T14 : Bool × List (List Nat × List Nat) := (true, [([], []), ([0], [0]), ([1], [1]), ([2], [2]), ([2], [2]), ([4, 2], [2, 4]), ([3, 5, 2], [2, 3, 5]), ([6, 2], [2, 6]), ([7, 2], [2, 7]), ([2], [2]), ([9, 2], [2, 9]), ([8, 10, 2, 2], [2, 8, 10]), ([11, 2], [2, 11]), ([12, 11, 2], [2, 12]), ([13], [13]), ([13], [13]), ([15, 13], [13, 15]), ([14, 16, 13], [13, 14, 16]), ([17, 13], [13, 17]), ([18, 13], [13, 18]), ([13], [13]), ([20, 13], [13, 20]), ([19, 21, 13, 13], [13, 19, 21]), ([13, 22, 2], [2, 13, 22]), ([2, 23], [2, 23])])
def snap_Valid.B14 : List Nat := [0, 1, 3, 7, 7, 23, 63, 127, 255, 7, 519, 2047, 4095, 8191, 16383, 16383, 49151, 131071, 262143, 524287, 16383, 1064959, 4194303, 8388607, 16777215]
theorem snap_Valid.tab14 : rtab .any (opsOf Tryd.f38 14) = snap_Valid.T14 := by kernel_rfl
theorem snap_Valid.bits14 : waitsOk snap_Valid.T14.2 snap_Valid.B14 = true := by kernel_rfl
set_option maxHeartbeats 8000000 in
set_option maxRecDepth 100000 in
theorem snap_Valid.calls (k : Nat) (A0 : Option Addr) (c0 : Nat) (l0 : List (S45)) (r : Int) (w : World) (hr0 : Kd.C k45 w A0 l0.length l0) (hc0 : l0.length ≤ c0) (h : snap_Valid.f k l0 = some r) :
  Calls Tryd.prog 38 #[.slice A0 l0.length c0] w fun e w' => e = .returned (.int .i64 r) ∧ Below w.heap.size w w' := by
 have hu45 := Tryd.underlying45
 have HR0 := zA hr0; have HC0 := zA hc0; clear hr0 hc0
 have HB := zA (Below.refl w.heap.size w)
 have H : (snap_Valid.l0 k l0 l0 (l0.length : Int) 0) = some r := h
 clear h
 have H' := zA H
 clear H
 go_enter Tryd.func38, Tryd.ntmps38
 go_wp2
 go_loopg [9] k (fun kq v9 w' => ∃ (x9_1 : Int), v9 = .int .i64 x9_1 ∧ Aside0 (snap_Valid.l0 kq l0 l0 (l0.length : Int) x9_1 = some r) ∧ Aside0 (kq ≤ k) ∧ Aside0 (Below w.heap.size w w'))
 case atStart => exact ⟨(0), (by first | rfl | (simp; done) | (simp [*]; done)), H', ⟨Nat.le_refl _⟩, ⟨by repeat (first | (with_reducible first | exact HB.out | apply zL | apply zN | apply zD) | exact HB.out)⟩⟩
 case round =>
  clear H'; obtain ⟨x9_1, rfl, HA, HK1, HB⟩ := hrel
  cases gk with
  | zero => exact absurd HA.out (by simp [snap_Valid.l0])
  | succ k1 =>
   have H := HA.out
   clear HA
   simp only [snap_Valid.l0] at H
   by_cases c2 : x9_1 < (l0.length : Int)
   ·rw [if_pos c2] at H
    have c2b0 : decide (x9_1 < (l0.length : Int)) = true := decide_eq_true c2
    clear c2
    by_cases c3 : 0 ≤ x9_1
    rotate_left
    ·rw [if_neg c3] at H
     exact absurd H (by simp)
    rw [if_pos c3] at H
    have c3b0 : decide (0 ≤ x9_1) = true := decide_eq_true c3
    clear c3
    by_cases c4 : x9_1 < (l0.length : Int)
    rotate_left
    ·rw [if_neg c4] at H
     exact absurd H (by simp)
    rw [if_pos c4] at H
    have c4b0 : decide (x9_1 < (l0.length : Int)) = true := decide_eq_true c4
    clear c4; replace H := Option.bind_eq_some_iff.mp H; obtain ⟨t140, A50, H⟩ := H
    replace H : (if t140 = true then (snap_Valid.l0 k1 l0 l0 (l0.length : Int) (wrap64 (x9_1 + 1))) else (some 7)) = some r := H
    have A5 := zA A50; clear A50
    by_cases c6 : t140 = true
    rotate_left
    ·replace c6 := Bool.eq_false_iff.mpr c6
     subst c6
     have H1 : (some 7) = some r := by rw [if_neg (show ¬ (false = true) by decide)] at H; exact H
     clear H; have H := H1; clear H1; obtain rfl := Option.some.inj H
     have p138 : 0 ≤ (x9_1 : Int) := zO (by first | (with_reducible assumption) | assumption)
     have q138 : x9_1 < (l0.length : Int) := zO (by first | (with_reducible assumption) | assumption)
     obtain ⟨ad138, e138, hx138_0, hx138_1, hx138_2, hx138_3⟩ := at_T45 HR0.out x9_1 p138 q138
     cases e138
     replace hx138_0 := (HB.out.cell (zB w _ hx138_0)).trans hx138_0
     replace hx138_1 := (HB.out.cell (zB w _ hx138_1)).trans hx138_1
     replace hx138_2 := (HB.out.cell (zB w _ hx138_2)).trans hx138_2
     replace hx138_3 := (HB.out.cell (zB w _ hx138_3)).trans hx138_3
     replace p138 := eq_true p138
     replace q138 := eq_true q138
     go_wp2_with (first | ((with_reducible refine gate_dst (N := 4) rfl ?_); refine box_event ?hg (N := 4) ?hd (cs := #[.string (⟨#[]⟩ : ByteArray), .string (⟨#[]⟩ : ByteArray), .int .i64 0, .int .i64 0]) (t := 45) ?hr ?_; (case hd => rfl); (case hg => rfl); (case hr => first | (go_simp; done) | (go_simp; rfl)); intro gb139 hg w10 hbox hb; have n0_ := zA (below_step (by repeat (first | (with_reducible first | exact HB.out | apply zL | apply zN | apply zD) | exact HB.out)) hb); have n1_ := zA (hbox); have n2_ := zA ((by rw [hg]; exact (below_size (by repeat (first | (with_reducible first | exact HB.out | apply zL | apply zN | apply zD) | exact HB.out))) : w.heap.size ≤ gb139)); have n3_ := zA ((by rw [hg]; exact (below_size (by repeat (first | (with_reducible first | exact HB.out | apply zL | apply zN | apply zD) | exact HB.out))) : w.heap.size ≤ gb139)); clear HB; have HB := n0_; have BK139 := n1_; have GW139 := n2_; have GE139 := n3_; clear n0_ n1_ n2_ n3_; clear hb hbox hg; have hcz11_0 : w10.cell? ⟨gb139, 0, none⟩ = some (.string (⟨#[]⟩ : ByteArray)) := (blk_cell BK139.out 0).trans rfl; have hcz11_1 : w10.cell? ⟨gb139, 1, none⟩ = some (.string (⟨#[]⟩ : ByteArray)) := (blk_cell BK139.out 1).trans rfl; have hcz11_2 : w10.cell? ⟨gb139, 2, none⟩ = some (.int .i64 0) := (blk_cell BK139.out 2).trans rfl; have hcz11_3 : w10.cell? ⟨gb139, 3, none⟩ = some (.int .i64 0) := (blk_cell BK139.out 3).trans rfl; have hfz11_0 := blk_frozen BK139.out 0; have hfz11_1 := blk_frozen BK139.out 1; have hfz11_2 := blk_frozen BK139.out 2; have hfz11_3 := blk_frozen BK139.out 3) | ((with_reducible refine gate_callee (f := 62) rfl ?_); refine goesL_ (some 14) rfl rfl Tryd.func62 (by kernel_rfl) rfl #[.agg #[.string ((rd_T45 l0 x9_1).f0), .string ((rd_T45 l0 x9_1).f1), .int .i64 ((rd_T45 l0 x9_1).f2), .int .i64 ((rd_T45 l0 x9_1).f3)]] rfl (by (try simp only [List.map_toArray, List.map_cons, List.map_nil]); first | done | rfl | (simp only [List.length_drop, List.length_take]; rfl)) ?_; (with_reducible refine (snap_placed.calls k1 ((rd_T45 l0 x9_1).f0) ((rd_T45 l0 x9_1).f1) ((rd_T45 l0 x9_1).f2) ((rd_T45 l0 x9_1).f3) false _ A5.out).mono ?_); rintro e w12 ⟨rfl, hb⟩; refine ⟨_, rfl, ?_⟩; have n0_ := zA (blk_below (g := gb139) (o := .cells #[.string ((rd_T45 l0 x9_1).f0), .string ((rd_T45 l0 x9_1).f1), .int .i64 ((rd_T45 l0 x9_1).f2), .int .i64 ((rd_T45 l0 x9_1).f3)] 45 (0, 0)) (by (with_reducible repeat (first | refine blk_drewN ?_ _ | refine blk_drew ?_ | refine blk_alloc ?_ _)); refine blk_put (cs := #[.string ((rd_T45 l0 x9_1).f0), .string ((rd_T45 l0 x9_1).f1), .int .i64 ((rd_T45 l0 x9_1).f2), .int .i64 0]) ?_ 3 _ rfl; (with_reducible repeat (first | refine blk_drewN ?_ _ | refine blk_drew ?_ | refine blk_alloc ?_ _)); refine blk_put (cs := #[.string ((rd_T45 l0 x9_1).f0), .string ((rd_T45 l0 x9_1).f1), .int .i64 0, .int .i64 0]) ?_ 2 _ rfl; (with_reducible repeat (first | refine blk_drewN ?_ _ | refine blk_drew ?_ | refine blk_alloc ?_ _)); refine blk_put (cs := #[.string ((rd_T45 l0 x9_1).f0), .string (⟨#[]⟩ : ByteArray), .int .i64 0, .int .i64 0]) ?_ 1 _ rfl; (with_reducible repeat (first | refine blk_drewN ?_ _ | refine blk_drew ?_ | refine blk_alloc ?_ _)); refine blk_put (cs := #[.string (⟨#[]⟩ : ByteArray), .string (⟨#[]⟩ : ByteArray), .int .i64 0, .int .i64 0]) ?_ 0 _ rfl; (with_reducible repeat (first | refine blk_drewN ?_ _ | refine blk_drew ?_ | refine blk_alloc ?_ _)); exact BK139.out) hb); have n1_ := zA (below_step (by repeat (first | (with_reducible first | exact HB.out | apply zL | apply zN | apply zD | refine below_set ?_ GE139.out) | exact HB.out)) hb); clear BK139; clear HB; have BK139 := n0_; have HB := n1_; clear n0_ n1_; (try clear hb); (try clear hb2); (try clear hk); (try clear hi)))
     go_ret
     exact ⟨by first | rfl | (simp [errW_none, errW_some] <;> rfl) | (simp [*, errW_none, errW_some] <;> rfl), by repeat (first | (with_reducible first | exact HB.out | apply zL | apply zN | apply zD | refine below_set ?_ GE139.out) | exact HB.out)⟩
    subst c6
    have H1 : (snap_Valid.l0 k1 l0 l0 (l0.length : Int) (wrap64 (x9_1 + 1))) = some r := by rw [if_pos rfl] at H; exact H
    clear H; have H := H1; clear H1
    have H' := zA H
    clear H
    have p138 : 0 ≤ (x9_1 : Int) := zO (by first | (with_reducible assumption) | assumption)
    have q138 : x9_1 < (l0.length : Int) := zO (by first | (with_reducible assumption) | assumption)
    obtain ⟨ad138, e138, hx138_0, hx138_1, hx138_2, hx138_3⟩ := at_T45 HR0.out x9_1 p138 q138
    cases e138
    replace hx138_0 := (HB.out.cell (zB w _ hx138_0)).trans hx138_0
    replace hx138_1 := (HB.out.cell (zB w _ hx138_1)).trans hx138_1
    replace hx138_2 := (HB.out.cell (zB w _ hx138_2)).trans hx138_2
    replace hx138_3 := (HB.out.cell (zB w _ hx138_3)).trans hx138_3
    replace p138 := eq_true p138
    replace q138 := eq_true q138
    go_wp2_with (first | ((with_reducible refine gate_dst (N := 4) rfl ?_); refine box_event ?hg (N := 4) ?hd (cs := #[.string (⟨#[]⟩ : ByteArray), .string (⟨#[]⟩ : ByteArray), .int .i64 0, .int .i64 0]) (t := 45) ?hr ?_; (case hd => rfl); (case hg => rfl); (case hr => first | (go_simp; done) | (go_simp; rfl)); intro gb139 hg w7 hbox hb; have n0_ := zA (below_step (by repeat (first | (with_reducible first | exact HB.out | apply zL | apply zN | apply zD) | exact HB.out)) hb); have n1_ := zA (hbox); have n2_ := zA ((by rw [hg]; exact (below_size (by repeat (first | (with_reducible first | exact HB.out | apply zL | apply zN | apply zD) | exact HB.out))) : w.heap.size ≤ gb139)); have n3_ := zA ((by rw [hg]; exact (below_size (by repeat (first | (with_reducible first | exact HB.out | apply zL | apply zN | apply zD) | exact HB.out))) : w.heap.size ≤ gb139)); clear HB; have HB := n0_; have BK139 := n1_; have GW139 := n2_; have GE139 := n3_; clear n0_ n1_ n2_ n3_; clear hb hbox hg; have hcz8_0 : w7.cell? ⟨gb139, 0, none⟩ = some (.string (⟨#[]⟩ : ByteArray)) := (blk_cell BK139.out 0).trans rfl; have hcz8_1 : w7.cell? ⟨gb139, 1, none⟩ = some (.string (⟨#[]⟩ : ByteArray)) := (blk_cell BK139.out 1).trans rfl; have hcz8_2 : w7.cell? ⟨gb139, 2, none⟩ = some (.int .i64 0) := (blk_cell BK139.out 2).trans rfl; have hcz8_3 : w7.cell? ⟨gb139, 3, none⟩ = some (.int .i64 0) := (blk_cell BK139.out 3).trans rfl; have hfz8_0 := blk_frozen BK139.out 0; have hfz8_1 := blk_frozen BK139.out 1; have hfz8_2 := blk_frozen BK139.out 2; have hfz8_3 := blk_frozen BK139.out 3) | ((with_reducible refine gate_callee (f := 62) rfl ?_); refine goesL_ (some 14) rfl rfl Tryd.func62 (by kernel_rfl) rfl #[.agg #[.string ((rd_T45 l0 x9_1).f0), .string ((rd_T45 l0 x9_1).f1), .int .i64 ((rd_T45 l0 x9_1).f2), .int .i64 ((rd_T45 l0 x9_1).f3)]] rfl (by (try simp only [List.map_toArray, List.map_cons, List.map_nil]); first | done | rfl | (simp only [List.length_drop, List.length_take]; rfl)) ?_; (with_reducible refine (snap_placed.calls k1 ((rd_T45 l0 x9_1).f0) ((rd_T45 l0 x9_1).f1) ((rd_T45 l0 x9_1).f2) ((rd_T45 l0 x9_1).f3) true _ A5.out).mono ?_); rintro e w9 ⟨rfl, hb⟩; refine ⟨_, rfl, ?_⟩; have n0_ := zA (blk_below (g := gb139) (o := .cells #[.string ((rd_T45 l0 x9_1).f0), .string ((rd_T45 l0 x9_1).f1), .int .i64 ((rd_T45 l0 x9_1).f2), .int .i64 ((rd_T45 l0 x9_1).f3)] 45 (0, 0)) (by (with_reducible repeat (first | refine blk_drewN ?_ _ | refine blk_drew ?_ | refine blk_alloc ?_ _)); refine blk_put (cs := #[.string ((rd_T45 l0 x9_1).f0), .string ((rd_T45 l0 x9_1).f1), .int .i64 ((rd_T45 l0 x9_1).f2), .int .i64 0]) ?_ 3 _ rfl; (with_reducible repeat (first | refine blk_drewN ?_ _ | refine blk_drew ?_ | refine blk_alloc ?_ _)); refine blk_put (cs := #[.string ((rd_T45 l0 x9_1).f0), .string ((rd_T45 l0 x9_1).f1), .int .i64 0, .int .i64 0]) ?_ 2 _ rfl; (with_reducible repeat (first | refine blk_drewN ?_ _ | refine blk_drew ?_ | refine blk_alloc ?_ _)); refine blk_put (cs := #[.string ((rd_T45 l0 x9_1).f0), .string (⟨#[]⟩ : ByteArray), .int .i64 0, .int .i64 0]) ?_ 1 _ rfl; (with_reducible repeat (first | refine blk_drewN ?_ _ | refine blk_drew ?_ | refine blk_alloc ?_ _)); refine blk_put (cs := #[.string (⟨#[]⟩ : ByteArray), .string (⟨#[]⟩ : ByteArray), .int .i64 0, .int .i64 0]) ?_ 0 _ rfl; (with_reducible repeat (first | refine blk_drewN ?_ _ | refine blk_drew ?_ | refine blk_alloc ?_ _)); exact BK139.out) hb); have n1_ := zA (below_step (by repeat (first | (with_reducible first | exact HB.out | apply zL | apply zN | apply zD | refine below_set ?_ GE139.out) | exact HB.out)) hb); clear BK139; clear HB; have BK139 := n0_; have HB := n1_; clear n0_ n1_; (try clear hb); (try clear hb2); (try clear hk); (try clear hi)))
    go_roundg k1
    case measure => have := HK1.out; omega
    case rel => exact ⟨(wrap64 (x9_1 + 1)), (by first | rfl | (simp; done) | (simp [*]; done)), H', ⟨by have := HK1.out; omega⟩, ⟨by repeat (first | (with_reducible first | exact HB.out | apply zL | apply zN | apply zD | refine below_set ?_ GE139.out) | exact HB.out)⟩⟩
   rw [if_neg c2] at H
   have c2b0 : decide (x9_1 < (l0.length : Int)) = false := decide_eq_false c2
   clear c2
   by_cases c13 : (l0.length : Int) > 512
   ·rw [if_pos c13] at H
    have c13b0 : decide (512 < (l0.length : Int)) = true := decide_eq_true c13
    have c13b1 : decide (512 < l0.length) = true := decide_eq_true (by omega)
    clear c13; obtain rfl := Option.some.inj H; go_wp2; go_ret
    exact ⟨by first | rfl | (simp [errW_none, errW_some] <;> rfl) | (simp [*, errW_none, errW_some] <;> rfl), by repeat (first | (with_reducible first | exact HB.out | apply zL | apply zN | apply zD) | exact HB.out)⟩
   rw [if_neg c13] at H
   have c13b0 : decide (512 < (l0.length : Int)) = false := decide_eq_false c13
   have c13b1 : decide (512 < l0.length) = false := decide_eq_false (by omega)
   clear c13
   have H' := zA H
   clear H; go_wp2
   go_loopg [22] k1 (fun kq v22 w' => ∃ (x22_2 : Int), v22 = .int .i64 x22_2 ∧ Aside0 (snap_Valid.l1 kq l0 l0 (l0.length : Int) x22_2 = some r) ∧ Aside0 (kq ≤ k1) ∧ Aside0 (Below w.heap.size w w'))
   case atStart => exact ⟨(0), (by first | rfl | (simp; done) | (simp [*]; done)), H', ⟨Nat.le_refl _⟩, ⟨by repeat (first | (with_reducible first | exact HB.out | apply zL | apply zN | apply zD) | exact HB.out)⟩⟩
   case round =>
    clear H'
    try clear c1
    try clear p1
    try clear q1
    try clear hx1
    try clear c2
    try clear c2b0
    try clear p2
    try clear c3
    try clear c3b0
    try clear c4
    try clear c4b0
    try clear c6
    try clear p6
    try clear c13
    try clear c13b0
    try clear c13b1
    try clear p13
    try clear q13
    try clear hx13
    try clear hcz11_0
    try clear hcz11_1
    try clear hcz11_2
    try clear hcz11_3
    try clear hcz8_0
    try clear hcz8_1
    try clear hcz8_2
    try clear hcz8_3
    try clear hfz11_0
    try clear hfz11_1
    try clear hfz11_2
    try clear hfz11_3
    try clear hfz8_0
    try clear hfz8_1
    try clear hfz8_2
    try clear hfz8_3
    try clear hx138_0
    try clear hx138_1
    try clear hx138_2
    try clear hx138_3
    try clear p138
    try clear q138
    obtain ⟨x22_2, rfl, HA, HK2, HB⟩ := hrel
    cases gk with
    | zero => exact absurd HA.out (by simp [snap_Valid.l1])
    | succ k2 =>
     have H := HA.out
     clear HA
     simp only [snap_Valid.l1] at H
     by_cases c14 : x22_2 < (l0.length : Int)
     rotate_left
     ·rw [if_neg c14] at H
      have c14b0 : decide (x22_2 < (l0.length : Int)) = false := decide_eq_false c14
      clear c14; obtain rfl := Option.some.inj H; go_wp2; go_ret
      exact ⟨by first | rfl | (simp [errW_none, errW_some] <;> rfl) | (simp [*, errW_none, errW_some] <;> rfl), by repeat (first | (with_reducible first | exact HB.out | apply zL | apply zN | apply zD) | exact HB.out)⟩
     rw [if_pos c14] at H
     have c14b0 : decide (x22_2 < (l0.length : Int)) = true := decide_eq_true c14
     clear c14
     by_cases c15 : 0 ≤ x22_2
     rotate_left
     ·rw [if_neg c15] at H
      exact absurd H (by simp)
     rw [if_pos c15] at H
     have c15b0 : decide (0 ≤ x22_2) = true := decide_eq_true c15
     clear c15
     by_cases c16 : x22_2 < (l0.length : Int)
     rotate_left
     ·rw [if_neg c16] at H
      exact absurd H (by simp)
     rw [if_pos c16] at H
     have c16b0 : decide (x22_2 < (l0.length : Int)) = true := decide_eq_true c16
     clear c16; replace H := Option.bind_eq_some_iff.mp H; obtain ⟨t143, A170, H⟩ := H
     replace H : (if t143 = 0 then (if x22_2 > 0 then (if 0 ≤ (wrap64 (x22_2 - 1)) then (if (wrap64 (x22_2 - 1)) < (l0.length : Int) then ((path_Cmp.f k2 ((rd_T45 l0 (wrap64 (x22_2 - 1))).f0) ((rd_T45 l0 x22_2).f0)).bind fun t145 => (if t145 ≥ 0 then (some 8) else ((path_Above.f ((rd_T45 l0 (wrap64 (x22_2 - 1))).f0) ((rd_T45 l0 x22_2).f0)).bind fun t147 => (if t147 = true then (some 8) else (snap_Valid.l1 k2 l0 l0 (l0.length : Int) (wrap64 (x22_2 + 1))))))) else (none)) else (none)) else (snap_Valid.l1 k2 l0 l0 (l0.length : Int) (wrap64 (x22_2 + 1)))) else (some 8)) = some r := H
     have A17 := zA A170; clear A170
     by_cases c18 : t143 = 0
     rotate_left
     ·rw [if_neg c18] at H
      have c18b0 : (t143 == 0) = false := beq_eq_false_iff_ne.mpr c18
      have c18b1 : (t143 != 0) = true := bne_iff_ne.mpr c18
      obtain rfl := Option.some.inj H
      have p141 : 0 ≤ (x22_2 : Int) := zO (by first | (with_reducible assumption) | assumption)
      have q141 : x22_2 < (l0.length : Int) := zO (by first | (with_reducible assumption) | assumption)
      obtain ⟨ad141, e141, hx141_0, hx141_1, hx141_2, hx141_3⟩ := at_T45 HR0.out x22_2 p141 q141
      cases e141
      replace hx141_0 := (HB.out.cell (zB w _ hx141_0)).trans hx141_0
      replace hx141_1 := (HB.out.cell (zB w _ hx141_1)).trans hx141_1
      replace hx141_2 := (HB.out.cell (zB w _ hx141_2)).trans hx141_2
      replace hx141_3 := (HB.out.cell (zB w _ hx141_3)).trans hx141_3
      replace p141 := eq_true p141
      replace q141 := eq_true q141
      go_wp2_with (first | ((with_reducible refine gate_dst (N := 6) rfl ?_); refine box_event ?hg (N := 6) ?hd (cs := #[.string (⟨#[]⟩ : ByteArray), .string (⟨#[]⟩ : ByteArray), .int .i64 0, .int .i64 0]) (t := 45) ?hr ?_; (case hd => rfl); (case hg => rfl); (case hr => first | (go_simp; done) | (go_simp; rfl)); intro gb142 hg w48 hbox hb; have n0_ := zA (below_step (by repeat (first | (with_reducible first | exact HB.out | apply zL | apply zN | apply zD) | exact HB.out)) hb); have n1_ := zA (hbox); have n2_ := zA ((by rw [hg]; exact (below_size (by repeat (first | (with_reducible first | exact HB.out | apply zL | apply zN | apply zD) | exact HB.out))) : w.heap.size ≤ gb142)); have n3_ := zA ((by rw [hg]; exact (below_size (by repeat (first | (with_reducible first | exact HB.out | apply zL | apply zN | apply zD) | exact HB.out))) : w.heap.size ≤ gb142)); clear HB; have HB := n0_; have BK142 := n1_; have GW142 := n2_; have GE142 := n3_; clear n0_ n1_ n2_ n3_; clear hb hbox hg; have hcz49_0 : w48.cell? ⟨gb142, 0, none⟩ = some (.string (⟨#[]⟩ : ByteArray)) := (blk_cell BK142.out 0).trans rfl; have hcz49_1 : w48.cell? ⟨gb142, 1, none⟩ = some (.string (⟨#[]⟩ : ByteArray)) := (blk_cell BK142.out 1).trans rfl; have hcz49_2 : w48.cell? ⟨gb142, 2, none⟩ = some (.int .i64 0) := (blk_cell BK142.out 2).trans rfl; have hcz49_3 : w48.cell? ⟨gb142, 3, none⟩ = some (.int .i64 0) := (blk_cell BK142.out 3).trans rfl; have hfz49_0 := blk_frozen BK142.out 0; have hfz49_1 := blk_frozen BK142.out 1; have hfz49_2 := blk_frozen BK142.out 2; have hfz49_3 := blk_frozen BK142.out 3) | ((with_reducible refine gate_callee (f := 63) rfl ?_); refine goesL_ (some 28) rfl rfl Tryd.func63 (by kernel_rfl) rfl #[.agg #[.string ((rd_T45 l0 x22_2).f0), .string ((rd_T45 l0 x22_2).f1), .int .i64 ((rd_T45 l0 x22_2).f2), .int .i64 ((rd_T45 l0 x22_2).f3)]] rfl (by (try simp only [List.map_toArray, List.map_cons, List.map_nil]); first | done | rfl | (simp only [List.length_drop, List.length_take]; rfl)) ?_; (with_reducible refine (snap_File.calls k2 ((rd_T45 l0 x22_2).f0) ((rd_T45 l0 x22_2).f1) ((rd_T45 l0 x22_2).f2) ((rd_T45 l0 x22_2).f3) t143 _ A17.out).mono ?_); rintro e w50 ⟨rfl, hb⟩; refine ⟨_, rfl, ?_⟩; have n0_ := zA (blk_below (g := gb142) (o := .cells #[.string ((rd_T45 l0 x22_2).f0), .string ((rd_T45 l0 x22_2).f1), .int .i64 ((rd_T45 l0 x22_2).f2), .int .i64 ((rd_T45 l0 x22_2).f3)] 45 (0, 0)) (by (with_reducible repeat (first | refine blk_drewN ?_ _ | refine blk_drew ?_ | refine blk_alloc ?_ _)); refine blk_put (cs := #[.string ((rd_T45 l0 x22_2).f0), .string ((rd_T45 l0 x22_2).f1), .int .i64 ((rd_T45 l0 x22_2).f2), .int .i64 0]) ?_ 3 _ rfl; (with_reducible repeat (first | refine blk_drewN ?_ _ | refine blk_drew ?_ | refine blk_alloc ?_ _)); refine blk_put (cs := #[.string ((rd_T45 l0 x22_2).f0), .string ((rd_T45 l0 x22_2).f1), .int .i64 0, .int .i64 0]) ?_ 2 _ rfl; (with_reducible repeat (first | refine blk_drewN ?_ _ | refine blk_drew ?_ | refine blk_alloc ?_ _)); refine blk_put (cs := #[.string ((rd_T45 l0 x22_2).f0), .string (⟨#[]⟩ : ByteArray), .int .i64 0, .int .i64 0]) ?_ 1 _ rfl; (with_reducible repeat (first | refine blk_drewN ?_ _ | refine blk_drew ?_ | refine blk_alloc ?_ _)); refine blk_put (cs := #[.string (⟨#[]⟩ : ByteArray), .string (⟨#[]⟩ : ByteArray), .int .i64 0, .int .i64 0]) ?_ 0 _ rfl; (with_reducible repeat (first | refine blk_drewN ?_ _ | refine blk_drew ?_ | refine blk_alloc ?_ _)); exact BK142.out) hb); have n1_ := zA (below_step (by repeat (first | (with_reducible first | exact HB.out | apply zL | apply zN | apply zD | refine below_set ?_ GE142.out) | exact HB.out)) hb); clear BK142; clear HB; have BK142 := n0_; have HB := n1_; clear n0_ n1_; (try clear hb); (try clear hb2); (try clear hk); (try clear hi)))
      go_ret
      exact ⟨by first | rfl | (simp [errW_none, errW_some] <;> rfl) | (simp [*, errW_none, errW_some] <;> rfl), by repeat (first | (with_reducible first | exact HB.out | apply zL | apply zN | apply zD | refine below_set ?_ GE142.out) | exact HB.out)⟩
     rw [if_pos c18] at H
     have c18b0 : (t143 == 0) = true := beq_iff_eq.mpr c18
     have c18b1 : (t143 != 0) = false := bne_eq_false_iff_eq.mpr c18
     clear c18
     by_cases c19 : x22_2 > 0
     rotate_left
     ·rw [if_neg c19] at H
      have c19b0 : decide (0 < x22_2) = false := decide_eq_false c19
      clear c19
      have H' := zA H
      clear H
      have p141 : 0 ≤ (x22_2 : Int) := zO (by first | (with_reducible assumption) | assumption)
      have q141 : x22_2 < (l0.length : Int) := zO (by first | (with_reducible assumption) | assumption)
      obtain ⟨ad141, e141, hx141_0, hx141_1, hx141_2, hx141_3⟩ := at_T45 HR0.out x22_2 p141 q141
      cases e141
      replace hx141_0 := (HB.out.cell (zB w _ hx141_0)).trans hx141_0
      replace hx141_1 := (HB.out.cell (zB w _ hx141_1)).trans hx141_1
      replace hx141_2 := (HB.out.cell (zB w _ hx141_2)).trans hx141_2
      replace hx141_3 := (HB.out.cell (zB w _ hx141_3)).trans hx141_3
      replace p141 := eq_true p141
      replace q141 := eq_true q141
      try go_wp2_with (first | ((with_reducible refine gate_dst (N := 6) rfl ?_); refine box_event ?hg (N := 6) ?hd (cs := #[.string (⟨#[]⟩ : ByteArray), .string (⟨#[]⟩ : ByteArray), .int .i64 0, .int .i64 0]) (t := 45) ?hr ?_; (case hd => rfl); (case hg => rfl); (case hr => first | (go_simp; done) | (go_simp; rfl)); intro gb142 hg w44 hbox hb; have n0_ := zA (below_step (by repeat (first | (with_reducible first | exact HB.out | apply zL | apply zN | apply zD) | exact HB.out)) hb); have n1_ := zA (hbox); have n2_ := zA ((by rw [hg]; exact (below_size (by repeat (first | (with_reducible first | exact HB.out | apply zL | apply zN | apply zD) | exact HB.out))) : w.heap.size ≤ gb142)); have n3_ := zA ((by rw [hg]; exact (below_size (by repeat (first | (with_reducible first | exact HB.out | apply zL | apply zN | apply zD) | exact HB.out))) : w.heap.size ≤ gb142)); clear HB; have HB := n0_; have BK142 := n1_; have GW142 := n2_; have GE142 := n3_; clear n0_ n1_ n2_ n3_; clear hb hbox hg; have hcz45_0 : w44.cell? ⟨gb142, 0, none⟩ = some (.string (⟨#[]⟩ : ByteArray)) := (blk_cell BK142.out 0).trans rfl; have hcz45_1 : w44.cell? ⟨gb142, 1, none⟩ = some (.string (⟨#[]⟩ : ByteArray)) := (blk_cell BK142.out 1).trans rfl; have hcz45_2 : w44.cell? ⟨gb142, 2, none⟩ = some (.int .i64 0) := (blk_cell BK142.out 2).trans rfl; have hcz45_3 : w44.cell? ⟨gb142, 3, none⟩ = some (.int .i64 0) := (blk_cell BK142.out 3).trans rfl; have hfz45_0 := blk_frozen BK142.out 0; have hfz45_1 := blk_frozen BK142.out 1; have hfz45_2 := blk_frozen BK142.out 2; have hfz45_3 := blk_frozen BK142.out 3) | ((with_reducible refine gate_callee (f := 63) rfl ?_); refine goesL_ (some 28) rfl rfl Tryd.func63 (by kernel_rfl) rfl #[.agg #[.string ((rd_T45 l0 x22_2).f0), .string ((rd_T45 l0 x22_2).f1), .int .i64 ((rd_T45 l0 x22_2).f2), .int .i64 ((rd_T45 l0 x22_2).f3)]] rfl (by (try simp only [List.map_toArray, List.map_cons, List.map_nil]); first | done | rfl | (simp only [List.length_drop, List.length_take]; rfl)) ?_; (with_reducible refine (snap_File.calls k2 ((rd_T45 l0 x22_2).f0) ((rd_T45 l0 x22_2).f1) ((rd_T45 l0 x22_2).f2) ((rd_T45 l0 x22_2).f3) t143 _ A17.out).mono ?_); rintro e w46 ⟨rfl, hb⟩; refine ⟨_, rfl, ?_⟩; have n0_ := zA (blk_below (g := gb142) (o := .cells #[.string ((rd_T45 l0 x22_2).f0), .string ((rd_T45 l0 x22_2).f1), .int .i64 ((rd_T45 l0 x22_2).f2), .int .i64 ((rd_T45 l0 x22_2).f3)] 45 (0, 0)) (by (with_reducible repeat (first | refine blk_drewN ?_ _ | refine blk_drew ?_ | refine blk_alloc ?_ _)); refine blk_put (cs := #[.string ((rd_T45 l0 x22_2).f0), .string ((rd_T45 l0 x22_2).f1), .int .i64 ((rd_T45 l0 x22_2).f2), .int .i64 0]) ?_ 3 _ rfl; (with_reducible repeat (first | refine blk_drewN ?_ _ | refine blk_drew ?_ | refine blk_alloc ?_ _)); refine blk_put (cs := #[.string ((rd_T45 l0 x22_2).f0), .string ((rd_T45 l0 x22_2).f1), .int .i64 0, .int .i64 0]) ?_ 2 _ rfl; (with_reducible repeat (first | refine blk_drewN ?_ _ | refine blk_drew ?_ | refine blk_alloc ?_ _)); refine blk_put (cs := #[.string ((rd_T45 l0 x22_2).f0), .string (⟨#[]⟩ : ByteArray), .int .i64 0, .int .i64 0]) ?_ 1 _ rfl; (with_reducible repeat (first | refine blk_drewN ?_ _ | refine blk_drew ?_ | refine blk_alloc ?_ _)); refine blk_put (cs := #[.string (⟨#[]⟩ : ByteArray), .string (⟨#[]⟩ : ByteArray), .int .i64 0, .int .i64 0]) ?_ 0 _ rfl; (with_reducible repeat (first | refine blk_drewN ?_ _ | refine blk_drew ?_ | refine blk_alloc ?_ _)); exact BK142.out) hb); have n1_ := zA (below_step (by repeat (first | (with_reducible first | exact HB.out | apply zL | apply zN | apply zD | refine below_set ?_ GE142.out) | exact HB.out)) hb); clear BK142; clear HB; have BK142 := n0_; have HB := n1_; clear n0_ n1_; (try clear hb); (try clear hb2); (try clear hk); (try clear hi)))
      have n0_ := zA (blk_drew BK142.out)
      have n1_ := zA (zD HB.out)
      clear BK142; clear HB; have BK142 := n0_; have HB := n1_; clear n0_ n1_
      refine start_ (n := 25) (S := fun w' => True) (ds := []) #[F, F, F, F, F, F, F, F, F, F, F, F, F, F, F, F, F, F, F, F, F, F, F, F, F] (by kernel_rfl) rfl rfl trivial (fun hHeld => ?_); refine with_tabW snap_Valid.tab14 snap_Valid.bits14 (fun HT_ HW_ => ?_)
      generalize w46.drew = w47 at BK142 HB hHeld ⊢
      refine pure_ (i := 0) (N := some 30) (v := ?_) (a' := ?_) #[T, F, F, F, F, F, F, F, F, F, F, F, F, F, F, F, F, F, F, F, F, F, F, F, F] rfl rfl (any_of HT_.out (by kernel_rfl)) (fun _ _ _ h => h) (Or.inl ⟨by rfl, ?_⟩) ?_ ?_
      rotate_left
      ·intro w'; go_simp; with_reducible rfl
      rotate_left
      ·simp only [Act.put, zS, zZ, zC, i64_w, i32_w]
       rfl
      refine pure_ (i := 1) (N := some 31) (v := ?_) (a' := ?_) #[T, T, F, F, F, F, F, F, F, F, F, F, F, F, F, F, F, F, F, F, F, F, F, F, F] rfl rfl (any_of HT_.out (by kernel_rfl)) (fun _ _ _ h => h) (Or.inl ⟨by rfl, ?_⟩) ?_ ?_
      rotate_left
      ·intro w'; go_simp; with_reducible rfl
      rotate_left
      ·simp only [Act.put, zS, zZ, zC, i64_w, i32_w]
       rfl
      refine pure_ (i := 2) (N := some 32) (v := ?_) (a' := ?_) #[T, T, T, F, F, F, F, F, F, F, F, F, F, F, F, F, F, F, F, F, F, F, F, F, F] rfl rfl (any_of HT_.out (by kernel_rfl)) (fun _ _ _ h => h) (Or.inl ⟨by rfl, ?_⟩) ?_ ?_
      rotate_left
      ·intro w'; go_simp; with_reducible rfl
      rotate_left
      ·simp only [Act.put, zS, zZ, zC, i64_w, i32_w]
       rfl
      refine pure_ (i := 3) (N := some 33) (v := undef) (a' := ?_) #[T, T, T, T, F, F, F, F, F, F, F, F, F, F, F, F, F, F, F, F, F, F, F, F, F] rfl rfl (any_of HT_.out (by kernel_rfl)) (fun _ _ _ h => h) (Or.inr ⟨by rfl, rfl⟩) ?_ ?_
      rotate_left
      ·simp only [Act.put, zS, zZ, zC, i64_w, i32_w]
       rfl
      refine pure_ (i := 4) (N := some 34) (v := undef) (a' := ?_) #[T, T, T, T, T, F, F, F, F, F, F, F, F, F, F, F, F, F, F, F, F, F, F, F, F] rfl rfl (any_of HT_.out (by kernel_rfl)) (fun _ _ _ h => h) (Or.inr ⟨by rfl, rfl⟩) ?_ ?_
      rotate_left
      ·simp only [Act.put, zS, zZ, zC, i64_w, i32_w]
       rfl
      refine pure_ (i := 5) (N := some 35) (v := undef) (a' := ?_) #[T, T, T, T, T, T, F, F, F, F, F, F, F, F, F, F, F, F, F, F, F, F, F, F, F] rfl rfl (any_of HT_.out (by kernel_rfl)) (fun _ _ _ h => h) (Or.inr ⟨by rfl, rfl⟩) ?_ ?_
      rotate_left
      ·simp only [Act.put, zS, zZ, zC, i64_w, i32_w]
       rfl
      refine pure_ (i := 6) (N := some 36) (v := undef) (a' := ?_) #[T, T, T, T, T, T, T, F, F, F, F, F, F, F, F, F, F, F, F, F, F, F, F, F, F] rfl rfl (any_of HT_.out (by kernel_rfl)) (fun _ _ _ h => h) (Or.inr ⟨by rfl, rfl⟩) ?_ ?_
      rotate_left
      ·simp only [Act.put, zS, zZ, zC, i64_w, i32_w]
       rfl
      refine pure_ (i := 7) (N := some 37) (v := undef) (a' := ?_) #[T, T, T, T, T, T, T, T, F, F, F, F, F, F, F, F, F, F, F, F, F, F, F, F, F] rfl rfl (any_of HT_.out (by kernel_rfl)) (fun _ _ _ h => h) (Or.inr ⟨by rfl, rfl⟩) ?_ ?_
      rotate_left
      ·simp only [Act.put, zS, zZ, zC, i64_w, i32_w]
       rfl
      refine pure_ (i := 8) (N := some 38) (v := undef) (a' := ?_) #[T, T, T, T, T, T, T, T, T, F, F, F, F, F, F, F, F, F, F, F, F, F, F, F, F] rfl rfl (any_of HT_.out (by kernel_rfl)) (fun _ _ _ h => h) (Or.inr ⟨by rfl, rfl⟩) ?_ ?_
      rotate_left
      ·simp only [Act.put, zS, zZ, zC, i64_w, i32_w]
       rfl
      refine pure_ (i := 9) (N := some 39) (v := undef) (a' := ?_) #[T, T, T, T, T, T, T, T, T, T, F, F, F, F, F, F, F, F, F, F, F, F, F, F, F] rfl rfl (any_of HT_.out (by kernel_rfl)) (fun _ _ _ h => h) (Or.inr ⟨by rfl, rfl⟩) ?_ ?_
      rotate_left
      ·simp only [Act.put, zS, zZ, zC, i64_w, i32_w]
       rfl
      refine pure_ (i := 10) (N := some 40) (v := undef) (a' := ?_) #[T, T, T, T, T, T, T, T, T, T, T, F, F, F, F, F, F, F, F, F, F, F, F, F, F] rfl rfl (any_of HT_.out (by kernel_rfl)) (fun _ _ _ h => h) (Or.inr ⟨by rfl, rfl⟩) ?_ ?_
      rotate_left
      ·simp only [Act.put, zS, zZ, zC, i64_w, i32_w]
       rfl
      refine pure_ (i := 11) (N := some 41) (v := undef) (a' := ?_) #[T, T, T, T, T, T, T, T, T, T, T, T, F, F, F, F, F, F, F, F, F, F, F, F, F] rfl rfl (any_of HT_.out (by kernel_rfl)) (fun _ _ _ h => h) (Or.inr ⟨by rfl, rfl⟩) ?_ ?_
      rotate_left
      ·simp only [Act.put, zS, zZ, zC, i64_w, i32_w]
       rfl
      refine pure_ (i := 12) (N := some 42) (v := undef) (a' := ?_) #[T, T, T, T, T, T, T, T, T, T, T, T, T, F, F, F, F, F, F, F, F, F, F, F, F] rfl rfl (any_of HT_.out (by kernel_rfl)) (fun _ _ _ h => h) (Or.inr ⟨by rfl, rfl⟩) ?_ ?_
      rotate_left
      ·simp only [Act.put, zS, zZ, zC, i64_w, i32_w]
       rfl
      refine pure_ (i := 13) (N := some 43) (v := undef) (a' := ?_) #[T, T, T, T, T, T, T, T, T, T, T, T, T, T, F, F, F, F, F, F, F, F, F, F, F] rfl rfl (any_of HT_.out (by kernel_rfl)) (fun _ _ _ h => h) (Or.inr ⟨by rfl, rfl⟩) ?_ ?_
      rotate_left
      ·simp only [Act.put, zS, zZ, zC, i64_w, i32_w]
       rfl
      refine pure_ (i := 14) (N := some 44) (v := undef) (a' := ?_) #[T, T, T, T, T, T, T, T, T, T, T, T, T, T, T, F, F, F, F, F, F, F, F, F, F] rfl rfl (any_of HT_.out (by kernel_rfl)) (fun _ _ _ h => h) (Or.inr ⟨by rfl, rfl⟩) ?_ ?_
      rotate_left
      ·simp only [Act.put, zS, zZ, zC, i64_w, i32_w]
       rfl
      refine pure_ (i := 15) (N := some 45) (v := undef) (a' := ?_) #[T, T, T, T, T, T, T, T, T, T, T, T, T, T, T, T, F, F, F, F, F, F, F, F, F] rfl rfl (any_of HT_.out (by kernel_rfl)) (fun _ _ _ h => h) (Or.inr ⟨by rfl, rfl⟩) ?_ ?_
      rotate_left
      ·simp only [Act.put, zS, zZ, zC, i64_w, i32_w]
       rfl
      refine pure_ (i := 16) (N := some 46) (v := undef) (a' := ?_) #[T, T, T, T, T, T, T, T, T, T, T, T, T, T, T, T, T, F, F, F, F, F, F, F, F] rfl rfl (any_of HT_.out (by kernel_rfl)) (fun _ _ _ h => h) (Or.inr ⟨by rfl, rfl⟩) ?_ ?_
      rotate_left
      ·simp only [Act.put, zS, zZ, zC, i64_w, i32_w]
       rfl
      refine pure_ (i := 17) (N := some 47) (v := undef) (a' := ?_) #[T, T, T, T, T, T, T, T, T, T, T, T, T, T, T, T, T, T, F, F, F, F, F, F, F] rfl rfl (any_of HT_.out (by kernel_rfl)) (fun _ _ _ h => h) (Or.inr ⟨by rfl, rfl⟩) ?_ ?_
      rotate_left
      ·simp only [Act.put, zS, zZ, zC, i64_w, i32_w]
       rfl
      refine pure_ (i := 18) (N := some 48) (v := undef) (a' := ?_) #[T, T, T, T, T, T, T, T, T, T, T, T, T, T, T, T, T, T, T, F, F, F, F, F, F] rfl rfl (any_of HT_.out (by kernel_rfl)) (fun _ _ _ h => h) (Or.inr ⟨by rfl, rfl⟩) ?_ ?_
      rotate_left
      ·simp only [Act.put, zS, zZ, zC, i64_w, i32_w]
       rfl
      refine pure_ (i := 19) (N := some 49) (v := undef) (a' := ?_) #[T, T, T, T, T, T, T, T, T, T, T, T, T, T, T, T, T, T, T, T, F, F, F, F, F] rfl rfl (any_of HT_.out (by kernel_rfl)) (fun _ _ _ h => h) (Or.inr ⟨by rfl, rfl⟩) ?_ ?_
      rotate_left
      ·simp only [Act.put, zS, zZ, zC, i64_w, i32_w]
       rfl
      refine pure_ (i := 20) (N := some 50) (v := undef) (a' := ?_) #[T, T, T, T, T, T, T, T, T, T, T, T, T, T, T, T, T, T, T, T, T, F, F, F, F] rfl rfl (any_of HT_.out (by kernel_rfl)) (fun _ _ _ h => h) (Or.inr ⟨by rfl, rfl⟩) ?_ ?_
      rotate_left
      ·simp only [Act.put, zS, zZ, zC, i64_w, i32_w]
       rfl
      refine pure_ (i := 21) (N := some 51) (v := undef) (a' := ?_) #[T, T, T, T, T, T, T, T, T, T, T, T, T, T, T, T, T, T, T, T, T, T, F, F, F] rfl rfl (any_of HT_.out (by kernel_rfl)) (fun _ _ _ h => h) (Or.inr ⟨by rfl, rfl⟩) ?_ ?_
      rotate_left
      ·simp only [Act.put, zS, zZ, zC, i64_w, i32_w]
       rfl
      refine pure_ (i := 22) (N := some 52) (v := undef) (a' := ?_) #[T, T, T, T, T, T, T, T, T, T, T, T, T, T, T, T, T, T, T, T, T, T, T, F, F] rfl rfl (any_of HT_.out (by kernel_rfl)) (fun _ _ _ h => h) (Or.inr ⟨by rfl, rfl⟩) ?_ ?_
      rotate_left
      ·simp only [Act.put, zS, zZ, zC, i64_w, i32_w]
       rfl
      refine pure_ (i := 23) (N := some 53) (v := undef) (a' := ?_) #[T, T, T, T, T, T, T, T, T, T, T, T, T, T, T, T, T, T, T, T, T, T, T, T, F] rfl rfl (any_of HT_.out (by kernel_rfl)) (fun _ _ _ h => h) (Or.inr ⟨by rfl, rfl⟩) ?_ ?_
      rotate_left
      ·simp only [Act.put, zS, zZ, zC, i64_w, i32_w]
       rfl
      refine pure_ (i := 24) (N := some 54) (v := ?_) (a' := ?_) #[T, T, T, T, T, T, T, T, T, T, T, T, T, T, T, T, T, T, T, T, T, T, T, T, T] rfl rfl (any_of HT_.out (by kernel_rfl)) (fun _ _ _ h => h) (Or.inl ⟨by rfl, ?_⟩) ?_ ?_
      rotate_left
      ·intro w'; go_simp; with_reducible rfl
      rotate_left
      ·simp only [Act.put, zS, zZ, zC, i64_w, i32_w]
       rfl
      refine done_ (done_of HT_.out (by kernel_rfl)) ?_
      try go_wp2
      go_roundg k2
      case measure => have := HK1.out; have := HK2.out; omega
      case rel => exact ⟨(wrap64 (x22_2 + 1)), (by first | rfl | (simp; done) | (simp [*]; done)), H', ⟨by have := HK1.out; have := HK2.out; omega⟩, ⟨by repeat (first | (with_reducible first | exact HB.out | apply zL | apply zN | apply zD | refine below_set ?_ GE142.out) | exact HB.out)⟩⟩
     rw [if_pos c19] at H
     have c19b0 : decide (0 < x22_2) = true := decide_eq_true c19
     clear c19
     obtain ⟨ji20, hji20⟩ : ∃ j_ : Int, (wrap64 (x22_2 - 1)) = j_ := ⟨_, rfl⟩
     replace H : (if 0 ≤ (ji20) then (if (ji20) < (l0.length : Int) then ((path_Cmp.f k2 ((rd_T45 l0 (ji20)).f0) ((rd_T45 l0 x22_2).f0)).bind fun t145 => (if t145 ≥ 0 then (some 8) else ((path_Above.f ((rd_T45 l0 (ji20)).f0) ((rd_T45 l0 x22_2).f0)).bind fun t147 => (if t147 = true then (some 8) else (snap_Valid.l1 k2 l0 l0 (l0.length : Int) (wrap64 (x22_2 + 1))))))) else (none)) else (none)) = some r := by first | (rw [hji20] at H; exact H) | (simp only [hji20] at H ⊢; exact H)
     (try rw [hji20] at A17)
     have hji20w : (IntKind.i64.wrap (x22_2 - 1)) = ji20 := (i64_w _).trans hji20
     by_cases c21 : 0 ≤ (ji20)
     rotate_left
     ·rw [if_neg c21] at H
      exact absurd H (by simp)
     rw [if_pos c21] at H
     have c21b0 : decide (0 ≤ (ji20)) = true := decide_eq_true c21
     clear c21
     by_cases c22 : (ji20) < (l0.length : Int)
     rotate_left
     ·rw [if_neg c22] at H
      exact absurd H (by simp)
     rw [if_pos c22] at H
     have c22b0 : decide ((ji20) < (l0.length : Int)) = true := decide_eq_true c22
     clear c22; replace H := Option.bind_eq_some_iff.mp H; obtain ⟨t145, A230, H⟩ := H
     replace H : (if t145 ≥ 0 then (some 8) else ((path_Above.f ((rd_T45 l0 (ji20)).f0) ((rd_T45 l0 x22_2).f0)).bind fun t147 => (if t147 = true then (some 8) else (snap_Valid.l1 k2 l0 l0 (l0.length : Int) (wrap64 (x22_2 + 1)))))) = some r := H
     have A23 := zA A230; clear A230
     by_cases c24 : t145 ≥ 0
     ·rw [if_pos c24] at H
      have c24b0 : decide (0 ≤ t145) = true := decide_eq_true c24
      clear c24; obtain rfl := Option.some.inj H
      have p141 : 0 ≤ (x22_2 : Int) := zO (by first | (with_reducible assumption) | assumption)
      have q141 : x22_2 < (l0.length : Int) := zO (by first | (with_reducible assumption) | assumption)
      obtain ⟨ad141, e141, hx141_0, hx141_1, hx141_2, hx141_3⟩ := at_T45 HR0.out x22_2 p141 q141
      cases e141
      replace hx141_0 := (HB.out.cell (zB w _ hx141_0)).trans hx141_0
      replace hx141_1 := (HB.out.cell (zB w _ hx141_1)).trans hx141_1
      replace hx141_2 := (HB.out.cell (zB w _ hx141_2)).trans hx141_2
      replace hx141_3 := (HB.out.cell (zB w _ hx141_3)).trans hx141_3
      replace p141 := eq_true p141
      replace q141 := eq_true q141
      try go_wp2_with (first | ((with_reducible refine gate_dst (N := 6) rfl ?_); refine box_event ?hg (N := 6) ?hd (cs := #[.string (⟨#[]⟩ : ByteArray), .string (⟨#[]⟩ : ByteArray), .int .i64 0, .int .i64 0]) (t := 45) ?hr ?_; (case hd => rfl); (case hg => rfl); (case hr => first | (go_simp; done) | (go_simp; rfl)); intro gb142 hg w25 hbox hb; have n0_ := zA (below_step (by repeat (first | (with_reducible first | exact HB.out | apply zL | apply zN | apply zD) | exact HB.out)) hb); have n1_ := zA (hbox); have n2_ := zA ((by rw [hg]; exact (below_size (by repeat (first | (with_reducible first | exact HB.out | apply zL | apply zN | apply zD) | exact HB.out))) : w.heap.size ≤ gb142)); have n3_ := zA ((by rw [hg]; exact (below_size (by repeat (first | (with_reducible first | exact HB.out | apply zL | apply zN | apply zD) | exact HB.out))) : w.heap.size ≤ gb142)); clear HB; have HB := n0_; have BK142 := n1_; have GW142 := n2_; have GE142 := n3_; clear n0_ n1_ n2_ n3_; clear hb hbox hg; have hcz26_0 : w25.cell? ⟨gb142, 0, none⟩ = some (.string (⟨#[]⟩ : ByteArray)) := (blk_cell BK142.out 0).trans rfl; have hcz26_1 : w25.cell? ⟨gb142, 1, none⟩ = some (.string (⟨#[]⟩ : ByteArray)) := (blk_cell BK142.out 1).trans rfl; have hcz26_2 : w25.cell? ⟨gb142, 2, none⟩ = some (.int .i64 0) := (blk_cell BK142.out 2).trans rfl; have hcz26_3 : w25.cell? ⟨gb142, 3, none⟩ = some (.int .i64 0) := (blk_cell BK142.out 3).trans rfl; have hfz26_0 := blk_frozen BK142.out 0; have hfz26_1 := blk_frozen BK142.out 1; have hfz26_2 := blk_frozen BK142.out 2; have hfz26_3 := blk_frozen BK142.out 3) | ((with_reducible refine gate_callee (f := 63) rfl ?_); refine goesL_ (some 28) rfl rfl Tryd.func63 (by kernel_rfl) rfl #[.agg #[.string ((rd_T45 l0 x22_2).f0), .string ((rd_T45 l0 x22_2).f1), .int .i64 ((rd_T45 l0 x22_2).f2), .int .i64 ((rd_T45 l0 x22_2).f3)]] rfl (by (try simp only [List.map_toArray, List.map_cons, List.map_nil]); first | done | rfl | (simp only [List.length_drop, List.length_take]; rfl)) ?_; (with_reducible refine (snap_File.calls k2 ((rd_T45 l0 x22_2).f0) ((rd_T45 l0 x22_2).f1) ((rd_T45 l0 x22_2).f2) ((rd_T45 l0 x22_2).f3) t143 _ A17.out).mono ?_); rintro e w27 ⟨rfl, hb⟩; refine ⟨_, rfl, ?_⟩; have n0_ := zA (blk_below (g := gb142) (o := .cells #[.string ((rd_T45 l0 x22_2).f0), .string ((rd_T45 l0 x22_2).f1), .int .i64 ((rd_T45 l0 x22_2).f2), .int .i64 ((rd_T45 l0 x22_2).f3)] 45 (0, 0)) (by (with_reducible repeat (first | refine blk_drewN ?_ _ | refine blk_drew ?_ | refine blk_alloc ?_ _)); refine blk_put (cs := #[.string ((rd_T45 l0 x22_2).f0), .string ((rd_T45 l0 x22_2).f1), .int .i64 ((rd_T45 l0 x22_2).f2), .int .i64 0]) ?_ 3 _ rfl; (with_reducible repeat (first | refine blk_drewN ?_ _ | refine blk_drew ?_ | refine blk_alloc ?_ _)); refine blk_put (cs := #[.string ((rd_T45 l0 x22_2).f0), .string ((rd_T45 l0 x22_2).f1), .int .i64 0, .int .i64 0]) ?_ 2 _ rfl; (with_reducible repeat (first | refine blk_drewN ?_ _ | refine blk_drew ?_ | refine blk_alloc ?_ _)); refine blk_put (cs := #[.string ((rd_T45 l0 x22_2).f0), .string (⟨#[]⟩ : ByteArray), .int .i64 0, .int .i64 0]) ?_ 1 _ rfl; (with_reducible repeat (first | refine blk_drewN ?_ _ | refine blk_drew ?_ | refine blk_alloc ?_ _)); refine blk_put (cs := #[.string (⟨#[]⟩ : ByteArray), .string (⟨#[]⟩ : ByteArray), .int .i64 0, .int .i64 0]) ?_ 0 _ rfl; (with_reducible repeat (first | refine blk_drewN ?_ _ | refine blk_drew ?_ | refine blk_alloc ?_ _)); exact BK142.out) hb); have n1_ := zA (below_step (by repeat (first | (with_reducible first | exact HB.out | apply zL | apply zN | apply zD | refine below_set ?_ GE142.out) | exact HB.out)) hb); clear BK142; clear HB; have BK142 := n0_; have HB := n1_; clear n0_ n1_; (try clear hb); (try clear hb2); (try clear hk); (try clear hi)))
      have n0_ := zA (blk_drew BK142.out)
      have n1_ := zA (zD HB.out)
      clear BK142; clear HB; have BK142 := n0_; have HB := n1_; clear n0_ n1_
      have p144 : 0 ≤ ((ji20) : Int) := zO (by first | (with_reducible assumption) | assumption)
      have q144 : (ji20) < (l0.length : Int) := zO (by first | (with_reducible assumption) | assumption)
      obtain ⟨ad144, e144, hx144_0, hx144_1, hx144_2, hx144_3⟩ := at_T45 HR0.out (ji20) p144 q144
      have hw144_3 := hx144_3; have hw144_2 := hx144_2; have hw144_1 := hx144_1; have hw144_0 := hx144_0
      obtain rfl : ad141 = ad144 := (by injection e144)
      replace hx144_0 := (HB.out.cell (zB w _ hx144_0)).trans hx144_0
      replace hx144_1 := (HB.out.cell (zB w _ hx144_1)).trans hx144_1
      replace hx144_2 := (HB.out.cell (zB w _ hx144_2)).trans hx144_2
      replace hx144_3 := (HB.out.cell (zB w _ hx144_3)).trans hx144_3
      replace p144 := eq_true p144
      replace q144 := eq_true q144
      refine start_ (n := 25) (S := fun w' => w'.cell? ⟨gb142, 0, none⟩ = some (.string ((rd_T45 l0 x22_2).f0)) ∧ w'.cell? ⟨gb142, 1, none⟩ = some (.string ((rd_T45 l0 x22_2).f1)) ∧ w'.cell? ⟨gb142, 2, none⟩ = some (.int .i64 ((rd_T45 l0 x22_2).f2)) ∧ w'.cell? ⟨gb142, 3, none⟩ = some (.int .i64 ((rd_T45 l0 x22_2).f3)) ∧ w'.cell? (ad141.add (((ji20)).toNat * 4)) = some (.string ((rd_T45 l0 (ji20)).f0)) ∧ w'.cell? ⟨(ad141.add (((ji20)).toNat * 4)).block, (ad141.add (((ji20)).toNat * 4)).off + 1, none⟩ = some (.string ((rd_T45 l0 (ji20)).f1)) ∧ w'.cell? ⟨(ad141.add (((ji20)).toNat * 4)).block, (ad141.add (((ji20)).toNat * 4)).off + 2, none⟩ = some (.int .i64 ((rd_T45 l0 (ji20)).f2)) ∧ w'.cell? ⟨(ad141.add (((ji20)).toNat * 4)).block, (ad141.add (((ji20)).toNat * 4)).off + 3, none⟩ = some (.int .i64 ((rd_T45 l0 (ji20)).f3))) (ds := []) #[F, F, F, F, F, F, F, F, F, F, F, F, F, F, F, F, F, F, F, F, F, F, F, F, F] (by kernel_rfl) rfl rfl ⟨(blk_cell BK142.out 0).trans rfl, (blk_cell BK142.out 1).trans rfl, (blk_cell BK142.out 2).trans rfl, (blk_cell BK142.out 3).trans rfl, ((HB.out.cell (zB w _ hw144_0)).trans hw144_0), ((HB.out.cell (zB w _ hw144_1)).trans hw144_1), ((HB.out.cell (zB w _ hw144_2)).trans hw144_2), ((HB.out.cell (zB w _ hw144_3)).trans hw144_3)⟩ (fun hHeld => ?_); refine with_tabW snap_Valid.tab14 snap_Valid.bits14 (fun HT_ HW_ => ?_)
      generalize w27.drew = w28 at BK142 HB hx144_0 hx144_1 hx144_2 hx144_3 hHeld ⊢
      refine pure_ (i := 0) (N := some 30) (v := ?_) (a' := ?_) #[T, F, F, F, F, F, F, F, F, F, F, F, F, F, F, F, F, F, F, F, F, F, F, F, F] rfl rfl (any_of HT_.out (by kernel_rfl)) (fun _ _ _ h => h) (Or.inl ⟨by rfl, ?_⟩) ?_ ?_
      rotate_left
      ·intro w'; go_simp; with_reducible rfl
      rotate_left
      ·simp only [Act.put, zS, zZ, zC, i64_w, i32_w]
       rfl
      refine pure_ (i := 1) (N := some 31) (v := ?_) (a' := ?_) #[T, T, F, F, F, F, F, F, F, F, F, F, F, F, F, F, F, F, F, F, F, F, F, F, F] rfl rfl (any_of HT_.out (by kernel_rfl)) (fun _ _ _ h => h) (Or.inl ⟨by rfl, ?_⟩) ?_ ?_
      rotate_left
      ·intro w'; go_simp; with_reducible rfl
      rotate_left
      ·simp only [Act.put, zS, zZ, zC, i64_w, i32_w]
       rfl
      refine pure_ (i := 2) (N := some 32) (v := ?_) (a' := ?_) #[T, T, T, F, F, F, F, F, F, F, F, F, F, F, F, F, F, F, F, F, F, F, F, F, F] rfl rfl (any_of HT_.out (by kernel_rfl)) (fun _ _ _ h => h) (Or.inl ⟨by rfl, ?_⟩) ?_ ?_
      rotate_left
      ·intro w'; go_simp; with_reducible rfl
      rotate_left
      ·simp only [Act.put, zS, zZ, zC, i64_w, i32_w]
       rfl
      refine pure_ (i := 3) (N := some 33) (v := ?_) (a' := ?_) #[T, T, T, T, F, F, F, F, F, F, F, F, F, F, F, F, F, F, F, F, F, F, F, F, F] rfl rfl (any_of HT_.out (by kernel_rfl)) (fun _ _ _ h => h) (Or.inl ⟨by rfl, ?_⟩) ?_ ?_
      rotate_left
      ·intro w'; go_simp; with_reducible rfl
      rotate_left
      ·simp only [Act.put, zS, zZ, zC, i64_w, i32_w]
       rfl
      refine pure_ (i := 4) (N := some 34) (v := ?_) (a' := ?_) #[T, T, T, T, T, F, F, F, F, F, F, F, F, F, F, F, F, F, F, F, F, F, F, F, F] rfl rfl (any_of HT_.out (by kernel_rfl)) (fun _ _ _ h => h) (Or.inl ⟨by rfl, ?_⟩) ?_ ?_
      rotate_left
      ·intro w'; go_simp; with_reducible rfl
      rotate_left
      ·simp only [Act.put, zS, zZ, zC, i64_w, i32_w]
       rfl
      refine pure_ (i := 5) (N := some 35) (v := ?_) (a' := ?_) #[T, T, T, T, T, T, F, F, F, F, F, F, F, F, F, F, F, F, F, F, F, F, F, F, F] rfl rfl (any_of HT_.out (by kernel_rfl)) (fun _ _ _ h => h) (Or.inl ⟨by rfl, ?_⟩) ?_ ?_
      rotate_left
      ·intro w'; go_simp; with_reducible rfl
      rotate_left
      ·simp only [Act.put, zS, zZ, zC, i64_w, i32_w]
       rfl
      refine pure_ (i := 6) (N := some 36) (v := ?_) (a' := ?_) #[T, T, T, T, T, T, T, F, F, F, F, F, F, F, F, F, F, F, F, F, F, F, F, F, F] rfl rfl (any_of HT_.out (by kernel_rfl)) (fun _ _ _ h => h) (Or.inl ⟨by rfl, ?_⟩) ?_ ?_
      rotate_left
      ·intro w'; go_simp; with_reducible rfl
      rotate_left
      ·simp only [Act.put, zS, zZ, zC, i64_w, i32_w]
       rfl
      refine pure_ (i := 7) (N := some 37) (v := ?_) (a' := ?_) #[T, T, T, T, T, T, T, T, F, F, F, F, F, F, F, F, F, F, F, F, F, F, F, F, F] rfl rfl (any_of HT_.out (by kernel_rfl)) (fun _ _ _ h => h) (Or.inl ⟨by rfl, ?_⟩) ?_ ?_
      rotate_left
      ·intro w'; go_simp; with_reducible rfl
      rotate_left
      ·simp only [Act.put, zS, zZ, zC, i64_w, i32_w]
       rfl
      refine pure_ (i := 9) (N := some 39) (v := ?_) (a' := ?_) #[T, T, T, T, T, T, T, T, F, T, F, F, F, F, F, F, F, F, F, F, F, F, F, F, F] rfl rfl (any_of HT_.out (by kernel_rfl)) (fun _ _ _ h => h) (Or.inl ⟨by rfl, ?_⟩) ?_ ?_
      rotate_left
      ·intro w'; go_simp; with_reducible rfl
      rotate_left
      ·simp only [Act.put, zS, zZ, zC, i64_w, i32_w]
       rfl
      refine take_ (i := 8) (N := some 38) (v := ?_) (a' := ?_) #[T, T, T, T, T, T, T, T, T, T, F, F, F, F, F, F, F, F, F, F, F, F, F, F, F] rfl rfl (take_ofW HT_.out HW_.out (by kernel_rfl)) (fun _ _ _ h => h) (Or.inl ⟨by rfl, ?_⟩) hHeld ?_ ?_
      rotate_left
      ·rintro w' ⟨s0, s1, s2, s3, s4, s5, s6, s7⟩
       go_simp; with_reducible rfl
      rotate_left
      ·simp only [Act.put, zS, zZ, zC, i64_w, i32_w]
       rfl
      refine take_ (i := 10) (N := some 40) (v := ?_) (a' := ?_) #[T, T, T, T, T, T, T, T, T, T, T, F, F, F, F, F, F, F, F, F, F, F, F, F, F] rfl rfl (take_ofW HT_.out HW_.out (by kernel_rfl)) (fun _ _ _ h => h) (Or.inl ⟨by rfl, ?_⟩) hHeld ?_ ?_
      rotate_left
      ·rintro w' ⟨s0, s1, s2, s3, s4, s5, s6, s7⟩
       go_simp; with_reducible rfl
      rotate_left
      ·simp only [Act.put, zS, zZ, zC, i64_w, i32_w]
       rfl
      refine one_ (i := 11) (N := some 41) #[T, T, T, T, T, T, T, T, T, T, T, T, F, F, F, F, F, F, F, F, F, F, F, F, F] rfl rfl (one_of HT_.out (by kernel_rfl)) (by decide) (fun K hK => ?_)
      refine goes_ Tryd.func36 (by kernel_rfl) rfl #[.string ((rd_T45 l0 (ji20)).f0), .string ((rd_T45 l0 x22_2).f0)] (by rfl) rfl rfl (by (try simp only [List.map_toArray, List.map_cons, List.map_nil]); first | done | (simp only [hji20]; rfl) | rfl | (simp only [List.length_drop, List.length_take]; rfl)) ?_
      with_reducible refine (path_Cmp.calls k2 ((rd_T45 l0 (ji20)).f0) ((rd_T45 l0 x22_2).f0) t145 _ A23.out).mono ?_
      rintro e w29 ⟨rfl, hb⟩
      refine ⟨_, rfl, ?_⟩
      have n0_ := zA (blk_below (g := gb142) (o := .cells #[.string ((rd_T45 l0 x22_2).f0), .string ((rd_T45 l0 x22_2).f1), .int .i64 ((rd_T45 l0 x22_2).f2), .int .i64 ((rd_T45 l0 x22_2).f3)] 45 (0, 0)) (by (with_reducible repeat (first | refine blk_drewN ?_ _ | refine blk_drew ?_ | refine blk_alloc ?_ _)); exact BK142.out) hb)
      have n1_ := zA (below_step (by repeat (first | (with_reducible first | exact HB.out | apply zL | apply zN | apply zD | refine below_set ?_ GE142.out) | exact HB.out)) hb)
      clear BK142; clear HB; have BK142 := n0_; have HB := n1_; clear n0_ n1_
      (try clear hb)
      (try clear hb2)
      (try clear hk)
      (try clear hi)
      refine hK.out _ _ ⟨(blk_cell BK142.out 0).trans rfl, (blk_cell BK142.out 1).trans rfl, (blk_cell BK142.out 2).trans rfl, (blk_cell BK142.out 3).trans rfl, ((HB.out.cell (zB w _ hw144_0)).trans hw144_0), ((HB.out.cell (zB w _ hw144_1)).trans hw144_1), ((HB.out.cell (zB w _ hw144_2)).trans hw144_2), ((HB.out.cell (zB w _ hw144_3)).trans hw144_3)⟩ (fun hHeld => ?_)
      clear hK K
      refine norm_ (a' := ?_) ?_ ?_
      rotate_left
      ·show Act.put _ (some 41) _ = _
       simp only [Act.put, zS, zZ, zC, i64_w, i32_w]
       rfl
      refine pure_ (i := 12) (N := some 42) (v := ?_) (a' := ?_) #[T, T, T, T, T, T, T, T, T, T, T, T, T, F, F, F, F, F, F, F, F, F, F, F, F] rfl rfl (any_of HT_.out (by kernel_rfl)) (fun _ _ _ h => h) (Or.inl ⟨by rfl, ?_⟩) ?_ ?_
      rotate_left
      ·intro w'; go_simp; with_reducible rfl
      rotate_left
      ·simp only [Act.put, zS, zZ, zC, i64_w, i32_w]
       rfl
      refine pure_ (i := 13) (N := some 43) (v := ?_) (a' := ?_) #[T, T, T, T, T, T, T, T, T, T, T, T, T, T, F, F, F, F, F, F, F, F, F, F, F] rfl rfl (any_of HT_.out (by kernel_rfl)) (fun _ _ _ h => h) (Or.inl ⟨by rfl, ?_⟩) ?_ ?_
      rotate_left
      ·intro w'; go_simp; with_reducible rfl
      rotate_left
      ·simp only [Act.put, zS, zZ, zC, i64_w, i32_w]
       rfl
      refine pure_ (i := 14) (N := some 44) (v := undef) (a' := ?_) #[T, T, T, T, T, T, T, T, T, T, T, T, T, T, T, F, F, F, F, F, F, F, F, F, F] rfl rfl (any_of HT_.out (by kernel_rfl)) (fun _ _ _ h => h) (Or.inr ⟨by rfl, rfl⟩) ?_ ?_
      rotate_left
      ·simp only [Act.put, zS, zZ, zC, i64_w, i32_w]
       rfl
      refine pure_ (i := 15) (N := some 45) (v := undef) (a' := ?_) #[T, T, T, T, T, T, T, T, T, T, T, T, T, T, T, T, F, F, F, F, F, F, F, F, F] rfl rfl (any_of HT_.out (by kernel_rfl)) (fun _ _ _ h => h) (Or.inr ⟨by rfl, rfl⟩) ?_ ?_
      rotate_left
      ·simp only [Act.put, zS, zZ, zC, i64_w, i32_w]
       rfl
      refine pure_ (i := 16) (N := some 46) (v := undef) (a' := ?_) #[T, T, T, T, T, T, T, T, T, T, T, T, T, T, T, T, T, F, F, F, F, F, F, F, F] rfl rfl (any_of HT_.out (by kernel_rfl)) (fun _ _ _ h => h) (Or.inr ⟨by rfl, rfl⟩) ?_ ?_
      rotate_left
      ·simp only [Act.put, zS, zZ, zC, i64_w, i32_w]
       rfl
      refine pure_ (i := 17) (N := some 47) (v := undef) (a' := ?_) #[T, T, T, T, T, T, T, T, T, T, T, T, T, T, T, T, T, T, F, F, F, F, F, F, F] rfl rfl (any_of HT_.out (by kernel_rfl)) (fun _ _ _ h => h) (Or.inr ⟨by rfl, rfl⟩) ?_ ?_
      rotate_left
      ·simp only [Act.put, zS, zZ, zC, i64_w, i32_w]
       rfl
      refine pure_ (i := 18) (N := some 48) (v := undef) (a' := ?_) #[T, T, T, T, T, T, T, T, T, T, T, T, T, T, T, T, T, T, T, F, F, F, F, F, F] rfl rfl (any_of HT_.out (by kernel_rfl)) (fun _ _ _ h => h) (Or.inr ⟨by rfl, rfl⟩) ?_ ?_
      rotate_left
      ·simp only [Act.put, zS, zZ, zC, i64_w, i32_w]
       rfl
      refine pure_ (i := 19) (N := some 49) (v := undef) (a' := ?_) #[T, T, T, T, T, T, T, T, T, T, T, T, T, T, T, T, T, T, T, T, F, F, F, F, F] rfl rfl (any_of HT_.out (by kernel_rfl)) (fun _ _ _ h => h) (Or.inr ⟨by rfl, rfl⟩) ?_ ?_
      rotate_left
      ·simp only [Act.put, zS, zZ, zC, i64_w, i32_w]
       rfl
      refine pure_ (i := 20) (N := some 50) (v := undef) (a' := ?_) #[T, T, T, T, T, T, T, T, T, T, T, T, T, T, T, T, T, T, T, T, T, F, F, F, F] rfl rfl (any_of HT_.out (by kernel_rfl)) (fun _ _ _ h => h) (Or.inr ⟨by rfl, rfl⟩) ?_ ?_
      rotate_left
      ·simp only [Act.put, zS, zZ, zC, i64_w, i32_w]
       rfl
      refine pure_ (i := 21) (N := some 51) (v := undef) (a' := ?_) #[T, T, T, T, T, T, T, T, T, T, T, T, T, T, T, T, T, T, T, T, T, T, F, F, F] rfl rfl (any_of HT_.out (by kernel_rfl)) (fun _ _ _ h => h) (Or.inr ⟨by rfl, rfl⟩) ?_ ?_
      rotate_left
      ·simp only [Act.put, zS, zZ, zC, i64_w, i32_w]
       rfl
      refine pure_ (i := 22) (N := some 52) (v := undef) (a' := ?_) #[T, T, T, T, T, T, T, T, T, T, T, T, T, T, T, T, T, T, T, T, T, T, T, F, F] rfl rfl (any_of HT_.out (by kernel_rfl)) (fun _ _ _ h => h) (Or.inr ⟨by rfl, rfl⟩) ?_ ?_
      rotate_left
      ·simp only [Act.put, zS, zZ, zC, i64_w, i32_w]
       rfl
      refine pure_ (i := 23) (N := some 53) (v := ?_) (a' := ?_) #[T, T, T, T, T, T, T, T, T, T, T, T, T, T, T, T, T, T, T, T, T, T, T, T, F] rfl rfl (any_of HT_.out (by kernel_rfl)) (fun _ _ _ h => h) (Or.inl ⟨by rfl, ?_⟩) ?_ ?_
      rotate_left
      ·intro w'; go_simp; with_reducible rfl
      rotate_left
      ·simp only [Act.put, zS, zZ, zC, i64_w, i32_w]
       rfl
      refine pure_ (i := 24) (N := some 54) (v := ?_) (a' := ?_) #[T, T, T, T, T, T, T, T, T, T, T, T, T, T, T, T, T, T, T, T, T, T, T, T, T] rfl rfl (any_of HT_.out (by kernel_rfl)) (fun _ _ _ h => h) (Or.inl ⟨by rfl, ?_⟩) ?_ ?_
      rotate_left
      ·intro w'; go_simp; with_reducible rfl
      rotate_left
      ·simp only [Act.put, zS, zZ, zC, i64_w, i32_w]
       rfl
      refine done_ (done_of HT_.out (by kernel_rfl)) ?_
      try go_wp2
      go_ret
      exact ⟨by first | rfl | (simp [errW_none, errW_some] <;> rfl) | (simp only [← hji20]; first | rfl | (simp [errW_none, errW_some] <;> rfl)) | (simp [*, errW_none, errW_some] <;> rfl), by repeat (first | (with_reducible first | exact HB.out | apply zL | apply zN | apply zD | refine below_set ?_ GE142.out) | exact HB.out)⟩
     rw [if_neg c24] at H
     have c24b0 : decide (0 ≤ t145) = false := decide_eq_false c24
     clear c24; replace H := Option.bind_eq_some_iff.mp H; obtain ⟨t147, A300, H⟩ := H
     replace H : (if t147 = true then (some 8) else (snap_Valid.l1 k2 l0 l0 (l0.length : Int) (wrap64 (x22_2 + 1)))) = some r := H
     have A30 := zA A300; clear A300
     by_cases c31 : t147 = true
     ·subst c31
      have H1 : (some 8) = some r := by rw [if_pos rfl] at H; exact H
      clear H; have H := H1; clear H1; obtain rfl := Option.some.inj H
      have p141 : 0 ≤ (x22_2 : Int) := zO (by first | (with_reducible assumption) | assumption)
      have q141 : x22_2 < (l0.length : Int) := zO (by first | (with_reducible assumption) | assumption)
      obtain ⟨ad141, e141, hx141_0, hx141_1, hx141_2, hx141_3⟩ := at_T45 HR0.out x22_2 p141 q141
      cases e141
      replace hx141_0 := (HB.out.cell (zB w _ hx141_0)).trans hx141_0
      replace hx141_1 := (HB.out.cell (zB w _ hx141_1)).trans hx141_1
      replace hx141_2 := (HB.out.cell (zB w _ hx141_2)).trans hx141_2
      replace hx141_3 := (HB.out.cell (zB w _ hx141_3)).trans hx141_3
      replace p141 := eq_true p141
      replace q141 := eq_true q141
      try go_wp2_with (first | ((with_reducible refine gate_dst (N := 6) rfl ?_); refine box_event ?hg (N := 6) ?hd (cs := #[.string (⟨#[]⟩ : ByteArray), .string (⟨#[]⟩ : ByteArray), .int .i64 0, .int .i64 0]) (t := 45) ?hr ?_; (case hd => rfl); (case hg => rfl); (case hr => first | (go_simp; done) | (go_simp; rfl)); intro gb142 hg w32 hbox hb; have n0_ := zA (below_step (by repeat (first | (with_reducible first | exact HB.out | apply zL | apply zN | apply zD) | exact HB.out)) hb); have n1_ := zA (hbox); have n2_ := zA ((by rw [hg]; exact (below_size (by repeat (first | (with_reducible first | exact HB.out | apply zL | apply zN | apply zD) | exact HB.out))) : w.heap.size ≤ gb142)); have n3_ := zA ((by rw [hg]; exact (below_size (by repeat (first | (with_reducible first | exact HB.out | apply zL | apply zN | apply zD) | exact HB.out))) : w.heap.size ≤ gb142)); clear HB; have HB := n0_; have BK142 := n1_; have GW142 := n2_; have GE142 := n3_; clear n0_ n1_ n2_ n3_; clear hb hbox hg; have hcz33_0 : w32.cell? ⟨gb142, 0, none⟩ = some (.string (⟨#[]⟩ : ByteArray)) := (blk_cell BK142.out 0).trans rfl; have hcz33_1 : w32.cell? ⟨gb142, 1, none⟩ = some (.string (⟨#[]⟩ : ByteArray)) := (blk_cell BK142.out 1).trans rfl; have hcz33_2 : w32.cell? ⟨gb142, 2, none⟩ = some (.int .i64 0) := (blk_cell BK142.out 2).trans rfl; have hcz33_3 : w32.cell? ⟨gb142, 3, none⟩ = some (.int .i64 0) := (blk_cell BK142.out 3).trans rfl; have hfz33_0 := blk_frozen BK142.out 0; have hfz33_1 := blk_frozen BK142.out 1; have hfz33_2 := blk_frozen BK142.out 2; have hfz33_3 := blk_frozen BK142.out 3) | ((with_reducible refine gate_callee (f := 63) rfl ?_); refine goesL_ (some 28) rfl rfl Tryd.func63 (by kernel_rfl) rfl #[.agg #[.string ((rd_T45 l0 x22_2).f0), .string ((rd_T45 l0 x22_2).f1), .int .i64 ((rd_T45 l0 x22_2).f2), .int .i64 ((rd_T45 l0 x22_2).f3)]] rfl (by (try simp only [List.map_toArray, List.map_cons, List.map_nil]); first | done | rfl | (simp only [List.length_drop, List.length_take]; rfl)) ?_; (with_reducible refine (snap_File.calls k2 ((rd_T45 l0 x22_2).f0) ((rd_T45 l0 x22_2).f1) ((rd_T45 l0 x22_2).f2) ((rd_T45 l0 x22_2).f3) t143 _ A17.out).mono ?_); rintro e w34 ⟨rfl, hb⟩; refine ⟨_, rfl, ?_⟩; have n0_ := zA (blk_below (g := gb142) (o := .cells #[.string ((rd_T45 l0 x22_2).f0), .string ((rd_T45 l0 x22_2).f1), .int .i64 ((rd_T45 l0 x22_2).f2), .int .i64 ((rd_T45 l0 x22_2).f3)] 45 (0, 0)) (by (with_reducible repeat (first | refine blk_drewN ?_ _ | refine blk_drew ?_ | refine blk_alloc ?_ _)); refine blk_put (cs := #[.string ((rd_T45 l0 x22_2).f0), .string ((rd_T45 l0 x22_2).f1), .int .i64 ((rd_T45 l0 x22_2).f2), .int .i64 0]) ?_ 3 _ rfl; (with_reducible repeat (first | refine blk_drewN ?_ _ | refine blk_drew ?_ | refine blk_alloc ?_ _)); refine blk_put (cs := #[.string ((rd_T45 l0 x22_2).f0), .string ((rd_T45 l0 x22_2).f1), .int .i64 0, .int .i64 0]) ?_ 2 _ rfl; (with_reducible repeat (first | refine blk_drewN ?_ _ | refine blk_drew ?_ | refine blk_alloc ?_ _)); refine blk_put (cs := #[.string ((rd_T45 l0 x22_2).f0), .string (⟨#[]⟩ : ByteArray), .int .i64 0, .int .i64 0]) ?_ 1 _ rfl; (with_reducible repeat (first | refine blk_drewN ?_ _ | refine blk_drew ?_ | refine blk_alloc ?_ _)); refine blk_put (cs := #[.string (⟨#[]⟩ : ByteArray), .string (⟨#[]⟩ : ByteArray), .int .i64 0, .int .i64 0]) ?_ 0 _ rfl; (with_reducible repeat (first | refine blk_drewN ?_ _ | refine blk_drew ?_ | refine blk_alloc ?_ _)); exact BK142.out) hb); have n1_ := zA (below_step (by repeat (first | (with_reducible first | exact HB.out | apply zL | apply zN | apply zD | refine below_set ?_ GE142.out) | exact HB.out)) hb); clear BK142; clear HB; have BK142 := n0_; have HB := n1_; clear n0_ n1_; (try clear hb); (try clear hb2); (try clear hk); (try clear hi)))
      have n0_ := zA (blk_drew BK142.out)
      have n1_ := zA (zD HB.out)
      clear BK142; clear HB; have BK142 := n0_; have HB := n1_; clear n0_ n1_
      have p144 : 0 ≤ ((ji20) : Int) := zO (by first | (with_reducible assumption) | assumption)
      have q144 : (ji20) < (l0.length : Int) := zO (by first | (with_reducible assumption) | assumption)
      obtain ⟨ad144, e144, hx144_0, hx144_1, hx144_2, hx144_3⟩ := at_T45 HR0.out (ji20) p144 q144
      have hw144_3 := hx144_3; have hw144_2 := hx144_2; have hw144_1 := hx144_1; have hw144_0 := hx144_0
      obtain rfl : ad141 = ad144 := (by injection e144)
      replace hx144_0 := (HB.out.cell (zB w _ hx144_0)).trans hx144_0
      replace hx144_1 := (HB.out.cell (zB w _ hx144_1)).trans hx144_1
      replace hx144_2 := (HB.out.cell (zB w _ hx144_2)).trans hx144_2
      replace hx144_3 := (HB.out.cell (zB w _ hx144_3)).trans hx144_3
      replace p144 := eq_true p144
      replace q144 := eq_true q144
      have p146 : 0 ≤ ((ji20) : Int) := zO (by first | (with_reducible assumption) | assumption)
      have q146 : (ji20) < (l0.length : Int) := zO (by first | (with_reducible assumption) | assumption)
      obtain ⟨ad146, e146, hx146_0, hx146_1, hx146_2, hx146_3⟩ := at_T45 HR0.out (ji20) p146 q146
      have hw146_3 := hx146_3; have hw146_2 := hx146_2; have hw146_1 := hx146_1; have hw146_0 := hx146_0
      obtain rfl : ad141 = ad146 := (by injection e146)
      replace hx146_0 := (HB.out.cell (zB w _ hx146_0)).trans hx146_0
      replace hx146_1 := (HB.out.cell (zB w _ hx146_1)).trans hx146_1
      replace hx146_2 := (HB.out.cell (zB w _ hx146_2)).trans hx146_2
      replace hx146_3 := (HB.out.cell (zB w _ hx146_3)).trans hx146_3
      replace p146 := eq_true p146
      replace q146 := eq_true q146
      refine start_ (n := 25) (S := fun w' => w'.cell? ⟨gb142, 0, none⟩ = some (.string ((rd_T45 l0 x22_2).f0)) ∧ w'.cell? ⟨gb142, 1, none⟩ = some (.string ((rd_T45 l0 x22_2).f1)) ∧ w'.cell? ⟨gb142, 2, none⟩ = some (.int .i64 ((rd_T45 l0 x22_2).f2)) ∧ w'.cell? ⟨gb142, 3, none⟩ = some (.int .i64 ((rd_T45 l0 x22_2).f3)) ∧ w'.cell? (ad141.add (((ji20)).toNat * 4)) = some (.string ((rd_T45 l0 (ji20)).f0)) ∧ w'.cell? ⟨(ad141.add (((ji20)).toNat * 4)).block, (ad141.add (((ji20)).toNat * 4)).off + 1, none⟩ = some (.string ((rd_T45 l0 (ji20)).f1)) ∧ w'.cell? ⟨(ad141.add (((ji20)).toNat * 4)).block, (ad141.add (((ji20)).toNat * 4)).off + 2, none⟩ = some (.int .i64 ((rd_T45 l0 (ji20)).f2)) ∧ w'.cell? ⟨(ad141.add (((ji20)).toNat * 4)).block, (ad141.add (((ji20)).toNat * 4)).off + 3, none⟩ = some (.int .i64 ((rd_T45 l0 (ji20)).f3)) ∧ w'.cell? (ad141.add (((ji20)).toNat * 4)) = some (.string ((rd_T45 l0 (ji20)).f0)) ∧ w'.cell? ⟨(ad141.add (((ji20)).toNat * 4)).block, (ad141.add (((ji20)).toNat * 4)).off + 1, none⟩ = some (.string ((rd_T45 l0 (ji20)).f1)) ∧ w'.cell? ⟨(ad141.add (((ji20)).toNat * 4)).block, (ad141.add (((ji20)).toNat * 4)).off + 2, none⟩ = some (.int .i64 ((rd_T45 l0 (ji20)).f2)) ∧ w'.cell? ⟨(ad141.add (((ji20)).toNat * 4)).block, (ad141.add (((ji20)).toNat * 4)).off + 3, none⟩ = some (.int .i64 ((rd_T45 l0 (ji20)).f3))) (ds := []) #[F, F, F, F, F, F, F, F, F, F, F, F, F, F, F, F, F, F, F, F, F, F, F, F, F] (by kernel_rfl) rfl rfl ⟨(blk_cell BK142.out 0).trans rfl, (blk_cell BK142.out 1).trans rfl, (blk_cell BK142.out 2).trans rfl, (blk_cell BK142.out 3).trans rfl, ((HB.out.cell (zB w _ hw144_0)).trans hw144_0), ((HB.out.cell (zB w _ hw144_1)).trans hw144_1), ((HB.out.cell (zB w _ hw144_2)).trans hw144_2), ((HB.out.cell (zB w _ hw144_3)).trans hw144_3), ((HB.out.cell (zB w _ hw146_0)).trans hw146_0), ((HB.out.cell (zB w _ hw146_1)).trans hw146_1), ((HB.out.cell (zB w _ hw146_2)).trans hw146_2), ((HB.out.cell (zB w _ hw146_3)).trans hw146_3)⟩ (fun hHeld => ?_); refine with_tabW snap_Valid.tab14 snap_Valid.bits14 (fun HT_ HW_ => ?_)
      generalize w34.drew = w35 at BK142 HB hx144_0 hx144_1 hx144_2 hx144_3 hx146_0 hx146_1 hx146_2 hx146_3 hHeld ⊢
      refine pure_ (i := 0) (N := some 30) (v := ?_) (a' := ?_) #[T, F, F, F, F, F, F, F, F, F, F, F, F, F, F, F, F, F, F, F, F, F, F, F, F] rfl rfl (any_of HT_.out (by kernel_rfl)) (fun _ _ _ h => h) (Or.inl ⟨by rfl, ?_⟩) ?_ ?_
      rotate_left
      ·intro w'; go_simp; with_reducible rfl
      rotate_left
      ·simp only [Act.put, zS, zZ, zC, i64_w, i32_w]
       rfl
      refine pure_ (i := 1) (N := some 31) (v := ?_) (a' := ?_) #[T, T, F, F, F, F, F, F, F, F, F, F, F, F, F, F, F, F, F, F, F, F, F, F, F] rfl rfl (any_of HT_.out (by kernel_rfl)) (fun _ _ _ h => h) (Or.inl ⟨by rfl, ?_⟩) ?_ ?_
      rotate_left
      ·intro w'; go_simp; with_reducible rfl
      rotate_left
      ·simp only [Act.put, zS, zZ, zC, i64_w, i32_w]
       rfl
      refine pure_ (i := 2) (N := some 32) (v := ?_) (a' := ?_) #[T, T, T, F, F, F, F, F, F, F, F, F, F, F, F, F, F, F, F, F, F, F, F, F, F] rfl rfl (any_of HT_.out (by kernel_rfl)) (fun _ _ _ h => h) (Or.inl ⟨by rfl, ?_⟩) ?_ ?_
      rotate_left
      ·intro w'; go_simp; with_reducible rfl
      rotate_left
      ·simp only [Act.put, zS, zZ, zC, i64_w, i32_w]
       rfl
      refine pure_ (i := 3) (N := some 33) (v := ?_) (a' := ?_) #[T, T, T, T, F, F, F, F, F, F, F, F, F, F, F, F, F, F, F, F, F, F, F, F, F] rfl rfl (any_of HT_.out (by kernel_rfl)) (fun _ _ _ h => h) (Or.inl ⟨by rfl, ?_⟩) ?_ ?_
      rotate_left
      ·intro w'; go_simp; with_reducible rfl
      rotate_left
      ·simp only [Act.put, zS, zZ, zC, i64_w, i32_w]
       rfl
      refine pure_ (i := 4) (N := some 34) (v := ?_) (a' := ?_) #[T, T, T, T, T, F, F, F, F, F, F, F, F, F, F, F, F, F, F, F, F, F, F, F, F] rfl rfl (any_of HT_.out (by kernel_rfl)) (fun _ _ _ h => h) (Or.inl ⟨by rfl, ?_⟩) ?_ ?_
      rotate_left
      ·intro w'; go_simp; with_reducible rfl
      rotate_left
      ·simp only [Act.put, zS, zZ, zC, i64_w, i32_w]
       rfl
      refine pure_ (i := 5) (N := some 35) (v := ?_) (a' := ?_) #[T, T, T, T, T, T, F, F, F, F, F, F, F, F, F, F, F, F, F, F, F, F, F, F, F] rfl rfl (any_of HT_.out (by kernel_rfl)) (fun _ _ _ h => h) (Or.inl ⟨by rfl, ?_⟩) ?_ ?_
      rotate_left
      ·intro w'; go_simp; with_reducible rfl
      rotate_left
      ·simp only [Act.put, zS, zZ, zC, i64_w, i32_w]
       rfl
      refine pure_ (i := 6) (N := some 36) (v := ?_) (a' := ?_) #[T, T, T, T, T, T, T, F, F, F, F, F, F, F, F, F, F, F, F, F, F, F, F, F, F] rfl rfl (any_of HT_.out (by kernel_rfl)) (fun _ _ _ h => h) (Or.inl ⟨by rfl, ?_⟩) ?_ ?_
      rotate_left
      ·intro w'; go_simp; with_reducible rfl
      rotate_left
      ·simp only [Act.put, zS, zZ, zC, i64_w, i32_w]
       rfl
      refine pure_ (i := 7) (N := some 37) (v := ?_) (a' := ?_) #[T, T, T, T, T, T, T, T, F, F, F, F, F, F, F, F, F, F, F, F, F, F, F, F, F] rfl rfl (any_of HT_.out (by kernel_rfl)) (fun _ _ _ h => h) (Or.inl ⟨by rfl, ?_⟩) ?_ ?_
      rotate_left
      ·intro w'; go_simp; with_reducible rfl
      rotate_left
      ·simp only [Act.put, zS, zZ, zC, i64_w, i32_w]
       rfl
      refine pure_ (i := 9) (N := some 39) (v := ?_) (a' := ?_) #[T, T, T, T, T, T, T, T, F, T, F, F, F, F, F, F, F, F, F, F, F, F, F, F, F] rfl rfl (any_of HT_.out (by kernel_rfl)) (fun _ _ _ h => h) (Or.inl ⟨by rfl, ?_⟩) ?_ ?_
      rotate_left
      ·intro w'; go_simp; with_reducible rfl
      rotate_left
      ·simp only [Act.put, zS, zZ, zC, i64_w, i32_w]
       rfl
      refine take_ (i := 8) (N := some 38) (v := ?_) (a' := ?_) #[T, T, T, T, T, T, T, T, T, T, F, F, F, F, F, F, F, F, F, F, F, F, F, F, F] rfl rfl (take_ofW HT_.out HW_.out (by kernel_rfl)) (fun _ _ _ h => h) (Or.inl ⟨by rfl, ?_⟩) hHeld ?_ ?_
      rotate_left
      ·rintro w' ⟨s0, s1, s2, s3, s4, s5, s6, s7, s8, s9, s10, s11⟩
       go_simp; with_reducible rfl
      rotate_left
      ·simp only [Act.put, zS, zZ, zC, i64_w, i32_w]
       rfl
      refine take_ (i := 10) (N := some 40) (v := ?_) (a' := ?_) #[T, T, T, T, T, T, T, T, T, T, T, F, F, F, F, F, F, F, F, F, F, F, F, F, F] rfl rfl (take_ofW HT_.out HW_.out (by kernel_rfl)) (fun _ _ _ h => h) (Or.inl ⟨by rfl, ?_⟩) hHeld ?_ ?_
      rotate_left
      ·rintro w' ⟨s0, s1, s2, s3, s4, s5, s6, s7, s8, s9, s10, s11⟩
       go_simp; with_reducible rfl
      rotate_left
      ·simp only [Act.put, zS, zZ, zC, i64_w, i32_w]
       rfl
      refine one_ (i := 11) (N := some 41) #[T, T, T, T, T, T, T, T, T, T, T, T, F, F, F, F, F, F, F, F, F, F, F, F, F] rfl rfl (one_of HT_.out (by kernel_rfl)) (by decide) (fun K hK => ?_)
      refine goes_ Tryd.func36 (by kernel_rfl) rfl #[.string ((rd_T45 l0 (ji20)).f0), .string ((rd_T45 l0 x22_2).f0)] (by rfl) rfl rfl (by (try simp only [List.map_toArray, List.map_cons, List.map_nil]); first | done | (simp only [hji20]; rfl) | rfl | (simp only [List.length_drop, List.length_take]; rfl)) ?_
      with_reducible refine (path_Cmp.calls k2 ((rd_T45 l0 (ji20)).f0) ((rd_T45 l0 x22_2).f0) t145 _ A23.out).mono ?_
      rintro e w36 ⟨rfl, hb⟩
      refine ⟨_, rfl, ?_⟩
      have n0_ := zA (blk_below (g := gb142) (o := .cells #[.string ((rd_T45 l0 x22_2).f0), .string ((rd_T45 l0 x22_2).f1), .int .i64 ((rd_T45 l0 x22_2).f2), .int .i64 ((rd_T45 l0 x22_2).f3)] 45 (0, 0)) (by (with_reducible repeat (first | refine blk_drewN ?_ _ | refine blk_drew ?_ | refine blk_alloc ?_ _)); exact BK142.out) hb)
      have n1_ := zA (below_step (by repeat (first | (with_reducible first | exact HB.out | apply zL | apply zN | apply zD | refine below_set ?_ GE142.out) | exact HB.out)) hb)
      clear BK142; clear HB; have BK142 := n0_; have HB := n1_; clear n0_ n1_
      (try clear hb)
      (try clear hb2)
      (try clear hk)
      (try clear hi)
      refine hK.out _ _ ⟨(blk_cell BK142.out 0).trans rfl, (blk_cell BK142.out 1).trans rfl, (blk_cell BK142.out 2).trans rfl, (blk_cell BK142.out 3).trans rfl, ((HB.out.cell (zB w _ hw144_0)).trans hw144_0), ((HB.out.cell (zB w _ hw144_1)).trans hw144_1), ((HB.out.cell (zB w _ hw144_2)).trans hw144_2), ((HB.out.cell (zB w _ hw144_3)).trans hw144_3), ((HB.out.cell (zB w _ hw146_0)).trans hw146_0), ((HB.out.cell (zB w _ hw146_1)).trans hw146_1), ((HB.out.cell (zB w _ hw146_2)).trans hw146_2), ((HB.out.cell (zB w _ hw146_3)).trans hw146_3)⟩ (fun hHeld => ?_)
      clear hK K
      refine norm_ (a' := ?_) ?_ ?_
      rotate_left
      ·show Act.put _ (some 41) _ = _
       simp only [Act.put, zS, zZ, zC, i64_w, i32_w]
       rfl
      refine pure_ (i := 12) (N := some 42) (v := ?_) (a' := ?_) #[T, T, T, T, T, T, T, T, T, T, T, T, T, F, F, F, F, F, F, F, F, F, F, F, F] rfl rfl (any_of HT_.out (by kernel_rfl)) (fun _ _ _ h => h) (Or.inl ⟨by rfl, ?_⟩) ?_ ?_
      rotate_left
      ·intro w'; go_simp; with_reducible rfl
      rotate_left
      ·simp only [Act.put, zS, zZ, zC, i64_w, i32_w]
       rfl
      refine pure_ (i := 13) (N := some 43) (v := ?_) (a' := ?_) #[T, T, T, T, T, T, T, T, T, T, T, T, T, T, F, F, F, F, F, F, F, F, F, F, F] rfl rfl (any_of HT_.out (by kernel_rfl)) (fun _ _ _ h => h) (Or.inl ⟨by rfl, ?_⟩) ?_ ?_
      rotate_left
      ·intro w'; go_simp; with_reducible rfl
      rotate_left
      ·simp only [Act.put, zS, zZ, zC, i64_w, i32_w]
       rfl
      refine pure_ (i := 14) (N := some 44) (v := ?_) (a' := ?_) #[T, T, T, T, T, T, T, T, T, T, T, T, T, T, T, F, F, F, F, F, F, F, F, F, F] rfl rfl (any_of HT_.out (by kernel_rfl)) (fun _ _ _ h => h) (Or.inl ⟨by rfl, ?_⟩) ?_ ?_
      rotate_left
      ·intro w'; go_simp; with_reducible rfl
      rotate_left
      ·simp only [Act.put, zS, zZ, zC, i64_w, i32_w]
       rfl
      refine pure_ (i := 15) (N := some 45) (v := ?_) (a' := ?_) #[T, T, T, T, T, T, T, T, T, T, T, T, T, T, T, T, F, F, F, F, F, F, F, F, F] rfl rfl (any_of HT_.out (by kernel_rfl)) (fun _ _ _ h => h) (Or.inl ⟨by rfl, ?_⟩) ?_ ?_
      rotate_left
      ·intro w'; go_simp; with_reducible rfl
      rotate_left
      ·simp only [Act.put, zS, zZ, zC, i64_w, i32_w]
       rfl
      refine pure_ (i := 16) (N := some 46) (v := ?_) (a' := ?_) #[T, T, T, T, T, T, T, T, T, T, T, T, T, T, T, T, T, F, F, F, F, F, F, F, F] rfl rfl (any_of HT_.out (by kernel_rfl)) (fun _ _ _ h => h) (Or.inl ⟨by rfl, ?_⟩) ?_ ?_
      rotate_left
      ·intro w'; go_simp; with_reducible rfl
      rotate_left
      ·simp only [Act.put, zS, zZ, zC, i64_w, i32_w]
       rfl
      refine pure_ (i := 17) (N := some 47) (v := ?_) (a' := ?_) #[T, T, T, T, T, T, T, T, T, T, T, T, T, T, T, T, T, T, F, F, F, F, F, F, F] rfl rfl (any_of HT_.out (by kernel_rfl)) (fun _ _ _ h => h) (Or.inl ⟨by rfl, ?_⟩) ?_ ?_
      rotate_left
      ·intro w'; go_simp; with_reducible rfl
      rotate_left
      ·simp only [Act.put, zS, zZ, zC, i64_w, i32_w]
       rfl
      refine pure_ (i := 18) (N := some 48) (v := ?_) (a' := ?_) #[T, T, T, T, T, T, T, T, T, T, T, T, T, T, T, T, T, T, T, F, F, F, F, F, F] rfl rfl (any_of HT_.out (by kernel_rfl)) (fun _ _ _ h => h) (Or.inl ⟨by rfl, ?_⟩) ?_ ?_
      rotate_left
      ·intro w'; go_simp; with_reducible rfl
      rotate_left
      ·simp only [Act.put, zS, zZ, zC, i64_w, i32_w]
       rfl
      refine pure_ (i := 20) (N := some 50) (v := ?_) (a' := ?_) #[T, T, T, T, T, T, T, T, T, T, T, T, T, T, T, T, T, T, T, F, T, F, F, F, F] rfl rfl (any_of HT_.out (by kernel_rfl)) (fun _ _ _ h => h) (Or.inl ⟨by rfl, ?_⟩) ?_ ?_
      rotate_left
      ·intro w'; go_simp; with_reducible rfl
      rotate_left
      ·simp only [Act.put, zS, zZ, zC, i64_w, i32_w]
       rfl
      refine take_ (i := 19) (N := some 49) (v := ?_) (a' := ?_) #[T, T, T, T, T, T, T, T, T, T, T, T, T, T, T, T, T, T, T, T, T, F, F, F, F] rfl rfl (take_ofW HT_.out HW_.out (by kernel_rfl)) (fun _ _ _ h => h) (Or.inl ⟨by rfl, ?_⟩) hHeld ?_ ?_
      rotate_left
      ·rintro w' ⟨s0, s1, s2, s3, s4, s5, s6, s7, s8, s9, s10, s11⟩
       go_simp; with_reducible rfl
      rotate_left
      ·simp only [Act.put, zS, zZ, zC, i64_w, i32_w]
       rfl
      refine take_ (i := 21) (N := some 51) (v := ?_) (a' := ?_) #[T, T, T, T, T, T, T, T, T, T, T, T, T, T, T, T, T, T, T, T, T, T, F, F, F] rfl rfl (take_ofW HT_.out HW_.out (by kernel_rfl)) (fun _ _ _ h => h) (Or.inl ⟨by rfl, ?_⟩) hHeld ?_ ?_
      rotate_left
      ·rintro w' ⟨s0, s1, s2, s3, s4, s5, s6, s7, s8, s9, s10, s11⟩
       go_simp; with_reducible rfl
      rotate_left
      ·simp only [Act.put, zS, zZ, zC, i64_w, i32_w]
       rfl
      refine one_ (i := 22) (N := some 52) #[T, T, T, T, T, T, T, T, T, T, T, T, T, T, T, T, T, T, T, T, T, T, T, F, F] rfl rfl (one_of HT_.out (by kernel_rfl)) (by decide) (fun K hK => ?_)
      refine goes_ Tryd.func37 (by kernel_rfl) rfl #[.string ((rd_T45 l0 (ji20)).f0), .string ((rd_T45 l0 x22_2).f0)] (by rfl) rfl rfl (by (try simp only [List.map_toArray, List.map_cons, List.map_nil]); first | done | (simp only [hji20]; rfl) | rfl | (simp only [List.length_drop, List.length_take]; rfl)) ?_
      with_reducible refine (path_Above.calls ((rd_T45 l0 (ji20)).f0) ((rd_T45 l0 x22_2).f0) true _ A30.out).mono ?_
      rintro e w37 ⟨rfl, hb⟩
      refine ⟨_, rfl, ?_⟩
      have n0_ := zA (blk_below (g := gb142) (o := .cells #[.string ((rd_T45 l0 x22_2).f0), .string ((rd_T45 l0 x22_2).f1), .int .i64 ((rd_T45 l0 x22_2).f2), .int .i64 ((rd_T45 l0 x22_2).f3)] 45 (0, 0)) (by (with_reducible repeat (first | refine blk_drewN ?_ _ | refine blk_drew ?_ | refine blk_alloc ?_ _)); exact BK142.out) hb)
      have n1_ := zA (below_step (by repeat (first | (with_reducible first | exact HB.out | apply zL | apply zN | apply zD | refine below_set ?_ GE142.out) | exact HB.out)) hb)
      clear BK142; clear HB; have BK142 := n0_; have HB := n1_; clear n0_ n1_
      (try clear hb)
      (try clear hb2)
      (try clear hk)
      (try clear hi)
      refine hK.out _ _ ⟨(blk_cell BK142.out 0).trans rfl, (blk_cell BK142.out 1).trans rfl, (blk_cell BK142.out 2).trans rfl, (blk_cell BK142.out 3).trans rfl, ((HB.out.cell (zB w _ hw144_0)).trans hw144_0), ((HB.out.cell (zB w _ hw144_1)).trans hw144_1), ((HB.out.cell (zB w _ hw144_2)).trans hw144_2), ((HB.out.cell (zB w _ hw144_3)).trans hw144_3), ((HB.out.cell (zB w _ hw146_0)).trans hw146_0), ((HB.out.cell (zB w _ hw146_1)).trans hw146_1), ((HB.out.cell (zB w _ hw146_2)).trans hw146_2), ((HB.out.cell (zB w _ hw146_3)).trans hw146_3)⟩ (fun hHeld => ?_)
      clear hK K
      refine norm_ (a' := ?_) ?_ ?_
      rotate_left
      ·show Act.put _ (some 52) _ = _
       simp only [Act.put, zS, zZ, zC, i64_w, i32_w]
       rfl
      refine pure_ (i := 23) (N := some 53) (v := ?_) (a' := ?_) #[T, T, T, T, T, T, T, T, T, T, T, T, T, T, T, T, T, T, T, T, T, T, T, T, F] rfl rfl (any_of HT_.out (by kernel_rfl)) (fun _ _ _ h => h) (Or.inl ⟨by rfl, ?_⟩) ?_ ?_
      rotate_left
      ·intro w'; go_simp; with_reducible rfl
      rotate_left
      ·simp only [Act.put, zS, zZ, zC, i64_w, i32_w]
       rfl
      refine pure_ (i := 24) (N := some 54) (v := ?_) (a' := ?_) #[T, T, T, T, T, T, T, T, T, T, T, T, T, T, T, T, T, T, T, T, T, T, T, T, T] rfl rfl (any_of HT_.out (by kernel_rfl)) (fun _ _ _ h => h) (Or.inl ⟨by rfl, ?_⟩) ?_ ?_
      rotate_left
      ·intro w'; go_simp; with_reducible rfl
      rotate_left
      ·simp only [Act.put, zS, zZ, zC, i64_w, i32_w]
       rfl
      refine done_ (done_of HT_.out (by kernel_rfl)) ?_
      try go_wp2
      go_ret
      exact ⟨by first | rfl | (simp [errW_none, errW_some] <;> rfl) | (simp only [← hji20]; first | rfl | (simp [errW_none, errW_some] <;> rfl)) | (simp [*, errW_none, errW_some] <;> rfl), by repeat (first | (with_reducible first | exact HB.out | apply zL | apply zN | apply zD | refine below_set ?_ GE142.out) | exact HB.out)⟩
     replace c31 := Bool.eq_false_iff.mpr c31
     subst c31
     have H1 : (snap_Valid.l1 k2 l0 l0 (l0.length : Int) (wrap64 (x22_2 + 1))) = some r := by rw [if_neg (show ¬ (false = true) by decide)] at H; exact H
     clear H; have H := H1; clear H1
     have H' := zA H
     clear H
     have p141 : 0 ≤ (x22_2 : Int) := zO (by first | (with_reducible assumption) | assumption)
     have q141 : x22_2 < (l0.length : Int) := zO (by first | (with_reducible assumption) | assumption)
     obtain ⟨ad141, e141, hx141_0, hx141_1, hx141_2, hx141_3⟩ := at_T45 HR0.out x22_2 p141 q141
     cases e141
     replace hx141_0 := (HB.out.cell (zB w _ hx141_0)).trans hx141_0
     replace hx141_1 := (HB.out.cell (zB w _ hx141_1)).trans hx141_1
     replace hx141_2 := (HB.out.cell (zB w _ hx141_2)).trans hx141_2
     replace hx141_3 := (HB.out.cell (zB w _ hx141_3)).trans hx141_3
     replace p141 := eq_true p141
     replace q141 := eq_true q141
     try go_wp2_with (first | ((with_reducible refine gate_dst (N := 6) rfl ?_); refine box_event ?hg (N := 6) ?hd (cs := #[.string (⟨#[]⟩ : ByteArray), .string (⟨#[]⟩ : ByteArray), .int .i64 0, .int .i64 0]) (t := 45) ?hr ?_; (case hd => rfl); (case hg => rfl); (case hr => first | (go_simp; done) | (go_simp; rfl)); intro gb142 hg w38 hbox hb; have n0_ := zA (below_step (by repeat (first | (with_reducible first | exact HB.out | apply zL | apply zN | apply zD) | exact HB.out)) hb); have n1_ := zA (hbox); have n2_ := zA ((by rw [hg]; exact (below_size (by repeat (first | (with_reducible first | exact HB.out | apply zL | apply zN | apply zD) | exact HB.out))) : w.heap.size ≤ gb142)); have n3_ := zA ((by rw [hg]; exact (below_size (by repeat (first | (with_reducible first | exact HB.out | apply zL | apply zN | apply zD) | exact HB.out))) : w.heap.size ≤ gb142)); clear HB; have HB := n0_; have BK142 := n1_; have GW142 := n2_; have GE142 := n3_; clear n0_ n1_ n2_ n3_; clear hb hbox hg; have hcz39_0 : w38.cell? ⟨gb142, 0, none⟩ = some (.string (⟨#[]⟩ : ByteArray)) := (blk_cell BK142.out 0).trans rfl; have hcz39_1 : w38.cell? ⟨gb142, 1, none⟩ = some (.string (⟨#[]⟩ : ByteArray)) := (blk_cell BK142.out 1).trans rfl; have hcz39_2 : w38.cell? ⟨gb142, 2, none⟩ = some (.int .i64 0) := (blk_cell BK142.out 2).trans rfl; have hcz39_3 : w38.cell? ⟨gb142, 3, none⟩ = some (.int .i64 0) := (blk_cell BK142.out 3).trans rfl; have hfz39_0 := blk_frozen BK142.out 0; have hfz39_1 := blk_frozen BK142.out 1; have hfz39_2 := blk_frozen BK142.out 2; have hfz39_3 := blk_frozen BK142.out 3) | ((with_reducible refine gate_callee (f := 63) rfl ?_); refine goesL_ (some 28) rfl rfl Tryd.func63 (by kernel_rfl) rfl #[.agg #[.string ((rd_T45 l0 x22_2).f0), .string ((rd_T45 l0 x22_2).f1), .int .i64 ((rd_T45 l0 x22_2).f2), .int .i64 ((rd_T45 l0 x22_2).f3)]] rfl (by (try simp only [List.map_toArray, List.map_cons, List.map_nil]); first | done | rfl | (simp only [List.length_drop, List.length_take]; rfl)) ?_; (with_reducible refine (snap_File.calls k2 ((rd_T45 l0 x22_2).f0) ((rd_T45 l0 x22_2).f1) ((rd_T45 l0 x22_2).f2) ((rd_T45 l0 x22_2).f3) t143 _ A17.out).mono ?_); rintro e w40 ⟨rfl, hb⟩; refine ⟨_, rfl, ?_⟩; have n0_ := zA (blk_below (g := gb142) (o := .cells #[.string ((rd_T45 l0 x22_2).f0), .string ((rd_T45 l0 x22_2).f1), .int .i64 ((rd_T45 l0 x22_2).f2), .int .i64 ((rd_T45 l0 x22_2).f3)] 45 (0, 0)) (by (with_reducible repeat (first | refine blk_drewN ?_ _ | refine blk_drew ?_ | refine blk_alloc ?_ _)); refine blk_put (cs := #[.string ((rd_T45 l0 x22_2).f0), .string ((rd_T45 l0 x22_2).f1), .int .i64 ((rd_T45 l0 x22_2).f2), .int .i64 0]) ?_ 3 _ rfl; (with_reducible repeat (first | refine blk_drewN ?_ _ | refine blk_drew ?_ | refine blk_alloc ?_ _)); refine blk_put (cs := #[.string ((rd_T45 l0 x22_2).f0), .string ((rd_T45 l0 x22_2).f1), .int .i64 0, .int .i64 0]) ?_ 2 _ rfl; (with_reducible repeat (first | refine blk_drewN ?_ _ | refine blk_drew ?_ | refine blk_alloc ?_ _)); refine blk_put (cs := #[.string ((rd_T45 l0 x22_2).f0), .string (⟨#[]⟩ : ByteArray), .int .i64 0, .int .i64 0]) ?_ 1 _ rfl; (with_reducible repeat (first | refine blk_drewN ?_ _ | refine blk_drew ?_ | refine blk_alloc ?_ _)); refine blk_put (cs := #[.string (⟨#[]⟩ : ByteArray), .string (⟨#[]⟩ : ByteArray), .int .i64 0, .int .i64 0]) ?_ 0 _ rfl; (with_reducible repeat (first | refine blk_drewN ?_ _ | refine blk_drew ?_ | refine blk_alloc ?_ _)); exact BK142.out) hb); have n1_ := zA (below_step (by repeat (first | (with_reducible first | exact HB.out | apply zL | apply zN | apply zD | refine below_set ?_ GE142.out) | exact HB.out)) hb); clear BK142; clear HB; have BK142 := n0_; have HB := n1_; clear n0_ n1_; (try clear hb); (try clear hb2); (try clear hk); (try clear hi)))
     have n0_ := zA (blk_drew BK142.out)
     have n1_ := zA (zD HB.out)
     clear BK142; clear HB; have BK142 := n0_; have HB := n1_; clear n0_ n1_
     have p144 : 0 ≤ ((ji20) : Int) := zO (by first | (with_reducible assumption) | assumption)
     have q144 : (ji20) < (l0.length : Int) := zO (by first | (with_reducible assumption) | assumption)
     obtain ⟨ad144, e144, hx144_0, hx144_1, hx144_2, hx144_3⟩ := at_T45 HR0.out (ji20) p144 q144
     have hw144_3 := hx144_3; have hw144_2 := hx144_2; have hw144_1 := hx144_1; have hw144_0 := hx144_0
     obtain rfl : ad141 = ad144 := (by injection e144)
     replace hx144_0 := (HB.out.cell (zB w _ hx144_0)).trans hx144_0
     replace hx144_1 := (HB.out.cell (zB w _ hx144_1)).trans hx144_1
     replace hx144_2 := (HB.out.cell (zB w _ hx144_2)).trans hx144_2
     replace hx144_3 := (HB.out.cell (zB w _ hx144_3)).trans hx144_3
     replace p144 := eq_true p144
     replace q144 := eq_true q144
     have p146 : 0 ≤ ((ji20) : Int) := zO (by first | (with_reducible assumption) | assumption)
     have q146 : (ji20) < (l0.length : Int) := zO (by first | (with_reducible assumption) | assumption)
     obtain ⟨ad146, e146, hx146_0, hx146_1, hx146_2, hx146_3⟩ := at_T45 HR0.out (ji20) p146 q146
     have hw146_3 := hx146_3; have hw146_2 := hx146_2; have hw146_1 := hx146_1; have hw146_0 := hx146_0
     obtain rfl : ad141 = ad146 := (by injection e146)
     replace hx146_0 := (HB.out.cell (zB w _ hx146_0)).trans hx146_0
     replace hx146_1 := (HB.out.cell (zB w _ hx146_1)).trans hx146_1
     replace hx146_2 := (HB.out.cell (zB w _ hx146_2)).trans hx146_2
     replace hx146_3 := (HB.out.cell (zB w _ hx146_3)).trans hx146_3
     replace p146 := eq_true p146
     replace q146 := eq_true q146
     refine start_ (n := 25) (S := fun w' => w'.cell? ⟨gb142, 0, none⟩ = some (.string ((rd_T45 l0 x22_2).f0)) ∧ w'.cell? ⟨gb142, 1, none⟩ = some (.string ((rd_T45 l0 x22_2).f1)) ∧ w'.cell? ⟨gb142, 2, none⟩ = some (.int .i64 ((rd_T45 l0 x22_2).f2)) ∧ w'.cell? ⟨gb142, 3, none⟩ = some (.int .i64 ((rd_T45 l0 x22_2).f3)) ∧ w'.cell? (ad141.add (((ji20)).toNat * 4)) = some (.string ((rd_T45 l0 (ji20)).f0)) ∧ w'.cell? ⟨(ad141.add (((ji20)).toNat * 4)).block, (ad141.add (((ji20)).toNat * 4)).off + 1, none⟩ = some (.string ((rd_T45 l0 (ji20)).f1)) ∧ w'.cell? ⟨(ad141.add (((ji20)).toNat * 4)).block, (ad141.add (((ji20)).toNat * 4)).off + 2, none⟩ = some (.int .i64 ((rd_T45 l0 (ji20)).f2)) ∧ w'.cell? ⟨(ad141.add (((ji20)).toNat * 4)).block, (ad141.add (((ji20)).toNat * 4)).off + 3, none⟩ = some (.int .i64 ((rd_T45 l0 (ji20)).f3)) ∧ w'.cell? (ad141.add (((ji20)).toNat * 4)) = some (.string ((rd_T45 l0 (ji20)).f0)) ∧ w'.cell? ⟨(ad141.add (((ji20)).toNat * 4)).block, (ad141.add (((ji20)).toNat * 4)).off + 1, none⟩ = some (.string ((rd_T45 l0 (ji20)).f1)) ∧ w'.cell? ⟨(ad141.add (((ji20)).toNat * 4)).block, (ad141.add (((ji20)).toNat * 4)).off + 2, none⟩ = some (.int .i64 ((rd_T45 l0 (ji20)).f2)) ∧ w'.cell? ⟨(ad141.add (((ji20)).toNat * 4)).block, (ad141.add (((ji20)).toNat * 4)).off + 3, none⟩ = some (.int .i64 ((rd_T45 l0 (ji20)).f3))) (ds := []) #[F, F, F, F, F, F, F, F, F, F, F, F, F, F, F, F, F, F, F, F, F, F, F, F, F] (by kernel_rfl) rfl rfl ⟨(blk_cell BK142.out 0).trans rfl, (blk_cell BK142.out 1).trans rfl, (blk_cell BK142.out 2).trans rfl, (blk_cell BK142.out 3).trans rfl, ((HB.out.cell (zB w _ hw144_0)).trans hw144_0), ((HB.out.cell (zB w _ hw144_1)).trans hw144_1), ((HB.out.cell (zB w _ hw144_2)).trans hw144_2), ((HB.out.cell (zB w _ hw144_3)).trans hw144_3), ((HB.out.cell (zB w _ hw146_0)).trans hw146_0), ((HB.out.cell (zB w _ hw146_1)).trans hw146_1), ((HB.out.cell (zB w _ hw146_2)).trans hw146_2), ((HB.out.cell (zB w _ hw146_3)).trans hw146_3)⟩ (fun hHeld => ?_); refine with_tabW snap_Valid.tab14 snap_Valid.bits14 (fun HT_ HW_ => ?_)
     generalize w40.drew = w41 at BK142 HB hx144_0 hx144_1 hx144_2 hx144_3 hx146_0 hx146_1 hx146_2 hx146_3 hHeld ⊢
     refine pure_ (i := 0) (N := some 30) (v := ?_) (a' := ?_) #[T, F, F, F, F, F, F, F, F, F, F, F, F, F, F, F, F, F, F, F, F, F, F, F, F] rfl rfl (any_of HT_.out (by kernel_rfl)) (fun _ _ _ h => h) (Or.inl ⟨by rfl, ?_⟩) ?_ ?_
     rotate_left
     ·intro w'; go_simp; with_reducible rfl
     rotate_left
     ·simp only [Act.put, zS, zZ, zC, i64_w, i32_w]
      rfl
     refine pure_ (i := 1) (N := some 31) (v := ?_) (a' := ?_) #[T, T, F, F, F, F, F, F, F, F, F, F, F, F, F, F, F, F, F, F, F, F, F, F, F] rfl rfl (any_of HT_.out (by kernel_rfl)) (fun _ _ _ h => h) (Or.inl ⟨by rfl, ?_⟩) ?_ ?_
     rotate_left
     ·intro w'; go_simp; with_reducible rfl
     rotate_left
     ·simp only [Act.put, zS, zZ, zC, i64_w, i32_w]
      rfl
     refine pure_ (i := 2) (N := some 32) (v := ?_) (a' := ?_) #[T, T, T, F, F, F, F, F, F, F, F, F, F, F, F, F, F, F, F, F, F, F, F, F, F] rfl rfl (any_of HT_.out (by kernel_rfl)) (fun _ _ _ h => h) (Or.inl ⟨by rfl, ?_⟩) ?_ ?_
     rotate_left
     ·intro w'; go_simp; with_reducible rfl
     rotate_left
     ·simp only [Act.put, zS, zZ, zC, i64_w, i32_w]
      rfl
     refine pure_ (i := 3) (N := some 33) (v := ?_) (a' := ?_) #[T, T, T, T, F, F, F, F, F, F, F, F, F, F, F, F, F, F, F, F, F, F, F, F, F] rfl rfl (any_of HT_.out (by kernel_rfl)) (fun _ _ _ h => h) (Or.inl ⟨by rfl, ?_⟩) ?_ ?_
     rotate_left
     ·intro w'; go_simp; with_reducible rfl
     rotate_left
     ·simp only [Act.put, zS, zZ, zC, i64_w, i32_w]
      rfl
     refine pure_ (i := 4) (N := some 34) (v := ?_) (a' := ?_) #[T, T, T, T, T, F, F, F, F, F, F, F, F, F, F, F, F, F, F, F, F, F, F, F, F] rfl rfl (any_of HT_.out (by kernel_rfl)) (fun _ _ _ h => h) (Or.inl ⟨by rfl, ?_⟩) ?_ ?_
     rotate_left
     ·intro w'; go_simp; with_reducible rfl
     rotate_left
     ·simp only [Act.put, zS, zZ, zC, i64_w, i32_w]
      rfl
     refine pure_ (i := 5) (N := some 35) (v := ?_) (a' := ?_) #[T, T, T, T, T, T, F, F, F, F, F, F, F, F, F, F, F, F, F, F, F, F, F, F, F] rfl rfl (any_of HT_.out (by kernel_rfl)) (fun _ _ _ h => h) (Or.inl ⟨by rfl, ?_⟩) ?_ ?_
     rotate_left
     ·intro w'; go_simp; with_reducible rfl
     rotate_left
     ·simp only [Act.put, zS, zZ, zC, i64_w, i32_w]
      rfl
     refine pure_ (i := 6) (N := some 36) (v := ?_) (a' := ?_) #[T, T, T, T, T, T, T, F, F, F, F, F, F, F, F, F, F, F, F, F, F, F, F, F, F] rfl rfl (any_of HT_.out (by kernel_rfl)) (fun _ _ _ h => h) (Or.inl ⟨by rfl, ?_⟩) ?_ ?_
     rotate_left
     ·intro w'; go_simp; with_reducible rfl
     rotate_left
     ·simp only [Act.put, zS, zZ, zC, i64_w, i32_w]
      rfl
     refine pure_ (i := 7) (N := some 37) (v := ?_) (a' := ?_) #[T, T, T, T, T, T, T, T, F, F, F, F, F, F, F, F, F, F, F, F, F, F, F, F, F] rfl rfl (any_of HT_.out (by kernel_rfl)) (fun _ _ _ h => h) (Or.inl ⟨by rfl, ?_⟩) ?_ ?_
     rotate_left
     ·intro w'; go_simp; with_reducible rfl
     rotate_left
     ·simp only [Act.put, zS, zZ, zC, i64_w, i32_w]
      rfl
     refine pure_ (i := 9) (N := some 39) (v := ?_) (a' := ?_) #[T, T, T, T, T, T, T, T, F, T, F, F, F, F, F, F, F, F, F, F, F, F, F, F, F] rfl rfl (any_of HT_.out (by kernel_rfl)) (fun _ _ _ h => h) (Or.inl ⟨by rfl, ?_⟩) ?_ ?_
     rotate_left
     ·intro w'; go_simp; with_reducible rfl
     rotate_left
     ·simp only [Act.put, zS, zZ, zC, i64_w, i32_w]
      rfl
     refine take_ (i := 8) (N := some 38) (v := ?_) (a' := ?_) #[T, T, T, T, T, T, T, T, T, T, F, F, F, F, F, F, F, F, F, F, F, F, F, F, F] rfl rfl (take_ofW HT_.out HW_.out (by kernel_rfl)) (fun _ _ _ h => h) (Or.inl ⟨by rfl, ?_⟩) hHeld ?_ ?_
     rotate_left
     ·rintro w' ⟨s0, s1, s2, s3, s4, s5, s6, s7, s8, s9, s10, s11⟩
      go_simp; with_reducible rfl
     rotate_left
     ·simp only [Act.put, zS, zZ, zC, i64_w, i32_w]
      rfl
     refine take_ (i := 10) (N := some 40) (v := ?_) (a' := ?_) #[T, T, T, T, T, T, T, T, T, T, T, F, F, F, F, F, F, F, F, F, F, F, F, F, F] rfl rfl (take_ofW HT_.out HW_.out (by kernel_rfl)) (fun _ _ _ h => h) (Or.inl ⟨by rfl, ?_⟩) hHeld ?_ ?_
     rotate_left
     ·rintro w' ⟨s0, s1, s2, s3, s4, s5, s6, s7, s8, s9, s10, s11⟩
      go_simp; with_reducible rfl
     rotate_left
     ·simp only [Act.put, zS, zZ, zC, i64_w, i32_w]
      rfl
     refine one_ (i := 11) (N := some 41) #[T, T, T, T, T, T, T, T, T, T, T, T, F, F, F, F, F, F, F, F, F, F, F, F, F] rfl rfl (one_of HT_.out (by kernel_rfl)) (by decide) (fun K hK => ?_)
     refine goes_ Tryd.func36 (by kernel_rfl) rfl #[.string ((rd_T45 l0 (ji20)).f0), .string ((rd_T45 l0 x22_2).f0)] (by rfl) rfl rfl (by (try simp only [List.map_toArray, List.map_cons, List.map_nil]); first | done | (simp only [hji20]; rfl) | rfl | (simp only [List.length_drop, List.length_take]; rfl)) ?_
     with_reducible refine (path_Cmp.calls k2 ((rd_T45 l0 (ji20)).f0) ((rd_T45 l0 x22_2).f0) t145 _ A23.out).mono ?_
     rintro e w42 ⟨rfl, hb⟩
     refine ⟨_, rfl, ?_⟩
     have n0_ := zA (blk_below (g := gb142) (o := .cells #[.string ((rd_T45 l0 x22_2).f0), .string ((rd_T45 l0 x22_2).f1), .int .i64 ((rd_T45 l0 x22_2).f2), .int .i64 ((rd_T45 l0 x22_2).f3)] 45 (0, 0)) (by (with_reducible repeat (first | refine blk_drewN ?_ _ | refine blk_drew ?_ | refine blk_alloc ?_ _)); exact BK142.out) hb)
     have n1_ := zA (below_step (by repeat (first | (with_reducible first | exact HB.out | apply zL | apply zN | apply zD | refine below_set ?_ GE142.out) | exact HB.out)) hb)
     clear BK142; clear HB; have BK142 := n0_; have HB := n1_; clear n0_ n1_
     (try clear hb)
     (try clear hb2)
     (try clear hk)
     (try clear hi)
     refine hK.out _ _ ⟨(blk_cell BK142.out 0).trans rfl, (blk_cell BK142.out 1).trans rfl, (blk_cell BK142.out 2).trans rfl, (blk_cell BK142.out 3).trans rfl, ((HB.out.cell (zB w _ hw144_0)).trans hw144_0), ((HB.out.cell (zB w _ hw144_1)).trans hw144_1), ((HB.out.cell (zB w _ hw144_2)).trans hw144_2), ((HB.out.cell (zB w _ hw144_3)).trans hw144_3), ((HB.out.cell (zB w _ hw146_0)).trans hw146_0), ((HB.out.cell (zB w _ hw146_1)).trans hw146_1), ((HB.out.cell (zB w _ hw146_2)).trans hw146_2), ((HB.out.cell (zB w _ hw146_3)).trans hw146_3)⟩ (fun hHeld => ?_)
     clear hK K
     refine norm_ (a' := ?_) ?_ ?_
     rotate_left
     ·show Act.put _ (some 41) _ = _
      simp only [Act.put, zS, zZ, zC, i64_w, i32_w]
      rfl
     refine pure_ (i := 12) (N := some 42) (v := ?_) (a' := ?_) #[T, T, T, T, T, T, T, T, T, T, T, T, T, F, F, F, F, F, F, F, F, F, F, F, F] rfl rfl (any_of HT_.out (by kernel_rfl)) (fun _ _ _ h => h) (Or.inl ⟨by rfl, ?_⟩) ?_ ?_
     rotate_left
     ·intro w'; go_simp; with_reducible rfl
     rotate_left
     ·simp only [Act.put, zS, zZ, zC, i64_w, i32_w]
      rfl
     refine pure_ (i := 13) (N := some 43) (v := ?_) (a' := ?_) #[T, T, T, T, T, T, T, T, T, T, T, T, T, T, F, F, F, F, F, F, F, F, F, F, F] rfl rfl (any_of HT_.out (by kernel_rfl)) (fun _ _ _ h => h) (Or.inl ⟨by rfl, ?_⟩) ?_ ?_
     rotate_left
     ·intro w'; go_simp; with_reducible rfl
     rotate_left
     ·simp only [Act.put, zS, zZ, zC, i64_w, i32_w]
      rfl
     refine pure_ (i := 14) (N := some 44) (v := ?_) (a' := ?_) #[T, T, T, T, T, T, T, T, T, T, T, T, T, T, T, F, F, F, F, F, F, F, F, F, F] rfl rfl (any_of HT_.out (by kernel_rfl)) (fun _ _ _ h => h) (Or.inl ⟨by rfl, ?_⟩) ?_ ?_
     rotate_left
     ·intro w'; go_simp; with_reducible rfl
     rotate_left
     ·simp only [Act.put, zS, zZ, zC, i64_w, i32_w]
      rfl
     refine pure_ (i := 15) (N := some 45) (v := ?_) (a' := ?_) #[T, T, T, T, T, T, T, T, T, T, T, T, T, T, T, T, F, F, F, F, F, F, F, F, F] rfl rfl (any_of HT_.out (by kernel_rfl)) (fun _ _ _ h => h) (Or.inl ⟨by rfl, ?_⟩) ?_ ?_
     rotate_left
     ·intro w'; go_simp; with_reducible rfl
     rotate_left
     ·simp only [Act.put, zS, zZ, zC, i64_w, i32_w]
      rfl
     refine pure_ (i := 16) (N := some 46) (v := ?_) (a' := ?_) #[T, T, T, T, T, T, T, T, T, T, T, T, T, T, T, T, T, F, F, F, F, F, F, F, F] rfl rfl (any_of HT_.out (by kernel_rfl)) (fun _ _ _ h => h) (Or.inl ⟨by rfl, ?_⟩) ?_ ?_
     rotate_left
     ·intro w'; go_simp; with_reducible rfl
     rotate_left
     ·simp only [Act.put, zS, zZ, zC, i64_w, i32_w]
      rfl
     refine pure_ (i := 17) (N := some 47) (v := ?_) (a' := ?_) #[T, T, T, T, T, T, T, T, T, T, T, T, T, T, T, T, T, T, F, F, F, F, F, F, F] rfl rfl (any_of HT_.out (by kernel_rfl)) (fun _ _ _ h => h) (Or.inl ⟨by rfl, ?_⟩) ?_ ?_
     rotate_left
     ·intro w'; go_simp; with_reducible rfl
     rotate_left
     ·simp only [Act.put, zS, zZ, zC, i64_w, i32_w]
      rfl
     refine pure_ (i := 18) (N := some 48) (v := ?_) (a' := ?_) #[T, T, T, T, T, T, T, T, T, T, T, T, T, T, T, T, T, T, T, F, F, F, F, F, F] rfl rfl (any_of HT_.out (by kernel_rfl)) (fun _ _ _ h => h) (Or.inl ⟨by rfl, ?_⟩) ?_ ?_
     rotate_left
     ·intro w'; go_simp; with_reducible rfl
     rotate_left
     ·simp only [Act.put, zS, zZ, zC, i64_w, i32_w]
      rfl
     refine pure_ (i := 20) (N := some 50) (v := ?_) (a' := ?_) #[T, T, T, T, T, T, T, T, T, T, T, T, T, T, T, T, T, T, T, F, T, F, F, F, F] rfl rfl (any_of HT_.out (by kernel_rfl)) (fun _ _ _ h => h) (Or.inl ⟨by rfl, ?_⟩) ?_ ?_
     rotate_left
     ·intro w'; go_simp; with_reducible rfl
     rotate_left
     ·simp only [Act.put, zS, zZ, zC, i64_w, i32_w]
      rfl
     refine take_ (i := 19) (N := some 49) (v := ?_) (a' := ?_) #[T, T, T, T, T, T, T, T, T, T, T, T, T, T, T, T, T, T, T, T, T, F, F, F, F] rfl rfl (take_ofW HT_.out HW_.out (by kernel_rfl)) (fun _ _ _ h => h) (Or.inl ⟨by rfl, ?_⟩) hHeld ?_ ?_
     rotate_left
     ·rintro w' ⟨s0, s1, s2, s3, s4, s5, s6, s7, s8, s9, s10, s11⟩
      go_simp; with_reducible rfl
     rotate_left
     ·simp only [Act.put, zS, zZ, zC, i64_w, i32_w]
      rfl
     refine take_ (i := 21) (N := some 51) (v := ?_) (a' := ?_) #[T, T, T, T, T, T, T, T, T, T, T, T, T, T, T, T, T, T, T, T, T, T, F, F, F] rfl rfl (take_ofW HT_.out HW_.out (by kernel_rfl)) (fun _ _ _ h => h) (Or.inl ⟨by rfl, ?_⟩) hHeld ?_ ?_
     rotate_left
     ·rintro w' ⟨s0, s1, s2, s3, s4, s5, s6, s7, s8, s9, s10, s11⟩
      go_simp; with_reducible rfl
     rotate_left
     ·simp only [Act.put, zS, zZ, zC, i64_w, i32_w]
      rfl
     refine one_ (i := 22) (N := some 52) #[T, T, T, T, T, T, T, T, T, T, T, T, T, T, T, T, T, T, T, T, T, T, T, F, F] rfl rfl (one_of HT_.out (by kernel_rfl)) (by decide) (fun K hK => ?_)
     refine goes_ Tryd.func37 (by kernel_rfl) rfl #[.string ((rd_T45 l0 (ji20)).f0), .string ((rd_T45 l0 x22_2).f0)] (by rfl) rfl rfl (by (try simp only [List.map_toArray, List.map_cons, List.map_nil]); first | done | (simp only [hji20]; rfl) | rfl | (simp only [List.length_drop, List.length_take]; rfl)) ?_
     with_reducible refine (path_Above.calls ((rd_T45 l0 (ji20)).f0) ((rd_T45 l0 x22_2).f0) false _ A30.out).mono ?_
     rintro e w43 ⟨rfl, hb⟩
     refine ⟨_, rfl, ?_⟩
     have n0_ := zA (blk_below (g := gb142) (o := .cells #[.string ((rd_T45 l0 x22_2).f0), .string ((rd_T45 l0 x22_2).f1), .int .i64 ((rd_T45 l0 x22_2).f2), .int .i64 ((rd_T45 l0 x22_2).f3)] 45 (0, 0)) (by (with_reducible repeat (first | refine blk_drewN ?_ _ | refine blk_drew ?_ | refine blk_alloc ?_ _)); exact BK142.out) hb)
     have n1_ := zA (below_step (by repeat (first | (with_reducible first | exact HB.out | apply zL | apply zN | apply zD | refine below_set ?_ GE142.out) | exact HB.out)) hb)
     clear BK142; clear HB; have BK142 := n0_; have HB := n1_; clear n0_ n1_
     (try clear hb)
     (try clear hb2)
     (try clear hk)
     (try clear hi)
     refine hK.out _ _ ⟨(blk_cell BK142.out 0).trans rfl, (blk_cell BK142.out 1).trans rfl, (blk_cell BK142.out 2).trans rfl, (blk_cell BK142.out 3).trans rfl, ((HB.out.cell (zB w _ hw144_0)).trans hw144_0), ((HB.out.cell (zB w _ hw144_1)).trans hw144_1), ((HB.out.cell (zB w _ hw144_2)).trans hw144_2), ((HB.out.cell (zB w _ hw144_3)).trans hw144_3), ((HB.out.cell (zB w _ hw146_0)).trans hw146_0), ((HB.out.cell (zB w _ hw146_1)).trans hw146_1), ((HB.out.cell (zB w _ hw146_2)).trans hw146_2), ((HB.out.cell (zB w _ hw146_3)).trans hw146_3)⟩ (fun hHeld => ?_)
     clear hK K
     refine norm_ (a' := ?_) ?_ ?_
     rotate_left
     ·show Act.put _ (some 52) _ = _
      simp only [Act.put, zS, zZ, zC, i64_w, i32_w]
      rfl
     refine pure_ (i := 23) (N := some 53) (v := ?_) (a' := ?_) #[T, T, T, T, T, T, T, T, T, T, T, T, T, T, T, T, T, T, T, T, T, T, T, T, F] rfl rfl (any_of HT_.out (by kernel_rfl)) (fun _ _ _ h => h) (Or.inl ⟨by rfl, ?_⟩) ?_ ?_
     rotate_left
     ·intro w'; go_simp; with_reducible rfl
     rotate_left
     ·simp only [Act.put, zS, zZ, zC, i64_w, i32_w]
      rfl
     refine pure_ (i := 24) (N := some 54) (v := ?_) (a' := ?_) #[T, T, T, T, T, T, T, T, T, T, T, T, T, T, T, T, T, T, T, T, T, T, T, T, T] rfl rfl (any_of HT_.out (by kernel_rfl)) (fun _ _ _ h => h) (Or.inl ⟨by rfl, ?_⟩) ?_ ?_
     rotate_left
     ·intro w'; go_simp; with_reducible rfl
     rotate_left
     ·simp only [Act.put, zS, zZ, zC, i64_w, i32_w]
      rfl
     refine done_ (done_of HT_.out (by kernel_rfl)) ?_
     try go_wp2
     go_roundg k2
     case measure => have := HK1.out; have := HK2.out; omega
     case rel => exact ⟨(wrap64 (x22_2 + 1)), (by first | rfl | (simp; done) | (simp [*]; done)), H', ⟨by have := HK1.out; have := HK2.out; omega⟩, ⟨by repeat (first | (with_reducible first | exact HB.out | apply zL | apply zN | apply zD | refine below_set ?_ GE142.out) | exact HB.out)⟩⟩
def path_Dir.f (k : Nat) (a0 : ByteArray) : Option (ByteArray) := (strings_LastIndexByte.f k a0 47).bind fun t148 => (if 0 ≤ (mx 0 t148) then (if (mx 0 t148) ≤ (a0.size : Int) then (some (a0.extract 0 ((mx 0 t148) : Int).toNat)) else (none)) else (none))
theorem path_Dir.mono : ∀ a0 k, LeO (path_Dir.f k a0) (path_Dir.f (k + 1) a0) := by
 intro a0 k
 unfold path_Dir.f
 repeat' first
   | (with_reducible exact strings_LastIndexByte.mono _ _ _)
   | (with_reducible exact LeO.refl _)
   | (with_reducible exact LeO.none _)
   | (with_reducible refine LeO.ite ?_ ?_)
   | (with_reducible refine LeO.bind ?_ (fun _ => ?_))
   | exact strings_LastIndexByte.mono _ _ _
   | exact LeO.none _
   | refine LeO.ite ?_ ?_
   | refine LeO.bind ?_ (fun _ => ?_)
set_option maxHeartbeats 8000000 in
set_option maxRecDepth 100000 in
theorem path_Dir.calls (k : Nat) (a0 : ByteArray) (r : ByteArray) (w : World) (h : path_Dir.f k a0 = some r) :
  Calls Tryd.prog 46 #[.string a0] w fun e w' => e = .returned (.string r) ∧ Below w.heap.size w w' := by
 have HB := zA (Below.refl w.heap.size w)
 have H : ((strings_LastIndexByte.f k a0 47).bind fun t148 => (if 0 ≤ (mx 0 t148) then (if (mx 0 t148) ≤ (a0.size : Int) then (some (a0.extract 0 ((mx 0 t148) : Int).toNat)) else (none)) else (none))) = some r := h
 clear h; replace H := Option.bind_eq_some_iff.mp H; obtain ⟨t148, A20, H⟩ := H
 replace H : (if 0 ≤ (mx 0 t148) then (if (mx 0 t148) ≤ (a0.size : Int) then (some (a0.extract 0 ((mx 0 t148) : Int).toNat)) else (none)) else (none)) = some r := H
 have A2 := zA A20; clear A20
 obtain ⟨ji3, hji3⟩ : ∃ j_ : Int, (mx 0 t148) = j_ := ⟨_, rfl⟩
 replace H : (if 0 ≤ (ji3) then (if (ji3) ≤ (a0.size : Int) then (some (a0.extract 0 ((ji3) : Int).toNat)) else (none)) else (none)) = some r := by first | (rw [hji3] at H; exact H) | (simp only [hji3] at H ⊢; exact H)
 (try rw [hji3] at A2)
 (try (have hji3l : 0 ≤ ji3 := by (rw [← hji3]; unfold mx; (repeat' split) <;> omega)))
 (try (have hji3m : 0 ≤ ji3 := by omega))
 have hji3_ : (if 0 < t148 then t148 else 0) = ji3 := hji3
 by_cases c4 : 0 ≤ (ji3)
 rotate_left
 ·rw [if_neg c4] at H
  exact absurd H (by simp)
 rw [if_pos c4] at H
 have c4b0 := eq_true c4
 have c4b1 : decide (0 ≤ (ji3)) = true := decide_eq_true c4
 clear c4
 by_cases c5 : (ji3) ≤ (a0.size : Int)
 rotate_left
 ·rw [if_neg c5] at H
  exact absurd H (by simp)
 rw [if_pos c5] at H
 have c5b0 := eq_true c5
 have c5b1 : decide ((ji3) ≤ (a0.size : Int)) = true := decide_eq_true c5
 clear c5; obtain rfl := Option.some.inj H
 go_enter Tryd.func46, Tryd.ntmps46
 go_wp2_with (first | ((with_reducible refine gate_callee (f := 70) rfl ?_); refine goesL_ (some 5) rfl rfl Tryd.func70 (by kernel_rfl) rfl #[.string a0, .int .u8 47] rfl (by (try simp only [List.map_toArray, List.map_cons, List.map_nil]); first | done | rfl | (simp only [List.length_drop, List.length_take]; rfl)) ?_; (with_reducible refine (strings_LastIndexByte.calls k a0 47 t148 _ A2.out).mono ?_); rintro e w' ⟨rfl, ⟨nd, rfl⟩⟩; refine ⟨_, rfl, ?_⟩))
 go_ret
 exact ⟨by first | rfl | (simp [errW_none, errW_some] <;> rfl) | (simp only [← hji3]; first | rfl | (simp [errW_none, errW_some] <;> rfl)) | (simp [*, errW_none, errW_some] <;> rfl), by repeat (first | (with_reducible first | exact HB.out | apply zL | apply zN | apply zD) | exact HB.out)⟩
open Go.Proofs.YtnfolcefjkannaaDoor.TrieM (hi64 lo64)
theorem hi64_range (n : Nat) (h : n < 340282366920938463463374607431768211456) : 0 ≤ hi64 n ∧ hi64 n ≤ 18446744073709551615 := by unfold hi64; omega
theorem lo64_range (n : Nat) : 0 ≤ lo64 n ∧ lo64 n ≤ 18446744073709551615 := by unfold lo64; omega
theorem add64_run (x y : Int) (hx : 0 ≤ x) (hy : 0 ≤ y) (w : World) :
  (callFunc 95 #[.int .u64 x, .int .u64 y, .int .u64 0]).run Tryd.prog w =
   .ok (.value (.tuple #[.int .u64 ((x + y + 0) % 18446744073709551616), .int .u64 ((x + y + 0) / 18446744073709551616)])) w := by
 have h := run_add64 (P := Tryd.prog) x y 0 hx hy (by omega) (by omega) w
 rw [run_callFunc_extern Tryd.func95 (by kernel_rfl) (by kernel_rfl) (by kernel_rfl) (e := add64Entry) (by kernel_rfl), h]
 simp only [Result.andThen]
theorem plus_lo (s n : Nat) : (lo64 s + (n : Int) + 0) % 18446744073709551616 = lo64 (s + n) := by unfold lo64; omega
theorem plus_hi (s n : Nat) (_hs : s < 170141183460469231731687303715884105728) (_hn : n < 9223372036854775808) : IntKind.u64.wrap (hi64 s + (lo64 s + (n : Int) + 0) / 18446744073709551616) = hi64 (s + n) := by
 have h : hi64 s + (lo64 s + (n : Int) + 0) / 18446744073709551616 = hi64 (s + n) := by unfold lo64 hi64; omega
 rw [h]
 have := hi64_range (s + n) (by omega)
 simp only [IntKind.wrap, IntKind.bits, IntKind.signed]
 simp
 omega
set_option maxHeartbeats 1000000 in
set_option maxRecDepth 100000 in
theorem plus_calls (s n : Nat) (hs : s < 170141183460469231731687303715884105728) (hn : n < 9223372036854775808) (w : World) :
  Calls Tryd.prog 83 #[.agg #[.int .u64 (hi64 s), .int .u64 (lo64 s)], .int .i64 (n : Int)] w fun e w' => e = .returned (.agg #[.int .u64 (hi64 (s + n)), .int .u64 (lo64 (s + n))]) ∧ Below w.heap.size w w' := by
 have hw : IntKind.u64.wrap (n : Int) = (n : Int) := by simp only [IntKind.wrap, IntKind.bits, IntKind.signed]; simp; omega
 obtain ⟨c, hc⟩ : ∃ c : Int, c = (lo64 s + (n : Int) + 0) / 18446744073709551616 := ⟨_, rfl⟩
 have hadd : ∀ W : World, (callFunc 95 #[.int .u64 (lo64 s), .int .u64 (IntKind.u64.wrap (n : Int)), .int .u64 0]).run Tryd.prog W = .ok (.value (.tuple #[.int .u64 (lo64 (s + n)), .int .u64 c])) W := fun W => by
  rw [hw, add64_run _ _ (lo64_range s).1 (by omega), plus_lo, hc]
 have hsum : IntKind.u64.wrap (hi64 s + c) = hi64 (s + n) := by rw [hc]; exact plus_hi s n hs hn
 clear hw hc hs hn
 go_enter Tryd.func83, Tryd.ntmps83
 go_wp2
 exact bodyPost_ret (v := .agg #[.int .u64 (hi64 (s + n)), .int .u64 (lo64 (s + n))]) (by simp [results, Tryd.results83, go_sem]) rfl ⟨rfl, zL (zL (Below.refl _ _) _) _⟩
end Go.Proofs.YtnfolcefjkannaaDoor.G
namespace Go.Proofs.YtnfolcefjkannaaDoor.G
open Go.RowKit Go.Proofs.YtnfolcefjkannaaDoorW.PrintWords Go.Proofs.YtnfolcefjkannaaDoorW.PrintLast Go.Proofs.YtnfolcefjkannaaDoorW.PrintMore
attribute [local go_sem] max2_int min2_int max_two min_two max_three min_three max_four min_four
set_option linter.unusedVariables false
set_option linter.unusedSimpArgs false
open Go.Proofs.YtnfolcefjkannaaDoor.TrieM (hi64 lo64 dirCells)
open Go.Proofs.YtnfolcefjkannaaDoor.Wl in
set_option maxHeartbeats 1000000 in
set_option maxRecDepth 100000 in
theorem count_calls (dp fp b s n d f o : Nat) (c : Int) (hs : s < 170141183460469231731687303715884105728) (hn : n < 9223372036854775808) (w : World)
  (hd : w.cell? ⟨dp, 0, none⟩ = some (.pointer (some ⟨b, 0, none⟩))) (hf : w.cell? ⟨fp, 3, none⟩ = some (.int .i64 (n : Int)))
  (hb : w.heap[b]? = some (.cells (dirCells d f c s o) 100 (0, 0))) (h1 : dp ≠ b) (h2 : fp ≠ b) :
  Calls Tryd.prog 82 #[.pointer (some ⟨dp, 0, none⟩), .pointer (some ⟨fp, 0, none⟩)] w fun e w' => e = .returned (.tuple #[]) ∧
   w'.heap[b]? = some (.cells (dirCells d f (wrap64 (c + 1)) (s + n) o) 100 (0, 0)) ∧ w.grownBy w' (some b) := by
 unfold dirCells at hb ⊢
 obtain ⟨m1, hm1⟩ : ∃ v : Value, v = .map (some d) := ⟨_, rfl⟩
 obtain ⟨m2, hm2⟩ : ∃ v : Value, v = .map (some f) := ⟨_, rfl⟩
 obtain ⟨o1, ho1⟩ : ∃ v : Value, v = .int .u64 (hi64 o) := ⟨_, rfl⟩
 obtain ⟨o2, ho2⟩ : ∃ v : Value, v = .int .u64 (lo64 o) := ⟨_, rfl⟩
 rw [← hm1, ← hm2, ← ho1, ← ho2] at hb ⊢
 clear hm1 hm2 ho1 ho2
 have H := blkCells (cs := [m1, m2, .int .i64 c, .int .u64 (hi64 s), .int .u64 (lo64 s), o1, o2]) hb
 obtain ⟨b2, f2⟩ := H 2 _ rfl
 obtain ⟨b3, f3⟩ := H 3 _ rfl
 obtain ⟨b4, f4⟩ := H 4 _ rfl
 have HB := zA hb; clear hb H
 go_enter Tryd.func82, Tryd.ntmps82
 go_wp2
 obtain ⟨W1, hW1⟩ : ∃ W1, W1 = w.setCell ⟨b, 2, none⟩ (.int .i64 (wrap64 (c + 1))) := ⟨_, rfl⟩
 have g1 : w.grownBy W1 (some b) := by rw [hW1]; exact grownSet w ⟨b, 2, none⟩ _
 have d1 := cellGrown g1 hd (by simpa using h1)
 have e1 := cellGrown g1 hf (by simpa using h2)
 have hb1 : W1.heap[b]? = some (.cells #[m1, m2, .int .i64 (wrap64 (c + 1)), .int .u64 (hi64 s), .int .u64 (lo64 s), o1, o2] 100 (0, 0)) := by
  rw [hW1]; exact heapAt HB.out _
 rw [← hW1]
 have HB1 := zA hb1; have G1 := zA g1
 have H := blkCells (cs := [m1, m2, .int .i64 (wrap64 (c + 1)), .int .u64 (hi64 s), .int .u64 (lo64 s), o1, o2]) hb1
 obtain ⟨x3, y3⟩ := H 3 _ rfl
 obtain ⟨x4, y4⟩ := H 4 _ rfl
 clear H hb1 g1 hW1 b2 b3 b4 f2 f3 f4 hd hf HB
 go_region_with (first | (go_at_call 83; refine (plus_calls s n hs hn _).mono ?_; rintro e w2 ⟨rfl, hbel⟩; have q0 := cellBelow hbel d1; have q3 := cellBelow hbel x3; have q4 := cellBelow hbel x4; have p3 := frozenBelow hbel x3 y3; have p4 := frozenBelow hbel x4 y4))
 all_goals
  go_end0
  exact ⟨rfl, heapAt (heapAt (heapBelow hbel HB1.out) _) _, ((((grownDrew G1.out).trans (grownOfBelow hbel (some b))).trans (grownSet w2 ⟨b, 3, none⟩ _))).trans (grownSet _ ⟨b, 4, none⟩ _)⟩
end Go.Proofs.YtnfolcefjkannaaDoor.G
namespace Go.Proofs.YtnfolcefjkannaaDoor.G
open Go.RowKit Go.Proofs.YtnfolcefjkannaaDoorW.PrintWords Go.Proofs.YtnfolcefjkannaaDoorW.PrintLast Go.Proofs.YtnfolcefjkannaaDoorW.PrintMore
attribute [local go_sem] max2_int min2_int max_two min_two max_three min_three max_four min_four
set_option linter.unusedVariables false
set_option linter.unusedSimpArgs false
open Go.Proofs.YtnfolcefjkannaaDoor.TrieM Go.Proofs.YtnfolcefjkannaaDoor.Wl Go.Proofs.YtnfolcefjkannaaDoor.MapLaws
def TRow (e : TypeId) (w : World) (A : Option Addr) (cs : List ByteArray) : Prop :=
 0 < cs.length → ∃ (g : Nat) (cells : Array Value), A = some ⟨g, 0, none⟩ ∧ w.heap[g]? = some (.cells cells e (0, 0)) ∧ ∀ j, j < cs.length → cells[j]? = some (.string (rdOf ByteArray.empty cs (j : Int)))
theorem trow_of_R {e : TypeId} {w : World} {base : Nat} {ok : Nat → Prop} {v : Value} {cs : List ByteArray} (h : Kd.R Kd.string e w base ok v cs) : ∃ A c, v = .slice A cs.length c ∧ cs.length ≤ c ∧ TRow e w A cs := by
 obtain ⟨A, c, rfl, hc, _⟩ := Kd.R_reads h
 refine ⟨A, c, rfl, hc, fun hp => ?_⟩
 obtain ⟨g, cap, he, _, _, cells, hcells⟩ := Kd.R_form h hp
 injection he with he _ he2
 subst he he2
 refine ⟨g, cells, rfl, hcells, fun j hj => ?_⟩
 have := (Kd.R_cell ByteArray.empty h (j : Int) (by omega) (by omega)).1
 rw [Int.toNat_natCast] at this
 simpa [World.cell?, hcells] using this
theorem TRow.move {e : TypeId} {w w' : World} {A : Option Addr} {cs : List ByteArray} (h : TRow e w A cs) (hm : ∀ (g : Nat) (cells : Array Value), w.heap[g]? = some (Obj.cells cells e (0, 0)) → w'.heap[g]? = some (Obj.cells cells e (0, 0))) : TRow e w' A cs := fun hp => by
 obtain ⟨g, cells, h1, h2, h3⟩ := h hp
 exact ⟨g, cells, h1, hm _ _ h2, h3⟩
theorem TRow.cell {e : TypeId} {w : World} {A : Option Addr} {cs : List ByteArray} (h : TRow e w A cs) (j : Nat) (hj : j < cs.length) : ∃ g, A = some ⟨g, 0, none⟩ ∧ w.cell? ⟨g, j, none⟩ = some (.string (rdOf ByteArray.empty cs (j : Int))) := by
 obtain ⟨g, cells, h1, h2, h3⟩ := h (by omega)
 exact ⟨g, h1, by simp [World.cell?, h2, h3 j hj]⟩
theorem made_calls (w : World) : Calls Tryd.prog 66 #[] w fun e w' => e = .returned (.pointer (some ⟨w.heap.size + 2, 0, none⟩)) ∧
  w' = ((w.alloc (.map #[] 0)).alloc (.map #[] 0)).alloc (.cells (dirCells w.heap.size (w.heap.size + 1) 0 0 0) 100) := by
 have hmm := @run_makeMap Tryd.prog
 go_enter Tryd.func66, Tryd.ntmps66
 go_wp2; go_ret
 exact ⟨rfl, rfl⟩
def PutInv (w0 : World) (base t root all dp fp n : Nat) (path text : ByteArray) (blob : Int) (A : Option Addr) (cs : List ByteArray) (N : Dir → Option (Nat × Nat × Nat)) (S O : Dir → Nat) (i : Nat) (W : World) : Prop :=
 ∃ N' b d f, TrieG W base t root all N' (fun q => if q <+: cs.take i then S q + n else S q) O ∧ N' (cs.take i) = some (b, d, f) ∧ (∀ q, N' q ≠ none ↔ N q ≠ none ∨ q <+: cs.take i) ∧
  W.heap[dp]? = some (.cells #[.pointer (some ⟨b, 0, none⟩)] 87 (0, 0)) ∧ W.heap[fp]? = some (.cells #[.string path, .string text, .int .i64 blob, .int .i64 (n : Int)] 45 (0, 0)) ∧ TRow 9 W A cs ∧ Below base w0 W
theorem put_child {W w4 w5 : World} {base t root all : Nat} {N : Dir → Option (Nat × Nat × Nat)} {S O : Dir → Nat} {p : Dir} {k : ByteArray} {b d f : Nat} {l : List (ByteArray × Value)} (hT : TrieG W base t root all N S O) (hN : N p = some (b, d, f)) (hk : N (p ++ [k]) = none)
  (hw4 : w4 = ((W.alloc (.map #[] 0)).alloc (.map #[] 0)).alloc (.cells (dirCells W.heap.size (W.heap.size + 1) 0 0 0) 100)) (hl : MapIs Value.string W d l) (hlk : ∀ c, alook l c = (N (p ++ [c])).map (fun x => Value.pointer (some ⟨x.1, 0, none⟩)))
  (hm : MapIs Value.string w5 d (aput l k (.pointer (some ⟨W.heap.size + 2, 0, none⟩)))) (hg : w4.grownBy w5 (some d)) :
  TrieG w5 base t root all (fun q => if q = p ++ [k] then some (W.heap.size + 2, W.heap.size, W.heap.size + 1) else N q) S O := by
 have B4 : Below W.heap.size W w4 := by rw [hw4]; exact zL (zL (zL (Below.refl _ _) _) _) _
 have hT4 := hT.below B4
 have hb : base ≤ W.heap.size := Nat.le_trans hT.low.1 (Nat.le_of_lt hT.lt.1)
 have m0 : MapIs Value.string w4 W.heap.size [] := by rw [hw4]; exact ((MapIs.made W).alloc _).alloc _
 have m1 : MapIs Value.string w4 (W.heap.size + 1) [] := by
  rw [hw4]
  have := MapIs.made (enc := Value.string) (W.alloc (.map #[] 0))
  simp only [World.size_alloc] at this
  exact this.alloc _
 refine hT4.child (c := 0) hN hk ?_ m0 m1 (by omega) ⟨by omega, by omega, by omega⟩ (fun q x y z hq => ?_) ?_ (hl.below B4) hlk hm hg
 ·rw [hw4]
  have := heap_alloc_new ((W.alloc (.map #[] 0)).alloc (.map #[] 0)) (.cells (dirCells W.heap.size (W.heap.size + 1) 0 0 0) 100)
  simpa using this
 ·have := hT.lt.2.2 q x y z hq
  omega
 ·have := hT.lt.2.1
  omega
theorem zero_dir (w : World) : (zeroValue 87).run Tryd.prog w = .ok (.pointer none) w := by kernel_rfl
theorem prefix_take_succ {α : Type} (q cs : List α) (i : Nat) (hi : i < cs.length) : q <+: cs.take (i + 1) ↔ q = cs.take (i + 1) ∨ q <+: cs.take i := by
 rw [List.take_succ_eq_append_getElem hi, List.prefix_concat_iff]
theorem take_succ_not_prefix {α : Type} (cs : List α) (i : Nat) (hi : i < cs.length) : ¬ cs.take (i + 1) <+: cs.take i := fun h => by
 have := h.length_le
 rw [List.length_take, List.length_take] at this
 omega
theorem put_mid {w0 W : World} {base t root all dp fp n : Nat} {path text : ByteArray} {blob : Int} {A : Option Addr} {cs : List ByteArray} {N N2 : Dir → Option (Nat × Nat × Nat)} {S O : Dir → Nat} {i b d f : Nat} {v : Value}
  (hT : TrieG W base t root all N2 (fun q => if q <+: cs.take i then S q + n else S q) O) (hi : i < cs.length) (hN : N2 (cs.take (i + 1)) = some (b, d, f)) (hdom : ∀ q, N2 q ≠ none ↔ N q ≠ none ∨ q <+: cs.take (i + 1))
  (hdp : W.heap[dp]? = some (.cells #[v] 87 (0, 0))) (hfp : W.heap[fp]? = some (.cells #[.string path, .string text, .int .i64 blob, .int .i64 (n : Int)] 45 (0, 0))) (hrow : TRow 9 W A cs) (hB : Below base w0 W)
  (hS : ∀ q, S q < 85070591730234615865843651857942052864) (hn : n < 9223372036854775808) (hb0 : base ≤ dp) :
  Calls Tryd.prog 82 #[.pointer (some ⟨dp, 0, none⟩), .pointer (some ⟨fp, 0, none⟩)] (W.setCell ⟨dp, 0, none⟩ (.pointer (some ⟨b, 0, none⟩))) fun e W' => e = .returned (.tuple #[]) ∧
   PutInv w0 base t root all dp fp n path text blob A cs N S O (i + 1) W' := by
 have g1 : W.grownBy (W.setCell ⟨dp, 0, none⟩ (.pointer (some ⟨b, 0, none⟩))) (some dp) := grownSet W ⟨dp, 0, none⟩ _
 have hT2 := hT.far hdp (by decide) (by decide) g1
 have hdp2 : (W.setCell ⟨dp, 0, none⟩ (.pointer (some ⟨b, 0, none⟩))).heap[dp]? = some (.cells #[.pointer (some ⟨b, 0, none⟩)] 87 (0, 0)) := heapAt hdp _
 have nfp : fp ≠ dp := typesNe hfp hdp (by decide)
 have hfp2 := heapGrown g1 hfp (by simpa using nfp)
 obtain ⟨c, hc⟩ := hT2.dir _ b d f hN
 have hSv : (if cs.take (i + 1) <+: cs.take i then S (cs.take (i + 1)) + n else S (cs.take (i + 1))) = S (cs.take (i + 1)) := if_neg (take_succ_not_prefix cs i hi)
 rw [hSv] at hc
 have n1 : dp ≠ b := typesNe hdp2 hc (by decide)
 have n2 : fp ≠ b := typesNe hfp2 hc (by decide)
 refine (count_calls dp fp b (S (cs.take (i + 1))) n d f (O (cs.take (i + 1))) c (by have := hS (cs.take (i + 1)); omega) hn _ (blkCells (cs := [.pointer (some ⟨b, 0, none⟩)]) hdp2 0 _ rfl).1
  (blkCells (cs := [.string path, .string text, .int .i64 blob, .int .i64 (n : Int)]) hfp2 3 _ rfl).1 hc n1 n2).mono fun e W' h => ⟨h.1, ?_⟩
 obtain ⟨_, hb', hg⟩ := h
 have g := hT2.sized hN hb' hg
 refine ⟨N2, b, d, f, ?_, hN, hdom, heapGrown hg hdp2 (by simpa using n1), heapGrown hg hfp2 (by simpa using n2), ?_, ?_⟩
 ·have e1 : (fun q => if q = cs.take (i + 1) then O (cs.take (i + 1)) else O q) = O := by
   funext q
   by_cases hq : q = cs.take (i + 1)
   rotate_left
   ·rw [if_neg hq]
   rw [if_pos hq, hq]
  have e2 : (fun q => if q = cs.take (i + 1) then S (cs.take (i + 1)) + n else (if q <+: cs.take i then S q + n else S q)) = (fun q => if q <+: cs.take (i + 1) then S q + n else S q) := by
   funext q
   by_cases hq : q = cs.take (i + 1)
   ·subst hq; rw [if_pos rfl, if_pos (List.prefix_refl _)]
   rw [if_neg hq]
   by_cases hp : q <+: cs.take i
   ·rw [if_pos hp, if_pos ((prefix_take_succ q cs i hi).2 (.inr hp))]
   rw [if_neg hp, if_neg (fun h => hp (((prefix_take_succ q cs i hi).1 h).resolve_left hq))]
  rw [e1, e2] at g
  exact g
 ·refine hrow.move fun g0 cells h0 => ?_
  have m1 : g0 ≠ dp := typesNe h0 hdp (by decide)
  have h1 := heapGrown g1 h0 (by simpa using m1)
  have m2 : g0 ≠ b := typesNe h1 hc (by decide)
  exact heapGrown hg h1 (by simpa using m2)
 ·refine (hB.trans (belowOfGrown g1 ?_ (fun k hk => ?_))).trans (belowOfGrown hg ?_ (fun k hk => ?_))
  ·exact Nat.le_trans hT.low.1 (Nat.le_of_lt hT.lt.1)
  ·injection hk with hk; omega
  ·exact Nat.le_trans hT2.low.1 (Nat.le_of_lt hT2.lt.1)
  ·injection hk with hk; subst hk; exact (hT.low.2.2 _ b d f hN).1
def trie_put.T14 : Bool × List (List Nat × List Nat) := (true, [([], []), ([0], [0]), ([1], [1]), ([2], [2]), ([], []), ([4], [4]), ([5], [5]), ([], []), ([7], [7]), ([3, 6, 8, 6, 0, 1, 2, 3, 4, 5, 6, 7, 8], [3, 6, 8])])
def trie_put.B14 : List Nat := [0, 1, 3, 7, 0, 16, 48, 0, 128, 511]
theorem trie_put.tab14 : rtab .any (opsOf Tryd.f67 14) = trie_put.T14 := by kernel_rfl
theorem trie_put.bits14 : waitsOk trie_put.T14.2 trie_put.B14 = true := by kernel_rfl
def trie_put.T15 : Bool × List (List Nat × List Nat) := (true, [([], []), ([], []), ([1], [1]), ([2], [2]), ([3], [3]), ([], []), ([5], [5]), ([4, 6], [4, 6]), ([0, 0, 1, 2, 3, 4, 5, 6, 7], [0]), ([8, 0, 1, 2, 3, 4, 5, 6, 7], [8]), ([9, 7, 7, 0, 1, 2, 3, 4, 5, 6, 7], [7, 9])])
def trie_put.B15 : List Nat := [0, 0, 2, 6, 14, 0, 32, 126, 255, 511, 1023]
theorem trie_put.tab15 : rtab .any (opsOf Tryd.f67 15) = trie_put.T15 := by kernel_rfl
theorem trie_put.bits15 : waitsOk trie_put.T15.2 trie_put.B15 = true := by kernel_rfl
def trie_put.T16 : Bool × List (List Nat × List Nat) := (true, [([], []), ([0], [0]), ([1], [1]), ([2], [2]), ([], []), ([4], [4]), ([], []), ([3, 5, 6, 0, 1, 2, 3, 4, 5, 6], [3, 5, 6])])
def trie_put.B16 : List Nat := [0, 1, 3, 7, 0, 16, 0, 127]
theorem trie_put.tab16 : rtab .any (opsOf Tryd.f67 16) = trie_put.T16 := by kernel_rfl
theorem trie_put.bits16 : waitsOk trie_put.T16.2 trie_put.B16 = true := by kernel_rfl
set_option maxHeartbeats 2000000 in
set_option maxRecDepth 100000 in
theorem put_calls (k : Nat) (path text dirp : ByteArray) (blob : Int) (n base t root all : Nat) (cs : Dir) (N : Dir → Option (Nat × Nat × Nat)) (S O : Dir → Nat) (w : World)
  (hT : TrieG w base t root all N S O) (hdir : path_Dir.f k path = some dirp) (hcs : path_Split.f dirp = some cs) (bname : ByteArray) (hbn : path_Base.f k path = some bname)
  (hn : n < 9223372036854775808) (hS : ∀ q, S q < 85070591730234615865843651857942052864) (hO : ∀ q, O q < 85070591730234615865843651857942052864) (hbase : base ≤ w.heap.size) :
  Calls Tryd.prog 67 #[.pointer (some ⟨t, 0, none⟩), .agg #[.string path, .string text, .int .i64 blob, .int .i64 (n : Int)]] w fun e w' => e = .returned (.tuple #[]) ∧ Below base w w' ∧
   ∃ N', TrieG w' base t root all N' (fun q => if q <+: cs then S q + n else S q) (fun q => if q = cs then O q + n else O q) ∧ (∀ q, N' q ≠ none ↔ N q ≠ none ∨ q <+: cs) := by
 obtain ⟨d0, f0, hN0⟩ := hT.root_
 have HC := zA hcs; have HBN := zA hbn; have HS := zA hS; have HO := zA hO
 have ht := (blkCells (cs := [.pointer (some ⟨root, 0, none⟩), .map (some all)]) hT.top 0 _ rfl).1
 have htl : t < w.heap.size := zB w _ ht
 obtain ⟨F, hF⟩ : ∃ F : Obj, F = .cells #[.string path, .string text, .int .i64 blob, .int .i64 (n : Int)] 45 := ⟨_, rfl⟩
 obtain ⟨D, hD⟩ : ∃ D : Obj, D = .cells #[.pointer (some ⟨root, 0, none⟩)] 87 := ⟨_, rfl⟩
 have B1 : Below w.heap.size w ((w.alloc F).alloc D) := zL (zL (Below.refl _ _) _) _
 have hT2 := hT.below B1
 obtain ⟨c0, hc0⟩ := hT2.dir [] root d0 f0 hN0
 have hfp : ((w.alloc F).alloc D).heap[w.heap.size]? = some F := (Below.heap_alloc (w.alloc F) D w.heap.size (by simp)).trans (heap_alloc_new w F)
 have hdp : ((w.alloc F).alloc D).heap[w.heap.size + 1]? = some D := by simpa using heap_alloc_new (w.alloc F) D
 have n1 : w.heap.size + 1 ≠ root := typesNe (hdp.trans (congrArg some hD)) hc0 (by decide)
 have n2 : w.heap.size ≠ root := typesNe (hfp.trans (congrArg some hF)) hc0 (by decide)
 have K1 := count_calls (w.heap.size + 1) w.heap.size root (S []) n d0 f0 (O []) c0 (by have := hS []; omega) hn ((w.alloc F).alloc D)
  (blkCells (cs := [.pointer (some ⟨root, 0, none⟩)]) (hdp.trans (congrArg some hD)) 0 _ rfl).1 (blkCells (cs := [.string path, .string text, .int .i64 blob, .int .i64 (n : Int)]) (hfp.trans (congrArg some hF)) 3 _ rfl).1 hc0 n1 n2
 have K1' : Calls Tryd.prog 82 #[.pointer (some ⟨w.heap.size + 1, 0, none⟩), .pointer (some ⟨w.heap.size, 0, none⟩)] ((w.alloc F).alloc D) fun e W => e = .returned (.tuple #[]) ∧
   (TrieG W base t root all N (fun q => if q = [] then S [] + n else S q) O ∧ W.heap[w.heap.size]? = some F ∧ W.heap[w.heap.size + 1]? = some D ∧ Below base w W) := K1.mono fun e W h => ⟨h.1, by
  have g := hT2.sized hN0 h.2.1 h.2.2
  have e1 : (fun q => if q = [] then O [] else O q) = O := by funext q; split <;> simp_all
  rw [e1] at g
  refine ⟨g, heapGrown h.2.2 hfp (by simpa using n2), heapGrown h.2.2 hdp (by simpa using n1), ?_⟩
  refine (B1.mono hbase).trans (belowOfGrown h.2.2 (by simp; omega) (fun k hk => ?_))
  injection hk with hk
  subst hk
  exact (hT.low.2.2 [] root d0 f0 hN0).1⟩
 have K1h := zA K1'; have HDIR := zA hdir; have HNN := zA hn; subst hF hD; clear K1 K1' hT hT2 hc0 hfp hdp n1 n2 B1 hN0 hdir hcs hbn hn hS hO
 go_enter Tryd.func67, Tryd.ntmps67
 go_wp2_with (first
  | (go_at_call 82; refine K1h.out.mono ?_; rintro e w1 ⟨rfl, hT1, hf1, hd1, hB1⟩; have q1 := (blkCells (cs := [.string path, .string text, .int .i64 blob, .int .i64 (n : Int)]) hf1 0 _ rfl).1; have HT1 := zA hT1; have HF1 := zA hf1; have HD1 := zA hd1; have HB1 := zA hB1; clear hT1 hf1 hd1 hB1)
  | (go_at_call 46; refine (path_Dir.calls k path dirp _ HDIR.out).mono ?_; rintro e w2 ⟨rfl, hb2⟩; have HB2 := zA hb2; clear hb2)
  | (go_at_call 52; refine (path_Split.calls dirp cs _ HC.out).mono ?_; rintro e w3 ⟨v3, rfl, hR3, hb3⟩; obtain ⟨A, cc, rfl, hcc, hrow⟩ := trow_of_R hR3; have hmx := (Kd.R_reads' hR3).2.2.2.1; have HB3 := zA hb3; have HROW := zA hrow; clear hb3 hR3 hrow))
 have st0 : PutInv w base t root all (w.heap.size + 1) w.heap.size n path text blob A cs N S O 0 w3 := by
  have g := (HT1.out.below HB2.out).below HB3.out
  obtain ⟨d, f, hN0⟩ := g.root_
  refine ⟨N, root, d, f, ?_, by rw [List.take_zero]; exact hN0, fun q => ?_, heapBelow HB3.out (heapBelow HB2.out HD1.out), heapBelow HB3.out (heapBelow HB2.out HF1.out), HROW.out, ?_⟩
  ·have e : (fun q : Dir => if q = [] then S [] + n else S q) = (fun q => if q <+: cs.take 0 then S q + n else S q) := by
    funext q
    rw [List.take_zero]
    by_cases hq : q = []
    ·subst hq; simp
    rw [if_neg hq, if_neg (by simpa using hq)]
   rw [← e]; exact g
  ·rw [List.take_zero, List.prefix_nil]
   constructor
   ·exact fun h => .inl h
   ·rintro (h | rfl)
    ·exact h
    ·rw [hN0]; simp
  ·have s1 := HB1.out.size
   have s2 := HB2.out.size
   exact (HB1.out.trans (HB2.out.mono (by omega))).trans (HB3.out.mono (by omega))
 have HST := zA st0; have HBS := zA hbase; clear st0 HT1 HF1 HD1 HB1 HB2 HB3 q1 HROW hbase ht htl K1h
 go_loopw [22] (fun v22 wr => ∃ i : Nat, v22 = .int .i64 (i : Int) ∧ i ≤ cs.length ∧ Aside0 (PutInv w base t root all (w.heap.size + 1) w.heap.size n path text blob A cs N S O i wr)) (fun v22 _ => cs.length - (intOf v22).toNat)
 case atStart => exact ⟨0, rfl, Nat.zero_le _, HST⟩
 case round =>
  clear HST; obtain ⟨i, rfl, hi, HI⟩ := hrel
  by_cases hlt : i < cs.length
  ·have hI := HI.out
   clear HI; obtain ⟨N', b, d, f, hT, hNb, hdom, hdp, hfp, hrow, hB⟩ := hI
   obtain ⟨g0, rfl, hcell⟩ := hrow.cell i hlt
   have q1 := (blkCells (cs := [.pointer (some ⟨b, 0, none⟩)]) hdp 0 _ rfl).1
   have z1 := (blkCells (cs := [.pointer (some ⟨b, 0, none⟩)]) hdp 0 _ rfl).2
   obtain ⟨c1, hc1⟩ := hT.dir _ b d f hNb
   have q2 := (blkCells (cs := [.map (some d), .map (some f), .int .i64 c1, .int .u64 (hi64 _), .int .u64 (lo64 _), .int .u64 (hi64 _), .int .u64 (lo64 _)]) hc1 0 _ rfl).1
   obtain ⟨l, hl, hlk⟩ := hT.dirs _ b d f hNb
   have htk : cs.take i ++ [rdOf ByteArray.empty cs (i : Int)] = cs.take (i + 1) := by
    rw [List.take_succ_eq_append_getElem hlt]; simp [rdOf, List.getD_eq_getElem?_getD, List.getElem?_eq_getElem hlt]
   cases hN : N' (cs.take (i + 1)) with
   | some z =>
    obtain ⟨b', d', f'⟩ := z
    have hlook : alook l (rdOf ByteArray.empty cs (i : Int)) = some (.pointer (some ⟨b', 0, none⟩)) := by rw [hlk, htk, hN]; rfl
    have hdom2 : ∀ q, N' q ≠ none ↔ N q ≠ none ∨ q <+: cs.take (i + 1) := fun q => by
     rw [hdom, prefix_take_succ q cs i hlt]
     constructor
     ·rintro (h | h)
      ·exact .inl h
      ·exact .inr (.inr h)
     ·rintro (h | rfl | h)
      ·exact .inl h
      ·exact (hdom _).1 (by rw [hN]; simp)
      ·exact .inr h
    have KM := zA (put_mid (dp := w.heap.size + 1) hT hlt hN hdom2 hdp hfp hrow hB HS.out HNN.out (by have := HBS.out; omega))
    have HL := zA hl; have HK := zA hlook; clear hT hdp hfp hrow hB hdom hdom2 hl hlk hlook hNb hN htk hc1
    have hlt' : (i : Int) < (cs.length : Int) := by omega
    have hi0 : (0 : Int) ≤ (i : Int) := by omega
    go_wp2_with (first
     | (at_lookup; refine wp_look rfl _ _ 94 true rfl 87 (string_law Tryd.underlying9) Tryd.underlying94 (.pointer none) zero_dir rfl _ rfl HL.out ?_; rw [HK.out]; simp only [if_true, Option.getD_some, Option.isSome_some])
     | (go_at_call 82; refine KM.out.mono ?_; rintro e w5 ⟨rfl, hI5⟩; have HI5 := zA hI5; clear hI5))
    go_roundw
    case rel => exact ⟨i + 1, by go_num, by omega, HI5⟩
    case measure => simp [intOf]; omega
   | none =>
    have hlook : alook l (rdOf ByteArray.empty cs (i : Int)) = none := by rw [hlk, htk, hN]; rfl
    have KM : ∀ w4 w5 : World, w4 = ((wr.alloc (.map #[] 0)).alloc (.map #[] 0)).alloc (.cells (dirCells wr.heap.size (wr.heap.size + 1) 0 0 0) 100) →
      MapIs Value.string w5 d (aput l (rdOf ByteArray.empty cs (i : Int)) (.pointer (some ⟨wr.heap.size + 2, 0, none⟩))) → w4.grownBy w5 (some d) →
      (Calls Tryd.prog 82 #[.pointer (some ⟨w.heap.size + 1, 0, none⟩), .pointer (some ⟨w.heap.size, 0, none⟩)] (w5.setCell ⟨w.heap.size + 1, 0, none⟩ (.pointer (some ⟨wr.heap.size + 2, 0, none⟩))) fun e W' => e = .returned (.tuple #[]) ∧
       PutInv w base t root all (w.heap.size + 1) w.heap.size n path text blob (some ⟨g0, 0, none⟩) cs N S O (i + 1) W') ∧ w5.cell? ⟨w.heap.size + 1, 0, none⟩ = some (.pointer (some ⟨b, 0, none⟩)) ∧ w5.frozen? ⟨w.heap.size + 1, 0, none⟩ = false := by
     intro w4 w5 hw4 hm hg
     have B4 : Below wr.heap.size wr w4 := by rw [hw4]; exact zL (zL (zL (Below.refl _ _) _) _) _
     have hk' : N' (cs.take i ++ [rdOf ByteArray.empty cs (i : Int)]) = none := by rw [htk]; exact hN
     have hT5 := put_child hT hNb hk' hw4 hl hlk hm hg
     rw [htk] at hT5
     have km : ∀ (g : Nat) (cc : Array Value) (ty : TypeId), wr.heap[g]? = some (Obj.cells cc ty (0, 0)) → w5.heap[g]? = some (Obj.cells cc ty (0, 0)) := fun g cc ty h0 => by
      refine heapGrown hg (heapBelow B4 h0) (fun e => ?_)
      injection e with e
      subst e; obtain ⟨es, cl, hx, _⟩ := hl
      rw [h0] at hx; injection hx with hx; cases hx
     refine ⟨put_mid hT5 hlt (if_pos rfl) (fun q => ?_) (km _ _ _ hdp) (km _ _ _ hfp) (hrow.move fun g cc h0 => km _ _ _ h0) ?_ HS.out HNN.out (by have := HBS.out; omega),
      (blkCells (cs := [.pointer (some ⟨b, 0, none⟩)]) (km _ _ _ hdp) 0 _ rfl).1, (blkCells (cs := [.pointer (some ⟨b, 0, none⟩)]) (km _ _ _ hdp) 0 _ rfl).2⟩
     ·by_cases hq : q = cs.take (i + 1)
      ·subst hq
       rw [if_pos rfl]
       exact ⟨fun _ => .inr (List.prefix_refl _), fun _ => by simp⟩
      ·rw [if_neg hq, hdom, prefix_take_succ q cs i hlt]
       constructor
       ·rintro (h | h)
        ·exact .inl h
        ·exact .inr (.inr h)
       ·rintro (h | rfl | h)
        ·exact .inl h
        ·exact absurd rfl hq
        ·exact .inr h
     ·have hbw : base ≤ wr.heap.size := Nat.le_trans hT.low.1 (Nat.le_of_lt hT.lt.1)
      refine (hB.trans (B4.mono hbw)).trans (belowOfGrown hg (Nat.le_trans hbw B4.size) (fun k hk => ?_))
      injection hk with hk; subst hk; exact (hT.low.2.2 _ b d f hNb).2.1
    have HKM := zA KM; have HL := zA hl; have HK := zA hlook; clear KM hT hdp hfp hrow hB hdom hl hlk hlook hNb hN htk hc1
    have hlt' : (i : Int) < (cs.length : Int) := by omega
    have hi0 : (0 : Int) ≤ (i : Int) := by omega
    go_wp2_with (first
     | (at_lookup; refine wp_look rfl _ _ 94 true rfl 87 (string_law Tryd.underlying9) Tryd.underlying94 (.pointer none) zero_dir rfl _ rfl HL.out ?_; rw [HK.out]; simp only [if_true, Option.getD_none, Option.isSome_none])
     | (go_at_call 66; refine (made_calls _).mono ?_; rintro e w4 ⟨rfl, hw4⟩; have b4 : Below wr.heap.size wr w4 := (by rw [hw4]; exact zL (zL (zL (Below.refl _ _) _) _) _); have HW4 := zA hw4; have r1 := cellBelow b4 q1; have r2 := cellBelow b4 q2; have HL4 := zA (HL.out.below b4); clear hw4 b4)
     | (at_mapUpdate; refine wp_put rfl _ _ _ 94 rfl 87 (string_law Tryd.underlying9) Tryd.underlying94 rfl _ rfl _ rfl HL4.out ?_; intro w5 hm5 hg5 hs5; obtain ⟨kc, s1, s2⟩ := HKM.out _ w5 HW4.out hm5 hg5; have KC := zA kc; clear kc hm5 hg5 hs5)
     | (go_at_call 82; refine KC.out.mono ?_; rintro e w6 ⟨rfl, hI5⟩; have HI5 := zA hI5; clear hI5))
    go_roundw
    case rel => exact ⟨i + 1, by go_num, by omega, HI5⟩
    case measure => simp [intOf]; omega
  have he : i = cs.length := by omega
  subst he
  have hI := HI.out
  clear HI; obtain ⟨N', b, d, f, hT, hNb, hdom, hdp, hfp, hrow, hB⟩ := hI; clear hrow
  rw [List.take_length] at hT hNb hdom
  obtain ⟨c1, hc1⟩ := hT.dir _ b d f hNb
  obtain ⟨lf, hlf⟩ := hT.files _ b d f hNb
  have q1 := (blkCells (cs := [.pointer (some ⟨b, 0, none⟩)]) hdp 0 _ rfl).1
  have q2 := (blkCells (cs := [.map (some d), .map (some f), .int .i64 c1, .int .u64 (hi64 _), .int .u64 (lo64 _), .int .u64 (hi64 _), .int .u64 (lo64 _)]) hc1 1 _ rfl).1
  have q3 := (blkCells (cs := [.string path, .string text, .int .i64 blob, .int .i64 (n : Int)]) hfp 0 _ rfl).1
  have q4 := (blkCells (cs := [.string path, .string text, .int .i64 blob, .int .i64 (n : Int)]) hfp 3 _ rfl).1
  have HLF := zA hlf; have HT := zA hT; have HNB := zA hNb; have HDOM := zA hdom; have HDP := zA hdp; have HFP := zA hfp; have HBW := zA hB; clear hT hNb hdom hdp hfp hB hc1 hlf
  have d0 : decide (cs.length < cs.length) = false := decide_eq_false (by omega)
  go_wp2_with (fail)
  refine start_ (n := 10) (S := fun w' => w'.cell? ⟨w.heap.size + 1, 0, none⟩ = some (.pointer (some ⟨b, 0, none⟩)) ∧ w'.cell? ⟨b, 1, none⟩ = some (.map (some f)) ∧ w'.cell? ⟨w.heap.size, 0, none⟩ = some (.string path) ∧ w'.cell? ⟨w.heap.size, 3, none⟩ = some (.int .i64 (n : Int))) (ds := [9]) #[F, F, F, F, F, F, F, F, F, F] (by kernel_rfl) rfl rfl ⟨q1, q2, q3, q4⟩ (fun hHeld => ?_)
  refine with_tabW trie_put.tab14 trie_put.bits14 (fun HT_ HW_ => ?_)
  refine pure_ (i := 4) (N := some 52) (v := ?_) (a' := ?_) #[F, F, F, F, T, F, F, F, F, F] rfl rfl (any_of HT_.out (by kernel_rfl)) (fun _ _ _ h => h) (Or.inl ⟨by rfl, ?_⟩) ?_ ?_
  rotate_left
  ·intro w'; go_simp; with_reducible rfl
  rotate_left
  ·simp only [Act.put, zS, zZ, zC, i64_w, i32_w]
   rfl
  refine pure_ (i := 7) (N := some 55) (v := ?_) (a' := ?_) #[F, F, F, F, T, F, F, T, F, F] rfl rfl (any_of HT_.out (by kernel_rfl)) (fun _ _ _ h => h) (Or.inl ⟨by rfl, ?_⟩) ?_ ?_
  rotate_left
  ·intro w'; go_simp; with_reducible rfl
  rotate_left
  ·simp only [Act.put, zS, zZ, zC, i64_w, i32_w]
   rfl
  refine take_ (i := 0) (N := some 48) (v := ?_) (a' := ?_) #[T, F, F, F, T, F, F, T, F, F] rfl rfl (take_ofW HT_.out HW_.out (by kernel_rfl)) (fun _ _ _ h => h) (Or.inl ⟨by rfl, ?_⟩) hHeld ?_ ?_
  rotate_left
  ·rintro w' ⟨s0, s1, s2, s3⟩
   go_simp; with_reducible rfl
  rotate_left
  ·simp only [Act.put, zS, zZ, zC, i64_w, i32_w]
   rfl
  refine take_ (i := 1) (N := some 49) (v := ?_) (a' := ?_) #[T, T, F, F, T, F, F, T, F, F] rfl rfl (take_ofW HT_.out HW_.out (by kernel_rfl)) (fun _ _ _ h => h) (Or.inl ⟨by rfl, ?_⟩) hHeld ?_ ?_
  rotate_left
  ·rintro w' ⟨s0, s1, s2, s3⟩
   go_simp; with_reducible rfl
  rotate_left
  ·simp only [Act.put, zS, zZ, zC, i64_w, i32_w]
   rfl
  refine pure_ (i := 2) (N := some 50) (v := ?_) (a' := ?_) #[T, T, T, F, T, F, F, T, F, F] rfl rfl (any_of HT_.out (by kernel_rfl)) (fun _ _ _ h => h) (Or.inl ⟨by rfl, ?_⟩) ?_ ?_
  rotate_left
  ·intro w'; go_simp; with_reducible rfl
  rotate_left
  ·simp only [Act.put, zS, zZ, zC, i64_w, i32_w]
   rfl
  refine take_ (i := 3) (N := some 51) (v := ?_) (a' := ?_) #[T, T, T, T, T, F, F, T, F, F] rfl rfl (take_ofW HT_.out HW_.out (by kernel_rfl)) (fun _ _ _ h => h) (Or.inl ⟨by rfl, ?_⟩) hHeld ?_ ?_
  rotate_left
  ·rintro w' ⟨s0, s1, s2, s3⟩
   go_simp; with_reducible rfl
  rotate_left
  ·simp only [Act.put, zS, zZ, zC, i64_w, i32_w]
   rfl
  refine take_ (i := 5) (N := some 53) (v := ?_) (a' := ?_) #[T, T, T, T, T, T, F, T, F, F] rfl rfl (take_ofW HT_.out HW_.out (by kernel_rfl)) (fun _ _ _ h => h) (Or.inl ⟨by rfl, ?_⟩) hHeld ?_ ?_
  rotate_left
  ·rintro w' ⟨s0, s1, s2, s3⟩
   go_simp; with_reducible rfl
  rotate_left
  ·simp only [Act.put, zS, zZ, zC, i64_w, i32_w]
   rfl
  refine take_ (i := 8) (N := some 56) (v := ?_) (a' := ?_) #[T, T, T, T, T, T, F, T, T, F] rfl rfl (take_ofW HT_.out HW_.out (by kernel_rfl)) (fun _ _ _ h => h) (Or.inl ⟨by rfl, ?_⟩) hHeld ?_ ?_
  rotate_left
  ·rintro w' ⟨s0, s1, s2, s3⟩
   go_simp; with_reducible rfl
  rotate_left
  ·simp only [Act.put, zS, zZ, zC, i64_w, i32_w]
   rfl
  refine one_ (i := 6) (N := some 54) #[T, T, T, T, T, T, T, T, T, F] rfl rfl (one_of HT_.out (by kernel_rfl)) (by decide) (fun K hK => ?_)
  refine goes_ Tryd.func80 (by kernel_rfl) rfl #[.string path] (by rfl) rfl rfl (by (try simp only [List.map_toArray, List.map_cons, List.map_nil]); rfl) ?_
  refine (path_Base.calls k path bname _ HBN.out).mono ?_
  rintro e w6 ⟨rfl, ⟨nd, rfl⟩⟩
  refine ⟨_, rfl, ?_⟩
  refine hK.out _ _ ⟨q1, q2, q3, q4⟩ (fun hHeld => ?_)
  clear hK K
  refine norm_ (a' := ?_) ?_ ?_
  rotate_left
  ·show Act.put _ (some 54) _ = _
   simp only [Act.put, zS, zZ, zC, i64_w, i32_w]
   rfl
  refine last_ (i := 9) (N := none) #[T, T, T, T, T, T, T, T, T, T] rfl rfl (one_of HT_.out (by kernel_rfl)) (by decide) (fun K hK => ?_)
  obtain ⟨w7, hrun, hm7, hg7, hs7, _⟩ := MapIs.update_run (w := (wr.drew).drewN nd) HLF.out (string_law Tryd.underlying9) Tryd.underlying95 bname (.int .i64 (n : Int))
  refine skip_ (w1 := w7) (by rfl) rfl ?_ ?_
  ·exact exec_put (by rfl) (by rfl) (by rfl) (by rfl) hrun
  refine hK.out _ _ ?_
  clear hK K; refine done_ (done_of HT_.out (by kernel_rfl)) ?_
  have g7 : wr.grownBy w7 (some f) := ⟨hg7.os, hg7.tape, hg7.output, hg7.size, hg7.block⟩
  have HT7 := zA (HT.out.filed (.inr ⟨_, b, d, HNB.out⟩) ⟨_, hm7⟩ g7)
  have kc : ∀ (g : Nat) (cc : Array Value) (ty : TypeId), wr.heap[g]? = some (Obj.cells cc ty (0, 0)) → w7.heap[g]? = some (Obj.cells cc ty (0, 0)) := fun g cc ty h0 => by
   refine heapGrown g7 h0 (fun e => ?_)
   injection e with e
   subst e
   obtain ⟨es, cl, hx, _⟩ := HLF.out
   rw [h0] at hx; injection hx with hx; cases hx
  have HDP7 := zA (kc _ _ _ HDP.out)
  have HFP7 := zA (kc _ _ _ HFP.out)
  have HB7 := zA (HBW.out.trans (belowOfGrown g7 (Nat.le_trans HT.out.low.1 (Nat.le_of_lt HT.out.lt.1)) (fun k hk => by injection hk with hk; subst hk; exact (HT.out.low.2.2 _ b d f HNB.out).2.2)))
  obtain ⟨c7, hc7⟩ := HT7.out.dir _ b d f HNB.out
  have r1 := (blkCells (cs := [.pointer (some ⟨b, 0, none⟩)]) HDP7.out 0 _ rfl).1
  have r2 := (blkCells (cs := [.map (some d), .map (some f), .int .i64 c7, .int .u64 (hi64 _), .int .u64 (lo64 _), .int .u64 (hi64 (O cs)), .int .u64 (lo64 (O cs))]) hc7 5 _ rfl).1
  have r3 := (blkCells (cs := [.map (some d), .map (some f), .int .i64 c7, .int .u64 (hi64 _), .int .u64 (lo64 _), .int .u64 (hi64 (O cs)), .int .u64 (lo64 (O cs))]) hc7 6 _ rfl).1
  have f2 := (blkCells (cs := [.map (some d), .map (some f), .int .i64 c7, .int .u64 (hi64 _), .int .u64 (lo64 _), .int .u64 (hi64 (O cs)), .int .u64 (lo64 (O cs))]) hc7 5 _ rfl).2
  have f3 := (blkCells (cs := [.map (some d), .map (some f), .int .i64 c7, .int .u64 (hi64 _), .int .u64 (lo64 _), .int .u64 (hi64 (O cs)), .int .u64 (lo64 (O cs))]) hc7 6 _ rfl).2
  have r4 := (blkCells (cs := [.string path, .string text, .int .i64 blob, .int .i64 (n : Int)]) HFP7.out 3 _ rfl).1
  have HC7 := zA hc7; clear q1 q2 q3 q4 HLF HT HDP HFP HBW hHeld hm7 hg7 hs7 g7 kc hc7 hrun HT_ HW_
  go_wp2_with (fail)
  refine start_ (n := 11) (S := fun w' => w'.cell? ⟨w.heap.size + 1, 0, none⟩ = some (.pointer (some ⟨b, 0, none⟩)) ∧ w'.cell? ⟨b, 5, none⟩ = some (.int .u64 (hi64 (O cs))) ∧ w'.cell? ⟨b, 6, none⟩ = some (.int .u64 (lo64 (O cs))) ∧ w'.cell? ⟨w.heap.size, 3, none⟩ = some (.int .i64 (n : Int))) (ds := [10]) #[F, F, F, F, F, F, F, F, F, F, F] (by kernel_rfl) rfl rfl ⟨r1, r2, r3, r4⟩ (fun hHeld => ?_)
  refine with_tabW trie_put.tab15 trie_put.bits15 (fun HT_ HW_ => ?_)
  refine pure_ (i := 5) (N := some 62) (v := ?_) (a' := ?_) #[F, F, F, F, F, T, F, F, F, F, F] rfl rfl (any_of HT_.out (by kernel_rfl)) (fun _ _ _ h => h) (Or.inl ⟨by rfl, ?_⟩) ?_ ?_
  rotate_left
  ·intro w'; go_simp; with_reducible rfl
  rotate_left
  ·simp only [Act.put, zS, zZ, zC, i64_w, i32_w]
   rfl
  refine take_ (i := 0) (N := some 57) (v := ?_) (a' := ?_) #[T, F, F, F, F, T, F, F, F, F, F] rfl rfl (take_ofW HT_.out HW_.out (by kernel_rfl)) (fun _ _ _ h => h) (Or.inl ⟨by rfl, ?_⟩) hHeld ?_ ?_
  rotate_left
  ·rintro w' ⟨s0, s1, s2, s3⟩
   go_simp; with_reducible rfl
  rotate_left
  ·simp only [Act.put, zS, zZ, zC, i64_w, i32_w]
   rfl
  refine take_ (i := 1) (N := some 58) (v := ?_) (a' := ?_) #[T, T, F, F, F, T, F, F, F, F, F] rfl rfl (take_ofW HT_.out HW_.out (by kernel_rfl)) (fun _ _ _ h => h) (Or.inl ⟨by rfl, ?_⟩) hHeld ?_ ?_
  rotate_left
  ·rintro w' ⟨s0, s1, s2, s3⟩
   go_simp; with_reducible rfl
  rotate_left
  ·simp only [Act.put, zS, zZ, zC, i64_w, i32_w]
   rfl
  refine take_ (i := 2) (N := some 59) (v := ?_) (a' := ?_) #[T, T, T, F, F, T, F, F, F, F, F] rfl rfl (take_ofW HT_.out HW_.out (by kernel_rfl)) (fun _ _ _ h => h) (Or.inl ⟨by rfl, ?_⟩) hHeld ?_ ?_
  rotate_left
  ·rintro w' ⟨s0, s1, s2, s3⟩
   go_simp; with_reducible rfl
  rotate_left
  ·simp only [Act.put, zS, zZ, zC, i64_w, i32_w]
   rfl
  refine pure_ (i := 3) (N := some 60) (v := ?_) (a' := ?_) #[T, T, T, T, F, T, F, F, F, F, F] rfl rfl (any_of HT_.out (by kernel_rfl)) (fun _ _ _ h => h) (Or.inl ⟨by rfl, ?_⟩) ?_ ?_
  rotate_left
  ·intro w'; go_simp; with_reducible rfl
  rotate_left
  ·simp only [Act.put, zS, zZ, zC, i64_w, i32_w]
   rfl
  refine take_ (i := 4) (N := some 61) (v := ?_) (a' := ?_) #[T, T, T, T, T, T, F, F, F, F, F] rfl rfl (take_ofW HT_.out HW_.out (by kernel_rfl)) (fun _ _ _ h => h) (Or.inl ⟨by rfl, ?_⟩) hHeld ?_ ?_
  rotate_left
  ·rintro w' ⟨s0, s1, s2, s3⟩
   go_simp; with_reducible rfl
  rotate_left
  ·simp only [Act.put, zS, zZ, zC, i64_w, i32_w]
   rfl
  refine take_ (i := 6) (N := some 63) (v := ?_) (a' := ?_) #[T, T, T, T, T, T, T, F, F, F, F] rfl rfl (take_ofW HT_.out HW_.out (by kernel_rfl)) (fun _ _ _ h => h) (Or.inl ⟨by rfl, ?_⟩) hHeld ?_ ?_
  rotate_left
  ·rintro w' ⟨s0, s1, s2, s3⟩
   go_simp; with_reducible rfl
  rotate_left
  ·simp only [Act.put, zS, zZ, zC, i64_w, i32_w]
   rfl
  refine one_ (i := 7) (N := some 64) #[T, T, T, T, T, T, T, T, F, F, F] rfl rfl (one_of HT_.out (by kernel_rfl)) (by decide) (fun K hK => ?_)
  refine goes_ Tryd.func83 (by kernel_rfl) rfl #[.agg #[.int .u64 (hi64 (O cs)), .int .u64 (lo64 (O cs))], .int .i64 (n : Int)] (by rfl) rfl rfl (by (try simp only [List.map_toArray, List.map_cons, List.map_nil]); rfl) ?_
  refine (plus_calls (O cs) n (by have := HO.out cs; omega) HNN.out _).mono ?_
  rintro e w9 ⟨rfl, hb9⟩
  refine ⟨_, rfl, ?_⟩
  refine hK.out _ _ ⟨cellBelow hb9 r1, cellBelow hb9 r2, cellBelow hb9 r3, cellBelow hb9 r4⟩ (fun hHeld => ?_)
  clear hK K
  refine norm_ (a' := ?_) ?_ ?_
  rotate_left
  ·show Act.put _ (some 64) _ = _
   simp only [Act.put, zS, zZ, zC, i64_w, i32_w]
   rfl
  refine take_ (i := 8) (N := some 65) (v := ?_) (a' := ?_) #[T, T, T, T, T, T, T, T, T, F, F] rfl rfl (take_ofW HT_.out HW_.out (by kernel_rfl)) (fun _ _ _ h => h) (Or.inl ⟨by rfl, ?_⟩) hHeld ?_ ?_
  rotate_left
  ·rintro w' ⟨s0, s1, s2, s3⟩
   go_simp; with_reducible rfl
  rotate_left
  ·simp only [Act.put, zS, zZ, zC, i64_w, i32_w]
   rfl
  refine pure_ (i := 9) (N := some 66) (v := ?_) (a' := ?_) #[T, T, T, T, T, T, T, T, T, T, F] rfl rfl (any_of HT_.out (by kernel_rfl)) (fun _ _ _ h => h) (Or.inl ⟨by rfl, ?_⟩) ?_ ?_
  rotate_left
  ·intro w'; go_simp; with_reducible rfl
  rotate_left
  ·simp only [Act.put, zS, zZ, zC, i64_w, i32_w]
   rfl
  refine last_ (i := 10) (N := none) #[T, T, T, T, T, T, T, T, T, T, T] rfl rfl (one_of HT_.out (by kernel_rfl)) (by decide) (fun K hK => ?_)
  have t2 := cellBelow hb9 r2
  have t3 := cellBelow hb9 r3
  have u2 := frozenBelow hb9 r2 f2
  have u3 := frozenBelow hb9 r3 f3
  refine skip_ (w1 := (w9.setCell ⟨b, 5, none⟩ (.int .u64 (hi64 (O cs + n)))).setCell ⟨b, 6, none⟩ (.int .u64 (lo64 (O cs + n)))) (by rfl) rfl ?_ ?_
  ·go_simp
  refine hK.out _ _ ?_
  clear hK K; refine done_ (done_of HT_.out (by kernel_rfl)) ?_
  obtain ⟨w10, hw10⟩ : ∃ w10, w10 = (w9.setCell ⟨b, 5, none⟩ (.int .u64 (hi64 (O cs + n)))).setCell ⟨b, 6, none⟩ (.int .u64 (lo64 (O cs + n))) := ⟨_, rfl⟩
  have g10 : w7.grownBy w10 (some b) := by
   rw [hw10]
   exact ((grownOfBelow (w := w7) ⟨hb9.os, hb9.tape, hb9.output, hb9.size, hb9.block⟩ (some b)).trans (grownSet w9 ⟨b, 5, none⟩ _)).trans (grownSet _ ⟨b, 6, none⟩ _)
  have hc10 : w10.heap[b]? = some (.cells (dirCells d f c7 (if cs <+: cs then S cs + n else S cs) (O cs + n)) 100 (0, 0)) := by
   rw [hw10]
   exact heapAt (heapAt (heapBelow hb9 HC7.out) _) _
  have T10 := HT7.out.sized HNB.out hc10 g10
  have e1 : (fun q => if q = cs then (if cs <+: cs then S cs + n else S cs) else (if q <+: cs then S q + n else S q)) = (fun q => if q <+: cs then S q + n else S q) := by
   funext q
   by_cases hq : q = cs
   rotate_left
   ·rw [if_neg hq]
   subst hq; rw [if_pos rfl]
  have e2 : (fun q => if q = cs then O cs + n else O q) = (fun q => if q = cs then O q + n else O q) := by
   funext q
   by_cases hq : q = cs
   ·subst hq; rfl
   rw [if_neg hq, if_neg hq]
  rw [e1, e2] at T10
  have HFP10 := heapGrown g10 HFP7.out (by simpa using typesNe HFP7.out HC7.out (by decide))
  have HB10 := zA (HB7.out.trans (belowOfGrown g10 (Nat.le_trans HT7.out.low.1 (Nat.le_of_lt HT7.out.lt.1)) (fun k hk => by injection hk with hk; subst hk; exact (HT7.out.low.2.2 _ b d f HNB.out).1)))
  obtain ⟨la, hla⟩ := T10.allm
  have v1 := (blkCells (cs := [.pointer (some ⟨root, 0, none⟩), .map (some all)]) T10.top 1 _ rfl).1
  have v2 := (blkCells (cs := [.string path, .string text, .int .i64 blob, .int .i64 (n : Int)]) HFP10 0 _ rfl).1
  have v3 := (blkCells (cs := [.string path, .string text, .int .i64 blob, .int .i64 (n : Int)]) HFP10 1 _ rfl).1
  have v4 := (blkCells (cs := [.string path, .string text, .int .i64 blob, .int .i64 (n : Int)]) HFP10 2 _ rfl).1
  have v5 := (blkCells (cs := [.string path, .string text, .int .i64 blob, .int .i64 (n : Int)]) HFP10 3 _ rfl).1
  have HT10 := zA T10; have HLA := zA hla
  rw [← hw10]
  clear hw10 g10 hc10 T10 e1 e2 HFP10 hla r1 r2 r3 r4 f2 f3 t2 t3 u2 u3 hHeld HT_ HW_ HC7 HT7 HDP7 HFP7 HB7
  have hu := Tryd.underlying45
  go_wp2_with (fail)
  refine start_ (n := 8) (S := fun w' => w'.cell? ⟨t, 1, none⟩ = some (.map (some all)) ∧ w'.cell? ⟨w.heap.size, 0, none⟩ = some (.string path) ∧ w'.cell? ⟨w.heap.size, 1, none⟩ = some (.string text) ∧ w'.cell? ⟨w.heap.size, 2, none⟩ = some (.int .i64 blob) ∧ w'.cell? ⟨w.heap.size, 3, none⟩ = some (.int .i64 (n : Int))) (ds := [7]) #[F, F, F, F, F, F, F, F] (by kernel_rfl) rfl rfl ⟨v1, v2, v3, v4, v5⟩ (fun hHeld => ?_)
  refine with_tabW trie_put.tab16 trie_put.bits16 (fun HT_ HW_ => ?_)
  refine pure_ (i := 0) (N := some 67) (v := ?_) (a' := ?_) #[T, F, F, F, F, F, F, F] rfl rfl (any_of HT_.out (by kernel_rfl)) (fun _ _ _ h => h) (Or.inl ⟨by rfl, ?_⟩) ?_ ?_
  rotate_left
  ·intro w'; go_simp; with_reducible rfl
  rotate_left
  ·simp only [Act.put, zS, zZ, zC, i64_w, i32_w]
   rfl
  refine pure_ (i := 4) (N := some 71) (v := ?_) (a' := ?_) #[T, F, F, F, T, F, F, F] rfl rfl (any_of HT_.out (by kernel_rfl)) (fun _ _ _ h => h) (Or.inl ⟨by rfl, ?_⟩) ?_ ?_
  rotate_left
  ·intro w'; go_simp; with_reducible rfl
  rotate_left
  ·simp only [Act.put, zS, zZ, zC, i64_w, i32_w]
   rfl
  refine take_ (i := 1) (N := some 68) (v := ?_) (a' := ?_) #[T, T, F, F, T, F, F, F] rfl rfl (take_ofW HT_.out HW_.out (by kernel_rfl)) (fun _ _ _ h => h) (Or.inl ⟨by rfl, ?_⟩) hHeld ?_ ?_
  rotate_left
  ·rintro w' ⟨s0, s1, s2, s3, s4⟩
   go_simp; with_reducible rfl
  rotate_left
  ·simp only [Act.put, zS, zZ, zC, i64_w, i32_w]
   rfl
  refine pure_ (i := 2) (N := some 69) (v := ?_) (a' := ?_) #[T, T, T, F, T, F, F, F] rfl rfl (any_of HT_.out (by kernel_rfl)) (fun _ _ _ h => h) (Or.inl ⟨by rfl, ?_⟩) ?_ ?_
  rotate_left
  ·intro w'; go_simp; with_reducible rfl
  rotate_left
  ·simp only [Act.put, zS, zZ, zC, i64_w, i32_w]
   rfl
  refine take_ (i := 3) (N := some 70) (v := ?_) (a' := ?_) #[T, T, T, T, T, F, F, F] rfl rfl (take_ofW HT_.out HW_.out (by kernel_rfl)) (fun _ _ _ h => h) (Or.inl ⟨by rfl, ?_⟩) hHeld ?_ ?_
  rotate_left
  ·rintro w' ⟨s0, s1, s2, s3, s4⟩
   go_simp; with_reducible rfl
  rotate_left
  ·simp only [Act.put, zS, zZ, zC, i64_w, i32_w]
   rfl
  refine take_ (i := 5) (N := some 72) (v := ?_) (a' := ?_) #[T, T, T, T, T, T, F, F] rfl rfl (take_ofW HT_.out HW_.out (by kernel_rfl)) (fun _ _ _ h => h) (Or.inl ⟨by rfl, ?_⟩) hHeld ?_ ?_
  rotate_left
  ·rintro w' ⟨s0, s1, s2, s3, s4⟩
   go_simp; with_reducible rfl
  rotate_left
  ·simp only [Act.put, zS, zZ, zC, i64_w, i32_w]
   rfl
  refine take_ (i := 6) (N := some 73) (v := ?_) (a' := ?_) #[T, T, T, T, T, T, T, F] rfl rfl (take_ofW HT_.out HW_.out (by kernel_rfl)) (fun _ _ _ h => h) (Or.inl ⟨by rfl, ?_⟩) hHeld ?_ ?_
  rotate_left
  ·rintro w' ⟨s0, s1, s2, s3, s4⟩
   go_simp; with_reducible rfl
  rotate_left
  ·simp only [Act.put, zS, zZ, zC, i64_w, i32_w]
   rfl
  refine last_ (i := 7) (N := none) #[T, T, T, T, T, T, T, T] rfl rfl (one_of HT_.out (by kernel_rfl)) (by decide) (fun K hK => ?_)
  obtain ⟨w12, hrun, hm12, hg12, hs12, _⟩ := MapIs.update_run (w := w10.drew) HLA.out (string_law Tryd.underlying9) Tryd.underlying89 path (.agg #[.string path, .string text, .int .i64 blob, .int .i64 (n : Int)])
  refine skip_ (w1 := w12) (by rfl) rfl ?_ ?_
  ·exact exec_put (by rfl) (by rfl) (by rfl) (by rfl) hrun
  refine hK.out _ _ ?_
  clear hK K; refine done_ (done_of HT_.out (by kernel_rfl)) ?_
  have g12 : w10.grownBy w12 (some all) := ⟨hg12.os, hg12.tape, hg12.output, hg12.size, hg12.block⟩
  have T12 := HT10.out.filed (.inl rfl) ⟨_, hm12⟩ g12
  have B12 := HB10.out.trans (belowOfGrown g12 (Nat.le_trans HT10.out.low.1 (Nat.le_of_lt HT10.out.lt.1)) (fun k hk => by injection hk with hk; subst hk; exact HT10.out.low.2.1))
  go_end0
  exact ⟨rfl, B12, N', T12, HDOM.out⟩
def szOf (D : S45 → Dir) (l : List S45) (q : Dir) : Nat := (l.map fun x => if q <+: D x then x.f3.toNat else 0).sum
def ownOf (D : S45 → Dir) (l : List S45) (q : Dir) : Nat := (l.map fun x => if q = D x then x.f3.toNat else 0).sum
def FileOk (k : Nat) (D : S45 → Dir) (x : S45) : Prop :=
 (∃ dirp bname, path_Dir.f k x.f0 = some dirp ∧ path_Split.f dirp = some (D x) ∧ path_Base.f k x.f0 = some bname) ∧ 0 ≤ x.f3 ∧ x.f3 ≤ 4611686018427387904
theorem szOf_le (D : S45 → Dir) (l : List S45) (h : ∀ x ∈ l, x.f3 ≤ 4611686018427387904) (q : Dir) : szOf D l q ≤ l.length * 4611686018427387904 := by
 induction l with
 | nil => simp [szOf]
 | cons x l ih =>
  have h1 := ih fun y hy => h y (by simp [hy])
  have h2 := h x (by simp)
  unfold szOf at h1 ⊢
  simp only [List.map_cons, List.sum_cons, List.length_cons]
  split <;> omega
theorem ownOf_le (D : S45 → Dir) (l : List S45) (h : ∀ x ∈ l, x.f3 ≤ 4611686018427387904) (q : Dir) : ownOf D l q ≤ l.length * 4611686018427387904 := by
 induction l with
 | nil => simp [ownOf]
 | cons x l ih =>
  have h1 := ih fun y hy => h y (by simp [hy])
  have h2 := h x (by simp)
  unfold ownOf at h1 ⊢
  simp only [List.map_cons, List.sum_cons, List.length_cons]
  split <;> omega
theorem szOf_snoc (D : S45 → Dir) (l : List S45) (x : S45) : szOf D (l ++ [x]) = fun q => if q <+: D x then szOf D l q + x.f3.toNat else szOf D l q := by
 funext q
 simp only [szOf, List.map_append, List.map_cons, List.map_nil, List.sum_append, List.sum_cons, List.sum_nil]
 split <;> omega
theorem ownOf_snoc (D : S45 → Dir) (l : List S45) (x : S45) : ownOf D (l ++ [x]) = fun q => if q = D x then ownOf D l q + x.f3.toNat else ownOf D l q := by
 funext q
 simp only [ownOf, List.map_append, List.map_cons, List.map_nil, List.sum_append, List.sum_cons, List.sum_nil]
 split <;> omega
def IsTrie (w : World) (base t : Nat) (D : S45 → Dir) (l : List S45) : Prop :=
 ∃ root all N, TrieG w base t root all N (szOf D l) (ownOf D l) ∧ ∀ q, N q ≠ none ↔ q = [] ∨ ∃ x ∈ l, q <+: D x
theorem rd_T_take (l : List S45) (i : Nat) (h : i < l.length) : l.take (i + 1) = l.take i ++ [rd_T45 l (i : Int)] := by
 rw [List.take_succ_eq_append_getElem h]
 simp [rd_T45, List.getD_eq_getElem?_getD, List.getElem?_eq_getElem h]
theorem rd_T_mem (l : List S45) (i : Nat) (h : i < l.length) : rd_T45 l (i : Int) ∈ l := by
 simp [rd_T45, List.getD_eq_getElem?_getD, List.getElem?_eq_getElem h]
set_option maxHeartbeats 2000000 in
set_option maxRecDepth 100000 in
theorem new_bad (k : Nat) (A0 : Option Addr) (c0 : Nat) (l0 : List S45) (e0 : Int) (w : World) (hr0 : Kd.C k45 w A0 l0.length l0) (hc0 : l0.length ≤ c0) (hv : snap_Valid.f k l0 = some e0) (he : e0 ≠ 0) :
  Calls Tryd.prog 43 #[.slice A0 l0.length c0] w fun e w' => e = .returned (.tuple #[.pointer none, .int .i64 e0]) ∧ Below w.heap.size w w' := by
 have HR := zA hr0; have HC := zA hc0; have HV := zA hv
 have hne : (e0 != 0) = true := bne_iff_ne.mpr he
 clear hr0 hc0 hv he
 go_enter Tryd.func43, Tryd.ntmps43
 go_wp2_with (first
  | (go_at_call 38; refine (snap_Valid.calls k A0 c0 l0 e0 _ HR.out HC.out HV.out).mono ?_; rintro e w1 ⟨rfl, hb⟩))
 go_ret2
 exact ⟨rfl, hb⟩
set_option maxHeartbeats 2000000 in
set_option maxRecDepth 100000 in
theorem new_good (k : Nat) (A0 : Option Addr) (c0 : Nat) (l0 : List S45) (D : S45 → Dir) (w : World) (hr0 : Kd.C k45 w A0 l0.length l0) (hc0 : l0.length ≤ c0) (hv : snap_Valid.f k l0 = some 0) (hl : l0.length ≤ 512) (hF : ∀ x ∈ l0, FileOk k D x) :
  Calls Tryd.prog 43 #[.slice A0 l0.length c0] w fun e w' => ∃ t, e = .returned (.tuple #[.pointer (some ⟨t, 0, none⟩), .int .i64 0]) ∧ IsTrie w' w.heap.size t D l0 ∧ Below w.heap.size w w' := by
 have HR := zA hr0; have HC := zA hc0; have HV := zA hv; have HF := zA hF; clear hr0 hc0 hv hF
 have hmm := @run_makeMap Tryd.prog
 go_enter Tryd.func43, Tryd.ntmps43
 go_wp2_with (first
  | (go_at_call 38; refine (snap_Valid.calls k A0 c0 l0 0 _ HR.out HC.out HV.out).mono ?_; rintro e w1 ⟨rfl, hb⟩; have HB1 := zA hb; clear hb)
  | (go_at_call 66; refine (made_calls _).mono ?_; rintro e w4 ⟨rfl, hw4⟩; have HW4 := zA hw4; clear hw4))
 obtain ⟨ws, hws⟩ : ∃ ws, ws = (w4.alloc (Obj.map #[] 0)).alloc (Obj.cells #[Value.pointer (some ⟨w1.heap.size + 2, 0, none⟩), Value.map (some w4.heap.size)] 91) := ⟨_, rfl⟩
 have hB1 := HB1.out
 have hw4 := HW4.out
 have h14 : w4.heap.size = w1.heap.size + 3 := by rw [hw4]; simp
 have HST : Aside0 (IsTrie ws w.heap.size (w4.heap.size + 1) D (l0.take 0) ∧ Below w.heap.size w ws) := by
  have B4 : Below w1.heap.size w1 w4 := by rw [hw4]; exact zL (zL (zL (Below.refl _ _) _) _) _
  have Bs : Below w4.heap.size w4 ws := by rw [hws]; exact zL (zL (Below.refl _ _) _) _
  have hws2 : ws.heap[w4.heap.size + 1]? = some (Obj.cells #[Value.pointer (some ⟨w1.heap.size + 2, 0, none⟩), Value.map (some w4.heap.size)] 91) := by
   rw [hws]; simpa using heap_alloc_new (w4.alloc (Obj.map #[] 0)) _
  have hall : MapIs Value.string ws w4.heap.size [] := by rw [hws]; exact (MapIs.made w4).alloc _
  have hd : MapIs Value.string ws w1.heap.size [] := by
   refine MapIs.below ?_ Bs
   rw [hw4]; exact ((MapIs.made w1).alloc _).alloc _
  have hf : MapIs Value.string ws (w1.heap.size + 1) [] := by
   refine MapIs.below ?_ Bs
   rw [hw4]
   have := MapIs.made (enc := Value.string) (w1.alloc (.map #[] 0))
   simp only [World.size_alloc] at this
   exact this.alloc _
  have hb : ws.heap[w1.heap.size + 2]? = some (Obj.cells (dirCells w1.heap.size (w1.heap.size + 1) 0 0 0) 100) := by
   refine heapBelow Bs ?_
   rw [hw4]
   simpa using heap_alloc_new ((w1.alloc (.map #[] 0)).alloc (.map #[] 0)) (.cells (dirCells w1.heap.size (w1.heap.size + 1) 0 0 0) 100)
  have hsz : w.heap.size ≤ w1.heap.size := hB1.size
  refine ⟨⟨_, _, _, TrieG.start hws2 hb hd hf hall (by omega) (by omega) (by omega) (by omega), fun q => ?_⟩, ?_⟩
  ·by_cases hq : q = []
   ·simp [hq]
   simp [hq]
  ·exact (hB1.trans (B4.mono hsz)).trans (Bs.mono (by omega))
 rw [← hws]
 clear hB1 hw4 h14 hws
 have hu := Tryd.underlying45
 go_loopw [19] (fun v19 wr => ∃ i : Nat, v19 = .int .i64 (i : Int) ∧ i ≤ l0.length ∧ Aside0 (IsTrie wr w.heap.size (w4.heap.size + 1) D (l0.take i) ∧ Below w.heap.size w wr)) (fun v19 _ => l0.length - (intOf v19).toNat)
 case atStart => exact ⟨0, rfl, Nat.zero_le _, HST⟩
 case round =>
  clear HST; obtain ⟨i, rfl, hi, HI⟩ := hrel
  by_cases hlt : i < l0.length
  rotate_left
  ·have he : i = l0.length := by omega
   subst he
   have d0 : decide ((l0.length : Int) < (l0.length : Int)) = false := decide_eq_false (by omega)
   go_wp2; go_ret2
   have hI := HI.out
   rw [List.take_length] at hI
   exact ⟨_, rfl, hI.1, hI.2⟩
  obtain ⟨ad, rfl, h0, h1, h2, h3⟩ := at_T45 HR.out (i : Int) (by omega) (by omega)
  have hB := HI.out.2
  replace h0 := (hB.cell (zB w _ h0)).trans h0
  replace h1 := (hB.cell (zB w _ h1)).trans h1
  replace h2 := (hB.cell (zB w _ h2)).trans h2
  replace h3 := (hB.cell (zB w _ h3)).trans h3
  have d1 : decide ((i : Int) < (l0.length : Int)) = true := decide_eq_true (by omega)
  have hi0 : (0 : Int) ≤ (i : Int) := by omega
  have hi1 : (i : Int) < (l0.length : Int) := by omega
  rw [Int.toNat_natCast] at h0 h1 h2 h3
  clear hB
  have KC : ∀ W, Below wr.heap.size wr W → Calls Tryd.prog 67 #[.pointer (some ⟨w4.heap.size + 1, 0, none⟩), .agg #[.string (rd_T45 l0 (i : Int)).f0, .string (rd_T45 l0 (i : Int)).f1, .int .i64 (rd_T45 l0 (i : Int)).f2, .int .i64 (rd_T45 l0 (i : Int)).f3]] W
    fun e W' => e = .returned (.tuple #[]) ∧ (IsTrie W' w.heap.size (w4.heap.size + 1) D (l0.take (i + 1)) ∧ Below w.heap.size w W') := by
   intro W hW
   obtain ⟨⟨root, all, N, hT, hdom⟩, hB⟩ := HI.out
   obtain ⟨⟨dirp, bname, e1, e2, e3⟩, hs0, hs1⟩ := HF.out _ (rd_T_mem l0 i hlt)
   have hall : ∀ x ∈ l0.take i, x.f3 ≤ 4611686018427387904 := fun x hx => (HF.out x (List.mem_of_mem_take hx)).2.2
   have hlen : (l0.take i).length ≤ 512 := by rw [List.length_take]; omega
   have en : (rd_T45 l0 (i : Int)).f3 = (((rd_T45 l0 (i : Int)).f3.toNat : Nat) : Int) := by omega
   rw [en]
   refine (put_calls k _ _ dirp _ _ w.heap.size _ root all _ N _ _ W (hT.below hW) e1 e2 bname e3 (by omega) (fun q => ?_) (fun q => ?_) (Nat.le_trans hB.size hW.size)).mono ?_
   ·have := szOf_le D _ hall q; omega
   ·have := ownOf_le D _ hall q; omega
   ·rintro e W' ⟨rfl, hb, N', hT', hdom'⟩
    refine ⟨rfl, ⟨root, all, N', ?_, fun q => ?_⟩, (hB.trans (hW.mono hB.size)).trans hb⟩
    ·rw [rd_T_take l0 i hlt, szOf_snoc, ownOf_snoc]
     exact hT'
    ·rw [hdom' q, hdom q, rd_T_take l0 i hlt]
     simp only [List.mem_append, List.mem_singleton]
     constructor
     ·rintro ((h | ⟨x, hx, h⟩) | h)
      ·exact .inl h
      ·exact .inr ⟨x, .inl hx, h⟩
      ·exact .inr ⟨_, .inr rfl, h⟩
     ·rintro (h | ⟨x, hx | rfl, h⟩)
      ·exact .inl (.inl h)
      ·exact .inl (.inr ⟨x, hx, h⟩)
      ·exact .inr h
  have KC := zA KC
  go_wp2_with (first
   | (go_at_call 67; refine (KC.out _ (zL (Below.refl _ _) _)).mono ?_; rintro e w6 ⟨rfl, hI5⟩; have HI5 := zA hI5; clear hI5))
  go_roundw
  case rel => exact ⟨i + 1, by go_num, by omega, HI5⟩
  case measure => simp [intOf]; omega
end Go.Proofs.YtnfolcefjkannaaDoor.G
namespace Go.Proofs.YtnfolcefjkannaaDoor.G
open Go.RowKit Go.Proofs.YtnfolcefjkannaaDoorW.PrintWords Go.Proofs.YtnfolcefjkannaaDoorW.PrintLast Go.Proofs.YtnfolcefjkannaaDoorW.PrintMore
attribute [local go_sem] max2_int min2_int max_two min_two max_three min_three max_four min_four
set_option linter.unusedVariables false
set_option linter.unusedSimpArgs false
def cone_Valid.l0 : Nat → List ByteArray → List ByteArray → Int → Int → Option (Int)
 | 0, _, _, _, _ => none
 | k + 1, x0, x5, x6, x7 => if x7 < x6 then (if 0 ≤ x7 then (if x7 < (x5.length : Int) then ((path_Valid.f k (rdOf ByteArray.empty x5 x7)).bind fun t150 => (if t150 = true then (if x7 > 0 then (if 0 ≤ (wrap64 (x7 - 1)) then (if (wrap64 (x7 - 1)) < (x0.length : Int) then ((path_Cmp.f k (rdOf ByteArray.empty x0 (wrap64 (x7 - 1))) (rdOf ByteArray.empty x5 x7)).bind fun t152 => (if t152 ≥ 0 then (some 13) else ((path_Above.f (rdOf ByteArray.empty x0 (wrap64 (x7 - 1))) (rdOf ByteArray.empty x5 x7)).bind fun t154 => (if t154 = true then (some 13) else (cone_Valid.l0 k x0 x5 x6 (wrap64 (x7 + 1))))))) else (none)) else (none)) else (cone_Valid.l0 k x0 x5 x6 (wrap64 (x7 + 1)))) else (some 13))) else (none)) else (none)) else (some 0)
def cone_Valid.f (k : Nat) (l0 : List ByteArray) : Option (Int) := cone_Valid.l0 k l0 l0 (l0.length : Int) 0
set_option maxHeartbeats 8000000 in
set_option maxRecDepth 100000 in
theorem cone_Valid.calls (k : Nat) (A0 : Option Addr) (c0 : Nat) (l0 : List ByteArray) (r : Int) (w : World) (hr0 : Kd.C Kd.string w A0 l0.length l0) (hc0 : l0.length ≤ c0) (h : cone_Valid.f k l0 = some r) :
  Calls Tryd.prog 18 #[.slice A0 l0.length c0] w fun e w' => e = .returned (.int .i64 r) ∧ Below w.heap.size w w' := by
 have HR0 := zA hr0; have HC0 := zA hc0; clear hr0 hc0
 have HB := zA (Below.refl w.heap.size w)
 have H : (cone_Valid.l0 k l0 l0 (l0.length : Int) 0) = some r := h
 clear h
 have H' := zA H
 clear H
 go_enter Tryd.func18, Tryd.ntmps18
 go_wp2
 go_loopg [7] k (fun kq v7 w' => ∃ (x7_1 : Int), v7 = .int .i64 x7_1 ∧ Aside0 (cone_Valid.l0 kq l0 l0 (l0.length : Int) x7_1 = some r) ∧ Aside0 (kq ≤ k) ∧ Aside0 (Below w.heap.size w w'))
 case atStart => exact ⟨(0), (by first | rfl | (simp; done) | (simp [*]; done)), H', ⟨Nat.le_refl _⟩, ⟨by repeat (first | (with_reducible first | exact HB.out | apply zL | apply zN | apply zD) | exact HB.out)⟩⟩
 case round =>
  clear H'
  try clear c1
  obtain ⟨x7_1, rfl, HA, HK1, HB⟩ := hrel
  cases gk with
  | zero => exact absurd HA.out (by simp [cone_Valid.l0])
  | succ k1 =>
   have H := HA.out
   clear HA
   simp only [cone_Valid.l0] at H
   by_cases c2 : x7_1 < (l0.length : Int)
   rotate_left
   ·rw [if_neg c2] at H
    have c2b0 : decide (x7_1 < (l0.length : Int)) = false := decide_eq_false c2
    clear c2; obtain rfl := Option.some.inj H; go_wp2; go_ret
    exact ⟨by first | rfl | (simp [errW_none, errW_some] <;> rfl) | (simp [*, errW_none, errW_some] <;> rfl), by repeat (first | (with_reducible first | exact HB.out | apply zL | apply zN | apply zD) | exact HB.out)⟩
   rw [if_pos c2] at H
   have c2b0 : decide (x7_1 < (l0.length : Int)) = true := decide_eq_true c2
   clear c2
   by_cases c3 : 0 ≤ x7_1
   rotate_left
   ·rw [if_neg c3] at H
    exact absurd H (by simp)
   rw [if_pos c3] at H
   have c3b0 : decide (0 ≤ x7_1) = true := decide_eq_true c3
   clear c3
   by_cases c4 : x7_1 < (l0.length : Int)
   rotate_left
   ·rw [if_neg c4] at H
    exact absurd H (by simp)
   rw [if_pos c4] at H
   have c4b0 : decide (x7_1 < (l0.length : Int)) = true := decide_eq_true c4
   clear c4; replace H := Option.bind_eq_some_iff.mp H; obtain ⟨t150, A50, H⟩ := H
   replace H : (if t150 = true then (if x7_1 > 0 then (if 0 ≤ (wrap64 (x7_1 - 1)) then (if (wrap64 (x7_1 - 1)) < (l0.length : Int) then ((path_Cmp.f k1 (rdOf ByteArray.empty l0 (wrap64 (x7_1 - 1))) (rdOf ByteArray.empty l0 x7_1)).bind fun t152 => (if t152 ≥ 0 then (some 13) else ((path_Above.f (rdOf ByteArray.empty l0 (wrap64 (x7_1 - 1))) (rdOf ByteArray.empty l0 x7_1)).bind fun t154 => (if t154 = true then (some 13) else (cone_Valid.l0 k1 l0 l0 (l0.length : Int) (wrap64 (x7_1 + 1))))))) else (none)) else (none)) else (cone_Valid.l0 k1 l0 l0 (l0.length : Int) (wrap64 (x7_1 + 1)))) else (some 13)) = some r := H
   have A5 := zA A50; clear A50
   by_cases c6 : t150 = true
   rotate_left
   ·replace c6 := Bool.eq_false_iff.mpr c6
    subst c6
    have H1 : (some 13) = some r := by rw [if_neg (show ¬ (false = true) by decide)] at H; exact H
    clear H; have H := H1; clear H1; obtain rfl := Option.some.inj H
    have p149 : 0 ≤ (x7_1 : Int) := zO (by first | (with_reducible assumption) | assumption)
    have q149 : x7_1 < (l0.length : Int) := zO (by first | (with_reducible assumption) | assumption)
    obtain ⟨ad149, e149, hx149_0⟩ := Kd.at_string HR0.out x7_1 p149 q149
    cases e149
    replace hx149_0 := (HB.out.cell (zB w _ hx149_0)).trans hx149_0
    replace p149 := eq_true p149
    replace q149 := eq_true q149
    go_wp2_with (first | ((with_reducible refine gate_callee (f := 28) rfl ?_); refine goesL_ (some 13) rfl rfl Tryd.func28 (by kernel_rfl) rfl #[.string (rdOf ByteArray.empty l0 x7_1)] rfl (by (try simp only [List.map_toArray, List.map_cons, List.map_nil]); first | done | rfl | (simp only [List.length_drop, List.length_take]; rfl)) ?_; (with_reducible refine (path_Valid.calls k1 (rdOf ByteArray.empty l0 x7_1) false _ A5.out).mono ?_); rintro e w24 ⟨rfl, hb⟩; refine ⟨_, rfl, ?_⟩; have n0_ := zA (below_step (by repeat (first | (with_reducible first | exact HB.out | apply zL | apply zN | apply zD) | exact HB.out)) hb); clear HB; have HB := n0_; clear n0_; (try clear hb); (try clear hb2); (try clear hk); (try clear hi)))
    go_ret
    exact ⟨by first | rfl | (simp [errW_none, errW_some] <;> rfl) | (simp [*, errW_none, errW_some] <;> rfl), by repeat (first | (with_reducible first | exact HB.out | apply zL | apply zN | apply zD) | exact HB.out)⟩
   subst c6
   have H1 : (if x7_1 > 0 then (if 0 ≤ (wrap64 (x7_1 - 1)) then (if (wrap64 (x7_1 - 1)) < (l0.length : Int) then ((path_Cmp.f k1 (rdOf ByteArray.empty l0 (wrap64 (x7_1 - 1))) (rdOf ByteArray.empty l0 x7_1)).bind fun t152 => (if t152 ≥ 0 then (some 13) else ((path_Above.f (rdOf ByteArray.empty l0 (wrap64 (x7_1 - 1))) (rdOf ByteArray.empty l0 x7_1)).bind fun t154 => (if t154 = true then (some 13) else (cone_Valid.l0 k1 l0 l0 (l0.length : Int) (wrap64 (x7_1 + 1))))))) else (none)) else (none)) else (cone_Valid.l0 k1 l0 l0 (l0.length : Int) (wrap64 (x7_1 + 1)))) = some r := by rw [if_pos rfl] at H; exact H
   clear H; have H := H1; clear H1
   by_cases c7 : x7_1 > 0
   rotate_left
   ·rw [if_neg c7] at H
    have c7b0 : decide (0 < x7_1) = false := decide_eq_false c7
    clear c7
    have H' := zA H
    clear H
    have p149 : 0 ≤ (x7_1 : Int) := zO (by first | (with_reducible assumption) | assumption)
    have q149 : x7_1 < (l0.length : Int) := zO (by first | (with_reducible assumption) | assumption)
    obtain ⟨ad149, e149, hx149_0⟩ := Kd.at_string HR0.out x7_1 p149 q149
    cases e149
    replace hx149_0 := (HB.out.cell (zB w _ hx149_0)).trans hx149_0
    replace p149 := eq_true p149
    replace q149 := eq_true q149
    go_wp2_with (first | ((with_reducible refine gate_callee (f := 28) rfl ?_); refine goesL_ (some 13) rfl rfl Tryd.func28 (by kernel_rfl) rfl #[.string (rdOf ByteArray.empty l0 x7_1)] rfl (by (try simp only [List.map_toArray, List.map_cons, List.map_nil]); first | done | rfl | (simp only [List.length_drop, List.length_take]; rfl)) ?_; (with_reducible refine (path_Valid.calls k1 (rdOf ByteArray.empty l0 x7_1) true _ A5.out).mono ?_); rintro e w23 ⟨rfl, hb⟩; refine ⟨_, rfl, ?_⟩; have n0_ := zA (below_step (by repeat (first | (with_reducible first | exact HB.out | apply zL | apply zN | apply zD) | exact HB.out)) hb); clear HB; have HB := n0_; clear n0_; (try clear hb); (try clear hb2); (try clear hk); (try clear hi)))
    go_roundg k1
    case measure => have := HK1.out; omega
    case rel => exact ⟨(wrap64 (x7_1 + 1)), (by first | rfl | (simp; done) | (simp [*]; done)), H', ⟨by have := HK1.out; omega⟩, ⟨by repeat (first | (with_reducible first | exact HB.out | apply zL | apply zN | apply zD) | exact HB.out)⟩⟩
   rw [if_pos c7] at H
   have c7b0 : decide (0 < x7_1) = true := decide_eq_true c7
   clear c7
   obtain ⟨ji8, hji8⟩ : ∃ j_ : Int, (wrap64 (x7_1 - 1)) = j_ := ⟨_, rfl⟩
   replace H : (if 0 ≤ (ji8) then (if (ji8) < (l0.length : Int) then ((path_Cmp.f k1 (rdOf ByteArray.empty l0 (ji8)) (rdOf ByteArray.empty l0 x7_1)).bind fun t152 => (if t152 ≥ 0 then (some 13) else ((path_Above.f (rdOf ByteArray.empty l0 (ji8)) (rdOf ByteArray.empty l0 x7_1)).bind fun t154 => (if t154 = true then (some 13) else (cone_Valid.l0 k1 l0 l0 (l0.length : Int) (wrap64 (x7_1 + 1))))))) else (none)) else (none)) = some r := by first | (rw [hji8] at H; exact H) | (simp only [hji8] at H ⊢; exact H)
   (try rw [hji8] at A5)
   have hji8w : (IntKind.i64.wrap (x7_1 - 1)) = ji8 := (i64_w _).trans hji8
   by_cases c9 : 0 ≤ (ji8)
   rotate_left
   ·rw [if_neg c9] at H
    exact absurd H (by simp)
   rw [if_pos c9] at H
   have c9b0 : decide (0 ≤ (ji8)) = true := decide_eq_true c9
   clear c9
   by_cases c10 : (ji8) < (l0.length : Int)
   rotate_left
   ·rw [if_neg c10] at H
    exact absurd H (by simp)
   rw [if_pos c10] at H
   have c10b0 : decide ((ji8) < (l0.length : Int)) = true := decide_eq_true c10
   clear c10; replace H := Option.bind_eq_some_iff.mp H; obtain ⟨t152, A110, H⟩ := H
   replace H : (if t152 ≥ 0 then (some 13) else ((path_Above.f (rdOf ByteArray.empty l0 (ji8)) (rdOf ByteArray.empty l0 x7_1)).bind fun t154 => (if t154 = true then (some 13) else (cone_Valid.l0 k1 l0 l0 (l0.length : Int) (wrap64 (x7_1 + 1)))))) = some r := H
   have A11 := zA A110; clear A110
   by_cases c12 : t152 ≥ 0
   ·rw [if_pos c12] at H
    have c12b0 : decide (0 ≤ t152) = true := decide_eq_true c12
    clear c12; obtain rfl := Option.some.inj H
    have p149 : 0 ≤ (x7_1 : Int) := zO (by first | (with_reducible assumption) | assumption)
    have q149 : x7_1 < (l0.length : Int) := zO (by first | (with_reducible assumption) | assumption)
    obtain ⟨ad149, e149, hx149_0⟩ := Kd.at_string HR0.out x7_1 p149 q149
    cases e149
    replace hx149_0 := (HB.out.cell (zB w _ hx149_0)).trans hx149_0
    replace p149 := eq_true p149
    replace q149 := eq_true q149
    go_wp2_with (first | ((with_reducible refine gate_callee (f := 28) rfl ?_); refine goesL_ (some 13) rfl rfl Tryd.func28 (by kernel_rfl) rfl #[.string (rdOf ByteArray.empty l0 x7_1)] rfl (by (try simp only [List.map_toArray, List.map_cons, List.map_nil]); first | done | rfl | (simp only [List.length_drop, List.length_take]; rfl)) ?_; (with_reducible refine (path_Valid.calls k1 (rdOf ByteArray.empty l0 x7_1) true _ A5.out).mono ?_); rintro e w13 ⟨rfl, hb⟩; refine ⟨_, rfl, ?_⟩; have n0_ := zA (below_step (by repeat (first | (with_reducible first | exact HB.out | apply zL | apply zN | apply zD) | exact HB.out)) hb); clear HB; have HB := n0_; clear n0_; (try clear hb); (try clear hb2); (try clear hk); (try clear hi); have p151 : 0 ≤ ((ji8) : Int) := zO (by first | (with_reducible assumption) | assumption); have q151 : (ji8) < (l0.length : Int) := zO (by first | (with_reducible assumption) | assumption); obtain ⟨ad151, e151, hx151_0⟩ := Kd.at_string HR0.out (ji8) p151 q151; obtain rfl : ad149 = ad151 := (by injection e151); replace hx151_0 := (HB.out.cell (zB w _ hx151_0)).trans hx151_0; replace p151 := eq_true p151; replace q151 := eq_true q151) | (go_at_call 36; (with_reducible refine (path_Cmp.calls k1 (rdOf ByteArray.empty l0 (ji8)) (rdOf ByteArray.empty l0 x7_1) t152 _ A11.out).mono ?_); rintro e w14 ⟨rfl, hb⟩; have n0_ := zA (below_step (by repeat (first | (with_reducible first | exact HB.out | apply zL | apply zN | apply zD) | exact HB.out)) hb); clear HB; have HB := n0_; clear n0_; (try clear hb); (try clear hb2); (try clear hk); (try clear hi)))
    go_ret
    exact ⟨by first | rfl | (simp [errW_none, errW_some] <;> rfl) | (simp only [← hji8]; first | rfl | (simp [errW_none, errW_some] <;> rfl)) | (simp [*, errW_none, errW_some] <;> rfl), by repeat (first | (with_reducible first | exact HB.out | apply zL | apply zN | apply zD) | exact HB.out)⟩
   rw [if_neg c12] at H
   have c12b0 : decide (0 ≤ t152) = false := decide_eq_false c12
   clear c12; replace H := Option.bind_eq_some_iff.mp H; obtain ⟨t154, A150, H⟩ := H
   replace H : (if t154 = true then (some 13) else (cone_Valid.l0 k1 l0 l0 (l0.length : Int) (wrap64 (x7_1 + 1)))) = some r := H
   have A15 := zA A150; clear A150
   by_cases c16 : t154 = true
   ·subst c16
    have H1 : (some 13) = some r := by rw [if_pos rfl] at H; exact H
    clear H; have H := H1; clear H1; obtain rfl := Option.some.inj H
    have p149 : 0 ≤ (x7_1 : Int) := zO (by first | (with_reducible assumption) | assumption)
    have q149 : x7_1 < (l0.length : Int) := zO (by first | (with_reducible assumption) | assumption)
    obtain ⟨ad149, e149, hx149_0⟩ := Kd.at_string HR0.out x7_1 p149 q149
    cases e149
    replace hx149_0 := (HB.out.cell (zB w _ hx149_0)).trans hx149_0
    replace p149 := eq_true p149
    replace q149 := eq_true q149
    go_wp2_with (first | ((with_reducible refine gate_callee (f := 28) rfl ?_); refine goesL_ (some 13) rfl rfl Tryd.func28 (by kernel_rfl) rfl #[.string (rdOf ByteArray.empty l0 x7_1)] rfl (by (try simp only [List.map_toArray, List.map_cons, List.map_nil]); first | done | rfl | (simp only [List.length_drop, List.length_take]; rfl)) ?_; (with_reducible refine (path_Valid.calls k1 (rdOf ByteArray.empty l0 x7_1) true _ A5.out).mono ?_); rintro e w17 ⟨rfl, hb⟩; refine ⟨_, rfl, ?_⟩; have n0_ := zA (below_step (by repeat (first | (with_reducible first | exact HB.out | apply zL | apply zN | apply zD) | exact HB.out)) hb); clear HB; have HB := n0_; clear n0_; (try clear hb); (try clear hb2); (try clear hk); (try clear hi); have p151 : 0 ≤ ((ji8) : Int) := zO (by first | (with_reducible assumption) | assumption); have q151 : (ji8) < (l0.length : Int) := zO (by first | (with_reducible assumption) | assumption); obtain ⟨ad151, e151, hx151_0⟩ := Kd.at_string HR0.out (ji8) p151 q151; obtain rfl : ad149 = ad151 := (by injection e151); replace hx151_0 := (HB.out.cell (zB w _ hx151_0)).trans hx151_0; replace p151 := eq_true p151; replace q151 := eq_true q151) | (go_at_call 36; (with_reducible refine (path_Cmp.calls k1 (rdOf ByteArray.empty l0 (ji8)) (rdOf ByteArray.empty l0 x7_1) t152 _ A11.out).mono ?_); rintro e w18 ⟨rfl, hb⟩; have n0_ := zA (below_step (by repeat (first | (with_reducible first | exact HB.out | apply zL | apply zN | apply zD) | exact HB.out)) hb); clear HB; have HB := n0_; clear n0_; (try clear hb); (try clear hb2); (try clear hk); (try clear hi); have p153 : 0 ≤ ((ji8) : Int) := zO (by first | (with_reducible assumption) | assumption); have q153 : (ji8) < (l0.length : Int) := zO (by first | (with_reducible assumption) | assumption); obtain ⟨ad153, e153, hx153_0⟩ := Kd.at_string HR0.out (ji8) p153 q153; obtain rfl : ad149 = ad153 := (by injection e153); replace hx153_0 := (HB.out.cell (zB w _ hx153_0)).trans hx153_0; replace p153 := eq_true p153; replace q153 := eq_true q153) | (go_at_call 37; (with_reducible refine (path_Above.calls (rdOf ByteArray.empty l0 (ji8)) (rdOf ByteArray.empty l0 x7_1) true _ A15.out).mono ?_); rintro e w19 ⟨rfl, hb⟩; have n0_ := zA (below_step (by repeat (first | (with_reducible first | exact HB.out | apply zL | apply zN | apply zD) | exact HB.out)) hb); clear HB; have HB := n0_; clear n0_; (try clear hb); (try clear hb2); (try clear hk); (try clear hi)))
    go_ret
    exact ⟨by first | rfl | (simp [errW_none, errW_some] <;> rfl) | (simp only [← hji8]; first | rfl | (simp [errW_none, errW_some] <;> rfl)) | (simp [*, errW_none, errW_some] <;> rfl), by repeat (first | (with_reducible first | exact HB.out | apply zL | apply zN | apply zD) | exact HB.out)⟩
   replace c16 := Bool.eq_false_iff.mpr c16
   subst c16
   have H1 : (cone_Valid.l0 k1 l0 l0 (l0.length : Int) (wrap64 (x7_1 + 1))) = some r := by rw [if_neg (show ¬ (false = true) by decide)] at H; exact H
   clear H; have H := H1; clear H1
   have H' := zA H
   clear H
   have p149 : 0 ≤ (x7_1 : Int) := zO (by first | (with_reducible assumption) | assumption)
   have q149 : x7_1 < (l0.length : Int) := zO (by first | (with_reducible assumption) | assumption)
   obtain ⟨ad149, e149, hx149_0⟩ := Kd.at_string HR0.out x7_1 p149 q149
   cases e149
   replace hx149_0 := (HB.out.cell (zB w _ hx149_0)).trans hx149_0
   replace p149 := eq_true p149
   replace q149 := eq_true q149
   go_wp2_with (first | ((with_reducible refine gate_callee (f := 28) rfl ?_); refine goesL_ (some 13) rfl rfl Tryd.func28 (by kernel_rfl) rfl #[.string (rdOf ByteArray.empty l0 x7_1)] rfl (by (try simp only [List.map_toArray, List.map_cons, List.map_nil]); first | done | rfl | (simp only [List.length_drop, List.length_take]; rfl)) ?_; (with_reducible refine (path_Valid.calls k1 (rdOf ByteArray.empty l0 x7_1) true _ A5.out).mono ?_); rintro e w20 ⟨rfl, hb⟩; refine ⟨_, rfl, ?_⟩; have n0_ := zA (below_step (by repeat (first | (with_reducible first | exact HB.out | apply zL | apply zN | apply zD) | exact HB.out)) hb); clear HB; have HB := n0_; clear n0_; (try clear hb); (try clear hb2); (try clear hk); (try clear hi); have p151 : 0 ≤ ((ji8) : Int) := zO (by first | (with_reducible assumption) | assumption); have q151 : (ji8) < (l0.length : Int) := zO (by first | (with_reducible assumption) | assumption); obtain ⟨ad151, e151, hx151_0⟩ := Kd.at_string HR0.out (ji8) p151 q151; obtain rfl : ad149 = ad151 := (by injection e151); replace hx151_0 := (HB.out.cell (zB w _ hx151_0)).trans hx151_0; replace p151 := eq_true p151; replace q151 := eq_true q151) | (go_at_call 36; (with_reducible refine (path_Cmp.calls k1 (rdOf ByteArray.empty l0 (ji8)) (rdOf ByteArray.empty l0 x7_1) t152 _ A11.out).mono ?_); rintro e w21 ⟨rfl, hb⟩; have n0_ := zA (below_step (by repeat (first | (with_reducible first | exact HB.out | apply zL | apply zN | apply zD) | exact HB.out)) hb); clear HB; have HB := n0_; clear n0_; (try clear hb); (try clear hb2); (try clear hk); (try clear hi); have p153 : 0 ≤ ((ji8) : Int) := zO (by first | (with_reducible assumption) | assumption); have q153 : (ji8) < (l0.length : Int) := zO (by first | (with_reducible assumption) | assumption); obtain ⟨ad153, e153, hx153_0⟩ := Kd.at_string HR0.out (ji8) p153 q153; obtain rfl : ad149 = ad153 := (by injection e153); replace hx153_0 := (HB.out.cell (zB w _ hx153_0)).trans hx153_0; replace p153 := eq_true p153; replace q153 := eq_true q153) | (go_at_call 37; (with_reducible refine (path_Above.calls (rdOf ByteArray.empty l0 (ji8)) (rdOf ByteArray.empty l0 x7_1) false _ A15.out).mono ?_); rintro e w22 ⟨rfl, hb⟩; have n0_ := zA (below_step (by repeat (first | (with_reducible first | exact HB.out | apply zL | apply zN | apply zD) | exact HB.out)) hb); clear HB; have HB := n0_; clear n0_; (try clear hb); (try clear hb2); (try clear hk); (try clear hi)))
   go_roundg k1
   case measure => have := HK1.out; omega
   case rel => exact ⟨(wrap64 (x7_1 + 1)), (by first | rfl | (simp; done) | (simp [*]; done)), H', ⟨by have := HK1.out; omega⟩, ⟨by repeat (first | (with_reducible first | exact HB.out | apply zL | apply zN | apply zD) | exact HB.out)⟩⟩
def merge_sum.f (a0 : Int) (a1 : Int) : Option (Int) := if a0 > (wrap64 (9223372036854775807 - a1)) then (some 9223372036854775807) else (some (wrap64 (a0 + a1)))
set_option maxHeartbeats 8000000 in
set_option maxRecDepth 100000 in
theorem merge_sum.calls (a0 : Int) (a1 : Int) (r : Int) (w : World) (h : merge_sum.f a0 a1 = some r) :
  Calls Tryd.prog 44 #[.int .i64 a0, .int .i64 a1] w fun e w' => e = .returned (.int .i64 r) ∧ Drawn0 w w' := by
 have H : (if a0 > (wrap64 (9223372036854775807 - a1)) then (some 9223372036854775807) else (some (wrap64 (a0 + a1)))) = some r := h
 clear h
 by_cases c3 : a0 > (wrap64 (9223372036854775807 - a1))
 ·rw [if_pos c3] at H
  have c3b0 : decide ((wrap64 (9223372036854775807 - a1)) < a0) = true := decide_eq_true c3
  clear c3; obtain rfl := Option.some.inj H
  go_enter Tryd.func44, Tryd.ntmps44
  go_wp2; go_ret
  exact ⟨by first | rfl | (simp; done) | (simp [*]; done), by repeat (first | exact Drawn0.refl _ | apply Drawn0.step)⟩
 rw [if_neg c3] at H
 have c3b0 : decide ((wrap64 (9223372036854775807 - a1)) < a0) = false := decide_eq_false c3
 clear c3; obtain rfl := Option.some.inj H
 go_enter Tryd.func44, Tryd.ntmps44
 go_wp2; go_ret
 exact ⟨by first | rfl | (simp; done) | (simp [*]; done), by repeat (first | exact Drawn0.refl _ | apply Drawn0.step)⟩
open Go.Proofs.YtnfolcefjkannaaDoor.TrieM Go.Proofs.YtnfolcefjkannaaDoor.Wl Go.Proofs.YtnfolcefjkannaaDoor.MapLaws
def kptr : Kd Nat := Kd.scalar (fun b : Nat => Value.pointer (some ⟨b, 0, none⟩)) (fun _ => rfl)
theorem info_dirs : (Tryd.prog.info? 87).map (fun i => (i.zero, i.size, i.bytes)) = some (some (.pointer none), 1, 8) := by kernel_rfl
theorem kptr_one {w W : World} (b : Nat) (ok : Nat → Prop) (e : Nat) (hB : Below w.heap.size w W) (hok : ok W.heap.size) : Kd.R kptr e (W.alloc (.cells #[.pointer (some ⟨b, 0, none⟩)] e)) w.heap.size ok (.slice (some ⟨W.heap.size, 0, none⟩) 1 1) [b] := by
 refine Kd.R_of_own (enc := fun b : Nat => Value.pointer (some ⟨b, 0, none⟩)) ?_ (fun k hk => ?_)
 ·simpa [encs] using World.ownsRow_lit (base := w.heap.size) (e := e) (size := 1) W #[.pointer (some ⟨b, 0, none⟩)] 1 hB.size (by decide) (by rfl)
 ·have : W.heap.size = k := by simpa [Value.ownBlock] using hk
  subst this; exact hok
def WayInv (N : Dir → Option (Nat × Nat × Nat)) (cs : Dir) (i : Nat) (bs : List Nat) : Prop :=
 bs.length = i + 1 ∧ ∃ b d f, N (cs.take i) = some (b, d, f) ∧ rdOf 0 bs (i : Int) = b
def WayEnd (N : Dir → Option (Nat × Nat × Nat)) (cs : Dir) (bs : List Nat) : Prop :=
 0 < bs.length ∧ (∀ b d f, N cs = some (b, d, f) → bs.length = cs.length + 1 ∧ rdOf 0 bs (cs.length : Int) = b) ∧ (N cs = none → bs.length ≤ cs.length)
theorem rdOf_snoc (bs : List Nat) (b : Nat) : rdOf 0 (bs ++ [b]) (bs.length : Int) = b := by simp [rdOf, List.getD_eq_getElem?_getD]
theorem none_on {w : World} {base t root all : Nat} {N : Dir → Option (Nat × Nat × Nat)} {S O : Dir → Nat} (hT : TrieG w base t root all N S O) (cs : Dir) (i : Nat) (h : N (cs.take i) = none) : N cs = none := by
 by_cases hi : cs.length ≤ i
 ·rw [List.take_of_length_le hi] at h; exact h
 have : ∀ j, i + j ≤ cs.length → N (cs.take (i + j)) = none := by
  intro j
  induction j with
  | zero => exact fun _ => h
  | succ j ih =>
   intro hj
   have h1 := ih (by omega)
   cases hN : N (cs.take (i + (j + 1))) with
   | none => rfl
   | some z =>
    have e : cs.take (i + (j + 1)) = cs.take (i + j) ++ [cs[i + j]'(by omega)] := by
     rw [← List.take_succ_eq_append_getElem (by omega)]; rfl
    exact absurd h1 (hT.up _ _ (by rw [← e, hN]; simp))
 have h2 := this (cs.length - i) (by omega)
 rw [show i + (cs.length - i) = cs.length by omega, List.take_length] at h2
 exact h2
set_option maxHeartbeats 2000000 in
set_option maxRecDepth 100000 in
theorem way_calls (p : ByteArray) (base t root all : Nat) (cs : Dir) (N : Dir → Option (Nat × Nat × Nat)) (S O : Dir → Nat) (w : World) (hT : TrieG w base t root all N S O) (hcs : path_Split.f p = some cs) (hlen : cs.length ≤ 8796093022208) :
  Calls Tryd.prog 84 #[.pointer (some ⟨t, 0, none⟩), .string p] w fun e w' => ∃ v bs, e = .returned v ∧ Kd.R kptr 87 w' w.heap.size (fun _ => True) v bs ∧ WayEnd N cs bs ∧ Below w.heap.size w w' := by
 obtain ⟨d0, f0, hN0⟩ := hT.root_
 have HC := zA hcs; have HT := zA hT
 have ht := (blkCells (cs := [.pointer (some ⟨root, 0, none⟩), .map (some all)]) hT.top 0 _ rfl).1
 have HN0 := zA hN0; have HL := zA hlen; clear hT hcs hN0 hlen
 go_enter Tryd.func84, Tryd.ntmps84
 go_wp2_with (first
  | (go_at_call 52; refine (path_Split.calls p cs _ HC.out).mono ?_; rintro e w3 ⟨v3, rfl, hR3, hb3⟩; obtain ⟨A, cc, rfl, hcc, hrow⟩ := trow_of_R hR3; have HB3 := zA hb3; have HROW := zA hrow; clear hb3 hR3 hrow))
 have hst : Aside0 (WayInv N cs 0 [root]) ∧ Aside0 (Kd.R kptr 87 w3 w.heap.size (fun _ => True) (.slice (some ⟨w.heap.size, 0, none⟩) 1 1) [root]) ∧ Aside0 (Below w.heap.size w w3) := by
  have B1 : Below w.heap.size w (w.alloc (.cells #[.pointer (some ⟨root, 0, none⟩)] 87)) := zL (Below.refl _ _) _
  exact ⟨⟨rfl, root, d0, f0, HN0.out, rfl⟩, ⟨Kd.R_below (kptr_one root _ _ (Below.refl _ _) trivial) HB3.out⟩, ⟨B1.trans (HB3.out.mono (by simp))⟩⟩
 obtain ⟨hI0, hR0, hB0⟩ := hst; clear HB3 ht
 go_loopw [5, 18] (fun v5 v18 wr => ∃ (i : Nat) (bs : List Nat), v18 = .int .i64 (i : Int) ∧ i ≤ cs.length ∧ Aside0 (WayInv N cs i bs) ∧ Aside0 (Kd.R kptr 87 wr w.heap.size (fun _ => True) v5 bs) ∧ Aside0 (Below w.heap.size w wr) ∧ Aside0 (TRow 9 wr A cs)) (fun v5 v18 _ => cs.length - (intOf v18).toNat)
 case atStart => exact ⟨0, [root], rfl, Nat.zero_le _, hI0, hR0, hB0, HROW⟩
 case round =>
  clear hI0 hR0 hB0 HROW; obtain ⟨i, bs, rfl, hi, HI, HR, HB, HROW⟩ := hrel
  obtain ⟨hbl, b, d, f, hNb, hrd⟩ := HI.out
  obtain ⟨g, cap, rfl, hgb, hgl, cells, hcells⟩ := Kd.R_form HR.out (by omega)
  by_cases hlt : i < cs.length
  rotate_left
  ·have he : i = cs.length := by omega
   subst he
   have d0 : decide ((cs.length : Int) < (cs.length : Int)) = false := decide_eq_false (by omega)
   rw [List.take_length] at hNb; have HNB := zA hNb; clear hNb hcells; go_wp2; go_ret
   refine ⟨_, bs, rfl, HR.out, ⟨by omega, fun b' d' f' h => ⟨hbl, ?_⟩, fun h => ?_⟩, HB.out⟩
   ·rw [HNB.out] at h; injection h with h; injection h with h _; rw [hrd, h]
   ·rw [HNB.out] at h; cases h
  obtain ⟨g0, rfl, hcell⟩ := HROW.out.cell i hlt
  have hT := HT.out.below HB.out
  have q0 : wr.cell? ⟨g, i, none⟩ = some (.pointer (some ⟨b, 0, none⟩)) := by
   have := (Kd.R_celln (enc := fun b : Nat => Value.pointer (some ⟨b, 0, none⟩)) 0 HR.out (i : Int) (by omega) (by omega)).1
   rw [hrd, Int.toNat_natCast] at this
   exact this
  obtain ⟨c1, hc1⟩ := hT.dir _ b d f hNb
  have q2 := (blkCells (cs := [.map (some d), .map (some f), .int .i64 c1, .int .u64 (hi64 _), .int .u64 (lo64 _), .int .u64 (hi64 _), .int .u64 (lo64 _)]) hc1 0 _ rfl).1
  obtain ⟨l, hl, hlk⟩ := hT.dirs _ b d f hNb
  have htk : cs.take i ++ [rdOf ByteArray.empty cs (i : Int)] = cs.take (i + 1) := by
   rw [List.take_succ_eq_append_getElem hlt]; simp [rdOf, List.getD_eq_getElem?_getD, List.getElem?_eq_getElem hlt]
  have d1 : decide ((i : Int) < (cs.length : Int)) = true := decide_eq_true (by omega)
  have hlt' : (i : Int) < (cs.length : Int) := by omega
  have hi0 : (0 : Int) ≤ (i : Int) := by omega
  have hlp : bs.length = i + 1 := hbl
  have hw1 : wrap64 ((i : Int) + 1) = (i : Int) + 1 := by unfold wrap64; have := HL.out; omega
  have hw : wrap64 (i : Int) = (i : Int) := by unfold wrap64; have := HL.out; omega
  cases hN : N (cs.take (i + 1)) with
  | some z =>
   obtain ⟨b', d', f'⟩ := z
   have hlook : alook l (rdOf ByteArray.empty cs (i : Int)) = some (.pointer (some ⟨b', 0, none⟩)) := by rw [hlk, htk, hN]; rfl
   have HL1 := zA hl; have HK := zA hlook; have HN1 := zA hN; have HCE := zA hcells; clear hl hlk hlook hNb hN htk hc1 hT hcells hrd hlt hgb
   have hR := HR.out
   rw [hlp] at hR ⊢
   have HR := zA hR; clear hR
   go_wp2_with (first
    | (at_lookup; refine wp_look rfl _ _ 94 true rfl 87 (string_law Tryd.underlying9) Tryd.underlying94 (.pointer none) zero_dir rfl _ rfl HL1.out ?_; rw [HK.out]; simp only [if_true, Option.getD_some, Option.isSome_some])
    | ((with_reducible refine gate_builtin (b := .append) (xs := #[.tmp 38, .tmp 40]) rfl ?_); at_builtin; refine Kd.R_append kptr (w0 := w) w.heap.size rfl (.tmp 38) (.tmp 40) 112 87 (.pointer none) 8 rfl Tryd.underlying112 info_dirs rfl (by decide) (by omega) _ bs b' [.pointer (some ⟨b', 0, none⟩)] (fun _ => True) (fun _ => False) rfl rfl rfl (fun _ hk => hk.elim) (fun _ _ => trivial) HR.out HB.out HB.out.size (by have := HL.out; omega) ?_; intro v7 w7 ho hb hg hat; have HR7 := zA ho; have HB7 := zA hb; have HG7 : Aside0 (wr.grownBy w7 (some g)) := ⟨hg⟩; clear ho hb hg hat))
   go_roundw
   case rel =>
    rw [hw1]
    refine ⟨i + 1, bs ++ [b'], by rw [Int.natCast_add]; rfl, by omega, ⟨⟨by simp [hbl], b', d', f', HN1.out, ?_⟩⟩, HR7, HB7, ⟨?_⟩⟩
    ·rw [← hbl]; exact rdOf_snoc bs b'
    ·refine HROW.out.move fun g1 cc1 h1 => ?_
     have m1 : g1 ≠ g := typesNe h1 HCE.out (by decide)
     exact heapGrown HG7.out h1 (by simpa using m1)
   case measure =>
    rw [hw1]
    clear hw hw1 hcell q0 q2
    simp [intOf]; omega
  | none =>
   have hlook : alook l (rdOf ByteArray.empty cs (i : Int)) = none := by rw [hlk, htk, hN]; rfl
   have HL1 := zA hl; have HK := zA hlook
   have HN1 := zA (none_on hT cs (i + 1) hN)
   clear hl hlk hlook hNb hN htk hc1 hT hcells hrd hlt hgb
   have hR := HR.out
   rw [hlp] at hR ⊢
   have HR := zA hR; clear hR
   go_wp2_with (first
    | (at_lookup; refine wp_look rfl _ _ 94 true rfl 87 (string_law Tryd.underlying9) Tryd.underlying94 (.pointer none) zero_dir rfl _ rfl HL1.out ?_; rw [HK.out]; simp only [if_true, Option.getD_none, Option.isSome_none]))
   go_ret
   exact ⟨_, bs, rfl, HR.out, ⟨by omega, fun b' d' f' h => (by rw [HN1.out] at h; cases h), fun h => by omega⟩, HB.out⟩
def toldN (n : Nat) : Int := if n ≤ 9223372036854775807 then (n : Int) else 9223372036854775807
theorem told_calls (n : Nat) (hn : n < 340282366920938463463374607431768211456) (w : World) : Calls Tryd.prog 69 #[.agg #[.int .u64 (hi64 n), .int .u64 (lo64 n)]] w fun e w' => e = .returned (.int .i64 (toldN n)) ∧ Below w.heap.size w w' := by
 by_cases h : hi64 n = 0
 rotate_left
 ·have d1 : decide (0 < hi64 n) = true := decide_eq_true (by unfold hi64 at h ⊢; omega)
  have e3 : toldN n = 9223372036854775807 := if_neg (fun h2 => h (by unfold hi64; omega))
  have hu := Tryd.underlying98
  rw [e3]
  go_enter Tryd.func69, Tryd.ntmps69
  go_wp2; go_ret
  exact ⟨rfl, zL (Below.refl _ _) _⟩
 by_cases h2 : n ≤ 9223372036854775807
 rotate_left
 ·have d1 : decide (0 < hi64 n) = false := decide_eq_false (by omega)
  have d2 : decide (9223372036854775807 < lo64 n) = true := decide_eq_true (by unfold hi64 at h; unfold lo64; omega)
  have e3 : toldN n = 9223372036854775807 := if_neg h2
  have hu := Tryd.underlying98
  rw [e3]
  go_enter Tryd.func69, Tryd.ntmps69
  go_wp2; go_ret
  exact ⟨rfl, zL (Below.refl _ _) _⟩
 have e2 : lo64 n = (n : Int) := by unfold lo64; omega
 have d1 : decide (0 < hi64 n) = false := decide_eq_false (by omega)
 have d2 : decide (9223372036854775807 < lo64 n) = false := decide_eq_false (by omega)
 have e3 : toldN n = (n : Int) := if_pos h2
 have e4 : wrap64 (n : Int) = (n : Int) := by unfold wrap64; omega
 have hu := Tryd.underlying98
 rw [e3]
 rw [e2] at d2 ⊢
 go_enter Tryd.func69, Tryd.ntmps69
 go_wp2; go_ret
 exact ⟨rfl, zL (Below.refl _ _) _⟩
set_option maxHeartbeats 2000000 in
set_option maxRecDepth 100000 in
theorem find_calls (p : ByteArray) (base t root all : Nat) (cs : Dir) (N : Dir → Option (Nat × Nat × Nat)) (S O : Dir → Nat) (w : World) (hT : TrieG w base t root all N S O) (hcs : path_Split.f p = some cs) (hd : path_Depth.f p = some (cs.length : Int)) (hlen : cs.length ≤ 8796093022208) :
  Calls Tryd.prog 68 #[.pointer (some ⟨t, 0, none⟩), .string p] w fun e w' => e = .returned (.pointer ((N cs).map fun x => ⟨x.1, 0, none⟩)) ∧ Below w.heap.size w w' := by
 have HC := zA hcs; have HT := zA hT; have HD := zA hd
 have hw1 : wrap64 ((cs.length : Int) + 1) = (cs.length : Int) + 1 := by unfold wrap64; omega
 have HL := zA hlen; clear hT hcs hd hlen
 go_enter Tryd.func68, Tryd.ntmps68
 cases hN : N cs with
 | some z =>
  obtain ⟨b, d, f⟩ := z; have HN := zA hN; clear hN
  go_wp2_with (first
   | (go_at_call 84; refine (way_calls p base t root all cs N S O _ HT.out HC.out HL.out).mono ?_; rintro e w3 ⟨v3, bs, rfl, hR3, hE, hb3⟩; obtain ⟨g, cap, rfl, hgb, hgl, cells, hcells⟩ := Kd.R_form hR3 hE.1; obtain ⟨hbl, hrd⟩ := hE.2.1 b d f HN.out; have HB3 := zA hb3; have q0 := (Kd.R_celln (enc := fun b : Nat => Value.pointer (some ⟨b, 0, none⟩)) 0 hR3 (cs.length : Int) (by omega) (by omega)).1; rw [hrd, Int.toNat_natCast] at q0; rw [hbl]; have hi0 : (0 : Int) ≤ (cs.length : Int) := (by omega); have hwz : wrap64 (cs.length : Int) = (cs.length : Int) := (by have := HL.out; unfold wrap64; omega); have e1 : (((cs.length : Nat) : Int) + 1 == ((cs.length : Nat) : Int) + 1) = true := (by simp); clear hb3 hR3 hE hcells)
   | (go_at_call 51; refine (path_Depth.calls p _ _ HD.out).mono ?_; rintro e w4 ⟨rfl, ⟨nd, rfl⟩⟩))
  go_ret
  exact ⟨rfl, by apply zN; exact HB3.out⟩
 | none =>
  have HN := zA hN; clear hN
  go_wp2_with (first
   | (go_at_call 84; refine (way_calls p base t root all cs N S O _ HT.out HC.out HL.out).mono ?_; rintro e w3 ⟨v3, bs, rfl, hR3, hE, hb3⟩; obtain ⟨g, cap, rfl, hgb, hgl, cells, hcells⟩ := Kd.R_form hR3 hE.1; have hbl := hE.2.2 HN.out; have HB3 := zA hb3; have e1 : ((bs.length : Int) == ((cs.length : Nat) : Int) + 1) = false := (beq_eq_false_iff_ne.mpr (by omega)); clear hb3 hR3 hE hcells)
   | (go_at_call 51; refine (path_Depth.calls p _ _ HD.out).mono ?_; rintro e w4 ⟨rfl, ⟨nd, rfl⟩⟩))
  go_ret
  exact ⟨rfl, by apply zN; exact HB3.out⟩
structure Gh57 where
 t : Nat
 base : Nat
 D : S45 → Dir
 l : List S45
 deriving Inhabited
def Gh57.Is (g : Gh57) (w : World) : Prop := IsTrie w g.base g.t g.D g.l ∧ g.l.length ≤ 512 ∧ ∀ x ∈ g.l, 0 ≤ x.f3 ∧ x.f3 ≤ 4611686018427387904
theorem Gh57.Is.below {g : Gh57} {w w' : World} (h : g.Is w) (hb : Below w.heap.size w w') : g.Is w' := by
 obtain ⟨⟨root, all, N, hT, hd⟩, h2⟩ := h
 exact ⟨⟨root, all, N, hT.below hb, hd⟩, h2⟩
def trie_Trie_Size.f (g : Gh57) (p : ByteArray) : Option Int :=
 (path_Split.f p).bind fun cs => (path_Depth.f p).bind fun d => if d = (cs.length : Int) ∧ cs.length ≤ 8796093022208 then some (toldN (szOf g.D g.l cs)) else none
def trie_Trie_Own.f (g : Gh57) (p : ByteArray) : Option Int :=
 (path_Split.f p).bind fun cs => (path_Depth.f p).bind fun d => if d = (cs.length : Int) ∧ cs.length ≤ 8796093022208 then some (toldN (ownOf g.D g.l cs)) else none
set_option maxHeartbeats 2000000 in
set_option maxRecDepth 100000 in
theorem trie_Trie_Size.calls (a0 : Gh57) (a1 : ByteArray) (r : Int) (w : World) (hg : a0.Is w) (h : trie_Trie_Size.f a0 a1 = some r) :
  Calls Tryd.prog 45 #[.pointer (some ⟨a0.t, 0, none⟩), .string a1] w fun e w' => e = .returned (.int .i64 r) ∧ Below w.heap.size w w' := by
 obtain ⟨cs, hcs, h⟩ := Option.bind_eq_some_iff.mp h
 obtain ⟨d, hd, h⟩ := Option.bind_eq_some_iff.mp h
 split at h
 ·rename_i hc
  obtain ⟨rfl, hlen⟩ := hc
  injection h with h
  subst h; obtain ⟨⟨root, all, N, hT, hdom⟩, hl, hx⟩ := hg
  have hz := szOf_le a0.D a0.l (fun x hx' => (hx x hx').2) cs
  cases hN : N cs with
  | none =>
   have e0 : toldN (szOf a0.D a0.l cs) = 0 := by rw [(hT.none_ _ hN).1]; rfl
   rw [e0]
   have K := find_calls a1 _ _ _ _ cs N _ _ w hT hcs hd hlen
   rw [hN] at K; have HK := zA K; clear K hT hN hcs hd hz e0 hx hl hdom
   go_enter Tryd.func45, Tryd.ntmps45
   go_wp2_with (first
    | (go_at_call 68; refine HK.out.mono ?_; rintro e w3 ⟨rfl, hb3⟩; have HB3 := zA hb3; clear hb3))
   go_ret
   exact ⟨rfl, HB3.out⟩
  | some z =>
   obtain ⟨b, dd, f⟩ := z
   have K := find_calls a1 _ _ _ _ cs N _ _ w hT hcs hd hlen
   rw [hN] at K
   obtain ⟨c1, hc1⟩ := hT.dir _ b dd f hN
   have q1 := (blkCells (cs := [.map (some dd), .map (some f), .int .i64 c1, .int .u64 (hi64 _), .int .u64 (lo64 _), .int .u64 (hi64 _), .int .u64 (lo64 _)]) hc1 3 _ rfl).1
   have q2 := (blkCells (cs := [.map (some dd), .map (some f), .int .i64 c1, .int .u64 (hi64 _), .int .u64 (lo64 _), .int .u64 (hi64 _), .int .u64 (lo64 _)]) hc1 4 _ rfl).1
   have HZ := zA (show szOf a0.D a0.l cs < 340282366920938463463374607431768211456 by omega)
   have HK := zA K
   have hu := Tryd.underlying98
   clear K hT hN hcs hd hz hx hl hdom hc1
   go_enter Tryd.func45, Tryd.ntmps45
   go_wp2_with (first
    | (go_at_call 68; refine HK.out.mono ?_; rintro e w3 ⟨rfl, hb3⟩; have r1 := cellBelow hb3 q1; have r2 := cellBelow hb3 q2; have HB3 := zA hb3; clear hb3; simp only [Option.map_some])
    | (go_at_call 69; refine (told_calls _ HZ.out _).mono ?_; rintro e w4 ⟨rfl, hb4⟩; have HB4 := zA hb4; clear hb4))
   go_ret
   exact ⟨rfl, HB3.out.trans (HB4.out.mono HB3.out.size)⟩
 ·cases h
end Go.Proofs.YtnfolcefjkannaaDoor.G
namespace Go.Proofs.YtnfolcefjkannaaDoor.G
open Go.RowKit Go.Proofs.YtnfolcefjkannaaDoorW.PrintWords Go.Proofs.YtnfolcefjkannaaDoorW.PrintLast Go.Proofs.YtnfolcefjkannaaDoorW.PrintMore
attribute [local go_sem] max2_int min2_int max_two min_two max_three min_three max_four min_four
set_option linter.unusedVariables false
set_option linter.unusedSimpArgs false
def slices_Index_string_string.l0 : Nat → List ByteArray → ByteArray → Int → Int → Option (Int)
 | 0, _, _, _, _ => none
 | k + 1, x0, x1, x7, x8 => if x8 < x7 then (if 0 ≤ x8 then (if x8 < (x0.length : Int) then (if x1.toList = (rdOf ByteArray.empty x0 x8).toList then (some x8) else (slices_Index_string_string.l0 k x0 x1 x7 (wrap64 (x8 + 1)))) else (none)) else (none)) else (some (-1))
def slices_Index_string_string.f (k : Nat) (l0 : List ByteArray) (a1 : ByteArray) : Option (Int) := slices_Index_string_string.l0 k l0 a1 (l0.length : Int) 0
set_option maxHeartbeats 8000000 in
set_option maxRecDepth 100000 in
theorem slices_Index_string_string.calls (k : Nat) (A0 : Option Addr) (c0 : Nat) (l0 : List ByteArray) (a1 : ByteArray) (r : Int) (w : World) (hr0 : Kd.C Kd.string w A0 l0.length l0) (hc0 : l0.length ≤ c0) (h : slices_Index_string_string.f k l0 a1 = some r) :
  Calls Tryd.prog 71 #[.slice A0 l0.length c0, .string a1] w fun e w' => e = .returned (.int .i64 r) ∧ Drawn0 w w' := by
 have HR0 := zA hr0; have HC0 := zA hc0; clear hr0 hc0
 have H : (slices_Index_string_string.l0 k l0 a1 (l0.length : Int) 0) = some r := h
 clear h
 have H' := zA H
 clear H
 go_enter Tryd.func71, Tryd.ntmps71
 go_wp2
 go_loopg [8] k (fun kq v8 w' => ∃ (x8_1 : Int), v8 = .int .i64 x8_1 ∧ Aside0 (slices_Index_string_string.l0 kq l0 a1 (l0.length : Int) x8_1 = some r) ∧ Aside0 (kq ≤ k) ∧ Drawn0 w w')
 case atStart => exact ⟨(0), (by first | rfl | (simp; done) | (simp [*]; done)), H', ⟨Nat.le_refl _⟩, by repeat (first | exact Drawn0.refl _ | apply Drawn0.step)⟩
 case round =>
  clear H'
  try clear p2
  obtain ⟨x8_1, rfl, HA, HK1, ⟨m1, rfl⟩⟩ := hrel
  cases gk with
  | zero => exact absurd HA.out (by simp [slices_Index_string_string.l0])
  | succ k1 =>
   have H := HA.out
   clear HA
   simp only [slices_Index_string_string.l0] at H
   by_cases c3 : x8_1 < (l0.length : Int)
   rotate_left
   ·rw [if_neg c3] at H
    have c3b0 : decide (x8_1 < (l0.length : Int)) = false := decide_eq_false c3
    clear c3; obtain rfl := Option.some.inj H; go_wp2; go_ret
    exact ⟨by first | rfl | (simp; done) | (simp [*]; done), by repeat (first | exact Drawn0.refl _ | apply Drawn0.step)⟩
   rw [if_pos c3] at H
   have c3b0 : decide (x8_1 < (l0.length : Int)) = true := decide_eq_true c3
   clear c3
   by_cases c4 : 0 ≤ x8_1
   rotate_left
   ·rw [if_neg c4] at H
    exact absurd H (by simp)
   rw [if_pos c4] at H
   have c4b0 : decide (0 ≤ x8_1) = true := decide_eq_true c4
   clear c4
   by_cases c5 : x8_1 < (l0.length : Int)
   rotate_left
   ·rw [if_neg c5] at H
    exact absurd H (by simp)
   rw [if_pos c5] at H
   have c5b0 : decide (x8_1 < (l0.length : Int)) = true := decide_eq_true c5
   clear c5
   by_cases c6 : a1.toList = (rdOf ByteArray.empty l0 x8_1).toList
   ·rw [if_pos c6] at H
    have c6b0 : (a1.toList == (rdOf ByteArray.empty l0 x8_1).toList) = true := beq_iff_eq.mpr c6
    have c6b1 : (a1.toList != (rdOf ByteArray.empty l0 x8_1).toList) = false := bne_eq_false_iff_eq.mpr c6
    clear c6; obtain rfl := Option.some.inj H
    have p155 : 0 ≤ (x8_1 : Int) := zO (by first | (with_reducible assumption) | assumption)
    have q155 : x8_1 < (l0.length : Int) := zO (by first | (with_reducible assumption) | assumption)
    obtain ⟨ad155, e155, hx155_0⟩ := Kd.at_string HR0.out x8_1 p155 q155
    cases e155
    replace p155 := eq_true p155
    replace q155 := eq_true q155
    go_wp2; go_ret
    exact ⟨by first | rfl | (simp; done) | (simp [*]; done), by repeat (first | exact Drawn0.refl _ | apply Drawn0.step)⟩
   rw [if_neg c6] at H
   have c6b0 : (a1.toList == (rdOf ByteArray.empty l0 x8_1).toList) = false := beq_eq_false_iff_ne.mpr c6
   have c6b1 : (a1.toList != (rdOf ByteArray.empty l0 x8_1).toList) = true := bne_iff_ne.mpr c6
   have H' := zA H
   clear H
   have p155 : 0 ≤ (x8_1 : Int) := zO (by first | (with_reducible assumption) | assumption)
   have q155 : x8_1 < (l0.length : Int) := zO (by first | (with_reducible assumption) | assumption)
   obtain ⟨ad155, e155, hx155_0⟩ := Kd.at_string HR0.out x8_1 p155 q155
   cases e155
   replace p155 := eq_true p155
   replace q155 := eq_true q155
   go_wp2
   go_roundg k1
   case measure => have := HK1.out; omega
   case rel => exact ⟨(wrap64 (x8_1 + 1)), (by first | rfl | (simp; done) | (simp [*]; done)), H', ⟨by have := HK1.out; omega⟩, by repeat (first | exact Drawn0.refl _ | apply Drawn0.step)⟩
def slices_Contains_string_string.f (k : Nat) (l0 : List ByteArray) (a1 : ByteArray) : Option (Bool) := (slices_Index_string_string.f k l0 a1).bind fun t156 => (some (decide (t156 ≥ 0)))
set_option maxHeartbeats 8000000 in
set_option maxRecDepth 100000 in
theorem slices_Contains_string_string.calls (k : Nat) (A0 : Option Addr) (c0 : Nat) (l0 : List ByteArray) (a1 : ByteArray) (r : Bool) (w : World) (hr0 : Kd.C Kd.string w A0 l0.length l0) (hc0 : l0.length ≤ c0) (h : slices_Contains_string_string.f k l0 a1 = some r) :
  Calls Tryd.prog 47 #[.slice A0 l0.length c0, .string a1] w fun e w' => e = .returned (.bool r) ∧ Drawn0 w w' := by
 have HR0 := zA hr0; have HC0 := zA hc0; clear hr0 hc0
 have H : ((slices_Index_string_string.f k l0 a1).bind fun t156 => (some (decide (t156 ≥ 0)))) = some r := h
 clear h; replace H := Option.bind_eq_some_iff.mp H; obtain ⟨t156, A30, H⟩ := H
 replace H : (some (decide (t156 ≥ 0))) = some r := H
 have A3 := zA A30; clear A30; obtain rfl := Option.some.inj H
 go_enter Tryd.func47, Tryd.ntmps47
 go_wp2_with (first | ((with_reducible refine gate_callee (f := 71) rfl ?_); refine goesL_ (some 7) rfl rfl Tryd.func71 (by kernel_rfl) rfl #[.slice A0 l0.length c0, .string a1] rfl (by (try simp only [List.map_toArray, List.map_cons, List.map_nil]); first | done | rfl | (simp only [List.length_drop, List.length_take]; rfl)) ?_; (with_reducible refine (slices_Index_string_string.calls k _ _ l0 a1 t156 _ ?side1 ?side2 A3.out).mono ?_); (case side1 => repeat (first | exact HR0.out | (with_reducible refine Kd.C_alloc ?_ _) | (with_reducible refine Kd.C_drewN ?_ _) | (with_reducible refine Kd.C_drew ?_))); (case side2 => exact HC0.out); rintro e w' ⟨rfl, ⟨nd, rfl⟩⟩; refine ⟨_, rfl, ?_⟩))
 go_ret
 exact ⟨by first | rfl | (simp; done) | (simp [*]; done), by repeat (first | exact Drawn0.refl _ | apply Drawn0.step)⟩
open Go.Proofs.YtnfolcefjkannaaDoor.TrieM Go.Proofs.YtnfolcefjkannaaDoor.Wl Go.Proofs.YtnfolcefjkannaaDoor.MapLaws
set_option maxHeartbeats 2000000 in
set_option maxRecDepth 100000 in
theorem trie_Trie_Own.calls (a0 : Gh57) (a1 : ByteArray) (r : Int) (w : World) (hg : a0.Is w) (h : trie_Trie_Own.f a0 a1 = some r) :
  Calls Tryd.prog 48 #[.pointer (some ⟨a0.t, 0, none⟩), .string a1] w fun e w' => e = .returned (.int .i64 r) ∧ Below w.heap.size w w' := by
 obtain ⟨cs, hcs, h⟩ := Option.bind_eq_some_iff.mp h
 obtain ⟨d, hd, h⟩ := Option.bind_eq_some_iff.mp h
 split at h
 ·rename_i hc
  obtain ⟨rfl, hlen⟩ := hc
  injection h with h
  subst h; obtain ⟨⟨root, all, N, hT, hdom⟩, hl, hx⟩ := hg
  have hz := ownOf_le a0.D a0.l (fun x hx' => (hx x hx').2) cs
  cases hN : N cs with
  | none =>
   have e0 : toldN (ownOf a0.D a0.l cs) = 0 := by rw [(hT.none_ _ hN).2]; rfl
   rw [e0]
   have K := find_calls a1 _ _ _ _ cs N _ _ w hT hcs hd hlen
   rw [hN] at K; have HK := zA K; clear K hT hN hcs hd hz e0 hx hl hdom
   go_enter Tryd.func48, Tryd.ntmps48
   go_wp2_with (first
    | (go_at_call 68; refine HK.out.mono ?_; rintro e w3 ⟨rfl, hb3⟩; have HB3 := zA hb3; clear hb3))
   go_ret
   exact ⟨rfl, HB3.out⟩
  | some z =>
   obtain ⟨b, dd, f⟩ := z
   have K := find_calls a1 _ _ _ _ cs N _ _ w hT hcs hd hlen
   rw [hN] at K
   obtain ⟨c1, hc1⟩ := hT.dir _ b dd f hN
   have q1 := (blkCells (cs := [.map (some dd), .map (some f), .int .i64 c1, .int .u64 (hi64 _), .int .u64 (lo64 _), .int .u64 (hi64 _), .int .u64 (lo64 _)]) hc1 5 _ rfl).1
   have q2 := (blkCells (cs := [.map (some dd), .map (some f), .int .i64 c1, .int .u64 (hi64 _), .int .u64 (lo64 _), .int .u64 (hi64 _), .int .u64 (lo64 _)]) hc1 6 _ rfl).1
   have HZ := zA (show ownOf a0.D a0.l cs < 340282366920938463463374607431768211456 by omega)
   have HK := zA K
   have hu := Tryd.underlying98
   clear K hT hN hcs hd hz hx hl hdom hc1
   go_enter Tryd.func48, Tryd.ntmps48
   go_wp2_with (first
    | (go_at_call 68; refine HK.out.mono ?_; rintro e w3 ⟨rfl, hb3⟩; have r1 := cellBelow hb3 q1; have r2 := cellBelow hb3 q2; have HB3 := zA hb3; clear hb3; simp only [Option.map_some])
    | (go_at_call 69; refine (told_calls _ HZ.out _).mono ?_; rintro e w4 ⟨rfl, hb4⟩; have HB4 := zA hb4; clear hb4))
   go_ret
   exact ⟨rfl, HB3.out.trans (HB4.out.mono HB3.out.size)⟩
 ·cases h
end Go.Proofs.YtnfolcefjkannaaDoor.G
