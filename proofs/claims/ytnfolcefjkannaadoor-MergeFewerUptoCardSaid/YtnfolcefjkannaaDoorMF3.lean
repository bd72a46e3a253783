/- This session's texts, joined by a program of this session's: contracts of functions, printed and typed, and plain laws; what nothing needs is left out. -/
import Derived.Test.YtnfolcefjkannaaDoorMF2
namespace Go.Proofs.YtnfolcefjkannaaDoor.G
open Go.RowKit Go.Proofs.YtnfolcefjkannaaDoorW.PrintWords Go.Proofs.YtnfolcefjkannaaDoorW.PrintLast Go.Proofs.YtnfolcefjkannaaDoorW.PrintMore
attribute [local go_sem] max2_int min2_int max_two min_two max_three min_three max_four min_four
set_option linter.unusedVariables false
set_option linter.unusedSimpArgs false
mutual
def merge_cost.l0 : Nat → Gh57 → List ByteArray → Int → List ByteArray → List ByteArray → Int → Int → Option (Int)
 | 0, _, _, _, _, _, _, _ => none
 | k + 1, x0, x1, x5, x6, x12, x13, x14 => if x14 < x13 then (if 0 ≤ x14 then (if x14 < (x12.length : Int) then ((trie_Trie_Size.f x0 (rdOf ByteArray.empty x12 x14)).bind fun t158 => ((merge_sum.f x5 t158).bind fun t159 => (merge_cost.l1 k x0 x1 t159 x6 (rdOf ByteArray.empty x12 x14) x12 x13 x14))) else (none)) else (none)) else (if (x1.length : Int) = 0 then (if x6.length < 8796093022208 then (merge_cost.j2 k x0 x5 (x6 ++ [(⟨#[]⟩ : ByteArray)])) else (none)) else (merge_cost.j2 k x0 x5 x6))
def merge_cost.l1 : Nat → Gh57 → List ByteArray → Int → List ByteArray → ByteArray → List ByteArray → Int → Int → Option (Int)
 | 0, _, _, _, _, _, _, _, _ => none
 | k + 1, x0, x1, x5, x6, x9, x12, x13, x14 => if x9.toList = ([] : List UInt8) then (merge_cost.l0 k x0 x1 x5 x6 x12 x13 (wrap64 (x14 + 1))) else ((path_Dir.f k x9).bind fun t160 => ((slices_Contains_string_string.f k x6 t160).bind fun t161 => (if t161 = true then (merge_cost.l0 k x0 x1 x5 x6 x12 x13 (wrap64 (x14 + 1))) else (if x6.length < 8796093022208 then (merge_cost.l1 k x0 x1 x5 (x6 ++ [t160]) t160 x12 x13 x14) else (none)))))
def merge_cost.j2 : Nat → Gh57 → Int → List ByteArray → Option (Int)
 | 0, _, _, _ => none
 | k + 1, x0, x5, x6 => merge_cost.l2 k x0 x5 x6 (x6.length : Int) 0
def merge_cost.l2 : Nat → Gh57 → Int → List ByteArray → Int → Int → Option (Int)
 | 0, _, _, _, _, _ => none
 | k + 1, x0, x5, x42, x43, x44 => if x44 < x43 then (if 0 ≤ x44 then (if x44 < (x42.length : Int) then ((trie_Trie_Own.f x0 (rdOf ByteArray.empty x42 x44)).bind fun t169 => ((merge_sum.f x5 t169).bind fun t170 => (merge_cost.l2 k x0 t170 x42 x43 (wrap64 (x44 + 1))))) else (none)) else (none)) else (some x5)
end
def merge_cost.f (k : Nat) (a0 : Gh57) (l1 : List ByteArray) : Option (Int) := merge_cost.l0 k a0 l1 0 ([] : List ByteArray) l1 (l1.length : Int) 0
set_option maxHeartbeats 8000000 in
set_option maxRecDepth 100000 in
theorem merge_cost.calls (k : Nat) (a0 : Gh57) (A1 : Option Addr) (c1 : Nat) (l1 : List ByteArray) (r : Int) (w : World) (hg : a0.Is w) (hr1 : Kd.C Kd.string w A1 l1.length l1) (hc1 : l1.length ≤ c1) (h : merge_cost.f k a0 l1 = some r) :
  Calls Tryd.prog 25 #[.pointer (some ⟨a0.t, 0, none⟩), .slice A1 l1.length c1] w fun e w' => e = .returned (.int .i64 r) ∧ Below w.heap.size w w' := by
 have HG := zA hg; clear hg; have HR1 := zA hr1; have HC1 := zA hc1; clear hr1 hc1
 have HB := zA (Below.refl w.heap.size w)
 have H : (merge_cost.l0 k a0 l1 0 ([] : List ByteArray) l1 (l1.length : Int) 0) = some r := h
 clear h
 have H' := zA H
 clear H
 go_enter Tryd.func25, Tryd.ntmps25
 go_wp2
 go_loopg [5, 6, 14] k (fun kq v5 v6 v14 w' => ∃ (x5_1 : Int) (x6_1 : List ByteArray) (x14_1 : Int), v5 = .int .i64 x5_1 ∧ v14 = .int .i64 x14_1 ∧ Aside0 (merge_cost.l0 kq a0 l1 x5_1 x6_1 l1 (l1.length : Int) x14_1 = some r) ∧ Aside0 (kq ≤ k) ∧ Aside0 (Kd.R Kd.string 9 w' w.heap.size (fun _ => True) v6 x6_1) ∧ Aside0 (Below w.heap.size w w'))
 case atStart => exact ⟨(0), (([] : List ByteArray)), (0), (by first | rfl | (simp; done) | (simp [*]; done)), (by first | rfl | (simp; done) | (simp [*]; done)), H', ⟨Nat.le_refl _⟩, ⟨by first | exact Kd.R_nil _ _ _ _ _ | exact Kd.N_nil _ _ _ _ _ | exact Kd.V_nil _ _ _ _ _ | exact Kd.Q_nil _ _ _ _ _ | exact Kd.S_nil _ _ _ _ _⟩, ⟨by repeat (first | (with_reducible first | exact HB.out | apply zL | apply zN | apply zD) | exact HB.out)⟩⟩
 case round =>
  clear H'
  try clear c1
  try clear c2
  try clear p2
  obtain ⟨x5_1, x6_1, x14_1, rfl, rfl, HA, HK1, HO_6, HB⟩ := hrel
  cases gk with
  | zero => exact absurd HA.out (by simp [merge_cost.l0])
  | succ k1 =>
   have H := HA.out
   clear HA
   simp only [merge_cost.l0] at H
   by_cases c3 : x14_1 < (l1.length : Int)
   rotate_left
   ·rw [if_neg c3] at H
    have c3b0 : decide (x14_1 < (l1.length : Int)) = false := decide_eq_false c3
    clear c3; have HC19 := zA H; clear H
    go_upto_if 38 with (fail)
    go_cut [6] (fun v6 wc => ∃ (kq : Nat) (x6_18 : List ByteArray), Aside0 (merge_cost.j2 kq a0 x5_1 x6_18 = some r) ∧ Aside0 (kq ≤ k1) ∧ Aside0 (Kd.R Kd.string 9 wc w.heap.size (fun _ => True) v6 x6_18) ∧ Aside0 (Below w.heap.size w wc))
    case first =>
     have H := HC19.out
     clear HC19
     by_cases c20 : (l1.length : Int) = 0
     rotate_left
     ·rw [if_neg c20] at H
      have c20b0 : ((l1.length : Int) == 0) = false := beq_eq_false_iff_ne.mpr c20
      have c20b1 : ((l1.length : Int) != 0) = true := bne_iff_ne.mpr c20
      have c20b2 : ¬ (l1 = []) := fun h_ => c20 (by rw [h_]; rfl)
      (first | rw [c20b0] | (simp only [i64_w, i32_w]; rw [c20b0]) | skip)
      have H' := zA H
      clear H; go_wp2
      go_meet
      case rel => exact ⟨_, (x6_1), H', ⟨by have := HK1.out; first | omega | exact Nat.le_refl _⟩, ⟨by (with_reducible repeat (first | apply Kd.R_alloc | apply Kd.R_drewN | apply Kd.R_drew)); exact HO_6.out⟩, ⟨by repeat (first | (with_reducible first | exact HB.out | apply zL | apply zN | apply zD) | exact HB.out)⟩⟩
     rw [if_pos c20] at H
     have c20b0 : ((l1.length : Int) == 0) = true := beq_iff_eq.mpr c20
     have c20b1 : ((l1.length : Int) != 0) = false := bne_eq_false_iff_eq.mpr c20
     clear c20
     (first | rw [c20b0] | (simp only [i64_w, i32_w]; rw [c20b0]) | skip)
     by_cases c21 : x6_1.length < 8796093022208
     rotate_left
     ·rw [if_neg c21] at H
      exact absurd H (by simp)
     rw [if_pos c21] at H; have LMc21 := zA c21; clear c21
     obtain ⟨y165, hy165⟩ : ∃ y_ : List ByteArray, y_ = (x6_1 ++ [(⟨#[]⟩ : ByteArray)]) := ⟨_, rfl⟩
     replace H : (merge_cost.j2 k1 a0 x5_1 y165) = some r := by first | (rw [hy165]; with_reducible exact H) | (have H2_ := (Option.bind_some _ _).symm.trans H; rw [hy165]; with_reducible exact H2_) | (have H2_ := (Option.bind_some _ _).symm.trans H; with_reducible exact H2_) | with_reducible exact H | (rw [hy165]; exact H) | exact H
     have Ny165 := zA hy165; clear hy165
     have H' := zA H
     clear H
     go_wp2_with (first | ((with_reducible refine gate_builtin (b := .append) (xs := #[.tmp 39, .tmp 40]) rfl ?_); at_builtin; refine Kd.R_append Kd.string (w0 := w) w.heap.size rfl (.tmp 39) (.tmp 40) 23 9 (.string ⟨#[]⟩) 16 rfl Tryd.underlying23 info9 rfl (by decide) (by omega) u6 x6_1 (⟨#[]⟩ : ByteArray) [.string (⟨#[]⟩ : ByteArray)] (fun _ => True) (fun _ => False) rfl rfl ?aP (fun _ hk => hk.elim) ?aF ?aO ?aB ?aS ?aL ?_; (case aP => exact rfl); (case aB => exact (by repeat (first | (with_reducible first | exact HB.out | apply zL | apply zN | apply zD) | exact HB.out))); (case aF => exact (fun _ _ => trivial)); (case aO => exact (by (with_reducible repeat (first | apply Kd.R_alloc | apply Kd.R_drewN | apply Kd.R_drew)); exact HO_6.out)); (case aS => exact (below_size (by repeat (first | (with_reducible first | exact HB.out | apply zL | apply zN | apply zD) | exact HB.out)))); (case aL => have := LMc21.out; omega); intro v166 w22 ho hb hg hat; rw [← Ny165.out] at ho; have n0_ := zA (hb); have n1_ := zA (ho); clear HB; clear HO_6; have HB := n0_; have HO167 := n1_; clear n0_ n1_; clear ho hb hg hat))
     go_meet
     case rel => exact ⟨_, (y165), H', ⟨by have := HK1.out; first | omega | exact Nat.le_refl _⟩, ⟨by (with_reducible repeat (first | apply Kd.R_alloc | apply Kd.R_drewN | apply Kd.R_drew)); exact HO167.out⟩, ⟨by repeat (first | (with_reducible first | exact HB.out | apply zL | apply zN | apply zD) | exact HB.out)⟩⟩
    case rest =>
     clear HC19
     try clear c1
     try clear p1
     try clear q1
     try clear hx1
     try clear c2
     try clear p2
     try clear c3
     try clear c3b0
     try clear c4
     try clear c4b0
     try clear c5
     try clear c5b0
     try clear p6
     try clear c9
     try clear c9b0
     try clear c9b1
     try clear c12
     try clear c15
     try clear p15
     try clear q15
     try clear hx15
     try clear c20
     try clear c20b0
     try clear c20b1
     try clear c20b2
     try clear c21
     try clear hx157_0
     try clear p1
     try clear p157
     try clear p2
     try clear q1
     try clear q157
     obtain ⟨kq, x6_18, HA, HJ18, HO_6, HB⟩ := hcut
     cases kq with
     | zero => exact absurd HA.out (by simp [merge_cost.j2])
     | succ kj18 =>
      have H := HA.out
      clear HA
      simp only [merge_cost.j2] at H
      have H' := zA H
      clear H
      obtain ⟨Ao23, co23, eo23⟩ := Kd.R_slice HO_6.out
      subst eo23; go_wp2
      go_loopg [5, 44] kj18 (fun kq v5 v44 w' => ∃ (x5_3 : Int) (x44_3 : Int), v5 = .int .i64 x5_3 ∧ v44 = .int .i64 x44_3 ∧ Aside0 (merge_cost.l2 kq a0 x5_3 x6_18 (x6_18.length : Int) x44_3 = some r) ∧ Aside0 (kq ≤ kj18) ∧ Aside0 (Kd.R Kd.string 9 w' w.heap.size (fun _ => True) (.slice Ao23 x6_18.length co23) x6_18) ∧ Aside0 (Below w.heap.size w w'))
      case atStart => exact ⟨(x5_1), (0), (by first | rfl | (simp; done) | (simp [*]; done)), (by first | rfl | (simp; done) | (simp [*]; done)), H', ⟨Nat.le_refl _⟩, ⟨by (with_reducible repeat (first | apply Kd.R_alloc | apply Kd.R_drewN | apply Kd.R_drew)); exact HO_6.out⟩, ⟨by repeat (first | (with_reducible first | exact HB.out | apply zL | apply zN | apply zD) | exact HB.out)⟩⟩
      case round =>
       clear H'
       try clear c1
       try clear p1
       try clear q1
       try clear hx1
       try clear c2
       try clear p2
       try clear c3
       try clear c3b0
       try clear c4
       try clear c4b0
       try clear c5
       try clear c5b0
       try clear p6
       try clear c9
       try clear c9b0
       try clear c9b1
       try clear c12
       try clear c15
       try clear p15
       try clear q15
       try clear hx15
       try clear c20
       try clear c20b0
       try clear c20b1
       try clear c20b2
       try clear c21
       try clear hx157_0
       try clear p1
       try clear p15
       try clear p157
       try clear p2
       try clear p6
       try clear q1
       try clear q15
       try clear q157
       obtain ⟨x5_3, x44_3, rfl, rfl, HA, HK3, HO_42, HB⟩ := hrel
       cases gk with
       | zero => exact absurd HA.out (by simp [merge_cost.l2])
       | succ k3 =>
        have H := HA.out
        clear HA
        simp only [merge_cost.l2] at H
        by_cases c24 : x44_3 < (x6_18.length : Int)
        rotate_left
        ·rw [if_neg c24] at H
         have c24b0 : decide (x44_3 < (x6_18.length : Int)) = false := decide_eq_false c24
         clear c24; obtain rfl := Option.some.inj H; go_wp2; go_ret
         exact ⟨by first | rfl | (simp [errW_none, errW_some] <;> rfl) | (simp [*, errW_none, errW_some] <;> rfl), by repeat (first | (with_reducible first | exact HB.out | apply zL | apply zN | apply zD) | exact HB.out)⟩
        rw [if_pos c24] at H
        have c24b0 : decide (x44_3 < (x6_18.length : Int)) = true := decide_eq_true c24
        clear c24
        by_cases c25 : 0 ≤ x44_3
        rotate_left
        ·rw [if_neg c25] at H
         exact absurd H (by simp)
        rw [if_pos c25] at H
        have c25b0 : decide (0 ≤ x44_3) = true := decide_eq_true c25
        clear c25
        by_cases c26 : x44_3 < (x6_18.length : Int)
        rotate_left
        ·rw [if_neg c26] at H
         exact absurd H (by simp)
        rw [if_pos c26] at H
        have c26b0 : decide (x44_3 < (x6_18.length : Int)) = true := decide_eq_true c26
        clear c26; replace H := Option.bind_eq_some_iff.mp H; obtain ⟨t169, A270, H⟩ := H
        replace H : ((merge_sum.f x5_3 t169).bind fun t170 => (merge_cost.l2 k3 a0 t170 x6_18 (x6_18.length : Int) (wrap64 (x44_3 + 1)))) = some r := H
        have A27 := zA A270; clear A270; replace H := Option.bind_eq_some_iff.mp H; obtain ⟨t170, A280, H⟩ := H
        replace H : (merge_cost.l2 k3 a0 t170 x6_18 (x6_18.length : Int) (wrap64 (x44_3 + 1))) = some r := H
        have A28 := zA A280; clear A280
        have H' := zA H
        clear H
        have p168 : 0 ≤ (x44_3 : Int) := zO (by first | (with_reducible assumption) | assumption)
        have q168 : x44_3 < (x6_18.length : Int) := zO (by first | (with_reducible assumption) | assumption)
        obtain ⟨ad168, e168, hx168_0⟩ := Kd.at_string (Kd.R_reads' HO_42.out).2.2 x44_3 p168 q168
        cases e168
        replace p168 := eq_true p168
        replace q168 := eq_true q168
        go_wp2_with (first | ((with_reducible refine gate_callee (f := 48) rfl ?_); refine goesL_ (some 51) rfl rfl Tryd.func48 (by kernel_rfl) rfl #[.pointer (some ⟨a0.t, 0, none⟩), .string (rdOf ByteArray.empty x6_18 x44_3)] rfl (by (try simp only [List.map_toArray, List.map_cons, List.map_nil]); first | done | rfl | (simp only [List.length_drop, List.length_take]; rfl)) ?_; (with_reducible refine (trie_Trie_Own.calls a0 (rdOf ByteArray.empty x6_18 x44_3) t169 _ (HG.out.below (by repeat (first | (with_reducible first | exact HB.out | apply zL | apply zN | apply zD) | exact HB.out))) A27.out).mono ?_); rintro e w29 ⟨rfl, hb⟩; refine ⟨_, rfl, ?_⟩; have n0_ := zA (Kd.R_below (by (with_reducible repeat (first | apply Kd.R_alloc | apply Kd.R_drewN | apply Kd.R_drew)); exact HO_42.out) hb); have n1_ := zA (below_step (by repeat (first | (with_reducible first | exact HB.out | apply zL | apply zN | apply zD) | exact HB.out)) hb); clear HO_42; clear HB; have HO_42 := n0_; have HB := n1_; clear n0_ n1_; (try clear hb); (try clear hb2); (try clear hk); (try clear hi)) | ((with_reducible refine gate_callee (f := 44) rfl ?_); refine goesL_ (some 52) rfl rfl Tryd.func44 (by kernel_rfl) rfl #[.int .i64 x5_3, .int .i64 t169] rfl (by (try simp only [List.map_toArray, List.map_cons, List.map_nil]); first | done | rfl | (simp only [List.length_drop, List.length_take]; rfl)) ?_; (with_reducible refine (merge_sum.calls x5_3 t169 t170 _ A28.out).mono ?_); rintro e w' ⟨rfl, ⟨nd, rfl⟩⟩; refine ⟨_, rfl, ?_⟩))
        go_roundg k3
        case measure => have := HK1.out; have := HJ18.out; have := HK3.out; omega
        case rel => exact ⟨(t170), (wrap64 (x44_3 + 1)), (by first | rfl | (simp; done) | (simp [*]; done)), (by first | rfl | (simp; done) | (simp [*]; done)), H', ⟨by have := HK1.out; have := HJ18.out; have := HK3.out; omega⟩, ⟨by (with_reducible repeat (first | apply Kd.R_alloc | apply Kd.R_drewN | apply Kd.R_drew)); exact HO_42.out⟩, ⟨by repeat (first | (with_reducible first | exact HB.out | apply zL | apply zN | apply zD) | exact HB.out)⟩⟩
   rw [if_pos c3] at H
   have c3b0 : decide (x14_1 < (l1.length : Int)) = true := decide_eq_true c3
   clear c3
   by_cases c4 : 0 ≤ x14_1
   rotate_left
   ·rw [if_neg c4] at H
    exact absurd H (by simp)
   rw [if_pos c4] at H
   have c4b0 : decide (0 ≤ x14_1) = true := decide_eq_true c4
   clear c4
   by_cases c5 : x14_1 < (l1.length : Int)
   rotate_left
   ·rw [if_neg c5] at H
    exact absurd H (by simp)
   rw [if_pos c5] at H
   have c5b0 : decide (x14_1 < (l1.length : Int)) = true := decide_eq_true c5
   clear c5; replace H := Option.bind_eq_some_iff.mp H; obtain ⟨t158, A60, H⟩ := H
   replace H : ((merge_sum.f x5_1 t158).bind fun t159 => (merge_cost.l1 k1 a0 l1 t159 x6_1 (rdOf ByteArray.empty l1 x14_1) l1 (l1.length : Int) x14_1)) = some r := H
   have A6 := zA A60; clear A60; replace H := Option.bind_eq_some_iff.mp H; obtain ⟨t159, A70, H⟩ := H
   replace H : (merge_cost.l1 k1 a0 l1 t159 x6_1 (rdOf ByteArray.empty l1 x14_1) l1 (l1.length : Int) x14_1) = some r := H
   have A7 := zA A70; clear A70
   have H' := zA H
   clear H
   have p157 : 0 ≤ (x14_1 : Int) := zO (by first | (with_reducible assumption) | assumption)
   have q157 : x14_1 < (l1.length : Int) := zO (by first | (with_reducible assumption) | assumption)
   obtain ⟨ad157, e157, hx157_0⟩ := Kd.at_string HR1.out x14_1 p157 q157
   cases e157
   replace hx157_0 := (HB.out.cell (zB w _ hx157_0)).trans hx157_0
   replace p157 := eq_true p157
   replace q157 := eq_true q157
   go_wp2_with (first | ((with_reducible refine gate_callee (f := 45) rfl ?_); refine goesL_ (some 21) rfl rfl Tryd.func45 (by kernel_rfl) rfl #[.pointer (some ⟨a0.t, 0, none⟩), .string (rdOf ByteArray.empty l1 x14_1)] rfl (by (try simp only [List.map_toArray, List.map_cons, List.map_nil]); first | done | rfl | (simp only [List.length_drop, List.length_take]; rfl)) ?_; (with_reducible refine (trie_Trie_Size.calls a0 (rdOf ByteArray.empty l1 x14_1) t158 _ (HG.out.below (by repeat (first | (with_reducible first | exact HB.out | apply zL | apply zN | apply zD) | exact HB.out))) A6.out).mono ?_); rintro e w8 ⟨rfl, hb⟩; refine ⟨_, rfl, ?_⟩; have n0_ := zA (Kd.R_below (by (with_reducible repeat (first | apply Kd.R_alloc | apply Kd.R_drewN | apply Kd.R_drew)); exact HO_6.out) hb); have n1_ := zA (below_step (by repeat (first | (with_reducible first | exact HB.out | apply zL | apply zN | apply zD) | exact HB.out)) hb); clear HO_6; clear HB; have HO_6 := n0_; have HB := n1_; clear n0_ n1_; (try clear hb); (try clear hb2); (try clear hk); (try clear hi)) | ((with_reducible refine gate_callee (f := 44) rfl ?_); refine goesL_ (some 22) rfl rfl Tryd.func44 (by kernel_rfl) rfl #[.int .i64 x5_1, .int .i64 t158] rfl (by (try simp only [List.map_toArray, List.map_cons, List.map_nil]); first | done | rfl | (simp only [List.length_drop, List.length_take]; rfl)) ?_; (with_reducible refine (merge_sum.calls x5_1 t158 t159 _ A7.out).mono ?_); rintro e w' ⟨rfl, ⟨nd, rfl⟩⟩; refine ⟨_, rfl, ?_⟩))
   go_loopg [6, 9] k1 (fun kq v6 v9 w' => ∃ (x6_2 : List ByteArray) (x9_2 : ByteArray), v9 = .string x9_2 ∧ Aside0 (merge_cost.l1 kq a0 l1 t159 x6_2 x9_2 l1 (l1.length : Int) x14_1 = some r) ∧ Aside0 (kq ≤ k1) ∧ Aside0 (Kd.R Kd.string 9 w' w.heap.size (fun _ => True) v6 x6_2) ∧ Aside0 (Below w.heap.size w w'))
   case atStart => exact ⟨(x6_1), (rdOf ByteArray.empty l1 x14_1), (by first | rfl | (simp; done) | (simp [*]; done)), H', ⟨Nat.le_refl _⟩, ⟨by (with_reducible repeat (first | apply Kd.R_alloc | apply Kd.R_drewN | apply Kd.R_drew)); exact HO_6.out⟩, ⟨by repeat (first | (with_reducible first | exact HB.out | apply zL | apply zN | apply zD) | exact HB.out)⟩⟩
   case round =>
    clear H'
    try clear c1
    try clear p1
    try clear q1
    try clear hx1
    try clear c2
    try clear p2
    try clear c3
    try clear c3b0
    try clear c4
    try clear c4b0
    try clear c5
    try clear c5b0
    try clear hx157_0
    try clear p157
    try clear p2
    try clear q157
    obtain ⟨x6_2, x9_2, rfl, HA, HK2, HO_6, HB⟩ := hrel
    cases gk with
    | zero => exact absurd HA.out (by simp [merge_cost.l1])
    | succ k2 =>
     have H := HA.out
     clear HA
     simp only [merge_cost.l1] at H
     by_cases c9 : x9_2.toList = ([] : List UInt8)
     ·rw [if_pos c9] at H
      have c9b0 : (x9_2.toList == ([] : List UInt8)) = true := beq_iff_eq.mpr c9
      have c9b1 : (x9_2.toList != ([] : List UInt8)) = false := bne_eq_false_iff_eq.mpr c9
      clear c9
      have H' := zA H
      clear H; go_wp2
      go_roundg k2
      case measure => have := HK1.out; have := HK2.out; omega
      case rel => exact ⟨(t159), (x6_2), (wrap64 (x14_1 + 1)), (by first | rfl | (simp; done) | (simp [*]; done)), (by first | rfl | (simp; done) | (simp [*]; done)), H', ⟨by have := HK1.out; have := HK2.out; omega⟩, ⟨by (with_reducible repeat (first | apply Kd.R_alloc | apply Kd.R_drewN | apply Kd.R_drew)); exact HO_6.out⟩, ⟨by repeat (first | (with_reducible first | exact HB.out | apply zL | apply zN | apply zD) | exact HB.out)⟩⟩
     rw [if_neg c9] at H
     have c9b0 : (x9_2.toList == ([] : List UInt8)) = false := beq_eq_false_iff_ne.mpr c9
     have c9b1 : (x9_2.toList != ([] : List UInt8)) = true := bne_iff_ne.mpr c9
     replace H := Option.bind_eq_some_iff.mp H; obtain ⟨t160, A100, H⟩ := H
     replace H : ((slices_Contains_string_string.f k2 x6_2 t160).bind fun t161 => (if t161 = true then (merge_cost.l0 k2 a0 l1 t159 x6_2 l1 (l1.length : Int) (wrap64 (x14_1 + 1))) else (if x6_2.length < 8796093022208 then (merge_cost.l1 k2 a0 l1 t159 (x6_2 ++ [t160]) t160 l1 (l1.length : Int) x14_1) else (none)))) = some r := H
     have A10 := zA A100; clear A100; replace H := Option.bind_eq_some_iff.mp H; obtain ⟨t161, A110, H⟩ := H
     replace H : (if t161 = true then (merge_cost.l0 k2 a0 l1 t159 x6_2 l1 (l1.length : Int) (wrap64 (x14_1 + 1))) else (if x6_2.length < 8796093022208 then (merge_cost.l1 k2 a0 l1 t159 (x6_2 ++ [t160]) t160 l1 (l1.length : Int) x14_1) else (none))) = some r := H
     have A11 := zA A110; clear A110
     by_cases c12 : t161 = true
     ·subst c12
      have H1 : (merge_cost.l0 k2 a0 l1 t159 x6_2 l1 (l1.length : Int) (wrap64 (x14_1 + 1))) = some r := by rw [if_pos rfl] at H; exact H
      clear H; have H := H1; clear H1
      have H' := zA H
      clear H
      go_wp2_with (first | ((with_reducible refine gate_callee (f := 46) rfl ?_); refine goesL_ (some 27) rfl rfl Tryd.func46 (by kernel_rfl) rfl #[.string x9_2] rfl (by (try simp only [List.map_toArray, List.map_cons, List.map_nil]); first | done | rfl | (simp only [List.length_drop, List.length_take]; rfl)) ?_; (with_reducible refine (path_Dir.calls k2 x9_2 t160 _ A10.out).mono ?_); rintro e w13 ⟨rfl, hb⟩; refine ⟨_, rfl, ?_⟩; have n0_ := zA (Kd.R_below (by (with_reducible repeat (first | apply Kd.R_alloc | apply Kd.R_drewN | apply Kd.R_drew)); exact HO_6.out) hb); have n1_ := zA (below_step (by repeat (first | (with_reducible first | exact HB.out | apply zL | apply zN | apply zD) | exact HB.out)) hb); clear HO_6; clear HB; have HO_6 := n0_; have HB := n1_; clear n0_ n1_; (try clear hb); (try clear hb2); (try clear hk); (try clear hi); obtain ⟨Ao14, co14, eo14⟩ := Kd.R_slice HO_6.out; subst eo14) | ((with_reducible refine gate_callee (f := 47) rfl ?_); refine goesL_ (some 30) rfl rfl Tryd.func47 (by kernel_rfl) rfl #[.slice Ao14 x6_2.length co14, .string t160] rfl (by (try simp only [List.map_toArray, List.map_cons, List.map_nil]); first | done | rfl | (simp only [List.length_drop, List.length_take]; rfl)) ?_; (with_reducible refine (slices_Contains_string_string.calls k2 _ _ x6_2 t160 true _ ?side1 ?side2 A11.out).mono ?_); (case side1 => repeat (first | exact (Kd.R_reads' HO_6.out).2.2 | (with_reducible refine Kd.C_alloc ?_ _) | (with_reducible refine Kd.C_drewN ?_ _) | (with_reducible refine Kd.C_drew ?_))); (case side2 => exact (Kd.R_reads' HO_6.out).2.1); rintro e w' ⟨rfl, ⟨nd, rfl⟩⟩; refine ⟨_, rfl, ?_⟩))
      go_roundg k2
      case measure => have := HK1.out; have := HK2.out; omega
      case rel => exact ⟨(t159), (x6_2), (wrap64 (x14_1 + 1)), (by first | rfl | (simp; done) | (simp [*]; done)), (by first | rfl | (simp; done) | (simp [*]; done)), H', ⟨by have := HK1.out; have := HK2.out; omega⟩, ⟨by (with_reducible repeat (first | apply Kd.R_alloc | apply Kd.R_drewN | apply Kd.R_drew)); exact HO_6.out⟩, ⟨by repeat (first | (with_reducible first | exact HB.out | apply zL | apply zN | apply zD) | exact HB.out)⟩⟩
     replace c12 := Bool.eq_false_iff.mpr c12
     subst c12
     have H1 : (if x6_2.length < 8796093022208 then (merge_cost.l1 k2 a0 l1 t159 (x6_2 ++ [t160]) t160 l1 (l1.length : Int) x14_1) else (none)) = some r := by rw [if_neg (show ¬ (false = true) by decide)] at H; exact H
     clear H; have H := H1; clear H1
     by_cases c15 : x6_2.length < 8796093022208
     rotate_left
     ·rw [if_neg c15] at H
      exact absurd H (by simp)
     rw [if_pos c15] at H; have LMc15 := zA c15; clear c15
     obtain ⟨y162, hy162⟩ : ∃ y_ : List ByteArray, y_ = (x6_2 ++ [t160]) := ⟨_, rfl⟩
     replace H : (merge_cost.l1 k2 a0 l1 t159 y162 t160 l1 (l1.length : Int) x14_1) = some r := by first | (rw [hy162]; with_reducible exact H) | (have H2_ := (Option.bind_some _ _).symm.trans H; rw [hy162]; with_reducible exact H2_) | (have H2_ := (Option.bind_some _ _).symm.trans H; with_reducible exact H2_) | with_reducible exact H | (rw [hy162]; exact H) | exact H
     have Ny162 := zA hy162; clear hy162
     have H' := zA H
     clear H
     go_wp2_with (first | ((with_reducible refine gate_callee (f := 46) rfl ?_); refine goesL_ (some 27) rfl rfl Tryd.func46 (by kernel_rfl) rfl #[.string x9_2] rfl (by (try simp only [List.map_toArray, List.map_cons, List.map_nil]); first | done | rfl | (simp only [List.length_drop, List.length_take]; rfl)) ?_; (with_reducible refine (path_Dir.calls k2 x9_2 t160 _ A10.out).mono ?_); rintro e w16 ⟨rfl, hb⟩; refine ⟨_, rfl, ?_⟩; have n0_ := zA (Kd.R_below (by (with_reducible repeat (first | apply Kd.R_alloc | apply Kd.R_drewN | apply Kd.R_drew)); exact HO_6.out) hb); have n1_ := zA (below_step (by repeat (first | (with_reducible first | exact HB.out | apply zL | apply zN | apply zD) | exact HB.out)) hb); clear HO_6; clear HB; have HO_6 := n0_; have HB := n1_; clear n0_ n1_; (try clear hb); (try clear hb2); (try clear hk); (try clear hi); obtain ⟨Ao17, co17, eo17⟩ := Kd.R_slice HO_6.out; subst eo17) | ((with_reducible refine gate_callee (f := 47) rfl ?_); refine goesL_ (some 30) rfl rfl Tryd.func47 (by kernel_rfl) rfl #[.slice Ao17 x6_2.length co17, .string t160] rfl (by (try simp only [List.map_toArray, List.map_cons, List.map_nil]); first | done | rfl | (simp only [List.length_drop, List.length_take]; rfl)) ?_; (with_reducible refine (slices_Contains_string_string.calls k2 _ _ x6_2 t160 false _ ?side1 ?side2 A11.out).mono ?_); (case side1 => repeat (first | exact (Kd.R_reads' HO_6.out).2.2 | (with_reducible refine Kd.C_alloc ?_ _) | (with_reducible refine Kd.C_drewN ?_ _) | (with_reducible refine Kd.C_drew ?_))); (case side2 => exact (Kd.R_reads' HO_6.out).2.1); rintro e w' ⟨rfl, ⟨nd, rfl⟩⟩; refine ⟨_, rfl, ?_⟩) | ((with_reducible refine gate_builtin (b := .append) (xs := #[.tmp 31, .tmp 33]) rfl ?_); at_builtin; refine Kd.R_append Kd.string (w0 := w) w.heap.size rfl (.tmp 31) (.tmp 33) 23 9 (.string ⟨#[]⟩) 16 rfl Tryd.underlying23 info9 rfl (by decide) (by omega) (.slice Ao17 x6_2.length co17) x6_2 t160 [.string t160] (fun _ => True) (fun _ => False) rfl rfl ?aP (fun _ hk => hk.elim) ?aF ?aO ?aB ?aS ?aL ?_; (case aP => exact rfl); (case aB => exact (by repeat (first | (with_reducible first | exact HB.out | apply zL | apply zN | apply zD) | exact HB.out))); (case aF => exact (fun _ _ => trivial)); (case aO => exact (by (with_reducible repeat (first | apply Kd.R_alloc | apply Kd.R_drewN | apply Kd.R_drew)); exact HO_6.out)); (case aS => exact (below_size (by repeat (first | (with_reducible first | exact HB.out | apply zL | apply zN | apply zD) | exact HB.out)))); (case aL => have := LMc15.out; omega); intro v163 w18 ho hb hg hat; rw [← Ny162.out] at ho; have n0_ := zA (hb); have n1_ := zA (ho); clear HB; clear HO_6; have HB := n0_; have HO164 := n1_; clear n0_ n1_; clear ho hb hg hat))
     go_roundg k2
     case measure => have := HK1.out; have := HK2.out; omega
     case rel => exact ⟨(y162), (t160), (by first | rfl | (simp; done) | (simp [*]; done)), H', ⟨by have := HK1.out; have := HK2.out; omega⟩, ⟨by (with_reducible repeat (first | apply Kd.R_alloc | apply Kd.R_drewN | apply Kd.R_drew)); exact HO164.out⟩, ⟨by repeat (first | (with_reducible first | exact HB.out | apply zL | apply zN | apply zD) | exact HB.out)⟩⟩
mutual
def merge_at.l0 : Nat → ByteArray → List ByteArray → Bool → List ByteArray → Int → Int → Option (List ByteArray)
 | 0, _, _, _, _, _, _ => none
 | k + 1, x1, x5, x6, x9, x10, x11 => if x11 < x10 then (if 0 ≤ x11 then (if x11 < (x9.length : Int) then (if (rdOf ByteArray.empty x9 x11).toList = x1.toList then (merge_at.j1 k x1 x5 x6 (rdOf ByteArray.empty x9 x11) x9 x10 x11 false) else ((path_Above.f x1 (rdOf ByteArray.empty x9 x11)).bind fun t172 => (merge_at.j1 k x1 x5 x6 (rdOf ByteArray.empty x9 x11) x9 x10 x11 (!t172)))) else (none)) else (none)) else (some x5)
def merge_at.j1 : Nat → ByteArray → List ByteArray → Bool → ByteArray → List ByteArray → Int → Int → Bool → Option (List ByteArray)
 | 0, _, _, _, _, _, _, _, _ => none
 | k + 1, x1, x5, x6, x8, x9, x10, x11, x23 => if x23 = true then (if x5.length < 8796093022208 then (merge_at.l0 k x1 (x5 ++ [x8]) x6 x9 x10 (wrap64 (x11 + 1))) else (none)) else (if x6 = true then (merge_at.l0 k x1 x5 x6 x9 x10 (wrap64 (x11 + 1))) else (if x5.length < 8796093022208 then (merge_at.l0 k x1 (x5 ++ [x1]) true x9 x10 (wrap64 (x11 + 1))) else (none)))
end
def merge_at.f (k : Nat) (l0 : List ByteArray) (a1 : ByteArray) : Option (List ByteArray) := merge_at.l0 k a1 ([] : List ByteArray) false l0 (l0.length : Int) 0
set_option maxHeartbeats 8000000 in
set_option maxRecDepth 100000 in
theorem merge_at.calls (k : Nat) (A0 : Option Addr) (c0 : Nat) (l0 : List ByteArray) (a1 : ByteArray) (r : List ByteArray) (w : World) (hr0 : Kd.C Kd.string w A0 l0.length l0) (hc0 : l0.length ≤ c0) (h : merge_at.f k l0 a1 = some r) :
  Calls Tryd.prog 29 #[.slice A0 l0.length c0, .string a1] w fun e w' => ∃ v0_ : Value, e = .returned (v0_) ∧ Kd.R Kd.string 9 w' w.heap.size (fun _ => True) v0_ r ∧ Below w.heap.size w w' := by
 have HR0 := zA hr0; have HC0 := zA hc0; clear hr0 hc0
 have HB := zA (Below.refl w.heap.size w)
 have H : (merge_at.l0 k a1 ([] : List ByteArray) false l0 (l0.length : Int) 0) = some r := h
 clear h
 have H' := zA H
 clear H
 go_enter Tryd.func29, Tryd.ntmps29
 go_wp2
 go_loopg [5, 6, 11] k (fun kq v5 v6 v11 w' => ∃ (x5_1 : List ByteArray) (x6_1 : Bool) (x11_1 : Int), v6 = .bool x6_1 ∧ v11 = .int .i64 x11_1 ∧ Aside0 (merge_at.l0 kq a1 x5_1 x6_1 l0 (l0.length : Int) x11_1 = some r) ∧ Aside0 (kq ≤ k) ∧ Aside0 (Kd.R Kd.string 9 w' w.heap.size (fun _ => True) v5 x5_1) ∧ Aside0 (Below w.heap.size w w'))
 case atStart => exact ⟨(([] : List ByteArray)), (false), (0), (by first | rfl | (simp; done) | (simp [*]; done)), (by first | rfl | (simp; done) | (simp [*]; done)), H', ⟨Nat.le_refl _⟩, ⟨by first | exact Kd.R_nil _ _ _ _ _ | exact Kd.N_nil _ _ _ _ _ | exact Kd.V_nil _ _ _ _ _ | exact Kd.Q_nil _ _ _ _ _ | exact Kd.S_nil _ _ _ _ _⟩, ⟨by repeat (first | (with_reducible first | exact HB.out | apply zL | apply zN | apply zD) | exact HB.out)⟩⟩
 case round =>
  clear H'
  try clear c2
  try clear p2
  obtain ⟨x5_1, x6_1, x11_1, rfl, rfl, HA, HK1, HO_5, HB⟩ := hrel
  cases gk with
  | zero => exact absurd HA.out (by simp [merge_at.l0])
  | succ k1 =>
   have H := HA.out
   clear HA
   simp only [merge_at.l0] at H
   by_cases c3 : x11_1 < (l0.length : Int)
   rotate_left
   ·rw [if_neg c3] at H
    have c3b0 : decide (x11_1 < (l0.length : Int)) = false := decide_eq_false c3
    clear c3; obtain rfl := Option.some.inj H; go_wp2; go_ret
    exact ⟨_, by first | rfl | (simp [errW_none, errW_some] <;> rfl) | (simp [*, errW_none, errW_some] <;> rfl), by (with_reducible repeat (first | apply Kd.R_alloc | apply Kd.R_drewN | apply Kd.R_drew)); exact HO_5.out, by repeat (first | (with_reducible first | exact HB.out | apply zL | apply zN | apply zD) | exact HB.out)⟩
   rw [if_pos c3] at H
   have c3b0 : decide (x11_1 < (l0.length : Int)) = true := decide_eq_true c3
   clear c3
   by_cases c4 : 0 ≤ x11_1
   rotate_left
   ·rw [if_neg c4] at H
    exact absurd H (by simp)
   rw [if_pos c4] at H
   have c4b0 : decide (0 ≤ x11_1) = true := decide_eq_true c4
   clear c4
   by_cases c5 : x11_1 < (l0.length : Int)
   rotate_left
   ·rw [if_neg c5] at H
    exact absurd H (by simp)
   rw [if_pos c5] at H
   have c5b0 : decide (x11_1 < (l0.length : Int)) = true := decide_eq_true c5
   clear c5; have HC6 := zA H; clear H
   have p171 : 0 ≤ (x11_1 : Int) := zO (by first | (with_reducible assumption) | assumption)
   have q171 : x11_1 < (l0.length : Int) := zO (by first | (with_reducible assumption) | assumption)
   obtain ⟨ad171, e171, hx171_0⟩ := Kd.at_string HR0.out x11_1 p171 q171
   cases e171
   replace hx171_0 := (HB.out.cell (zB w _ hx171_0)).trans hx171_0
   replace p171 := eq_true p171
   replace q171 := eq_true q171
   go_upto_region 6 with (fail)
   go_cut [23] (fun v23 wc => ∃ (kq : Nat) (x23_5 : Bool), v23 = .bool x23_5 ∧ Aside0 (merge_at.j1 kq a1 x5_1 x6_1 (rdOf ByteArray.empty l0 x11_1) l0 (l0.length : Int) x11_1 x23_5 = some r) ∧ Aside0 (kq ≤ k1) ∧ Aside0 (Kd.R Kd.string 9 wc w.heap.size (fun _ => True) u5 x5_1) ∧ Aside0 (Below w.heap.size w wc))
   case first =>
    have H := HC6.out
    clear HC6
    by_cases c7 : (rdOf ByteArray.empty l0 x11_1).toList = a1.toList
    ·rw [if_pos c7] at H
     have c7b0 : ((rdOf ByteArray.empty l0 x11_1).toList == a1.toList) = true := beq_iff_eq.mpr c7
     have c7b1 : ((rdOf ByteArray.empty l0 x11_1).toList != a1.toList) = false := bne_eq_false_iff_eq.mpr c7
     clear c7
     (first | rw [c7b0] | (simp only [i64_w, i32_w]; rw [c7b0]) | skip)
     have H' := zA H
     clear H; go_wp2
     go_meet
     case rel => exact ⟨_, (false), (by first | rfl | (simp; done) | (simp [*]; done)), H', ⟨by have := HK1.out; first | omega | exact Nat.le_refl _⟩, ⟨by (with_reducible repeat (first | apply Kd.R_alloc | apply Kd.R_drewN | apply Kd.R_drew)); exact HO_5.out⟩, ⟨by repeat (first | (with_reducible first | exact HB.out | apply zL | apply zN | apply zD) | exact HB.out)⟩⟩
    rw [if_neg c7] at H
    have c7b0 : ((rdOf ByteArray.empty l0 x11_1).toList == a1.toList) = false := beq_eq_false_iff_ne.mpr c7
    have c7b1 : ((rdOf ByteArray.empty l0 x11_1).toList != a1.toList) = true := bne_iff_ne.mpr c7
    (first | rw [c7b0] | (simp only [i64_w, i32_w]; rw [c7b0]) | skip)
    replace H := Option.bind_eq_some_iff.mp H; obtain ⟨t172, A80, H⟩ := H
    replace H : (merge_at.j1 k1 a1 x5_1 x6_1 (rdOf ByteArray.empty l0 x11_1) l0 (l0.length : Int) x11_1 (!t172)) = some r := H
    have A8 := zA A80; clear A80
    have H' := zA H
    clear H
    go_wp2_with (first | (go_at_call 37; (with_reducible refine (path_Above.calls a1 (rdOf ByteArray.empty l0 x11_1) t172 _ A8.out).mono ?_); rintro e w9 ⟨rfl, hb⟩; have n0_ := zA (Kd.R_below (by (with_reducible repeat (first | apply Kd.R_alloc | apply Kd.R_drewN | apply Kd.R_drew)); exact HO_5.out) hb); have n1_ := zA (below_step (by repeat (first | (with_reducible first | exact HB.out | apply zL | apply zN | apply zD) | exact HB.out)) hb); clear HO_5; clear HB; have HO_5 := n0_; have HB := n1_; clear n0_ n1_; (try clear hb); (try clear hb2); (try clear hk); (try clear hi)))
    go_meet
    case rel => exact ⟨_, (!t172), (by first | rfl | (simp; done) | (simp [*]; done)), H', ⟨by have := HK1.out; first | omega | exact Nat.le_refl _⟩, ⟨by (with_reducible repeat (first | apply Kd.R_alloc | apply Kd.R_drewN | apply Kd.R_drew)); exact HO_5.out⟩, ⟨by repeat (first | (with_reducible first | exact HB.out | apply zL | apply zN | apply zD) | exact HB.out)⟩⟩
   case rest =>
    clear HC6
    try clear p1
    try clear q1
    try clear hx1
    try clear c2
    try clear p2
    try clear c3
    try clear c3b0
    try clear c4
    try clear c4b0
    try clear c5
    try clear c5b0
    try clear c7
    try clear c7b0
    try clear c7b1
    try clear hx171_0
    try clear p171
    try clear p2
    try clear q171
    obtain ⟨kq, x23_5, rfl, HA, HJ5, HO_5, HB⟩ := hcut
    cases kq with
    | zero => exact absurd HA.out (by simp [merge_at.j1])
    | succ kj5 =>
     have H := HA.out
     clear HA
     simp only [merge_at.j1] at H
     by_cases c10 : x23_5 = true
     ·subst c10
      have H1 : (if x5_1.length < 8796093022208 then (merge_at.l0 kj5 a1 (x5_1 ++ [(rdOf ByteArray.empty l0 x11_1)]) x6_1 l0 (l0.length : Int) (wrap64 (x11_1 + 1))) else (none)) = some r := by rw [if_pos rfl] at H; exact H
      clear H; have H := H1; clear H1
      by_cases c11 : x5_1.length < 8796093022208
      rotate_left
      ·rw [if_neg c11] at H
       exact absurd H (by simp)
      rw [if_pos c11] at H; have LMc11 := zA c11; clear c11
      obtain ⟨y173, hy173⟩ : ∃ y_ : List ByteArray, y_ = (x5_1 ++ [(rdOf ByteArray.empty l0 x11_1)]) := ⟨_, rfl⟩
      replace H : (merge_at.l0 kj5 a1 y173 x6_1 l0 (l0.length : Int) (wrap64 (x11_1 + 1))) = some r := by first | (rw [hy173]; with_reducible exact H) | (have H2_ := (Option.bind_some _ _).symm.trans H; rw [hy173]; with_reducible exact H2_) | (have H2_ := (Option.bind_some _ _).symm.trans H; with_reducible exact H2_) | with_reducible exact H | (rw [hy173]; exact H) | exact H
      have Ny173 := zA hy173; clear hy173
      have H' := zA H
      clear H
      go_wp2_with (first | ((with_reducible refine gate_builtin (b := .append) (xs := #[.tmp 24, .tmp 26]) rfl ?_); at_builtin; refine Kd.R_append Kd.string (w0 := w) w.heap.size rfl (.tmp 24) (.tmp 26) 23 9 (.string ⟨#[]⟩) 16 rfl Tryd.underlying23 info9 rfl (by decide) (by omega) u5 x5_1 (rdOf ByteArray.empty l0 x11_1) [.string (rdOf ByteArray.empty l0 x11_1)] (fun _ => True) (fun _ => False) rfl rfl ?aP (fun _ hk => hk.elim) ?aF ?aO ?aB ?aS ?aL ?_; (case aP => exact rfl); (case aB => exact (by repeat (first | (with_reducible first | exact HB.out | apply zL | apply zN | apply zD) | exact HB.out))); (case aF => exact (fun _ _ => trivial)); (case aO => exact (by (with_reducible repeat (first | apply Kd.R_alloc | apply Kd.R_drewN | apply Kd.R_drew)); exact HO_5.out)); (case aS => exact (below_size (by repeat (first | (with_reducible first | exact HB.out | apply zL | apply zN | apply zD) | exact HB.out)))); (case aL => have := LMc11.out; omega); intro v174 w12 ho hb hg hat; rw [← Ny173.out] at ho; have n0_ := zA (hb); have n1_ := zA (ho); clear HB; clear HO_5; have HB := n0_; have HO175 := n1_; clear n0_ n1_; clear ho hb hg hat))
      go_roundg kj5
      case measure => have := HK1.out; have := HJ5.out; omega
      case rel => exact ⟨(y173), (x6_1), (wrap64 (x11_1 + 1)), (by first | rfl | (simp; done) | (simp [*]; done)), (by first | rfl | (simp; done) | (simp [*]; done)), H', ⟨by have := HK1.out; have := HJ5.out; omega⟩, ⟨by (with_reducible repeat (first | apply Kd.R_alloc | apply Kd.R_drewN | apply Kd.R_drew)); exact HO175.out⟩, ⟨by repeat (first | (with_reducible first | exact HB.out | apply zL | apply zN | apply zD) | exact HB.out)⟩⟩
     replace c10 := Bool.eq_false_iff.mpr c10
     subst c10
     have H1 : (if x6_1 = true then (merge_at.l0 kj5 a1 x5_1 x6_1 l0 (l0.length : Int) (wrap64 (x11_1 + 1))) else (if x5_1.length < 8796093022208 then (merge_at.l0 kj5 a1 (x5_1 ++ [a1]) true l0 (l0.length : Int) (wrap64 (x11_1 + 1))) else (none))) = some r := by rw [if_neg (show ¬ (false = true) by decide)] at H; exact H
     clear H; have H := H1; clear H1
     by_cases c13 : x6_1 = true
     ·subst c13
      have H1 : (merge_at.l0 kj5 a1 x5_1 true l0 (l0.length : Int) (wrap64 (x11_1 + 1))) = some r := by rw [if_pos rfl] at H; exact H
      clear H; have H := H1; clear H1
      have H' := zA H
      clear H; go_wp2
      go_roundg kj5
      case measure => have := HK1.out; have := HJ5.out; omega
      case rel => exact ⟨(x5_1), (true), (wrap64 (x11_1 + 1)), (by first | rfl | (simp; done) | (simp [*]; done)), (by first | rfl | (simp; done) | (simp [*]; done)), H', ⟨by have := HK1.out; have := HJ5.out; omega⟩, ⟨by (with_reducible repeat (first | apply Kd.R_alloc | apply Kd.R_drewN | apply Kd.R_drew)); exact HO_5.out⟩, ⟨by repeat (first | (with_reducible first | exact HB.out | apply zL | apply zN | apply zD) | exact HB.out)⟩⟩
     replace c13 := Bool.eq_false_iff.mpr c13
     subst c13
     have H1 : (if x5_1.length < 8796093022208 then (merge_at.l0 kj5 a1 (x5_1 ++ [a1]) true l0 (l0.length : Int) (wrap64 (x11_1 + 1))) else (none)) = some r := by rw [if_neg (show ¬ (false = true) by decide)] at H; exact H
     clear H; have H := H1; clear H1
     by_cases c14 : x5_1.length < 8796093022208
     rotate_left
     ·rw [if_neg c14] at H
      exact absurd H (by simp)
     rw [if_pos c14] at H; have LMc14 := zA c14; clear c14
     obtain ⟨y176, hy176⟩ : ∃ y_ : List ByteArray, y_ = (x5_1 ++ [a1]) := ⟨_, rfl⟩
     replace H : (merge_at.l0 kj5 a1 y176 true l0 (l0.length : Int) (wrap64 (x11_1 + 1))) = some r := by first | (rw [hy176]; with_reducible exact H) | (have H2_ := (Option.bind_some _ _).symm.trans H; rw [hy176]; with_reducible exact H2_) | (have H2_ := (Option.bind_some _ _).symm.trans H; with_reducible exact H2_) | with_reducible exact H | (rw [hy176]; exact H) | exact H
     have Ny176 := zA hy176; clear hy176
     have H' := zA H
     clear H
     go_wp2_with (first | ((with_reducible refine gate_builtin (b := .append) (xs := #[.tmp 30, .tmp 32]) rfl ?_); at_builtin; refine Kd.R_append Kd.string (w0 := w) w.heap.size rfl (.tmp 30) (.tmp 32) 23 9 (.string ⟨#[]⟩) 16 rfl Tryd.underlying23 info9 rfl (by decide) (by omega) u5 x5_1 a1 [.string a1] (fun _ => True) (fun _ => False) rfl rfl ?aP (fun _ hk => hk.elim) ?aF ?aO ?aB ?aS ?aL ?_; (case aP => exact rfl); (case aB => exact (by repeat (first | (with_reducible first | exact HB.out | apply zL | apply zN | apply zD) | exact HB.out))); (case aF => exact (fun _ _ => trivial)); (case aO => exact (by (with_reducible repeat (first | apply Kd.R_alloc | apply Kd.R_drewN | apply Kd.R_drew)); exact HO_5.out)); (case aS => exact (below_size (by repeat (first | (with_reducible first | exact HB.out | apply zL | apply zN | apply zD) | exact HB.out)))); (case aL => have := LMc14.out; omega); intro v177 w15 ho hb hg hat; rw [← Ny176.out] at ho; have n0_ := zA (hb); have n1_ := zA (ho); clear HB; clear HO_5; have HB := n0_; have HO178 := n1_; clear n0_ n1_; clear ho hb hg hat))
     go_roundg kj5
     case measure => have := HK1.out; have := HJ5.out; omega
     case rel => exact ⟨(y176), (true), (wrap64 (x11_1 + 1)), (by first | rfl | (simp; done) | (simp [*]; done)), (by first | rfl | (simp; done) | (simp [*]; done)), H', ⟨by have := HK1.out; have := HJ5.out; omega⟩, ⟨by (with_reducible repeat (first | apply Kd.R_alloc | apply Kd.R_drewN | apply Kd.R_drew)); exact HO178.out⟩, ⟨by repeat (first | (with_reducible first | exact HB.out | apply zL | apply zN | apply zD) | exact HB.out)⟩⟩
def strings_Join.f (l0 : List ByteArray) (a1 : ByteArray) : Option ByteArray := (Go.Proofs.YtnfolcefjkannaaDoor.Base.sep1 a1).bind fun c =>
 if l0.length ≤ 140737488355328 ∧ (Go.Proofs.YtnfolcefjkannaaDoor.Base.glue c (l0.map (·.data.toList))).length ≤ 140737488355328 then some (Go.Proofs.YtnfolcefjkannaaDoor.Base.mkB (Go.Proofs.YtnfolcefjkannaaDoor.Base.glue c (l0.map (·.data.toList)))) else none
theorem strings_Join.calls (A0 : Option Addr) (c0 : Nat) (l0 : List ByteArray) (a1 : ByteArray) (r : ByteArray) (w : World) (hr0 : Kd.C Kd.string w A0 l0.length l0) (hc0 : l0.length ≤ c0) (h : strings_Join.f l0 a1 = some r) :
  Calls Tryd.prog 77 #[.slice A0 l0.length c0, .string a1] w fun e w' => e = .returned (.string r) ∧ Below w.heap.size w w' := by
 obtain ⟨c, h1, h2⟩ := Option.bind_eq_some_iff.1 h
 split at h2
 ·rename_i hs
  injection h2 with h2
  exact Go.Proofs.YtnfolcefjkannaaDoor.SumA.join_calls A0 c0 l0 a1 r w c (Go.Proofs.YtnfolcefjkannaaDoor.Base.sep1_eq h1) hr0 hc0 hs.1 hs.2 h2.symm
 ·cases h2
def path_Common.f (a0 : ByteArray) (a1 : ByteArray) : Option (ByteArray) := (path_Split.f a0).bind fun t179 => ((path_Split.f a1).bind fun t182 => ((path_common.f t179 t182).bind fun t185 => (if 0 ≤ t185 then (if t185 ≤ (t179.length : Int) then ((strings_Join.f (t179.take (t185 : Int).toNat) (⟨#[47]⟩ : ByteArray)).bind fun t190 => (some t190)) else (none)) else (none))))
set_option maxHeartbeats 8000000 in
set_option maxRecDepth 100000 in
theorem path_Common.calls (a0 : ByteArray) (a1 : ByteArray) (r : ByteArray) (w : World) (h : path_Common.f a0 a1 = some r) :
  Calls Tryd.prog 55 #[.string a0, .string a1] w fun e w' => e = .returned (.string r) ∧ Below w.heap.size w w' := by
 have HB := zA (Below.refl w.heap.size w)
 have H : ((path_Split.f a0).bind fun t179 => ((path_Split.f a1).bind fun t182 => ((path_common.f t179 t182).bind fun t185 => (if 0 ≤ t185 then (if t185 ≤ (t179.length : Int) then ((strings_Join.f (t179.take (t185 : Int).toNat) (⟨#[47]⟩ : ByteArray)).bind fun t190 => (some t190)) else (none)) else (none))))) = some r := h
 clear h; replace H := Option.bind_eq_some_iff.mp H; obtain ⟨t179, A30, H⟩ := H
 replace H : ((path_Split.f a1).bind fun t182 => ((path_common.f t179 t182).bind fun t185 => (if 0 ≤ t185 then (if t185 ≤ (t179.length : Int) then ((strings_Join.f (t179.take (t185 : Int).toNat) (⟨#[47]⟩ : ByteArray)).bind fun t190 => (some t190)) else (none)) else (none)))) = some r := H
 have A3 := zA A30; clear A30; replace H := Option.bind_eq_some_iff.mp H; obtain ⟨t182, A40, H⟩ := H
 replace H : ((path_common.f t179 t182).bind fun t185 => (if 0 ≤ t185 then (if t185 ≤ (t179.length : Int) then ((strings_Join.f (t179.take (t185 : Int).toNat) (⟨#[47]⟩ : ByteArray)).bind fun t190 => (some t190)) else (none)) else (none))) = some r := H
 have A4 := zA A40; clear A40; replace H := Option.bind_eq_some_iff.mp H; obtain ⟨t185, A50, H⟩ := H
 replace H : (if 0 ≤ t185 then (if t185 ≤ (t179.length : Int) then ((strings_Join.f (t179.take (t185 : Int).toNat) (⟨#[47]⟩ : ByteArray)).bind fun t190 => (some t190)) else (none)) else (none)) = some r := H
 have A5 := zA A50; clear A50
 by_cases c6 : 0 ≤ t185
 rotate_left
 ·rw [if_neg c6] at H
  exact absurd H (by simp)
 rw [if_pos c6] at H
 have c6b0 := eq_true c6
 have c6b1 : decide (0 ≤ t185) = true := decide_eq_true c6
 clear c6
 by_cases c7 : t185 ≤ (t179.length : Int)
 rotate_left
 ·rw [if_neg c7] at H
  exact absurd H (by simp)
 rw [if_pos c7] at H
 have c7b0 := eq_true c7
 have c7b1 : decide (t185 ≤ (t179.length : Int)) = true := decide_eq_true c7
 clear c7
 obtain ⟨y186, hy186⟩ : ∃ y_ : List ByteArray, y_ = (t179.take (t185 : Int).toNat) := ⟨_, rfl⟩
 replace H : ((strings_Join.f y186 (⟨#[47]⟩ : ByteArray)).bind fun t190 => (some t190)) = some r := by first | (rw [hy186]; with_reducible exact H) | (have H2_ := (Option.bind_some _ _).symm.trans H; rw [hy186]; with_reducible exact H2_) | (have H2_ := (Option.bind_some _ _).symm.trans H; with_reducible exact H2_) | with_reducible exact H | (rw [hy186]; exact H) | exact H
 have Ny186 := zA hy186; clear hy186; replace H := Option.bind_eq_some_iff.mp H; obtain ⟨t190, A80, H⟩ := H
 replace H : (some t190) = some r := H
 have A8 := zA A80; clear A80; obtain rfl := Option.some.inj H
 go_enter Tryd.func55, Tryd.ntmps55
 go_wp2_with (first | ((with_reducible refine gate_callee (f := 52) rfl ?_); refine goesL_ (some 7) rfl rfl Tryd.func52 (by kernel_rfl) rfl #[.string a0] rfl (by (try simp only [List.map_toArray, List.map_cons, List.map_nil]); first | done | rfl | (simp only [List.length_drop, List.length_take]; rfl)) ?_; (with_reducible refine (path_Split.calls a0 t179 _ A3.out).mono ?_); rintro e w9 ⟨v180, rfl, ho0, hb⟩; refine ⟨_, rfl, ?_⟩; have n0_ := zA (Kd.R_lower ho0 (below_size (by repeat (first | (with_reducible first | exact HB.out | apply zL | apply zN | apply zD) | exact HB.out)))); have n1_ := zA (below_step (by repeat (first | (with_reducible first | exact HB.out | apply zL | apply zN | apply zD) | exact HB.out)) hb); clear HB; have HO181 := n0_; have HB := n1_; clear n0_ n1_; (try clear hb); (try clear hb2); (try clear hk); (try clear hi); (try clear ho0)) | ((with_reducible refine gate_callee (f := 52) rfl ?_); refine goesL_ (some 11) rfl rfl Tryd.func52 (by kernel_rfl) rfl #[.string a1] rfl (by (try simp only [List.map_toArray, List.map_cons, List.map_nil]); first | done | rfl | (simp only [List.length_drop, List.length_take]; rfl)) ?_; (with_reducible refine (path_Split.calls a1 t182 _ A4.out).mono ?_); rintro e w10 ⟨v183, rfl, ho0, hb⟩; refine ⟨_, rfl, ?_⟩; have n0_ := zA (Kd.R_elder' (by (with_reducible repeat (first | apply Kd.R_alloc | apply Kd.R_drewN | apply Kd.R_drew)); exact HO181.out) (Kd.R_base ho0) hb); have n1_ := zA (Kd.R_lower (Kd.R_new' ho0 (Kd.R_lt (by (with_reducible repeat (first | apply Kd.R_alloc | apply Kd.R_drewN | apply Kd.R_drew)); exact HO181.out))) (below_size (by repeat (first | (with_reducible first | exact HB.out | apply zL | apply zN | apply zD) | exact HB.out)))); have n2_ := zA (below_step (by repeat (first | (with_reducible first | exact HB.out | apply zL | apply zN | apply zD) | exact HB.out)) hb); clear HO181; clear HB; have HO181 := n0_; have HO184 := n1_; have HB := n2_; clear n0_ n1_ n2_; (try clear hb); (try clear hb2); (try clear hk); (try clear hi); (try clear ho0); obtain ⟨Ao11, co11, eo11⟩ := Kd.R_slice HO181.out; subst eo11; obtain ⟨Ao12, co12, eo12⟩ := Kd.R_slice HO184.out; subst eo12) | ((with_reducible refine gate_callee (f := 59) rfl ?_); refine goesL_ (some 12) rfl rfl Tryd.func59 (by kernel_rfl) rfl #[.slice Ao11 t179.length co11, .slice Ao12 t182.length co12] rfl (by (try simp only [List.map_toArray, List.map_cons, List.map_nil]); first | done | rfl | (simp only [List.length_drop, List.length_take]; rfl)) ?_; (with_reducible refine (path_common.calls _ _ t179 _ _ t182 t185 _ ?side1 ?side2 ?side3 ?side4 A5.out).mono ?_); (case side1 => repeat (first | exact (Kd.R_reads' HO181.out).2.2 | (with_reducible refine Kd.C_alloc ?_ _) | (with_reducible refine Kd.C_drewN ?_ _) | (with_reducible refine Kd.C_drew ?_))); (case side2 => exact (Kd.R_reads' HO181.out).2.1); (case side3 => repeat (first | exact (Kd.R_reads' HO184.out).2.2 | (with_reducible refine Kd.C_alloc ?_ _) | (with_reducible refine Kd.C_drewN ?_ _) | (with_reducible refine Kd.C_drew ?_))); (case side4 => exact (Kd.R_reads' HO184.out).2.1); rintro e w' ⟨rfl, ⟨nd, rfl⟩⟩; refine ⟨_, rfl, ?_⟩; have q13 : (t185 : Int) ≤ ((t179.length : Int) : Int) := zO (by first | (with_reducible assumption) | assumption); obtain ⟨i013, hi013, _, hsz13, _⟩ := info_parts info9; have hroom13 : t179.length ≤ co11 := (Kd.R_reads' HO181.out).2.1; have hC13 : Kd.C Kd.string _ Ao11 t179.length t179 := (Kd.R_reads' HO181.out).2.2; have hcut13 := cut_to (P := Tryd.prog) 23 9 .i64 Tryd.underlying23 hi013 Ao11 t179.length co11 t185 (zO (by first | (with_reducible assumption) | assumption)) q13 hroom13; have hr13 := Kd.C_take (m := (t185 : Int).toNat) hC13 (by omega); have hy13 : y186.length = (t185 : Int).toNat := (by rw [Ny186.out, List.length_take]; omega); rw [← Ny186.out] at hr13; rw [← hy13] at hcut13; have HR189 := zA hr13; have HC189 := zA (show y186.length ≤ co11 from by omega); clear hr13 hC13 hroom13 hi013 hsz13; have KY13 := zA hy13; clear hy13; have KL13 := zA (show (t185 : Int).toNat ≤ t179.length from by omega); replace q13 := eq_true q13) | ((with_reducible refine gate_callee (f := 77) rfl ?_); refine goesL_ (some 14) rfl rfl Tryd.func77 (by kernel_rfl) rfl #[.slice Ao11 y186.length co11, .string (⟨#[47]⟩ : ByteArray)] rfl (by (try simp only [List.map_toArray, List.map_cons, List.map_nil]); first | done | rfl | (simp only [List.length_drop, List.length_take]; rfl)) ?_; (with_reducible refine (strings_Join.calls _ _ y186 (⟨#[47]⟩ : ByteArray) t190 _ ?side1 ?side2 A8.out).mono ?_); (case side1 => repeat (first | exact (by repeat (first | (with_reducible exact HR189.out) | (with_reducible refine Kd.C_alloc ?_ _) | (with_reducible refine Kd.C_drewN ?_ _) | (with_reducible refine Kd.C_drew ?_) | exact HR189.out)) | (with_reducible refine Kd.C_alloc ?_ _) | (with_reducible refine Kd.C_drewN ?_ _) | (with_reducible refine Kd.C_drew ?_))); (case side2 => exact HC189.out); rintro e w14 ⟨rfl, hb⟩; refine ⟨_, rfl, ?_⟩; have n0_ := zA (Kd.R_below (by (with_reducible repeat (first | apply Kd.R_alloc | apply Kd.R_drewN | apply Kd.R_drew)); exact HO181.out) hb); have n1_ := zA (Kd.R_below (by (with_reducible repeat (first | apply Kd.R_alloc | apply Kd.R_drewN | apply Kd.R_drew)); exact HO184.out) hb); have n2_ := zA (Kd.C_below (by repeat (first | (with_reducible exact HR189.out) | (with_reducible refine Kd.C_alloc ?_ _) | (with_reducible refine Kd.C_drewN ?_ _) | (with_reducible refine Kd.C_drew ?_) | exact HR189.out)) hb); have n3_ := zA (below_step (by repeat (first | (with_reducible first | exact HB.out | apply zL | apply zN | apply zD) | exact HB.out)) hb); clear HO181; clear HO184; clear HR189; clear HB; have HO181 := n0_; have HO184 := n1_; have HR189 := n2_; have HB := n3_; clear n0_ n1_ n2_ n3_; (try clear hb); (try clear hb2); (try clear hk); (try clear hi)))
 go_ret
 exact ⟨by first | rfl | (simp [errW_none, errW_some] <;> rfl) | (simp [*, errW_none, errW_some] <;> rfl), by repeat (first | (with_reducible first | exact HB.out | apply zL | apply zN | apply zD) | exact HB.out)⟩
def merge_step_1.f (k : Nat) (a0_0 : ByteArray) (a0_1 : Int) (a1_0 : ByteArray) (a1_1 : Int) : Option (Bool) := if a0_1 = a1_1 then ((path_Depth.f a0_0).bind fun t193 => ((path_Depth.f a1_0).bind fun t194 => (if t193 = t194 then ((path_Cmp.f k a0_0 a1_0).bind fun t195 => (some (decide (t195 < 0)))) else (some (decide (t193 > t194)))))) else (some (decide (a0_1 < a1_1)))
set_option maxHeartbeats 8000000 in
set_option maxRecDepth 100000 in
theorem merge_step_1.calls (k : Nat) (a0_0 : ByteArray) (a0_1 : Int) (a1_0 : ByteArray) (a1_1 : Int) (r : Bool) (w : World) (h : merge_step_1.f k a0_0 a0_1 a1_0 a1_1 = some r) :
  Calls Tryd.prog 57 #[.agg #[.string a0_0, .int .i64 a0_1], .agg #[.string a1_0, .int .i64 a1_1]] w fun e w' => e = .returned (.bool r) ∧ Below w.heap.size w w' := by
 have hu81 := Tryd.underlying81
 have HB := zA (Below.refl w.heap.size w)
 have H : (if a0_1 = a1_1 then ((path_Depth.f a0_0).bind fun t193 => ((path_Depth.f a1_0).bind fun t194 => (if t193 = t194 then ((path_Cmp.f k a0_0 a1_0).bind fun t195 => (some (decide (t195 < 0)))) else (some (decide (t193 > t194)))))) else (some (decide (a0_1 < a1_1)))) = some r := h
 clear h
 by_cases c3 : a0_1 = a1_1
 rotate_left
 ·rw [if_neg c3] at H
  have c3b0 : (a0_1 == a1_1) = false := beq_eq_false_iff_ne.mpr c3
  have c3b1 : (a0_1 != a1_1) = true := bne_iff_ne.mpr c3
  obtain rfl := Option.some.inj H
  go_enter Tryd.func57, Tryd.ntmps57
  go_wp2_with (first | ((with_reducible refine gate_dst (N := 2) rfl ?_); refine box_event ?hg (N := 2) ?hd (cs := #[.string a0_0, .int .i64 a0_1]) (t := 81) ?hr ?_; (case hd => rfl); (case hg => rfl); (case hr => first | (go_simp; done) | (go_simp; rfl)); intro gb191 hg w19 hbox hb; have n0_ := zA (below_step (by repeat (first | (with_reducible first | exact HB.out | apply zL | apply zN | apply zD) | exact HB.out)) hb); have n1_ := zA (hbox); have n2_ := zA ((by rw [hg]; exact (below_size (by repeat (first | (with_reducible first | exact HB.out | apply zL | apply zN | apply zD) | exact HB.out))) : w.heap.size ≤ gb191)); have n3_ := zA ((by rw [hg]; exact (below_size (by repeat (first | (with_reducible first | exact HB.out | apply zL | apply zN | apply zD) | exact HB.out))) : w.heap.size ≤ gb191)); clear HB; have HB := n0_; have BK191 := n1_; have GW191 := n2_; have GE191 := n3_; clear n0_ n1_ n2_ n3_; clear hb hbox hg) | ((with_reducible refine gate_dst (N := 3) rfl ?_); refine box_event ?hg (N := 3) ?hd (cs := #[.string a1_0, .int .i64 a1_1]) (t := 81) ?hr ?_; (case hd => rfl); (case hg => rfl); (case hr => first | (go_simp; done) | (go_simp; rfl)); intro gb192 hg w20 hbox hb; have n0_ := zA (blk_below (g := gb191) (o := .cells #[.string a0_0, .int .i64 a0_1] 81 (0, 0)) (by (with_reducible repeat (first | refine blk_drewN ?_ _ | refine blk_drew ?_ | refine blk_alloc ?_ _)); exact BK191.out) hb); have n1_ := zA (below_step (by repeat (first | (with_reducible first | exact HB.out | apply zL | apply zN | apply zD | refine below_set ?_ GE191.out) | exact HB.out)) hb); have n2_ := zA (hbox); have n3_ := zA ((by rw [hg]; exact (below_size (by repeat (first | (with_reducible first | exact HB.out | apply zL | apply zN | apply zD | refine below_set ?_ GE191.out) | exact HB.out))) : w.heap.size ≤ gb192)); have n4_ := zA ((by rw [hg]; exact (below_size (by repeat (first | (with_reducible first | exact HB.out | apply zL | apply zN | apply zD | refine below_set ?_ GE191.out) | exact HB.out))) : w.heap.size ≤ gb192)); have n5_ := zA ((by rw [hg]; exact Nat.ne_of_lt (blk_lt (g := gb191) (o := .cells #[.string a0_0, .int .i64 a0_1] 81 (0, 0)) (by (with_reducible repeat (first | refine blk_drewN ?_ _ | refine blk_drew ?_ | refine blk_alloc ?_ _)); exact BK191.out)) : gb191 ≠ gb192)); have n6_ := zA ((by rw [hg]; exact Nat.ne_of_gt (blk_lt (g := gb191) (o := .cells #[.string a0_0, .int .i64 a0_1] 81 (0, 0)) (by (with_reducible repeat (first | refine blk_drewN ?_ _ | refine blk_drew ?_ | refine blk_alloc ?_ _)); exact BK191.out)) : gb192 ≠ gb191)); clear BK191; clear HB; have BK191 := n0_; have HB := n1_; have BK192 := n2_; have GW192 := n3_; have GE192 := n4_; have NB191_192 := n5_; have NB192_191 := n6_; clear n0_ n1_ n2_ n3_ n4_ n5_ n6_; clear hb hbox hg; have hnb21 := NB191_192.out; have hnc21 := NB192_191.out; have hcz22_0 : w20.cell? ⟨gb191, 0, none⟩ = some (.string a0_0) := (blk_cell BK191.out 0).trans rfl; have hcz22_1 : w20.cell? ⟨gb191, 1, none⟩ = some (.int .i64 a0_1) := (blk_cell BK191.out 1).trans rfl; have hfz22_0 := blk_frozen BK191.out 0; have hfz22_1 := blk_frozen BK191.out 1; have hcz23_0 : w20.cell? ⟨gb192, 0, none⟩ = some (.string a1_0) := (blk_cell BK192.out 0).trans rfl; have hcz23_1 : w20.cell? ⟨gb192, 1, none⟩ = some (.int .i64 a1_1) := (blk_cell BK192.out 1).trans rfl; have hfz23_0 := blk_frozen BK192.out 0; have hfz23_1 := blk_frozen BK192.out 1))
  repeat (go_quiet (first | ((with_reducible refine gate_dst (N := 2) rfl ?_); refine box_event ?hg (N := 2) ?hd (cs := #[.string a0_0, .int .i64 a0_1]) (t := 81) ?hr ?_; (case hd => rfl); (case hg => rfl); (case hr => first | (go_simp; done) | (go_simp; rfl)); intro gb191 hg w19 hbox hb; have n0_ := zA (below_step (by repeat (first | (with_reducible first | exact HB.out | apply zL | apply zN | apply zD) | exact HB.out)) hb); have n1_ := zA (hbox); have n2_ := zA ((by rw [hg]; exact (below_size (by repeat (first | (with_reducible first | exact HB.out | apply zL | apply zN | apply zD) | exact HB.out))) : w.heap.size ≤ gb191)); have n3_ := zA ((by rw [hg]; exact (below_size (by repeat (first | (with_reducible first | exact HB.out | apply zL | apply zN | apply zD) | exact HB.out))) : w.heap.size ≤ gb191)); clear HB; have HB := n0_; have BK191 := n1_; have GW191 := n2_; have GE191 := n3_; clear n0_ n1_ n2_ n3_; clear hb hbox hg) | ((with_reducible refine gate_dst (N := 3) rfl ?_); refine box_event ?hg (N := 3) ?hd (cs := #[.string a1_0, .int .i64 a1_1]) (t := 81) ?hr ?_; (case hd => rfl); (case hg => rfl); (case hr => first | (go_simp; done) | (go_simp; rfl)); intro gb192 hg w20 hbox hb; have n0_ := zA (blk_below (g := gb191) (o := .cells #[.string a0_0, .int .i64 a0_1] 81 (0, 0)) (by (with_reducible repeat (first | refine blk_drewN ?_ _ | refine blk_drew ?_ | refine blk_alloc ?_ _)); exact BK191.out) hb); have n1_ := zA (below_step (by repeat (first | (with_reducible first | exact HB.out | apply zL | apply zN | apply zD | refine below_set ?_ GE191.out) | exact HB.out)) hb); have n2_ := zA (hbox); have n3_ := zA ((by rw [hg]; exact (below_size (by repeat (first | (with_reducible first | exact HB.out | apply zL | apply zN | apply zD | refine below_set ?_ GE191.out) | exact HB.out))) : w.heap.size ≤ gb192)); have n4_ := zA ((by rw [hg]; exact (below_size (by repeat (first | (with_reducible first | exact HB.out | apply zL | apply zN | apply zD | refine below_set ?_ GE191.out) | exact HB.out))) : w.heap.size ≤ gb192)); have n5_ := zA ((by rw [hg]; exact Nat.ne_of_lt (blk_lt (g := gb191) (o := .cells #[.string a0_0, .int .i64 a0_1] 81 (0, 0)) (by (with_reducible repeat (first | refine blk_drewN ?_ _ | refine blk_drew ?_ | refine blk_alloc ?_ _)); exact BK191.out)) : gb191 ≠ gb192)); have n6_ := zA ((by rw [hg]; exact Nat.ne_of_gt (blk_lt (g := gb191) (o := .cells #[.string a0_0, .int .i64 a0_1] 81 (0, 0)) (by (with_reducible repeat (first | refine blk_drewN ?_ _ | refine blk_drew ?_ | refine blk_alloc ?_ _)); exact BK191.out)) : gb192 ≠ gb191)); clear BK191; clear HB; have BK191 := n0_; have HB := n1_; have BK192 := n2_; have GW192 := n3_; have GE192 := n4_; have NB191_192 := n5_; have NB192_191 := n6_; clear n0_ n1_ n2_ n3_ n4_ n5_ n6_; clear hb hbox hg; have hnb21 := NB191_192.out; have hnc21 := NB192_191.out; have hcz22_0 : w20.cell? ⟨gb191, 0, none⟩ = some (.string a0_0) := (blk_cell BK191.out 0).trans rfl; have hcz22_1 : w20.cell? ⟨gb191, 1, none⟩ = some (.int .i64 a0_1) := (blk_cell BK191.out 1).trans rfl; have hfz22_0 := blk_frozen BK191.out 0; have hfz22_1 := blk_frozen BK191.out 1; have hcz23_0 : w20.cell? ⟨gb192, 0, none⟩ = some (.string a1_0) := (blk_cell BK192.out 0).trans rfl; have hcz23_1 : w20.cell? ⟨gb192, 1, none⟩ = some (.int .i64 a1_1) := (blk_cell BK192.out 1).trans rfl; have hfz23_0 := blk_frozen BK192.out 0; have hfz23_1 := blk_frozen BK192.out 1)); try go_wp2_with (first | ((with_reducible refine gate_dst (N := 2) rfl ?_); refine box_event ?hg (N := 2) ?hd (cs := #[.string a0_0, .int .i64 a0_1]) (t := 81) ?hr ?_; (case hd => rfl); (case hg => rfl); (case hr => first | (go_simp; done) | (go_simp; rfl)); intro gb191 hg w19 hbox hb; have n0_ := zA (below_step (by repeat (first | (with_reducible first | exact HB.out | apply zL | apply zN | apply zD) | exact HB.out)) hb); have n1_ := zA (hbox); have n2_ := zA ((by rw [hg]; exact (below_size (by repeat (first | (with_reducible first | exact HB.out | apply zL | apply zN | apply zD) | exact HB.out))) : w.heap.size ≤ gb191)); have n3_ := zA ((by rw [hg]; exact (below_size (by repeat (first | (with_reducible first | exact HB.out | apply zL | apply zN | apply zD) | exact HB.out))) : w.heap.size ≤ gb191)); clear HB; have HB := n0_; have BK191 := n1_; have GW191 := n2_; have GE191 := n3_; clear n0_ n1_ n2_ n3_; clear hb hbox hg) | ((with_reducible refine gate_dst (N := 3) rfl ?_); refine box_event ?hg (N := 3) ?hd (cs := #[.string a1_0, .int .i64 a1_1]) (t := 81) ?hr ?_; (case hd => rfl); (case hg => rfl); (case hr => first | (go_simp; done) | (go_simp; rfl)); intro gb192 hg w20 hbox hb; have n0_ := zA (blk_below (g := gb191) (o := .cells #[.string a0_0, .int .i64 a0_1] 81 (0, 0)) (by (with_reducible repeat (first | refine blk_drewN ?_ _ | refine blk_drew ?_ | refine blk_alloc ?_ _)); exact BK191.out) hb); have n1_ := zA (below_step (by repeat (first | (with_reducible first | exact HB.out | apply zL | apply zN | apply zD | refine below_set ?_ GE191.out) | exact HB.out)) hb); have n2_ := zA (hbox); have n3_ := zA ((by rw [hg]; exact (below_size (by repeat (first | (with_reducible first | exact HB.out | apply zL | apply zN | apply zD | refine below_set ?_ GE191.out) | exact HB.out))) : w.heap.size ≤ gb192)); have n4_ := zA ((by rw [hg]; exact (below_size (by repeat (first | (with_reducible first | exact HB.out | apply zL | apply zN | apply zD | refine below_set ?_ GE191.out) | exact HB.out))) : w.heap.size ≤ gb192)); have n5_ := zA ((by rw [hg]; exact Nat.ne_of_lt (blk_lt (g := gb191) (o := .cells #[.string a0_0, .int .i64 a0_1] 81 (0, 0)) (by (with_reducible repeat (first | refine blk_drewN ?_ _ | refine blk_drew ?_ | refine blk_alloc ?_ _)); exact BK191.out)) : gb191 ≠ gb192)); have n6_ := zA ((by rw [hg]; exact Nat.ne_of_gt (blk_lt (g := gb191) (o := .cells #[.string a0_0, .int .i64 a0_1] 81 (0, 0)) (by (with_reducible repeat (first | refine blk_drewN ?_ _ | refine blk_drew ?_ | refine blk_alloc ?_ _)); exact BK191.out)) : gb192 ≠ gb191)); clear BK191; clear HB; have BK191 := n0_; have HB := n1_; have BK192 := n2_; have GW192 := n3_; have GE192 := n4_; have NB191_192 := n5_; have NB192_191 := n6_; clear n0_ n1_ n2_ n3_ n4_ n5_ n6_; clear hb hbox hg; have hnb21 := NB191_192.out; have hnc21 := NB192_191.out; have hcz22_0 : w20.cell? ⟨gb191, 0, none⟩ = some (.string a0_0) := (blk_cell BK191.out 0).trans rfl; have hcz22_1 : w20.cell? ⟨gb191, 1, none⟩ = some (.int .i64 a0_1) := (blk_cell BK191.out 1).trans rfl; have hfz22_0 := blk_frozen BK191.out 0; have hfz22_1 := blk_frozen BK191.out 1; have hcz23_0 : w20.cell? ⟨gb192, 0, none⟩ = some (.string a1_0) := (blk_cell BK192.out 0).trans rfl; have hcz23_1 : w20.cell? ⟨gb192, 1, none⟩ = some (.int .i64 a1_1) := (blk_cell BK192.out 1).trans rfl; have hfz23_0 := blk_frozen BK192.out 0; have hfz23_1 := blk_frozen BK192.out 1)))
  go_ret
  exact ⟨by first | rfl | (simp [errW_none, errW_some] <;> rfl) | (simp [*, errW_none, errW_some] <;> rfl), by repeat (first | (with_reducible first | exact HB.out | apply zL | apply zN | apply zD | refine below_set ?_ GE191.out | refine below_set ?_ GE192.out) | exact HB.out)⟩
 rw [if_pos c3] at H
 have c3b0 : (a0_1 == a1_1) = true := beq_iff_eq.mpr c3
 have c3b1 : (a0_1 != a1_1) = false := bne_eq_false_iff_eq.mpr c3
 clear c3; replace H := Option.bind_eq_some_iff.mp H; obtain ⟨t193, A40, H⟩ := H
 replace H : ((path_Depth.f a1_0).bind fun t194 => (if t193 = t194 then ((path_Cmp.f k a0_0 a1_0).bind fun t195 => (some (decide (t195 < 0)))) else (some (decide (t193 > t194))))) = some r := H
 have A4 := zA A40; clear A40; replace H := Option.bind_eq_some_iff.mp H; obtain ⟨t194, A50, H⟩ := H
 replace H : (if t193 = t194 then ((path_Cmp.f k a0_0 a1_0).bind fun t195 => (some (decide (t195 < 0)))) else (some (decide (t193 > t194)))) = some r := H
 have A5 := zA A50; clear A50
 by_cases c6 : t193 = t194
 rotate_left
 ·rw [if_neg c6] at H
  have c6b0 : (t193 == t194) = false := beq_eq_false_iff_ne.mpr c6
  have c6b1 : (t193 != t194) = true := bne_iff_ne.mpr c6
  obtain rfl := Option.some.inj H
  go_enter Tryd.func57, Tryd.ntmps57
  go_wp2_with (first | ((with_reducible refine gate_dst (N := 2) rfl ?_); refine box_event ?hg (N := 2) ?hd (cs := #[.string a0_0, .int .i64 a0_1]) (t := 81) ?hr ?_; (case hd => rfl); (case hg => rfl); (case hr => first | (go_simp; done) | (go_simp; rfl)); intro gb191 hg w14 hbox hb; have n0_ := zA (below_step (by repeat (first | (with_reducible first | exact HB.out | apply zL | apply zN | apply zD) | exact HB.out)) hb); have n1_ := zA (hbox); have n2_ := zA ((by rw [hg]; exact (below_size (by repeat (first | (with_reducible first | exact HB.out | apply zL | apply zN | apply zD) | exact HB.out))) : w.heap.size ≤ gb191)); have n3_ := zA ((by rw [hg]; exact (below_size (by repeat (first | (with_reducible first | exact HB.out | apply zL | apply zN | apply zD) | exact HB.out))) : w.heap.size ≤ gb191)); clear HB; have HB := n0_; have BK191 := n1_; have GW191 := n2_; have GE191 := n3_; clear n0_ n1_ n2_ n3_; clear hb hbox hg) | ((with_reducible refine gate_dst (N := 3) rfl ?_); refine box_event ?hg (N := 3) ?hd (cs := #[.string a1_0, .int .i64 a1_1]) (t := 81) ?hr ?_; (case hd => rfl); (case hg => rfl); (case hr => first | (go_simp; done) | (go_simp; rfl)); intro gb192 hg w15 hbox hb; have n0_ := zA (blk_below (g := gb191) (o := .cells #[.string a0_0, .int .i64 a0_1] 81 (0, 0)) (by (with_reducible repeat (first | refine blk_drewN ?_ _ | refine blk_drew ?_ | refine blk_alloc ?_ _)); exact BK191.out) hb); have n1_ := zA (below_step (by repeat (first | (with_reducible first | exact HB.out | apply zL | apply zN | apply zD | refine below_set ?_ GE191.out) | exact HB.out)) hb); have n2_ := zA (hbox); have n3_ := zA ((by rw [hg]; exact (below_size (by repeat (first | (with_reducible first | exact HB.out | apply zL | apply zN | apply zD | refine below_set ?_ GE191.out) | exact HB.out))) : w.heap.size ≤ gb192)); have n4_ := zA ((by rw [hg]; exact (below_size (by repeat (first | (with_reducible first | exact HB.out | apply zL | apply zN | apply zD | refine below_set ?_ GE191.out) | exact HB.out))) : w.heap.size ≤ gb192)); have n5_ := zA ((by rw [hg]; exact Nat.ne_of_lt (blk_lt (g := gb191) (o := .cells #[.string a0_0, .int .i64 a0_1] 81 (0, 0)) (by (with_reducible repeat (first | refine blk_drewN ?_ _ | refine blk_drew ?_ | refine blk_alloc ?_ _)); exact BK191.out)) : gb191 ≠ gb192)); have n6_ := zA ((by rw [hg]; exact Nat.ne_of_gt (blk_lt (g := gb191) (o := .cells #[.string a0_0, .int .i64 a0_1] 81 (0, 0)) (by (with_reducible repeat (first | refine blk_drewN ?_ _ | refine blk_drew ?_ | refine blk_alloc ?_ _)); exact BK191.out)) : gb192 ≠ gb191)); clear BK191; clear HB; have BK191 := n0_; have HB := n1_; have BK192 := n2_; have GW192 := n3_; have GE192 := n4_; have NB191_192 := n5_; have NB192_191 := n6_; clear n0_ n1_ n2_ n3_ n4_ n5_ n6_; clear hb hbox hg; have hnb16 := NB191_192.out; have hnc16 := NB192_191.out; have hcz17_0 : w15.cell? ⟨gb191, 0, none⟩ = some (.string a0_0) := (blk_cell BK191.out 0).trans rfl; have hcz17_1 : w15.cell? ⟨gb191, 1, none⟩ = some (.int .i64 a0_1) := (blk_cell BK191.out 1).trans rfl; have hfz17_0 := blk_frozen BK191.out 0; have hfz17_1 := blk_frozen BK191.out 1; have hcz18_0 : w15.cell? ⟨gb192, 0, none⟩ = some (.string a1_0) := (blk_cell BK192.out 0).trans rfl; have hcz18_1 : w15.cell? ⟨gb192, 1, none⟩ = some (.int .i64 a1_1) := (blk_cell BK192.out 1).trans rfl; have hfz18_0 := blk_frozen BK192.out 0; have hfz18_1 := blk_frozen BK192.out 1) | (go_at_call 51; (with_reducible refine (path_Depth.calls a0_0 t193 _ A4.out).mono ?_); rintro e w' ⟨rfl, ⟨nd, rfl⟩⟩; (try first | exact ⟨rfl, _, World.drewN_drewN _ _ _⟩ | exact ⟨rfl, _, Eq.trans (World.drewN_drewN _ _ _) (congrArg (World.drewN _) (Nat.add_assoc _ _ _))⟩)) | (go_at_call 51; (with_reducible refine (path_Depth.calls a1_0 t194 _ A5.out).mono ?_); rintro e w' ⟨rfl, ⟨nd, rfl⟩⟩; (try first | exact ⟨rfl, _, World.drewN_drewN _ _ _⟩ | exact ⟨rfl, _, Eq.trans (World.drewN_drewN _ _ _) (congrArg (World.drewN _) (Nat.add_assoc _ _ _))⟩)))
  repeat (go_quiet (first | ((with_reducible refine gate_dst (N := 2) rfl ?_); refine box_event ?hg (N := 2) ?hd (cs := #[.string a0_0, .int .i64 a0_1]) (t := 81) ?hr ?_; (case hd => rfl); (case hg => rfl); (case hr => first | (go_simp; done) | (go_simp; rfl)); intro gb191 hg w14 hbox hb; have n0_ := zA (below_step (by repeat (first | (with_reducible first | exact HB.out | apply zL | apply zN | apply zD) | exact HB.out)) hb); have n1_ := zA (hbox); have n2_ := zA ((by rw [hg]; exact (below_size (by repeat (first | (with_reducible first | exact HB.out | apply zL | apply zN | apply zD) | exact HB.out))) : w.heap.size ≤ gb191)); have n3_ := zA ((by rw [hg]; exact (below_size (by repeat (first | (with_reducible first | exact HB.out | apply zL | apply zN | apply zD) | exact HB.out))) : w.heap.size ≤ gb191)); clear HB; have HB := n0_; have BK191 := n1_; have GW191 := n2_; have GE191 := n3_; clear n0_ n1_ n2_ n3_; clear hb hbox hg) | ((with_reducible refine gate_dst (N := 3) rfl ?_); refine box_event ?hg (N := 3) ?hd (cs := #[.string a1_0, .int .i64 a1_1]) (t := 81) ?hr ?_; (case hd => rfl); (case hg => rfl); (case hr => first | (go_simp; done) | (go_simp; rfl)); intro gb192 hg w15 hbox hb; have n0_ := zA (blk_below (g := gb191) (o := .cells #[.string a0_0, .int .i64 a0_1] 81 (0, 0)) (by (with_reducible repeat (first | refine blk_drewN ?_ _ | refine blk_drew ?_ | refine blk_alloc ?_ _)); exact BK191.out) hb); have n1_ := zA (below_step (by repeat (first | (with_reducible first | exact HB.out | apply zL | apply zN | apply zD | refine below_set ?_ GE191.out) | exact HB.out)) hb); have n2_ := zA (hbox); have n3_ := zA ((by rw [hg]; exact (below_size (by repeat (first | (with_reducible first | exact HB.out | apply zL | apply zN | apply zD | refine below_set ?_ GE191.out) | exact HB.out))) : w.heap.size ≤ gb192)); have n4_ := zA ((by rw [hg]; exact (below_size (by repeat (first | (with_reducible first | exact HB.out | apply zL | apply zN | apply zD | refine below_set ?_ GE191.out) | exact HB.out))) : w.heap.size ≤ gb192)); have n5_ := zA ((by rw [hg]; exact Nat.ne_of_lt (blk_lt (g := gb191) (o := .cells #[.string a0_0, .int .i64 a0_1] 81 (0, 0)) (by (with_reducible repeat (first | refine blk_drewN ?_ _ | refine blk_drew ?_ | refine blk_alloc ?_ _)); exact BK191.out)) : gb191 ≠ gb192)); have n6_ := zA ((by rw [hg]; exact Nat.ne_of_gt (blk_lt (g := gb191) (o := .cells #[.string a0_0, .int .i64 a0_1] 81 (0, 0)) (by (with_reducible repeat (first | refine blk_drewN ?_ _ | refine blk_drew ?_ | refine blk_alloc ?_ _)); exact BK191.out)) : gb192 ≠ gb191)); clear BK191; clear HB; have BK191 := n0_; have HB := n1_; have BK192 := n2_; have GW192 := n3_; have GE192 := n4_; have NB191_192 := n5_; have NB192_191 := n6_; clear n0_ n1_ n2_ n3_ n4_ n5_ n6_; clear hb hbox hg; have hnb16 := NB191_192.out; have hnc16 := NB192_191.out; have hcz17_0 : w15.cell? ⟨gb191, 0, none⟩ = some (.string a0_0) := (blk_cell BK191.out 0).trans rfl; have hcz17_1 : w15.cell? ⟨gb191, 1, none⟩ = some (.int .i64 a0_1) := (blk_cell BK191.out 1).trans rfl; have hfz17_0 := blk_frozen BK191.out 0; have hfz17_1 := blk_frozen BK191.out 1; have hcz18_0 : w15.cell? ⟨gb192, 0, none⟩ = some (.string a1_0) := (blk_cell BK192.out 0).trans rfl; have hcz18_1 : w15.cell? ⟨gb192, 1, none⟩ = some (.int .i64 a1_1) := (blk_cell BK192.out 1).trans rfl; have hfz18_0 := blk_frozen BK192.out 0; have hfz18_1 := blk_frozen BK192.out 1) | (go_at_call 51; (with_reducible refine (path_Depth.calls a0_0 t193 _ A4.out).mono ?_); rintro e w' ⟨rfl, ⟨nd, rfl⟩⟩; (try first | exact ⟨rfl, _, World.drewN_drewN _ _ _⟩ | exact ⟨rfl, _, Eq.trans (World.drewN_drewN _ _ _) (congrArg (World.drewN _) (Nat.add_assoc _ _ _))⟩)) | (go_at_call 51; (with_reducible refine (path_Depth.calls a1_0 t194 _ A5.out).mono ?_); rintro e w' ⟨rfl, ⟨nd, rfl⟩⟩; (try first | exact ⟨rfl, _, World.drewN_drewN _ _ _⟩ | exact ⟨rfl, _, Eq.trans (World.drewN_drewN _ _ _) (congrArg (World.drewN _) (Nat.add_assoc _ _ _))⟩))); try go_wp2_with (first | ((with_reducible refine gate_dst (N := 2) rfl ?_); refine box_event ?hg (N := 2) ?hd (cs := #[.string a0_0, .int .i64 a0_1]) (t := 81) ?hr ?_; (case hd => rfl); (case hg => rfl); (case hr => first | (go_simp; done) | (go_simp; rfl)); intro gb191 hg w14 hbox hb; have n0_ := zA (below_step (by repeat (first | (with_reducible first | exact HB.out | apply zL | apply zN | apply zD) | exact HB.out)) hb); have n1_ := zA (hbox); have n2_ := zA ((by rw [hg]; exact (below_size (by repeat (first | (with_reducible first | exact HB.out | apply zL | apply zN | apply zD) | exact HB.out))) : w.heap.size ≤ gb191)); have n3_ := zA ((by rw [hg]; exact (below_size (by repeat (first | (with_reducible first | exact HB.out | apply zL | apply zN | apply zD) | exact HB.out))) : w.heap.size ≤ gb191)); clear HB; have HB := n0_; have BK191 := n1_; have GW191 := n2_; have GE191 := n3_; clear n0_ n1_ n2_ n3_; clear hb hbox hg) | ((with_reducible refine gate_dst (N := 3) rfl ?_); refine box_event ?hg (N := 3) ?hd (cs := #[.string a1_0, .int .i64 a1_1]) (t := 81) ?hr ?_; (case hd => rfl); (case hg => rfl); (case hr => first | (go_simp; done) | (go_simp; rfl)); intro gb192 hg w15 hbox hb; have n0_ := zA (blk_below (g := gb191) (o := .cells #[.string a0_0, .int .i64 a0_1] 81 (0, 0)) (by (with_reducible repeat (first | refine blk_drewN ?_ _ | refine blk_drew ?_ | refine blk_alloc ?_ _)); exact BK191.out) hb); have n1_ := zA (below_step (by repeat (first | (with_reducible first | exact HB.out | apply zL | apply zN | apply zD | refine below_set ?_ GE191.out) | exact HB.out)) hb); have n2_ := zA (hbox); have n3_ := zA ((by rw [hg]; exact (below_size (by repeat (first | (with_reducible first | exact HB.out | apply zL | apply zN | apply zD | refine below_set ?_ GE191.out) | exact HB.out))) : w.heap.size ≤ gb192)); have n4_ := zA ((by rw [hg]; exact (below_size (by repeat (first | (with_reducible first | exact HB.out | apply zL | apply zN | apply zD | refine below_set ?_ GE191.out) | exact HB.out))) : w.heap.size ≤ gb192)); have n5_ := zA ((by rw [hg]; exact Nat.ne_of_lt (blk_lt (g := gb191) (o := .cells #[.string a0_0, .int .i64 a0_1] 81 (0, 0)) (by (with_reducible repeat (first | refine blk_drewN ?_ _ | refine blk_drew ?_ | refine blk_alloc ?_ _)); exact BK191.out)) : gb191 ≠ gb192)); have n6_ := zA ((by rw [hg]; exact Nat.ne_of_gt (blk_lt (g := gb191) (o := .cells #[.string a0_0, .int .i64 a0_1] 81 (0, 0)) (by (with_reducible repeat (first | refine blk_drewN ?_ _ | refine blk_drew ?_ | refine blk_alloc ?_ _)); exact BK191.out)) : gb192 ≠ gb191)); clear BK191; clear HB; have BK191 := n0_; have HB := n1_; have BK192 := n2_; have GW192 := n3_; have GE192 := n4_; have NB191_192 := n5_; have NB192_191 := n6_; clear n0_ n1_ n2_ n3_ n4_ n5_ n6_; clear hb hbox hg; have hnb16 := NB191_192.out; have hnc16 := NB192_191.out; have hcz17_0 : w15.cell? ⟨gb191, 0, none⟩ = some (.string a0_0) := (blk_cell BK191.out 0).trans rfl; have hcz17_1 : w15.cell? ⟨gb191, 1, none⟩ = some (.int .i64 a0_1) := (blk_cell BK191.out 1).trans rfl; have hfz17_0 := blk_frozen BK191.out 0; have hfz17_1 := blk_frozen BK191.out 1; have hcz18_0 : w15.cell? ⟨gb192, 0, none⟩ = some (.string a1_0) := (blk_cell BK192.out 0).trans rfl; have hcz18_1 : w15.cell? ⟨gb192, 1, none⟩ = some (.int .i64 a1_1) := (blk_cell BK192.out 1).trans rfl; have hfz18_0 := blk_frozen BK192.out 0; have hfz18_1 := blk_frozen BK192.out 1) | (go_at_call 51; (with_reducible refine (path_Depth.calls a0_0 t193 _ A4.out).mono ?_); rintro e w' ⟨rfl, ⟨nd, rfl⟩⟩; (try first | exact ⟨rfl, _, World.drewN_drewN _ _ _⟩ | exact ⟨rfl, _, Eq.trans (World.drewN_drewN _ _ _) (congrArg (World.drewN _) (Nat.add_assoc _ _ _))⟩)) | (go_at_call 51; (with_reducible refine (path_Depth.calls a1_0 t194 _ A5.out).mono ?_); rintro e w' ⟨rfl, ⟨nd, rfl⟩⟩; (try first | exact ⟨rfl, _, World.drewN_drewN _ _ _⟩ | exact ⟨rfl, _, Eq.trans (World.drewN_drewN _ _ _) (congrArg (World.drewN _) (Nat.add_assoc _ _ _))⟩))))
  go_ret
  exact ⟨by first | rfl | (simp [errW_none, errW_some] <;> rfl) | (simp [*, errW_none, errW_some] <;> rfl), by repeat (first | (with_reducible first | exact HB.out | apply zL | apply zN | apply zD | refine below_set ?_ GE191.out | refine below_set ?_ GE192.out) | exact HB.out)⟩
 rw [if_pos c6] at H
 have c6b0 : (t193 == t194) = true := beq_iff_eq.mpr c6
 have c6b1 : (t193 != t194) = false := bne_eq_false_iff_eq.mpr c6
 clear c6; replace H := Option.bind_eq_some_iff.mp H; obtain ⟨t195, A70, H⟩ := H
 replace H : (some (decide (t195 < 0))) = some r := H
 have A7 := zA A70; clear A70; obtain rfl := Option.some.inj H
 go_enter Tryd.func57, Tryd.ntmps57
 go_wp2_with (first | ((with_reducible refine gate_dst (N := 2) rfl ?_); refine box_event ?hg (N := 2) ?hd (cs := #[.string a0_0, .int .i64 a0_1]) (t := 81) ?hr ?_; (case hd => rfl); (case hg => rfl); (case hr => first | (go_simp; done) | (go_simp; rfl)); intro gb191 hg w8 hbox hb; have n0_ := zA (below_step (by repeat (first | (with_reducible first | exact HB.out | apply zL | apply zN | apply zD) | exact HB.out)) hb); have n1_ := zA (hbox); have n2_ := zA ((by rw [hg]; exact (below_size (by repeat (first | (with_reducible first | exact HB.out | apply zL | apply zN | apply zD) | exact HB.out))) : w.heap.size ≤ gb191)); have n3_ := zA ((by rw [hg]; exact (below_size (by repeat (first | (with_reducible first | exact HB.out | apply zL | apply zN | apply zD) | exact HB.out))) : w.heap.size ≤ gb191)); clear HB; have HB := n0_; have BK191 := n1_; have GW191 := n2_; have GE191 := n3_; clear n0_ n1_ n2_ n3_; clear hb hbox hg) | ((with_reducible refine gate_dst (N := 3) rfl ?_); refine box_event ?hg (N := 3) ?hd (cs := #[.string a1_0, .int .i64 a1_1]) (t := 81) ?hr ?_; (case hd => rfl); (case hg => rfl); (case hr => first | (go_simp; done) | (go_simp; rfl)); intro gb192 hg w9 hbox hb; have n0_ := zA (blk_below (g := gb191) (o := .cells #[.string a0_0, .int .i64 a0_1] 81 (0, 0)) (by (with_reducible repeat (first | refine blk_drewN ?_ _ | refine blk_drew ?_ | refine blk_alloc ?_ _)); exact BK191.out) hb); have n1_ := zA (below_step (by repeat (first | (with_reducible first | exact HB.out | apply zL | apply zN | apply zD | refine below_set ?_ GE191.out) | exact HB.out)) hb); have n2_ := zA (hbox); have n3_ := zA ((by rw [hg]; exact (below_size (by repeat (first | (with_reducible first | exact HB.out | apply zL | apply zN | apply zD | refine below_set ?_ GE191.out) | exact HB.out))) : w.heap.size ≤ gb192)); have n4_ := zA ((by rw [hg]; exact (below_size (by repeat (first | (with_reducible first | exact HB.out | apply zL | apply zN | apply zD | refine below_set ?_ GE191.out) | exact HB.out))) : w.heap.size ≤ gb192)); have n5_ := zA ((by rw [hg]; exact Nat.ne_of_lt (blk_lt (g := gb191) (o := .cells #[.string a0_0, .int .i64 a0_1] 81 (0, 0)) (by (with_reducible repeat (first | refine blk_drewN ?_ _ | refine blk_drew ?_ | refine blk_alloc ?_ _)); exact BK191.out)) : gb191 ≠ gb192)); have n6_ := zA ((by rw [hg]; exact Nat.ne_of_gt (blk_lt (g := gb191) (o := .cells #[.string a0_0, .int .i64 a0_1] 81 (0, 0)) (by (with_reducible repeat (first | refine blk_drewN ?_ _ | refine blk_drew ?_ | refine blk_alloc ?_ _)); exact BK191.out)) : gb192 ≠ gb191)); clear BK191; clear HB; have BK191 := n0_; have HB := n1_; have BK192 := n2_; have GW192 := n3_; have GE192 := n4_; have NB191_192 := n5_; have NB192_191 := n6_; clear n0_ n1_ n2_ n3_ n4_ n5_ n6_; clear hb hbox hg; have hnb10 := NB191_192.out; have hnc10 := NB192_191.out; have hcz11_0 : w9.cell? ⟨gb191, 0, none⟩ = some (.string a0_0) := (blk_cell BK191.out 0).trans rfl; have hcz11_1 : w9.cell? ⟨gb191, 1, none⟩ = some (.int .i64 a0_1) := (blk_cell BK191.out 1).trans rfl; have hfz11_0 := blk_frozen BK191.out 0; have hfz11_1 := blk_frozen BK191.out 1; have hcz12_0 : w9.cell? ⟨gb192, 0, none⟩ = some (.string a1_0) := (blk_cell BK192.out 0).trans rfl; have hcz12_1 : w9.cell? ⟨gb192, 1, none⟩ = some (.int .i64 a1_1) := (blk_cell BK192.out 1).trans rfl; have hfz12_0 := blk_frozen BK192.out 0; have hfz12_1 := blk_frozen BK192.out 1) | (go_at_call 51; (with_reducible refine (path_Depth.calls a0_0 t193 _ A4.out).mono ?_); rintro e w' ⟨rfl, ⟨nd, rfl⟩⟩; (try first | exact ⟨rfl, _, World.drewN_drewN _ _ _⟩ | exact ⟨rfl, _, Eq.trans (World.drewN_drewN _ _ _) (congrArg (World.drewN _) (Nat.add_assoc _ _ _))⟩)) | (go_at_call 51; (with_reducible refine (path_Depth.calls a1_0 t194 _ A5.out).mono ?_); rintro e w' ⟨rfl, ⟨nd, rfl⟩⟩; (try first | exact ⟨rfl, _, World.drewN_drewN _ _ _⟩ | exact ⟨rfl, _, Eq.trans (World.drewN_drewN _ _ _) (congrArg (World.drewN _) (Nat.add_assoc _ _ _))⟩)) | (go_at_call 36; (with_reducible refine (path_Cmp.calls k a0_0 a1_0 t195 _ A7.out).mono ?_); rintro e w13 ⟨rfl, hb⟩; have n0_ := zA (blk_below (g := gb191) (o := .cells #[.string a0_0, .int .i64 a0_1] 81 (0, 0)) (by (with_reducible repeat (first | refine blk_drewN ?_ _ | refine blk_drew ?_ | refine blk_alloc ?_ _)); exact BK191.out) hb); have n1_ := zA (blk_below (g := gb192) (o := .cells #[.string a1_0, .int .i64 a1_1] 81 (0, 0)) (by (with_reducible repeat (first | refine blk_drewN ?_ _ | refine blk_drew ?_ | refine blk_alloc ?_ _)); exact BK192.out) hb); have n2_ := zA (below_step (by repeat (first | (with_reducible first | exact HB.out | apply zL | apply zN | apply zD | refine below_set ?_ GE191.out | refine below_set ?_ GE192.out) | exact HB.out)) hb); clear BK191; clear BK192; clear HB; have BK191 := n0_; have BK192 := n1_; have HB := n2_; clear n0_ n1_ n2_; (try clear hb); (try clear hb2); (try clear hk); (try clear hi)))
 repeat (go_quiet (first | ((with_reducible refine gate_dst (N := 2) rfl ?_); refine box_event ?hg (N := 2) ?hd (cs := #[.string a0_0, .int .i64 a0_1]) (t := 81) ?hr ?_; (case hd => rfl); (case hg => rfl); (case hr => first | (go_simp; done) | (go_simp; rfl)); intro gb191 hg w8 hbox hb; have n0_ := zA (below_step (by repeat (first | (with_reducible first | exact HB.out | apply zL | apply zN | apply zD) | exact HB.out)) hb); have n1_ := zA (hbox); have n2_ := zA ((by rw [hg]; exact (below_size (by repeat (first | (with_reducible first | exact HB.out | apply zL | apply zN | apply zD) | exact HB.out))) : w.heap.size ≤ gb191)); have n3_ := zA ((by rw [hg]; exact (below_size (by repeat (first | (with_reducible first | exact HB.out | apply zL | apply zN | apply zD) | exact HB.out))) : w.heap.size ≤ gb191)); clear HB; have HB := n0_; have BK191 := n1_; have GW191 := n2_; have GE191 := n3_; clear n0_ n1_ n2_ n3_; clear hb hbox hg) | ((with_reducible refine gate_dst (N := 3) rfl ?_); refine box_event ?hg (N := 3) ?hd (cs := #[.string a1_0, .int .i64 a1_1]) (t := 81) ?hr ?_; (case hd => rfl); (case hg => rfl); (case hr => first | (go_simp; done) | (go_simp; rfl)); intro gb192 hg w9 hbox hb; have n0_ := zA (blk_below (g := gb191) (o := .cells #[.string a0_0, .int .i64 a0_1] 81 (0, 0)) (by (with_reducible repeat (first | refine blk_drewN ?_ _ | refine blk_drew ?_ | refine blk_alloc ?_ _)); exact BK191.out) hb); have n1_ := zA (below_step (by repeat (first | (with_reducible first | exact HB.out | apply zL | apply zN | apply zD | refine below_set ?_ GE191.out) | exact HB.out)) hb); have n2_ := zA (hbox); have n3_ := zA ((by rw [hg]; exact (below_size (by repeat (first | (with_reducible first | exact HB.out | apply zL | apply zN | apply zD | refine below_set ?_ GE191.out) | exact HB.out))) : w.heap.size ≤ gb192)); have n4_ := zA ((by rw [hg]; exact (below_size (by repeat (first | (with_reducible first | exact HB.out | apply zL | apply zN | apply zD | refine below_set ?_ GE191.out) | exact HB.out))) : w.heap.size ≤ gb192)); have n5_ := zA ((by rw [hg]; exact Nat.ne_of_lt (blk_lt (g := gb191) (o := .cells #[.string a0_0, .int .i64 a0_1] 81 (0, 0)) (by (with_reducible repeat (first | refine blk_drewN ?_ _ | refine blk_drew ?_ | refine blk_alloc ?_ _)); exact BK191.out)) : gb191 ≠ gb192)); have n6_ := zA ((by rw [hg]; exact Nat.ne_of_gt (blk_lt (g := gb191) (o := .cells #[.string a0_0, .int .i64 a0_1] 81 (0, 0)) (by (with_reducible repeat (first | refine blk_drewN ?_ _ | refine blk_drew ?_ | refine blk_alloc ?_ _)); exact BK191.out)) : gb192 ≠ gb191)); clear BK191; clear HB; have BK191 := n0_; have HB := n1_; have BK192 := n2_; have GW192 := n3_; have GE192 := n4_; have NB191_192 := n5_; have NB192_191 := n6_; clear n0_ n1_ n2_ n3_ n4_ n5_ n6_; clear hb hbox hg; have hnb10 := NB191_192.out; have hnc10 := NB192_191.out; have hcz11_0 : w9.cell? ⟨gb191, 0, none⟩ = some (.string a0_0) := (blk_cell BK191.out 0).trans rfl; have hcz11_1 : w9.cell? ⟨gb191, 1, none⟩ = some (.int .i64 a0_1) := (blk_cell BK191.out 1).trans rfl; have hfz11_0 := blk_frozen BK191.out 0; have hfz11_1 := blk_frozen BK191.out 1; have hcz12_0 : w9.cell? ⟨gb192, 0, none⟩ = some (.string a1_0) := (blk_cell BK192.out 0).trans rfl; have hcz12_1 : w9.cell? ⟨gb192, 1, none⟩ = some (.int .i64 a1_1) := (blk_cell BK192.out 1).trans rfl; have hfz12_0 := blk_frozen BK192.out 0; have hfz12_1 := blk_frozen BK192.out 1) | (go_at_call 51; (with_reducible refine (path_Depth.calls a0_0 t193 _ A4.out).mono ?_); rintro e w' ⟨rfl, ⟨nd, rfl⟩⟩; (try first | exact ⟨rfl, _, World.drewN_drewN _ _ _⟩ | exact ⟨rfl, _, Eq.trans (World.drewN_drewN _ _ _) (congrArg (World.drewN _) (Nat.add_assoc _ _ _))⟩)) | (go_at_call 51; (with_reducible refine (path_Depth.calls a1_0 t194 _ A5.out).mono ?_); rintro e w' ⟨rfl, ⟨nd, rfl⟩⟩; (try first | exact ⟨rfl, _, World.drewN_drewN _ _ _⟩ | exact ⟨rfl, _, Eq.trans (World.drewN_drewN _ _ _) (congrArg (World.drewN _) (Nat.add_assoc _ _ _))⟩)) | (go_at_call 36; (with_reducible refine (path_Cmp.calls k a0_0 a1_0 t195 _ A7.out).mono ?_); rintro e w13 ⟨rfl, hb⟩; have n0_ := zA (blk_below (g := gb191) (o := .cells #[.string a0_0, .int .i64 a0_1] 81 (0, 0)) (by (with_reducible repeat (first | refine blk_drewN ?_ _ | refine blk_drew ?_ | refine blk_alloc ?_ _)); exact BK191.out) hb); have n1_ := zA (blk_below (g := gb192) (o := .cells #[.string a1_0, .int .i64 a1_1] 81 (0, 0)) (by (with_reducible repeat (first | refine blk_drewN ?_ _ | refine blk_drew ?_ | refine blk_alloc ?_ _)); exact BK192.out) hb); have n2_ := zA (below_step (by repeat (first | (with_reducible first | exact HB.out | apply zL | apply zN | apply zD | refine below_set ?_ GE191.out | refine below_set ?_ GE192.out) | exact HB.out)) hb); clear BK191; clear BK192; clear HB; have BK191 := n0_; have BK192 := n1_; have HB := n2_; clear n0_ n1_ n2_; (try clear hb); (try clear hb2); (try clear hk); (try clear hi))); try go_wp2_with (first | ((with_reducible refine gate_dst (N := 2) rfl ?_); refine box_event ?hg (N := 2) ?hd (cs := #[.string a0_0, .int .i64 a0_1]) (t := 81) ?hr ?_; (case hd => rfl); (case hg => rfl); (case hr => first | (go_simp; done) | (go_simp; rfl)); intro gb191 hg w8 hbox hb; have n0_ := zA (below_step (by repeat (first | (with_reducible first | exact HB.out | apply zL | apply zN | apply zD) | exact HB.out)) hb); have n1_ := zA (hbox); have n2_ := zA ((by rw [hg]; exact (below_size (by repeat (first | (with_reducible first | exact HB.out | apply zL | apply zN | apply zD) | exact HB.out))) : w.heap.size ≤ gb191)); have n3_ := zA ((by rw [hg]; exact (below_size (by repeat (first | (with_reducible first | exact HB.out | apply zL | apply zN | apply zD) | exact HB.out))) : w.heap.size ≤ gb191)); clear HB; have HB := n0_; have BK191 := n1_; have GW191 := n2_; have GE191 := n3_; clear n0_ n1_ n2_ n3_; clear hb hbox hg) | ((with_reducible refine gate_dst (N := 3) rfl ?_); refine box_event ?hg (N := 3) ?hd (cs := #[.string a1_0, .int .i64 a1_1]) (t := 81) ?hr ?_; (case hd => rfl); (case hg => rfl); (case hr => first | (go_simp; done) | (go_simp; rfl)); intro gb192 hg w9 hbox hb; have n0_ := zA (blk_below (g := gb191) (o := .cells #[.string a0_0, .int .i64 a0_1] 81 (0, 0)) (by (with_reducible repeat (first | refine blk_drewN ?_ _ | refine blk_drew ?_ | refine blk_alloc ?_ _)); exact BK191.out) hb); have n1_ := zA (below_step (by repeat (first | (with_reducible first | exact HB.out | apply zL | apply zN | apply zD | refine below_set ?_ GE191.out) | exact HB.out)) hb); have n2_ := zA (hbox); have n3_ := zA ((by rw [hg]; exact (below_size (by repeat (first | (with_reducible first | exact HB.out | apply zL | apply zN | apply zD | refine below_set ?_ GE191.out) | exact HB.out))) : w.heap.size ≤ gb192)); have n4_ := zA ((by rw [hg]; exact (below_size (by repeat (first | (with_reducible first | exact HB.out | apply zL | apply zN | apply zD | refine below_set ?_ GE191.out) | exact HB.out))) : w.heap.size ≤ gb192)); have n5_ := zA ((by rw [hg]; exact Nat.ne_of_lt (blk_lt (g := gb191) (o := .cells #[.string a0_0, .int .i64 a0_1] 81 (0, 0)) (by (with_reducible repeat (first | refine blk_drewN ?_ _ | refine blk_drew ?_ | refine blk_alloc ?_ _)); exact BK191.out)) : gb191 ≠ gb192)); have n6_ := zA ((by rw [hg]; exact Nat.ne_of_gt (blk_lt (g := gb191) (o := .cells #[.string a0_0, .int .i64 a0_1] 81 (0, 0)) (by (with_reducible repeat (first | refine blk_drewN ?_ _ | refine blk_drew ?_ | refine blk_alloc ?_ _)); exact BK191.out)) : gb192 ≠ gb191)); clear BK191; clear HB; have BK191 := n0_; have HB := n1_; have BK192 := n2_; have GW192 := n3_; have GE192 := n4_; have NB191_192 := n5_; have NB192_191 := n6_; clear n0_ n1_ n2_ n3_ n4_ n5_ n6_; clear hb hbox hg; have hnb10 := NB191_192.out; have hnc10 := NB192_191.out; have hcz11_0 : w9.cell? ⟨gb191, 0, none⟩ = some (.string a0_0) := (blk_cell BK191.out 0).trans rfl; have hcz11_1 : w9.cell? ⟨gb191, 1, none⟩ = some (.int .i64 a0_1) := (blk_cell BK191.out 1).trans rfl; have hfz11_0 := blk_frozen BK191.out 0; have hfz11_1 := blk_frozen BK191.out 1; have hcz12_0 : w9.cell? ⟨gb192, 0, none⟩ = some (.string a1_0) := (blk_cell BK192.out 0).trans rfl; have hcz12_1 : w9.cell? ⟨gb192, 1, none⟩ = some (.int .i64 a1_1) := (blk_cell BK192.out 1).trans rfl; have hfz12_0 := blk_frozen BK192.out 0; have hfz12_1 := blk_frozen BK192.out 1) | (go_at_call 51; (with_reducible refine (path_Depth.calls a0_0 t193 _ A4.out).mono ?_); rintro e w' ⟨rfl, ⟨nd, rfl⟩⟩; (try first | exact ⟨rfl, _, World.drewN_drewN _ _ _⟩ | exact ⟨rfl, _, Eq.trans (World.drewN_drewN _ _ _) (congrArg (World.drewN _) (Nat.add_assoc _ _ _))⟩)) | (go_at_call 51; (with_reducible refine (path_Depth.calls a1_0 t194 _ A5.out).mono ?_); rintro e w' ⟨rfl, ⟨nd, rfl⟩⟩; (try first | exact ⟨rfl, _, World.drewN_drewN _ _ _⟩ | exact ⟨rfl, _, Eq.trans (World.drewN_drewN _ _ _) (congrArg (World.drewN _) (Nat.add_assoc _ _ _))⟩)) | (go_at_call 36; (with_reducible refine (path_Cmp.calls k a0_0 a1_0 t195 _ A7.out).mono ?_); rintro e w13 ⟨rfl, hb⟩; have n0_ := zA (blk_below (g := gb191) (o := .cells #[.string a0_0, .int .i64 a0_1] 81 (0, 0)) (by (with_reducible repeat (first | refine blk_drewN ?_ _ | refine blk_drew ?_ | refine blk_alloc ?_ _)); exact BK191.out) hb); have n1_ := zA (blk_below (g := gb192) (o := .cells #[.string a1_0, .int .i64 a1_1] 81 (0, 0)) (by (with_reducible repeat (first | refine blk_drewN ?_ _ | refine blk_drew ?_ | refine blk_alloc ?_ _)); exact BK192.out) hb); have n2_ := zA (below_step (by repeat (first | (with_reducible first | exact HB.out | apply zL | apply zN | apply zD | refine below_set ?_ GE191.out | refine below_set ?_ GE192.out) | exact HB.out)) hb); clear BK191; clear BK192; clear HB; have BK191 := n0_; have BK192 := n1_; have HB := n2_; clear n0_ n1_ n2_; (try clear hb); (try clear hb2); (try clear hk); (try clear hi))))
 go_ret
 exact ⟨by first | rfl | (simp [errW_none, errW_some] <;> rfl) | (simp [*, errW_none, errW_some] <;> rfl), by repeat (first | (with_reducible first | exact HB.out | apply zL | apply zN | apply zD | refine below_set ?_ GE191.out | refine below_set ?_ GE192.out) | exact HB.out)⟩
open Go.Proofs.YtnfolcefjkannaaDoor.Wl
def merge_candidate.go (k : Nat) (b : ByteArray) (c : Int) : List S81 → Option (ByteArray × Int)
 | [] => some (b, c)
 | x :: xs => (merge_step_1.f k x.f0 x.f1 b c).bind fun y => if y = true then merge_candidate.go k x.f0 x.f1 xs else merge_candidate.go k b c xs
def merge_candidate.isFn (v : Go.Value) : Bool := match v with
 | .func (.func n) c d => n == 57 && c.isEmpty && d.isEmpty
 | _ => false
theorem merge_candidate.of_isFn {v : Go.Value} (h : merge_candidate.isFn v = true) : v = (.func (.func 57) #[] #[]) := by
 unfold merge_candidate.isFn at h
 split at h
 ·rename_i n c d
  simp only [Bool.and_eq_true, beq_iff_eq, Array.isEmpty_iff] at h
  obtain ⟨⟨rfl, rfl⟩, rfl⟩ := h; rfl
 ·cases h
def merge_candidate.f (k : Nat) (l0 : List S81) (a1 : Go.Value) : Option (ByteArray × Int) :=
 if merge_candidate.isFn a1 = true ∧ l0.length < 8796093022208 then match l0 with | [] => none | x :: xs => merge_candidate.go k x.f0 x.f1 xs else none
theorem rd_cand_drop (l : List S81) (i : Nat) (h : i < l.length) : l.drop i = rd_T81 l (i : Int) :: l.drop (i + 1) := by
 rw [List.drop_eq_getElem_cons h]
 simp [rd_T81, List.getD_eq_getElem?_getD, List.getElem?_eq_getElem h]
set_option maxHeartbeats 2000000 in
set_option maxRecDepth 100000 in
theorem merge_candidate.calls (k : Nat) (A0 : Option Addr) (c0 : Nat) (l0 : List S81) (a1 : Go.Value) (r1 : ByteArray) (r2 : Int) (w : World) (hr0 : Kd.C k81 w A0 l0.length l0) (hc0 : l0.length ≤ c0) (h : merge_candidate.f k l0 a1 = some (r1, r2)) :
  Calls Tryd.prog 56 #[.slice A0 l0.length c0, a1] w fun e w' => e = .returned (.agg #[.string r1, .int .i64 r2]) ∧ Below w.heap.size w w' := by
 unfold merge_candidate.f at h
 split at h
 ·rename_i hc
  obtain ⟨hfn, hlen⟩ := hc
  have hfn2 := merge_candidate.of_isFn hfn
  subst hfn2; clear hfn
  have hl1 : 1 ≤ l0.length := by
   cases l0 with
   | nil => cases h
   | cons _ _ => simp
  have h0 : merge_candidate.go k (rd_T81 l0 0).f0 (rd_T81 l0 0).f1 (l0.drop 1) = some (r1, r2) := by
   cases l0 with
   | nil => cases h
   | cons x xs => exact h
  clear h
  obtain ⟨ad, rfl, q0, q1⟩ := at_T81 hr0 0 (by omega) (by omega)
  simp only [Int.toNat_zero, Nat.zero_mul] at q0 q1
  have e0 : ad.add 0 = ad := by cases ad; rfl
  rw [e0] at q0 q1
  have hab : ad.block < w.heap.size := zB w _ q0
  have hp : (0 : Int) < (l0.length : Int) := by omega
  have hu := Tryd.underlying81
  by_cases hc1 : c0 = 1
  ·subst hc1
   have hll : l0.length = 1 := by omega
   have hd : l0.drop 1 = [] := List.drop_eq_nil_of_le (by omega)
   rw [hd] at h0
   injection h0 with h0
   injection h0 with h1 h2
   subst h1 h2; clear hr0 hc0 hlen hl1 hp hd
   rw [hll]
   go_enter Tryd.func56, Tryd.ntmps56
   go_wp2
   go_loopw [14] (fun v14 wr => v14 = .int .i64 0 ∧ wr = (w.alloc (Obj.cells #[Value.string { data := #[] }, Value.int IntKind.i64 0] 81)).alloc (Obj.cells #[Value.string (rd_T81 l0 0).f0, Value.int IntKind.i64 (rd_T81 l0 0).f1] 81)) (fun _ _ => 0)
   case atStart => exact ⟨rfl, rfl⟩
   case round =>
    obtain ⟨rfl, rfl⟩ := hrel; go_wp2
    refine bodyPost_ret (v := .agg #[.string (rd_T81 l0 0).f0, .int .i64 (rd_T81 l0 0).f1]) (by simp [results, Tryd.results56, go_sem]) rfl ⟨rfl, ?_⟩
    exact zL (zL (Below.refl _ _) _) _
  have hc2 : 1 < c0 := by omega
  have HR := zA hr0; have H0 := zA h0; have HL := zA hlen; clear hr0 h0 hlen
  go_enter Tryd.func56, Tryd.ntmps56
  go_wp2
  obtain ⟨ws, hws⟩ : ∃ ws, ws = (w.alloc (Obj.cells #[Value.string { data := #[] }, Value.int IntKind.i64 0] 81)).alloc (Obj.cells #[Value.string (rd_T81 l0 0).f0, Value.int IntKind.i64 (rd_T81 l0 0).f1] 81) := ⟨_, rfl⟩
  have hst : Aside0 (ws.heap[w.heap.size]? = some (Obj.cells #[Value.string { data := #[] }, Value.int IntKind.i64 0] 81 (0, 0))) ∧ Aside0 (ws.heap[w.heap.size + 1]? = some (Obj.cells #[Value.string (rd_T81 l0 0).f0, Value.int IntKind.i64 (rd_T81 l0 0).f1] 81 (0, 0))) ∧ Aside0 (Below w.heap.size w ws) := by
   rw [hws]
   refine ⟨⟨?_⟩, ⟨?_⟩, ⟨zL (zL (Below.refl _ _) _) _⟩⟩
   ·exact (Below.heap_alloc _ _ w.heap.size (by simp)).trans (heap_alloc_new w _)
   ·simpa using heap_alloc_new (w.alloc (Obj.cells #[Value.string { data := #[] }, Value.int IntKind.i64 0] 81)) _
  obtain ⟨hz4, hz5, hBs⟩ := hst
  rw [← hws]
  clear hws q0 q1
  go_loopw [14] (fun v14 wr => ∃ (i : Nat) (b : ByteArray) (c : Int), v14 = .int .i64 (i : Int) ∧ i + 1 ≤ l0.length ∧ Aside0 (merge_candidate.go k b c (l0.drop (i + 1)) = some (r1, r2)) ∧ Aside0 (wr.heap[w.heap.size]? = some (Obj.cells #[Value.string { data := #[] }, Value.int IntKind.i64 0] 81 (0, 0))) ∧
    Aside0 (wr.heap[w.heap.size + 1]? = some (Obj.cells #[Value.string b, Value.int IntKind.i64 c] 81 (0, 0))) ∧ Aside0 (Below w.heap.size w wr)) (fun v14 _ => l0.length - (intOf v14).toNat)
  case atStart => exact ⟨0, _, _, rfl, by omega, H0, hz4, hz5, hBs⟩
  case round =>
   clear hz4 hz5 hBs H0; obtain ⟨i, b, c, rfl, hi, HG, HZ4, HZ5, HB⟩ := hrel
   have p1 := (blkCells (cs := [Value.string b, Value.int IntKind.i64 c]) HZ5.out 0 _ rfl).1
   have p2 := (blkCells (cs := [Value.string b, Value.int IntKind.i64 c]) HZ5.out 1 _ rfl).1
   have f1 := (blkCells (cs := [Value.string b, Value.int IntKind.i64 c]) HZ5.out 0 _ rfl).2
   have f2 := (blkCells (cs := [Value.string b, Value.int IntKind.i64 c]) HZ5.out 1 _ rfl).2
   have z1 := (blkCells (cs := [Value.string { data := #[] }, Value.int IntKind.i64 0]) HZ4.out 0 _ rfl).1
   have z2 := (blkCells (cs := [Value.string { data := #[] }, Value.int IntKind.i64 0]) HZ4.out 1 _ rfl).1
   have g1 := (blkCells (cs := [Value.string { data := #[] }, Value.int IntKind.i64 0]) HZ4.out 0 _ rfl).2
   have g2 := (blkCells (cs := [Value.string { data := #[] }, Value.int IntKind.i64 0]) HZ4.out 1 _ rfl).2
   have hwl : w.heap.size + 1 < wr.heap.size := zB wr _ p1
   have hw1 : wrap64 ((i : Int) + 1) = (i : Int) + 1 := by unfold wrap64; have := HL.out; omega
   have hi0 : (0 : Int) ≤ (i : Int) := by omega
   have hab2 : ad.block < wr.heap.size := by have := HB.out.size; omega
   by_cases hlt : i + 1 < l0.length
   rotate_left
   ·have he : i = l0.length - 1 := by omega
    subst he
    have d0 : decide (((l0.length - 1 : Nat) : Int) < ((l0.length - 1 : Nat) : Int)) = false := decide_eq_false (by omega)
    have hG := HG.out
    rw [show l0.length - 1 + 1 = l0.length by omega, List.drop_length] at hG
    injection hG with hG
    injection hG with hG1 hG2
    subst hG1 hG2; clear hw1 hi0
    have k1 := (blkCells (cs := [Value.string b, Value.int IntKind.i64 0]) (heapAt (j := 0) HZ4.out (Value.string b)) 0 _ rfl).1
    have k2 := (blkCells (cs := [Value.string b, Value.int IntKind.i64 c]) (heapAt (j := 1) (heapAt (j := 0) HZ4.out (Value.string b)) (Value.int IntKind.i64 c)) 1 _ rfl).1
    go_wp2
    refine bodyPost_ret (v := .agg #[.string b, .int .i64 c]) (by simp [results, Tryd.results56, go_sem, k1, k2]) rfl ⟨rfl, ?_⟩
    exact below_set (below_set HB.out (by simp)) (by simp)
   have hlt' : (i : Int) < ((l0.length - 1 : Nat) : Int) := by omega
   have d1 : decide ((i : Int) < ((l0.length - 1 : Nat) : Int)) = true := decide_eq_true hlt'
   obtain ⟨ad', e', q0, q1⟩ := at_T81 HR.out ((i + 1 : Nat) : Int) (by omega) (by omega)
   cases e'
   replace q0 := (HB.out.cell (zB w _ q0)).trans q0
   replace q1 := (HB.out.cell (zB w _ q1)).trans q1
   have HG2 := HG.out
   rw [rd_cand_drop l0 (i + 1) hlt] at HG2
   unfold merge_candidate.go at HG2
   obtain ⟨y, hy, HG3⟩ := Option.bind_eq_some_iff.mp HG2
   have HY := zA hy; have HG4 := zA HG3
   rw [Int.toNat_natCast] at q0 q1
   have eo : ad.off + (i + 1) * 2 = ad.off + 2 + i * 2 := by omega
   replace q0 : wr.cell? ⟨ad.block, ad.off + 2 + i * 2, none⟩ = some (.string (rd_T81 l0 ((i + 1 : Nat) : Int)).f0) := by rw [← eo]; exact q0
   replace q1 : wr.cell? ⟨ad.block, ad.off + 2 + i * 2 + 1, none⟩ = some (.int .i64 (rd_T81 l0 ((i + 1 : Nat) : Int)).f1) := by rw [← eo]; exact q1
   clear eo
   obtain ⟨xb, hxb⟩ : ∃ xb, xb = (rd_T81 l0 ((i + 1 : Nat) : Int)).f0 := ⟨_, rfl⟩
   obtain ⟨xc, hxc⟩ : ∃ xc, xc = (rd_T81 l0 ((i + 1 : Nat) : Int)).f1 := ⟨_, rfl⟩
   rw [← hxb, ← hxc] at HY HG4
   rw [← hxb] at q0; rw [← hxc] at q1; clear HG2 hy HG3 HG hxb hxc
   have hO : (wr.alloc (Obj.cells #[Value.string xb, Value.int IntKind.i64 xc] 81)).heap[wr.heap.size]? = some (Obj.cells #[Value.string xb, Value.int IntKind.i64 xc] 81 (0, 0)) := heap_alloc_new wr _
   have x1 := (blkCells (cs := [Value.string xb, Value.int IntKind.i64 xc]) hO 0 _ rfl).1
   have x2 := (blkCells (cs := [Value.string xb, Value.int IntKind.i64 xc]) hO 1 _ rfl).1
   clear hO
   cases y with
   | true =>
    go_wp2_with (first
     | (go_at_call 57; refine (merge_step_1.calls k xb xc b c true _ HY.out).mono ?_; rintro e w6 ⟨rfl, hb6⟩; have b6 : Below wr.heap.size wr w6 := ((zL (Below.refl _ _) _).trans (hb6.mono (by simp))); have y1 := cellBelow hb6 x1; have y2 := cellBelow hb6 x2; have p3 := cellBelow b6 p1; have p4 := cellBelow b6 p2; have f3 := frozenBelow b6 p1 f1; have f4 := frozenBelow b6 p2 f2; have B6 := zA b6; clear hb6 b6 x1 x2))
    go_roundw
    case rel =>
     rw [hw1]
     have e5 := heapBelow B6.out HZ5.out
     refine ⟨i + 1, xb, xc, by rw [Int.natCast_add]; rfl, by omega, ⟨by simpa using HG4.out⟩, ⟨?_⟩, ⟨heapAt (heapAt e5 _) _⟩, ⟨?_⟩⟩
     ·rw [heapFar (by simp), heapFar (by simp)]
      exact heapBelow B6.out HZ4.out
     ·exact below_set (below_set (HB.out.trans (B6.out.mono HB.out.size)) (by simp)) (by simp)
    case measure =>
     rw [hw1]
     clear hw1 p1 p2 f1 f2 z1 z2 g1 g2
     simp [intOf]; omega
   | false =>
    go_wp2_with (first
     | (go_at_call 57; refine (merge_step_1.calls k xb xc b c false _ HY.out).mono ?_; rintro e w6 ⟨rfl, hb6⟩; have b6 : Below wr.heap.size wr w6 := ((zL (Below.refl _ _) _).trans (hb6.mono (by simp))); have B6 := zA b6; clear hb6 b6 x1 x2))
    go_roundw
    case rel =>
     rw [hw1]
     exact ⟨i + 1, b, c, by rw [Int.natCast_add]; rfl, by omega, ⟨by simpa using HG4.out⟩, ⟨heapBelow B6.out HZ4.out⟩, ⟨heapBelow B6.out HZ5.out⟩, ⟨HB.out.trans (B6.out.mono HB.out.size)⟩⟩
    case measure =>
     rw [hw1]
     clear hw1 p1 p2 f1 f2 z1 z2 g1 g2
     simp [intOf]; omega
 ·cases h
end Go.Proofs.YtnfolcefjkannaaDoor.G
namespace Go.Proofs.YtnfolcefjkannaaDoor.G
open Go.RowKit Go.Proofs.YtnfolcefjkannaaDoorW.PrintWords Go.Proofs.YtnfolcefjkannaaDoorW.PrintLast Go.Proofs.YtnfolcefjkannaaDoorW.PrintMore
attribute [local go_sem] max2_int min2_int max_two min_two max_three min_three max_four min_four
set_option linter.unusedVariables false
set_option linter.unusedSimpArgs false
def merge_step.l0 : Nat → Gh57 → List ByteArray → List (S81) → Int → Option (List ByteArray)
 | 0, _, _, _, _ => none
 | k + 1, x0, x1, x5, x6 => if x6 < (x1.length : Int) then (if 0 ≤ (wrap64 (x6 - 1)) then (if (wrap64 (x6 - 1)) < (x1.length : Int) then (if 0 ≤ x6 then ((path_Common.f (rdOf ByteArray.empty x1 (wrap64 (x6 - 1))) (rdOf ByteArray.empty x1 x6)).bind fun t198 => ((merge_at.f k x1 t198).bind fun t199 => ((merge_cost.f k x0 t199).bind fun t202 => (if x5.length < 5864062014805 then (merge_step.l0 k x0 x1 (x5 ++ [(⟨t198, t202⟩ : S81)]) (wrap64 (x6 + 1))) else (none))))) else (none)) else (none)) else (none)) else ((merge_candidate.f k x5 (.func (.func 57) #[] #[])).bind fun bt206 => ((merge_at.f k x1 bt206.1).bind fun t209 => (some t209)))
def merge_step.f (k : Nat) (a0 : Gh57) (l1 : List ByteArray) : Option (List ByteArray) := merge_step.l0 k a0 l1 ([] : List (S81)) 1
def merge_step.T5 : Bool × List (List Nat × List Nat) := (true, [([], []), ([], []), ([1], [1]), ([0, 2], [0, 2]), ([3], [3]), ([], []), ([], []), ([5, 6], [5, 6]), ([7], [7]), ([4, 8], [4, 8]), ([9, 9, 0, 1, 2, 3, 4, 5, 6, 7, 8, 9], [9])])
def merge_step.B5 : List Nat := [0, 0, 2, 7, 15, 0, 0, 96, 224, 511, 1023]
theorem merge_step.tab5 : rtab .any (opsOf Tryd.f33 5) = merge_step.T5 := by kernel_rfl
theorem merge_step.bits5 : waitsOk merge_step.T5.2 merge_step.B5 = true := by kernel_rfl
set_option maxHeartbeats 8000000 in
set_option maxRecDepth 100000 in
theorem merge_step.calls (k : Nat) (a0 : Gh57) (A1 : Option Addr) (c1 : Nat) (l1 : List ByteArray) (r : List ByteArray) (w : World) (hg : a0.Is w) (hr1 : Kd.C Kd.string w A1 l1.length l1) (hc1 : l1.length ≤ c1) (h : merge_step.f k a0 l1 = some r) :
  Calls Tryd.prog 33 #[.pointer (some ⟨a0.t, 0, none⟩), .slice A1 l1.length c1] w fun e w' => ∃ v0_ : Value, e = .returned (v0_) ∧ Kd.R Kd.string 9 w' w.heap.size (fun _ => True) v0_ r ∧ Below w.heap.size w w' := by
 have HG := zA hg; clear hg
 have hu81 := Tryd.underlying81
 have HR1 := zA hr1; have HC1 := zA hc1; clear hr1 hc1
 have HB := zA (Below.refl w.heap.size w)
 have H : (merge_step.l0 k a0 l1 ([] : List (S81)) 1) = some r := h
 clear h
 have H' := zA H
 clear H
 go_enter Tryd.func33, Tryd.ntmps33
 go_wp2
 go_loopg [5, 6] k (fun kq v5 v6 w' => ∃ (x5_1 : List (S81)) (x6_1 : Int), v6 = .int .i64 x6_1 ∧ Aside0 (merge_step.l0 kq a0 l1 x5_1 x6_1 = some r) ∧ Aside0 (kq ≤ k) ∧ Aside0 (Kd.R k81 81 w' w.heap.size (fun _ => True) v5 x5_1) ∧ Aside0 (Below w.heap.size w w'))
 case atStart => exact ⟨(([] : List (S81))), (1), (by first | rfl | (simp; done) | (simp [*]; done)), H', ⟨Nat.le_refl _⟩, ⟨by first | exact Kd.R_nil _ _ _ _ _ | exact Kd.N_nil _ _ _ _ _ | exact Kd.V_nil _ _ _ _ _ | exact Kd.Q_nil _ _ _ _ _ | exact Kd.S_nil _ _ _ _ _⟩, ⟨by repeat (first | (with_reducible first | exact HB.out | apply zL | apply zN | apply zD) | exact HB.out)⟩⟩
 case round =>
  clear H'
  try clear c1
  try clear p2
  obtain ⟨x5_1, x6_1, rfl, HA, HK1, HO_5, HB⟩ := hrel
  cases gk with
  | zero => exact absurd HA.out (by simp [merge_step.l0])
  | succ k1 =>
   have H := HA.out
   clear HA
   simp only [merge_step.l0] at H
   by_cases c3 : x6_1 < (l1.length : Int)
   rotate_left
   ·rw [if_neg c3] at H
    have c3b0 : decide (x6_1 < (l1.length : Int)) = false := decide_eq_false c3
    clear c3; replace H := Option.bind_eq_some_iff.mp H; obtain ⟨⟨t206, t207⟩, A180, H⟩ := H
    replace H : ((merge_at.f k1 l1 t206).bind fun t209 => (some t209)) = some r := H
    have A18 := zA A180; clear A180; replace H := Option.bind_eq_some_iff.mp H; obtain ⟨t209, A190, H⟩ := H
    replace H : (some t209) = some r := H
    have A19 := zA A190; clear A190; obtain rfl := Option.some.inj H
    obtain ⟨Ao20, co20, eo20⟩ := Kd.R_slice HO_5.out
    subst eo20
    go_wp2_with (first | ((with_reducible refine gate_callee (f := 56) rfl ?_); refine goesL_ (some 36) rfl rfl Tryd.func56 (by kernel_rfl) rfl #[.slice Ao20 x5_1.length co20, (.func (.func 57) #[] #[])] rfl (by (try simp only [List.map_toArray, List.map_cons, List.map_nil]); first | done | rfl | (simp only [List.length_drop, List.length_take]; rfl)) ?_; (with_reducible refine (merge_candidate.calls k1 _ _ x5_1 (.func (.func 57) #[] #[]) t206 t207 _ ?side1 ?side2 A18.out).mono ?_); (case side1 => repeat (first | exact (Kd.R_reads' HO_5.out).2.2 | (with_reducible refine Kd.C_alloc ?_ _) | (with_reducible refine Kd.C_drewN ?_ _) | (with_reducible refine Kd.C_drew ?_))); (case side2 => exact (Kd.R_reads' HO_5.out).2.1); rintro e w21 ⟨rfl, hb⟩; refine ⟨_, rfl, ?_⟩; have n0_ := zA (Kd.R_below (by (with_reducible repeat (first | apply Kd.R_alloc | apply Kd.R_drewN | apply Kd.R_drew)); exact HO_5.out) hb); have n1_ := zA (below_step (by repeat (first | (with_reducible first | exact HB.out | apply zL | apply zN | apply zD) | exact HB.out)) hb); clear HO_5; clear HB; have HO_5 := n0_; have HB := n1_; clear n0_ n1_; (try clear hb); (try clear hb2); (try clear hk); (try clear hi)) | ((with_reducible refine gate_dst (N := 8) rfl ?_); refine box_event ?hg (N := 8) ?hd (cs := #[.string (⟨#[]⟩ : ByteArray), .int .i64 0]) (t := 81) ?hr ?_; (case hd => rfl); (case hg => rfl); (case hr => first | (go_simp; done) | (go_simp; rfl)); intro gb208 hg w22 hbox hb; have n0_ := zA (Kd.R_below (Kd.R_elderB (by (with_reducible repeat (first | apply Kd.R_alloc | apply Kd.R_drewN | apply Kd.R_drew)); exact HO_5.out) gb208 (Nat.le_of_eq hg.symm)) hb); have n1_ := zA (below_step (by repeat (first | (with_reducible first | exact HB.out | apply zL | apply zN | apply zD) | exact HB.out)) hb); have n2_ := zA (hbox); have n3_ := zA ((by rw [hg]; exact (below_size (by repeat (first | (with_reducible first | exact HB.out | apply zL | apply zN | apply zD) | exact HB.out))) : w.heap.size ≤ gb208)); have n4_ := zA ((by rw [hg]; exact (below_size (by repeat (first | (with_reducible first | exact HB.out | apply zL | apply zN | apply zD) | exact HB.out))) : w.heap.size ≤ gb208)); clear HO_5; clear HB; have HO_5 := n0_; have HB := n1_; have BK208 := n2_; have GW208 := n3_; have GE208 := n4_; clear n0_ n1_ n2_ n3_ n4_; clear hb hbox hg; have hcz23_0 : w22.cell? ⟨gb208, 0, none⟩ = some (.string (⟨#[]⟩ : ByteArray)) := (blk_cell BK208.out 0).trans rfl; have hcz23_1 : w22.cell? ⟨gb208, 1, none⟩ = some (.int .i64 0) := (blk_cell BK208.out 1).trans rfl; have hfz23_0 := blk_frozen BK208.out 0; have hfz23_1 := blk_frozen BK208.out 1) | ((with_reducible refine gate_callee (f := 29) rfl ?_); refine goesL_ (some 40) rfl rfl Tryd.func29 (by kernel_rfl) rfl #[.slice A1 l1.length c1, .string t206] rfl (by (try simp only [List.map_toArray, List.map_cons, List.map_nil]); first | done | rfl | (simp only [List.length_drop, List.length_take]; rfl)) ?_; (with_reducible refine (merge_at.calls k1 _ _ l1 t206 t209 _ ?side1 ?side2 A19.out).mono ?_); (case side1 => exact Kd.C_below HR1.out (by repeat (first | (with_reducible first | exact HB.out | apply zL | apply zN | apply zD | refine below_set ?_ GE208.out) | exact HB.out))); (case side2 => exact HC1.out); rintro e w24 ⟨v210, rfl, ho0, hb⟩; refine ⟨_, rfl, ?_⟩; have n0_ := zA (Kd.R_below (by (with_reducible repeat (first | apply Kd.R_alloc | apply Kd.R_drewN | apply Kd.R_drew)); exact (Kd.R_mono (Kd.R_far (p := ⟨gb208, 1, none⟩) (Kd.R_far (p := ⟨gb208, 0, none⟩) (Kd.R_mono HO_5.out (fun k_ hk => (⟨hk, hk.2⟩ : _ ∧ k_ ≠ gb208))) (fun _ hk => hk.2) (.string t206)) (fun _ hk => hk.2) (.int .i64 t207)) (fun _ h_ => h_.1))) hb); have n1_ := zA (Kd.R_lower ho0 (below_size (by repeat (first | (with_reducible first | exact HB.out | apply zL | apply zN | apply zD | refine below_set ?_ GE208.out) | exact HB.out)))); have n2_ := zA (blk_below (g := gb208) (o := .cells #[.string t206, .int .i64 t207] 81 (0, 0)) (by (with_reducible repeat (first | refine blk_drewN ?_ _ | refine blk_drew ?_ | refine blk_alloc ?_ _)); refine blk_put (cs := #[.string t206, .int .i64 0]) ?_ 1 _ rfl; (with_reducible repeat (first | refine blk_drewN ?_ _ | refine blk_drew ?_ | refine blk_alloc ?_ _)); refine blk_put (cs := #[.string (⟨#[]⟩ : ByteArray), .int .i64 0]) ?_ 0 _ rfl; (with_reducible repeat (first | refine blk_drewN ?_ _ | refine blk_drew ?_ | refine blk_alloc ?_ _)); exact BK208.out) hb); have n3_ := zA (below_step (by repeat (first | (with_reducible first | exact HB.out | apply zL | apply zN | apply zD | refine below_set ?_ GE208.out) | exact HB.out)) hb); clear HO_5; clear BK208; clear HB; have HO_5 := n0_; have HO211 := n1_; have BK208 := n2_; have HB := n3_; clear n0_ n1_ n2_ n3_; (try clear hb); (try clear hb2); (try clear hk); (try clear hi); (try clear ho0)))
    go_ret
    exact ⟨_, by first | rfl | (simp [errW_none, errW_some] <;> rfl) | (simp [*, errW_none, errW_some] <;> rfl), by (with_reducible repeat (first | apply Kd.R_alloc | apply Kd.R_drewN | apply Kd.R_drew)); exact HO211.out, by repeat (first | (with_reducible first | exact HB.out | apply zL | apply zN | apply zD | refine below_set ?_ GE208.out) | exact HB.out)⟩
   rw [if_pos c3] at H
   have c3b0 : decide (x6_1 < (l1.length : Int)) = true := decide_eq_true c3
   clear c3
   obtain ⟨ji4, hji4⟩ : ∃ j_ : Int, (wrap64 (x6_1 - 1)) = j_ := ⟨_, rfl⟩
   replace H : (if 0 ≤ (ji4) then (if (ji4) < (l1.length : Int) then (if 0 ≤ x6_1 then ((path_Common.f (rdOf ByteArray.empty l1 (ji4)) (rdOf ByteArray.empty l1 x6_1)).bind fun t198 => ((merge_at.f k1 l1 t198).bind fun t199 => ((merge_cost.f k1 a0 t199).bind fun t202 => (if x5_1.length < 5864062014805 then (merge_step.l0 k1 a0 l1 (x5_1 ++ [(⟨t198, t202⟩ : S81)]) (wrap64 (x6_1 + 1))) else (none))))) else (none)) else (none)) else (none)) = some r := by first | (rw [hji4] at H; exact H) | (simp only [hji4] at H ⊢; exact H)
   have hji4w : (IntKind.i64.wrap (x6_1 - 1)) = ji4 := (i64_w _).trans hji4
   by_cases c5 : 0 ≤ (ji4)
   rotate_left
   ·rw [if_neg c5] at H
    exact absurd H (by simp)
   rw [if_pos c5] at H
   have c5b0 : decide (0 ≤ (ji4)) = true := decide_eq_true c5
   clear c5
   by_cases c6 : (ji4) < (l1.length : Int)
   rotate_left
   ·rw [if_neg c6] at H
    exact absurd H (by simp)
   rw [if_pos c6] at H
   have c6b0 : decide ((ji4) < (l1.length : Int)) = true := decide_eq_true c6
   clear c6
   by_cases c7 : 0 ≤ x6_1
   rotate_left
   ·rw [if_neg c7] at H
    exact absurd H (by simp)
   rw [if_pos c7] at H
   have c7b0 : decide (0 ≤ x6_1) = true := decide_eq_true c7
   clear c7; replace H := Option.bind_eq_some_iff.mp H; obtain ⟨t198, A80, H⟩ := H
   replace H : ((merge_at.f k1 l1 t198).bind fun t199 => ((merge_cost.f k1 a0 t199).bind fun t202 => (if x5_1.length < 5864062014805 then (merge_step.l0 k1 a0 l1 (x5_1 ++ [(⟨t198, t202⟩ : S81)]) (wrap64 (x6_1 + 1))) else (none)))) = some r := H
   have A8 := zA A80; clear A80; replace H := Option.bind_eq_some_iff.mp H; obtain ⟨t199, A90, H⟩ := H
   replace H : ((merge_cost.f k1 a0 t199).bind fun t202 => (if x5_1.length < 5864062014805 then (merge_step.l0 k1 a0 l1 (x5_1 ++ [(⟨t198, t202⟩ : S81)]) (wrap64 (x6_1 + 1))) else (none))) = some r := H
   have A9 := zA A90; clear A90; replace H := Option.bind_eq_some_iff.mp H; obtain ⟨t202, A100, H⟩ := H
   replace H : (if x5_1.length < 5864062014805 then (merge_step.l0 k1 a0 l1 (x5_1 ++ [(⟨t198, t202⟩ : S81)]) (wrap64 (x6_1 + 1))) else (none)) = some r := H
   have A10 := zA A100; clear A100
   by_cases c11 : x5_1.length < 5864062014805
   rotate_left
   ·rw [if_neg c11] at H
    exact absurd H (by simp)
   rw [if_pos c11] at H; have LMc11 := zA c11; clear c11
   obtain ⟨y203, hy203⟩ : ∃ y_ : List (S81), y_ = (x5_1 ++ [(⟨t198, t202⟩ : S81)]) := ⟨_, rfl⟩
   replace H : (merge_step.l0 k1 a0 l1 y203 (wrap64 (x6_1 + 1))) = some r := by first | (rw [hy203]; with_reducible exact H) | (have H2_ := (Option.bind_some _ _).symm.trans H; rw [hy203]; with_reducible exact H2_) | (have H2_ := (Option.bind_some _ _).symm.trans H; with_reducible exact H2_) | with_reducible exact H | (rw [hy203]; exact H) | exact H
   have Ny203 := zA hy203; clear hy203
   have H' := zA H
   clear H
   try go_wp2
   have n0_ := zA (Kd.R_drew HO_5.out)
   have n1_ := zA (zD HB.out)
   clear HO_5; clear HB; have HO_5 := n0_; have HB := n1_; clear n0_ n1_
   have p196 : 0 ≤ ((ji4) : Int) := zO (by first | (with_reducible assumption) | assumption)
   have q196 : (ji4) < (l1.length : Int) := zO (by first | (with_reducible assumption) | assumption)
   obtain ⟨ad196, e196, hx196_0⟩ := Kd.at_string HR1.out (ji4) p196 q196
   have hw196_0 := hx196_0
   cases e196
   replace hx196_0 := (HB.out.cell (zB w _ hx196_0)).trans hx196_0
   replace p196 := eq_true p196
   replace q196 := eq_true q196
   have p197 : 0 ≤ (x6_1 : Int) := zO (by first | (with_reducible assumption) | assumption)
   have q197 : x6_1 < (l1.length : Int) := zO (by first | (with_reducible assumption) | assumption)
   obtain ⟨ad197, e197, hx197_0⟩ := Kd.at_string HR1.out x6_1 p197 q197
   have hw197_0 := hx197_0
   obtain rfl : ad196 = ad197 := (by injection e197)
   replace hx197_0 := (HB.out.cell (zB w _ hx197_0)).trans hx197_0
   replace p197 := eq_true p197
   replace q197 := eq_true q197
   refine start_ (n := 11) (S := fun w' => w'.cell? (ad196.add ((ji4)).toNat) = some (.string (rdOf ByteArray.empty l1 (ji4))) ∧ w'.cell? (ad196.add (x6_1).toNat) = some (.string (rdOf ByteArray.empty l1 x6_1))) (ds := []) #[F, F, F, F, F, F, F, F, F, F, F] (by kernel_rfl) rfl rfl ⟨((HB.out.cell (zB w _ hw196_0)).trans hw196_0), ((HB.out.cell (zB w _ hw197_0)).trans hw197_0)⟩ (fun hHeld => ?_); refine with_tabW merge_step.tab5 merge_step.bits5 (fun HT_ HW_ => ?_)
   generalize wr.drew = w12 at HO_5 HB hx196_0 hx197_0 hHeld ⊢
   refine pure_ (i := 0) (N := some 15) (v := ?_) (a' := ?_) #[T, F, F, F, F, F, F, F, F, F, F] rfl rfl (any_of HT_.out (by kernel_rfl)) (fun _ _ _ h => h) (Or.inl ⟨by rfl, ?_⟩) ?_ ?_
   rotate_left
   ·intro w'; go_simp; with_reducible rfl
   rotate_left
   ·simp only [Act.put, zS, zZ, zC, i64_w, i32_w]
    rfl
   refine pure_ (i := 1) (N := some 16) (v := ?_) (a' := ?_) #[T, T, F, F, F, F, F, F, F, F, F] rfl rfl (any_of HT_.out (by kernel_rfl)) (fun _ _ _ h => h) (Or.inl ⟨by rfl, ?_⟩) ?_ ?_
   rotate_left
   ·intro w'; go_simp; with_reducible rfl
   rotate_left
   ·simp only [Act.put, zS, zZ, zC, i64_w, i32_w]
    rfl
   refine pure_ (i := 2) (N := some 17) (v := ?_) (a' := ?_) #[T, T, T, F, F, F, F, F, F, F, F] rfl rfl (any_of HT_.out (by kernel_rfl)) (fun _ _ _ h => h) (Or.inl ⟨by rfl, ?_⟩) ?_ ?_
   rotate_left
   ·intro w'; go_simp; with_reducible rfl
   rotate_left
   ·simp only [Act.put, zS, zZ, zC, i64_w, i32_w]
    rfl
   refine pure_ (i := 3) (N := some 18) (v := ?_) (a' := ?_) #[T, T, T, T, F, F, F, F, F, F, F] rfl rfl (any_of HT_.out (by kernel_rfl)) (fun _ _ _ h => h) (Or.inl ⟨by rfl, ?_⟩) ?_ ?_
   rotate_left
   ·intro w'; go_simp; with_reducible rfl
   rotate_left
   ·simp only [Act.put, zS, zZ, zC, i64_w, i32_w]
    rfl
   refine pure_ (i := 5) (N := some 20) (v := ?_) (a' := ?_) #[T, T, T, T, F, T, F, F, F, F, F] rfl rfl (any_of HT_.out (by kernel_rfl)) (fun _ _ _ h => h) (Or.inl ⟨by rfl, ?_⟩) ?_ ?_
   rotate_left
   ·intro w'; go_simp; with_reducible rfl
   rotate_left
   ·simp only [Act.put, zS, zZ, zC, i64_w, i32_w]
    rfl
   refine pure_ (i := 6) (N := some 21) (v := ?_) (a' := ?_) #[T, T, T, T, F, T, T, F, F, F, F] rfl rfl (any_of HT_.out (by kernel_rfl)) (fun _ _ _ h => h) (Or.inl ⟨by rfl, ?_⟩) ?_ ?_
   rotate_left
   ·intro w'; go_simp; with_reducible rfl
   rotate_left
   ·simp only [Act.put, zS, zZ, zC, i64_w, i32_w]
    rfl
   refine pure_ (i := 7) (N := some 22) (v := ?_) (a' := ?_) #[T, T, T, T, F, T, T, T, F, F, F] rfl rfl (any_of HT_.out (by kernel_rfl)) (fun _ _ _ h => h) (Or.inl ⟨by rfl, ?_⟩) ?_ ?_
   rotate_left
   ·intro w'; go_simp; with_reducible rfl
   rotate_left
   ·simp only [Act.put, zS, zZ, zC, i64_w, i32_w]
    rfl
   refine take_ (i := 4) (N := some 19) (v := ?_) (a' := ?_) #[T, T, T, T, T, T, T, T, F, F, F] rfl rfl (take_ofW HT_.out HW_.out (by kernel_rfl)) (fun _ _ _ h => h) (Or.inl ⟨by rfl, ?_⟩) hHeld ?_ ?_
   rotate_left
   ·rintro w' ⟨s0, s1⟩
    go_simp; with_reducible rfl
   rotate_left
   ·simp only [Act.put, zS, zZ, zC, i64_w, i32_w]
    rfl
   refine take_ (i := 8) (N := some 23) (v := ?_) (a' := ?_) #[T, T, T, T, T, T, T, T, T, F, F] rfl rfl (take_ofW HT_.out HW_.out (by kernel_rfl)) (fun _ _ _ h => h) (Or.inl ⟨by rfl, ?_⟩) hHeld ?_ ?_
   rotate_left
   ·rintro w' ⟨s0, s1⟩
    go_simp; with_reducible rfl
   rotate_left
   ·simp only [Act.put, zS, zZ, zC, i64_w, i32_w]
    rfl
   refine one_ (i := 9) (N := some 24) #[T, T, T, T, T, T, T, T, T, T, F] rfl rfl (one_of HT_.out (by kernel_rfl)) (by decide) (fun K hK => ?_)
   refine goes_ Tryd.func55 (by kernel_rfl) rfl #[.string (rdOf ByteArray.empty l1 (ji4)), .string (rdOf ByteArray.empty l1 x6_1)] (by rfl) rfl rfl (by (try simp only [List.map_toArray, List.map_cons, List.map_nil]); first | done | (simp only [hji4]; rfl) | rfl | (simp only [List.length_drop, List.length_take]; rfl)) ?_
   with_reducible refine (path_Common.calls (rdOf ByteArray.empty l1 (ji4)) (rdOf ByteArray.empty l1 x6_1) t198 _ A8.out).mono ?_
   rintro e w13 ⟨rfl, hb⟩
   refine ⟨_, rfl, ?_⟩
   have n0_ := zA (Kd.R_below (by (with_reducible repeat (first | apply Kd.R_alloc | apply Kd.R_drewN | apply Kd.R_drew)); exact HO_5.out) hb)
   have n1_ := zA (below_step (by repeat (first | (with_reducible first | exact HB.out | apply zL | apply zN | apply zD) | exact HB.out)) hb)
   clear HO_5; clear HB; have HO_5 := n0_; have HB := n1_; clear n0_ n1_
   (try clear hb)
   (try clear hb2)
   (try clear hk)
   (try clear hi)
   refine hK.out _ _ ⟨((HB.out.cell (zB w _ hw196_0)).trans hw196_0), ((HB.out.cell (zB w _ hw197_0)).trans hw197_0)⟩ (fun hHeld => ?_)
   clear hK K
   refine norm_ (a' := ?_) ?_ ?_
   rotate_left
   ·show Act.put _ (some 24) _ = _
    simp only [Act.put, zS, zZ, zC, i64_w, i32_w]
    rfl
   refine pure_ (i := 10) (N := some 7) (v := ?_) (a' := ?_) #[T, T, T, T, T, T, T, T, T, T, T] rfl rfl (any_of HT_.out (by kernel_rfl)) (fun _ _ _ h => h) (Or.inl ⟨by rfl, ?_⟩) ?_ ?_
   rotate_left
   ·intro w'; go_simp; with_reducible rfl
   rotate_left
   ·simp only [Act.put, zS, zZ, zC, i64_w, i32_w]
    rfl
   refine done_ (done_of HT_.out (by kernel_rfl)) ?_
   try go_wp2_with (first | ((with_reducible refine gate_callee (f := 29) rfl ?_); refine goesL_ (some 30) rfl rfl Tryd.func29 (by kernel_rfl) rfl #[.slice (some ad196) l1.length c1, .string t198] rfl (by (try simp only [List.map_toArray, List.map_cons, List.map_nil]); first | done | rfl | (simp only [List.length_drop, List.length_take]; rfl)) ?_; (with_reducible refine (merge_at.calls k1 _ _ l1 t198 t199 _ ?side1 ?side2 A9.out).mono ?_); (case side1 => repeat (first | exact (Kd.C_below HR1.out HB.out) | (with_reducible refine Kd.C_alloc ?_ _) | (with_reducible refine Kd.C_drewN ?_ _) | (with_reducible refine Kd.C_drew ?_))); (case side2 => exact HC1.out); rintro e w14 ⟨v200, rfl, ho0, hb⟩; refine ⟨_, rfl, ?_⟩; have n0_ := zA (Kd.R_below (by (with_reducible repeat (first | apply Kd.R_alloc | apply Kd.R_drewN | apply Kd.R_drew)); exact HO_5.out) hb); have n1_ := zA (Kd.R_lower ho0 (below_size (by repeat (first | (with_reducible first | exact HB.out | apply zL | apply zN | apply zD) | exact HB.out)))); have n2_ := zA (below_step (by repeat (first | (with_reducible first | exact HB.out | apply zL | apply zN | apply zD) | exact HB.out)) hb); clear HO_5; clear HB; have HO_5 := n0_; have HO201 := n1_; have HB := n2_; clear n0_ n1_ n2_; (try clear hb); (try clear hb2); (try clear hk); (try clear hi); (try clear ho0); obtain ⟨Ao15, co15, eo15⟩ := Kd.R_slice HO201.out; subst eo15) | ((with_reducible refine gate_callee (f := 25) rfl ?_); refine goesL_ (some 31) rfl rfl Tryd.func25 (by kernel_rfl) rfl #[.pointer (some ⟨a0.t, 0, none⟩), .slice Ao15 t199.length co15] rfl (by (try simp only [List.map_toArray, List.map_cons, List.map_nil]); first | done | rfl | (simp only [List.length_drop, List.length_take]; rfl)) ?_; (with_reducible refine (merge_cost.calls k1 a0 _ _ t199 t202 _ (HG.out.below (by repeat (first | (with_reducible first | exact HB.out | apply zL | apply zN | apply zD) | exact HB.out))) ?side1 ?side2 A10.out).mono ?_); (case side1 => repeat (first | exact (Kd.R_reads' HO201.out).2.2 | (with_reducible refine Kd.C_alloc ?_ _) | (with_reducible refine Kd.C_drewN ?_ _) | (with_reducible refine Kd.C_drew ?_))); (case side2 => exact (Kd.R_reads' HO201.out).2.1); rintro e w16 ⟨rfl, hb⟩; refine ⟨_, rfl, ?_⟩; have n0_ := zA (Kd.R_below (by (with_reducible repeat (first | apply Kd.R_alloc | apply Kd.R_drewN | apply Kd.R_drew)); exact HO_5.out) hb); have n1_ := zA (Kd.R_below (by (with_reducible repeat (first | apply Kd.R_alloc | apply Kd.R_drewN | apply Kd.R_drew)); exact HO201.out) hb); have n2_ := zA (below_step (by repeat (first | (with_reducible first | exact HB.out | apply zL | apply zN | apply zD) | exact HB.out)) hb); clear HO_5; clear HO201; clear HB; have HO_5 := n0_; have HO201 := n1_; have HB := n2_; clear n0_ n1_ n2_; (try clear hb); (try clear hb2); (try clear hk); (try clear hi)) | ((with_reducible refine gate_builtin (b := .append) (xs := #[.tmp 25, .tmp 33]) rfl ?_); at_builtin; refine Kd.R_append k81 (w0 := w) w.heap.size rfl (.tmp 25) (.tmp 33) 79 81 (.agg #[(.string ⟨#[]⟩), (.int .i64 0)]) 24 rfl Tryd.underlying79 info81 rfl (by decide) (by omega) u5 x5_1 (⟨t198, t202⟩ : S81) [.string t198, .int .i64 t202] (fun _ => True) (fun _ => False) rfl rfl ?aP (fun _ hk => hk.elim) ?aF ?aO ?aB ?aS ?aL ?_; (case aP => exact k81_mkM _ _ _ (⟨t198, t202⟩ : S81)); (case aB => exact (by repeat (first | (with_reducible first | exact HB.out | apply zL | apply zN | apply zD) | exact HB.out))); (case aF => exact (fun _ _ => trivial)); (case aO => exact (by (with_reducible repeat (first | apply Kd.R_alloc | apply Kd.R_drewN | apply Kd.R_drew)); exact HO_5.out)); (case aS => exact (below_size (by repeat (first | (with_reducible first | exact HB.out | apply zL | apply zN | apply zD) | exact HB.out)))); (case aL => have := LMc11.out; omega); intro v204 w17 ho hb hg hat; rw [← Ny203.out] at ho; have n0_ := zA (Kd.R_over' (by (with_reducible repeat (first | apply Kd.R_alloc | apply Kd.R_drewN | apply Kd.R_drew)); exact HO201.out) (Kd.R_typed (by (with_reducible repeat (first | apply Kd.R_alloc | apply Kd.R_drewN | apply Kd.R_drew)); exact HO_5.out)) (by decide) hg); have n1_ := zA (hb); have n2_ := zA (ho); clear HO201; clear HB; clear HO_5; have HO201 := n0_; have HB := n1_; have HO205 := n2_; clear n0_ n1_ n2_; clear ho hb hg hat))
   go_roundg k1
   case measure => have := HK1.out; omega
   case rel => exact ⟨(y203), (wrap64 (x6_1 + 1)), (by first | rfl | (simp; done) | (simp [*]; done)), H', ⟨by have := HK1.out; omega⟩, ⟨by (with_reducible repeat (first | apply Kd.R_alloc | apply Kd.R_drewN | apply Kd.R_drew)); exact HO205.out⟩, ⟨by repeat (first | (with_reducible first | exact HB.out | apply zL | apply zN | apply zD) | exact HB.out)⟩⟩
open Go.Proofs.YtnfolcefjkannaaDoor.TrieM Go.Proofs.YtnfolcefjkannaaDoor.Wl Go.Proofs.YtnfolcefjkannaaDoor.MapLaws
def lastTo (l : List UInt8) : Nat → Int
 | 0 => -1
 | i + 1 => if l[i]? = some 47 then (i : Int) else lastTo l i
def dirL (l : List UInt8) : List UInt8 := l.take (lastTo l l.length).toNat
def Dsp (x : S45) : Dir := (path_Split.f ⟨(dirL x.f0.toList).toArray⟩).getD []
def fileOk (k : Nat) (x : S45) : Bool :=
 (match path_Dir.f k x.f0 with | some d => decide (path_Split.f d = some (Dsp x)) | none => false) && (path_Base.f k x.f0).isSome && decide (0 ≤ x.f3) && decide (x.f3 ≤ 4611686018427387904)
def filesOk (k : Nat) (l : List S45) : Bool := decide (l.length ≤ 512) && l.all (fileOk k)
theorem fileOk_spec {k : Nat} {x : S45} (h : fileOk k x = true) : FileOk k Dsp x := by
 unfold fileOk at h
 simp only [Bool.and_eq_true, decide_eq_true_eq] at h
 obtain ⟨⟨⟨h1, h2⟩, h3⟩, h4⟩ := h
 cases hd : path_Dir.f k x.f0 with
 | none => rw [hd] at h1; cases h1
 | some d =>
  rw [hd] at h1
  obtain ⟨b, hb⟩ := Option.isSome_iff_exists.1 h2
  exact ⟨⟨d, b, hd, by simpa using h1, hb⟩, h3, h4⟩
theorem fileOk_mono {k : Nat} {x : S45} (h : fileOk k x = true) : fileOk (k + 1) x = true := by
 unfold fileOk at h ⊢
 simp only [Bool.and_eq_true] at h ⊢
 obtain ⟨⟨⟨h1, h2⟩, h3⟩, h4⟩ := h
 refine ⟨⟨⟨?_, ?_⟩, h3⟩, h4⟩
 ·cases hd : path_Dir.f k x.f0 with
  | none => rw [hd] at h1; cases h1
  | some d => rw [path_Dir.mono _ _ _ hd]; rw [hd] at h1; exact h1
 ·obtain ⟨b, hb⟩ := Option.isSome_iff_exists.1 h2
  rw [path_Base.mono _ _ _ hb]; rfl
theorem filesOk_mono {k : Nat} {l : List S45} (h : filesOk k l = true) : filesOk (k + 1) l = true := by
 unfold filesOk at h ⊢
 simp only [Bool.and_eq_true, List.all_eq_true] at h ⊢
 exact ⟨h.1, fun x hx => fileOk_mono (h.2 x hx)⟩
def gh0 (l : List S45) : Gh57 := ⟨0, 0, Dsp, l⟩
def looked.e (k : Nat) (l0 : List S45) (l1 : List ByteArray) : Option Int := (snap_Valid.f k l0).bind fun e => if e = 0 then (if filesOk k l0 = true then cone_Valid.f k l1 else none) else some e
set_option maxHeartbeats 2000000 in
set_option maxRecDepth 100000 in
theorem looked_calls (k : Nat) (A0 : Option Addr) (c0 : Nat) (l0 : List S45) (A1 : Option Addr) (c1 : Nat) (l1 : List ByteArray) (r : Int) (w : World) (hr0 : Kd.C k45 w A0 l0.length l0) (hc0 : l0.length ≤ c0) (hr1 : Kd.C Kd.string w A1 l1.length l1) (hc1 : l1.length ≤ c1) (h : looked.e k l0 l1 = some r) :
  Calls Tryd.prog 24 #[.slice A0 l0.length c0, .slice A1 l1.length c1] w fun e w' => ∃ p, e = .returned (.tuple #[.pointer p, .int .i64 r]) ∧ (r = 0 → ∃ t b, p = some ⟨t, 0, none⟩ ∧ Gh57.Is ⟨t, b, Dsp, l0⟩ w') ∧ Below w.heap.size w w' := by
 unfold looked.e at h
 obtain ⟨e, he, h⟩ := Option.bind_eq_some_iff.mp h
 have HR0 := zA hr0; have HC0 := zA hc0; have HR1 := zA hr1; have HC1 := zA hc1; have HE := zA he; clear hr0 hc0 hr1 hc1 he
 by_cases h0 : e = 0
 rotate_left
 ·rw [if_neg h0] at h
  injection h with h
  subst h
  have hne : (e != 0) = true := bne_iff_ne.mpr h0
  have H0 := zA h0; clear h0
  go_enter Tryd.func24, Tryd.ntmps24
  go_wp2_with (first
   | (go_at_call 43; refine (new_bad k _ _ l0 e _ HR0.out HC0.out HE.out H0.out).mono ?_; rintro e2 w1 ⟨rfl, hb⟩; have HB1 := zA hb; clear hb))
  go_ret2
  exact ⟨_, rfl, fun hh => absurd hh H0.out, HB1.out⟩
 subst h0; rw [if_pos rfl] at h
 split at h
 ·rename_i hf
  have HV := zA h
  unfold filesOk at hf
  simp only [Bool.and_eq_true, decide_eq_true_eq, List.all_eq_true] at hf
  have HF := zA hf; clear h hf
  go_enter Tryd.func24, Tryd.ntmps24
  go_wp2_with (first
   | (go_at_call 43; refine (new_good k _ _ l0 Dsp _ HR0.out HC0.out HE.out HF.out.1 (fun x hx => fileOk_spec (HF.out.2 x hx))).mono ?_; rintro e w1 ⟨t, rfl, hT, hb⟩; have HB1 := zA hb; have HT := zA hT; clear hb hT)
   | (go_at_call 18; refine (cone_Valid.calls k _ _ l1 r _ (Kd.C_below HR1.out HB1.out) HC1.out HV.out).mono ?_; rintro e w2 ⟨rfl, hb⟩; have HB2 := zA hb; clear hb))
  go_ret2
  refine ⟨_, rfl, fun _ => ⟨t, w.heap.size, rfl, ?_⟩, HB1.out.trans (HB2.out.mono HB1.out.size)⟩
  obtain ⟨root, all, N, hT, hd⟩ := HT.out
  exact ⟨⟨root, all, N, hT.below HB2.out, hd⟩, HF.out.1, fun x hx => (fileOk_spec (HF.out.2 x hx)).2⟩
 ·cases h
theorem merge_cost.gh (D : S45 → Dir) (l : List S45) (t b : Nat) : ∀ k,
  (∀ y1 y2 y3 y4 y5 y6, merge_cost.l0 k ⟨t, b, D, l⟩ y1 y2 y3 y4 y5 y6 = merge_cost.l0 k ⟨0, 0, D, l⟩ y1 y2 y3 y4 y5 y6) ∧ (∀ y1 y2 y3 y4 y5 y6 y7, merge_cost.l1 k ⟨t, b, D, l⟩ y1 y2 y3 y4 y5 y6 y7 = merge_cost.l1 k ⟨0, 0, D, l⟩ y1 y2 y3 y4 y5 y6 y7) ∧
  (∀ y1 y2, merge_cost.j2 k ⟨t, b, D, l⟩ y1 y2 = merge_cost.j2 k ⟨0, 0, D, l⟩ y1 y2) ∧ (∀ y1 y2 y3 y4, merge_cost.l2 k ⟨t, b, D, l⟩ y1 y2 y3 y4 = merge_cost.l2 k ⟨0, 0, D, l⟩ y1 y2 y3 y4) := by
 have hs : ∀ p, trie_Trie_Size.f ⟨t, b, D, l⟩ p = trie_Trie_Size.f ⟨0, 0, D, l⟩ p := fun _ => rfl
 have ho : ∀ p, trie_Trie_Own.f ⟨t, b, D, l⟩ p = trie_Trie_Own.f ⟨0, 0, D, l⟩ p := fun _ => rfl
 intro k
 induction k with
 | zero => exact ⟨fun _ _ _ _ _ _ => by simp [merge_cost.l0], fun _ _ _ _ _ _ _ => by simp [merge_cost.l1], fun _ _ => by simp [merge_cost.j2], fun _ _ _ _ => by simp [merge_cost.l2]⟩
 | succ k ih =>
  obtain ⟨i0, i1, i2, i3⟩ := ih
  refine ⟨fun _ _ _ _ _ _ => ?_, fun _ _ _ _ _ _ _ => ?_, fun _ _ => ?_, fun _ _ _ _ => ?_⟩
  ·simp only [merge_cost.l0, i0, i1, i2, i3, hs, ho]
  ·simp only [merge_cost.l1, i0, i1, i2, i3, hs, ho]
  ·simp only [merge_cost.j2, i0, i1, i2, i3, hs, ho]
  ·simp only [merge_cost.l2, i0, i1, i2, i3, hs, ho]
theorem merge_cost.at_gh0 (k t b : Nat) (l0 : List S45) (l1 : List ByteArray) : merge_cost.f k ⟨t, b, Dsp, l0⟩ l1 = merge_cost.f k (gh0 l0) l1 := (merge_cost.gh Dsp l0 t b k).1 _ _ _ _ _ _
def merge_Cost.f (k : Nat) (l0 : List S45) (l1 : List ByteArray) : Option (Int × Int) :=
 (looked.e k l0 l1).bind fun e => if e = 0 then (merge_cost.f k (gh0 l0) l1).bind fun c => some (c, 0) else some (0, e)
set_option maxHeartbeats 2000000 in
set_option maxRecDepth 100000 in
theorem merge_Cost.calls (k : Nat) (A0 : Option Addr) (c0 : Nat) (l0 : List S45) (A1 : Option Addr) (c1 : Nat) (l1 : List ByteArray) (r1 r2 : Int) (w : World) (hr0 : Kd.C k45 w A0 l0.length l0) (hc0 : l0.length ≤ c0) (hr1 : Kd.C Kd.string w A1 l1.length l1) (hc1 : l1.length ≤ c1) (h : merge_Cost.f k l0 l1 = some (r1, r2)) :
  Calls Tryd.prog 8 #[.slice A0 l0.length c0, .slice A1 l1.length c1] w fun e w' => e = .returned (.tuple #[.int .i64 r1, .int .i64 r2]) ∧ Below w.heap.size w w' := by
 unfold merge_Cost.f at h
 obtain ⟨e, he, h⟩ := Option.bind_eq_some_iff.mp h
 have HL := zA (looked_calls k A0 c0 l0 A1 c1 l1 e w hr0 hc0 hr1 hc1 he)
 have HR1 := zA hr1; have HC1 := zA hc1; clear hr0 hc0 hr1 hc1 he
 by_cases h0 : e = 0
 rotate_left
 ·rw [if_neg h0] at h
  injection h with h
  injection h with h1 h2
  subst h1 h2
  have hne : (e != 0) = true := bne_iff_ne.mpr h0
  clear h0
  go_enter Tryd.func8, Tryd.ntmps8
  go_wp2_with (first
   | (go_at_call 24; refine HL.out.mono ?_; rintro e w1 ⟨p, rfl, hp, hb⟩; have HB1 := zA hb; clear hb hp))
  go_ret2
  exact ⟨rfl, HB1.out⟩
 subst h0; rw [if_pos rfl] at h
 obtain ⟨c, hc, h⟩ := Option.bind_eq_some_iff.mp h
 injection h with h
 injection h with h1 h2
 subst h1 h2; have HC := zA hc; clear hc
 go_enter Tryd.func8, Tryd.ntmps8
 go_wp2_with (first
  | (go_at_call 24; refine HL.out.mono ?_; rintro e w1 ⟨p, rfl, hp, hb⟩; obtain ⟨t, b, rfl, hT⟩ := hp rfl; have HB1 := zA hb; have HT := zA hT; clear hb hT hp)
  | (go_at_call 25; refine (merge_cost.calls k ⟨t, b, Dsp, l0⟩ _ _ l1 c _ HT.out (Kd.C_below HR1.out HB1.out) HC1.out ((merge_cost.at_gh0 k t b l0 l1).trans HC.out)).mono ?_; rintro e w2 ⟨rfl, hb⟩; have HB2 := zA hb; clear hb))
 go_ret2
 exact ⟨rfl, HB1.out.trans (HB2.out.mono HB1.out.size)⟩
end Go.Proofs.YtnfolcefjkannaaDoor.G
namespace Go.Proofs.YtnfolcefjkannaaDoor.G
open Go.RowKit Go.Proofs.YtnfolcefjkannaaDoorW.PrintWords Go.Proofs.YtnfolcefjkannaaDoorW.PrintLast Go.Proofs.YtnfolcefjkannaaDoorW.PrintMore
attribute [local go_sem] max2_int min2_int max_two min_two max_three min_three max_four min_four
set_option linter.unusedVariables false
set_option linter.unusedSimpArgs false
def slices_Clone_string_string.f (l0 : List ByteArray) : Option (List ByteArray) := if l0.length * 16 ≤ 140737488355328 then some l0 else none
theorem slices_Clone_string_string.calls (A0 : Option Addr) (c0 : Nat) (l0 : List ByteArray) (r : List ByteArray) (w : World) (hr0 : Kd.C Kd.string w A0 l0.length l0) (_hc0 : l0.length ≤ c0) (h : slices_Clone_string_string.f l0 = some r) :
  Calls Tryd.prog 32 #[.slice A0 l0.length c0] w fun e w' => ∃ v0_ : Value, e = .returned (v0_) ∧ Kd.R Kd.string 9 w' w.heap.size (fun _ => True) v0_ r ∧ Below w.heap.size w w' := by
 unfold slices_Clone_string_string.f at h
 split at h
 ·rename_i hb
  injection h with h
  subst h
  exact Go.Proofs.YtnfolcefjkannaaDoor.SumA.clone_calls A0 c0 l0 w hr0 hb
 ·cases h
open Go.Proofs.YtnfolcefjkannaaDoor.TrieM Go.Proofs.YtnfolcefjkannaaDoor.Wl Go.Proofs.YtnfolcefjkannaaDoor.MapLaws
theorem merge_step.gh (t b : Nat) (l0 : List S45) : ∀ k, ∀ y1 y2 y3, merge_step.l0 k ⟨t, b, Dsp, l0⟩ y1 y2 y3 = merge_step.l0 k (gh0 l0) y1 y2 y3 := by
 intro k
 induction k with
 | zero => exact fun _ _ _ => by simp [merge_step.l0]
 | succ k ih => exact fun _ _ _ => by simp only [merge_step.l0, ih, merge_cost.at_gh0]
theorem merge_step.at_gh0 (k t b : Nat) (l0 : List S45) (l1 : List ByteArray) : merge_step.f k ⟨t, b, Dsp, l0⟩ l1 = merge_step.f k (gh0 l0) l1 := merge_step.gh t b l0 k _ _ _
def merge_Step.f (k : Nat) (l0 : List S45) (l1 : List ByteArray) : Option (List ByteArray × Int) :=
 (looked.e k l0 l1).bind fun e => if e = 0 then (if l1.length < 2 then (slices_Clone_string_string.f l1).bind fun c => some (c, 0) else (merge_step.f k (gh0 l0) l1).bind fun c => some (c, 0)) else some ([], e)
set_option maxHeartbeats 2000000 in
set_option maxRecDepth 100000 in
theorem merge_Step.calls (k : Nat) (A0 : Option Addr) (c0 : Nat) (l0 : List S45) (A1 : Option Addr) (c1 : Nat) (l1 : List ByteArray) (r1 : List ByteArray) (r2 : Int) (w : World) (hr0 : Kd.C k45 w A0 l0.length l0) (hc0 : l0.length ≤ c0) (hr1 : Kd.C Kd.string w A1 l1.length l1) (hc1 : l1.length ≤ c1) (h : merge_Step.f k l0 l1 = some (r1, r2)) :
  Calls Tryd.prog 13 #[.slice A0 l0.length c0, .slice A1 l1.length c1] w fun e w' => ∃ v0_ : Value, e = .returned (.tuple #[v0_, .int .i64 r2]) ∧ Kd.R Kd.string 9 w' w.heap.size (fun _ => True) v0_ r1 ∧ Below w.heap.size w w' := by
 unfold merge_Step.f at h
 obtain ⟨e, he, h⟩ := Option.bind_eq_some_iff.mp h
 have HL := zA (looked_calls k A0 c0 l0 A1 c1 l1 e w hr0 hc0 hr1 hc1 he)
 have HR1 := zA hr1; have HC1 := zA hc1; clear hr0 hc0 hr1 hc1 he
 by_cases h0 : e = 0
 rotate_left
 ·rw [if_neg h0] at h
  injection h with h
  injection h with h1 h2
  subst h1 h2
  have hne : (e != 0) = true := bne_iff_ne.mpr h0
  clear h0
  go_enter Tryd.func13, Tryd.ntmps13
  go_wp2_with (first
   | (go_at_call 24; refine HL.out.mono ?_; rintro e w1 ⟨p, rfl, hp, hb⟩; have HB1 := zA hb; clear hb hp))
  go_ret2
  exact ⟨_, rfl, Kd.R_nil _ _ _ _ _, HB1.out⟩
 subst h0; rw [if_pos rfl] at h
 by_cases h2 : l1.length < 2
 ·rw [if_pos h2] at h
  obtain ⟨c, hc, h⟩ := Option.bind_eq_some_iff.mp h
  injection h with h
  injection h with h1 h2'
  subst h1 h2'; have HC := zA hc
  have d1 : decide (l1.length < 2) = true := decide_eq_true h2
  have d2 : decide ((l1.length : Int) < 2) = true := decide_eq_true (by omega)
  clear hc h2
  go_enter Tryd.func13, Tryd.ntmps13
  go_wp2_with (first
   | (go_at_call 24; refine HL.out.mono ?_; rintro e w1 ⟨p, rfl, hp, hb⟩; have HB1 := zA hb; clear hb hp)
   | (go_at_call 32; refine (slices_Clone_string_string.calls _ _ l1 c _ (Kd.C_below HR1.out HB1.out) HC1.out HC.out).mono ?_; rintro e w2 ⟨v2, rfl, hR, hb⟩; have HB2 := zA hb; have HR := zA hR; clear hb hR))
  go_ret2
  exact ⟨_, rfl, Kd.R_lower HR.out HB1.out.size, HB1.out.trans (HB2.out.mono HB1.out.size)⟩
 rw [if_neg h2] at h
 obtain ⟨c, hc, h⟩ := Option.bind_eq_some_iff.mp h
 injection h with h
 injection h with h1 h2'
 subst h1 h2'; have HC := zA hc
 have d1 : decide (l1.length < 2) = false := decide_eq_false h2
 have d2 : decide ((l1.length : Int) < 2) = false := decide_eq_false (by omega)
 clear hc h2
 go_enter Tryd.func13, Tryd.ntmps13
 go_wp2_with (first
  | (go_at_call 24; refine HL.out.mono ?_; rintro e w1 ⟨p, rfl, hp, hb⟩; obtain ⟨t, b, rfl, hT⟩ := hp rfl; have HB1 := zA hb; have HT := zA hT; clear hb hT hp)
  | (go_at_call 33; refine (merge_step.calls k ⟨t, b, Dsp, l0⟩ _ _ l1 c _ HT.out (Kd.C_below HR1.out HB1.out) HC1.out ((merge_step.at_gh0 k t b l0 l1).trans HC.out)).mono ?_; rintro e w2 ⟨v2, rfl, hR, hb⟩; have HB2 := zA hb; have HR := zA hR; clear hb hR))
 go_ret2
 exact ⟨_, rfl, Kd.R_lower HR.out HB1.out.size, HB1.out.trans (HB2.out.mono HB1.out.size)⟩
def merge_Down.go : Nat → List S45 → List ByteArray → Int → Option (List ByteArray)
 | 0, _, _, _ => none
 | k + 1, l0, x, b => if b < (x.length : Int) then (merge_step.f k (gh0 l0) x).bind fun y => merge_Down.go k l0 y b else some x
def merge_Down.f (k : Nat) (l0 : List S45) (l1 : List ByteArray) (a2 : Int) : Option (List ByteArray × Int) :=
 (looked.e k l0 l1).bind fun e => if e = 0 then (if a2 < 1 then some ([], 6) else (slices_Clone_string_string.f l1).bind fun x => (merge_Down.go k l0 x a2).bind fun c => some (c, 0)) else some ([], e)
set_option maxHeartbeats 2000000 in
set_option maxRecDepth 100000 in
theorem merge_Down.calls (k : Nat) (A0 : Option Addr) (c0 : Nat) (l0 : List S45) (A1 : Option Addr) (c1 : Nat) (l1 : List ByteArray) (a2 : Int) (r1 : List ByteArray) (r2 : Int) (w : World) (hr0 : Kd.C k45 w A0 l0.length l0) (hc0 : l0.length ≤ c0) (hr1 : Kd.C Kd.string w A1 l1.length l1) (hc1 : l1.length ≤ c1) (h : merge_Down.f k l0 l1 a2 = some (r1, r2)) :
  Calls Tryd.prog 15 #[.slice A0 l0.length c0, .slice A1 l1.length c1, .int .i64 a2] w fun e w' => ∃ v0_ : Value, e = .returned (.tuple #[v0_, .int .i64 r2]) ∧ Kd.R Kd.string 9 w' w.heap.size (fun _ => True) v0_ r1 ∧ Below w.heap.size w w' := by
 unfold merge_Down.f at h
 obtain ⟨e, he, h⟩ := Option.bind_eq_some_iff.mp h
 have HL := zA (looked_calls k A0 c0 l0 A1 c1 l1 e w hr0 hc0 hr1 hc1 he)
 have HR1 := zA hr1; have HC1 := zA hc1; clear hr0 hc0 hr1 hc1 he
 by_cases h0 : e = 0
 rotate_left
 ·rw [if_neg h0] at h
  injection h with h
  injection h with h1 h2
  subst h1 h2
  have hne : (e != 0) = true := bne_iff_ne.mpr h0
  clear h0
  go_enter Tryd.func15, Tryd.ntmps15
  go_wp2_with (first
   | (go_at_call 24; refine HL.out.mono ?_; rintro e w1 ⟨p, rfl, hp, hb⟩; have HB1 := zA hb; clear hb hp))
  go_ret2
  exact ⟨_, rfl, Kd.R_nil _ _ _ _ _, HB1.out⟩
 subst h0; rw [if_pos rfl] at h
 by_cases h2 : a2 < 1
 ·rw [if_pos h2] at h
  injection h with h
  injection h with h1 h2'
  subst h1 h2'
  have d1 : decide (a2 < 1) = true := decide_eq_true h2
  clear h2
  go_enter Tryd.func15, Tryd.ntmps15
  go_wp2_with (first
   | (go_at_call 24; refine HL.out.mono ?_; rintro e w1 ⟨p, rfl, hp, hb⟩; have HB1 := zA hb; clear hb hp))
  go_ret2
  exact ⟨_, rfl, Kd.R_nil _ _ _ _ _, HB1.out⟩
 rw [if_neg h2] at h
 obtain ⟨x, hx, h⟩ := Option.bind_eq_some_iff.mp h
 obtain ⟨c, hc, h⟩ := Option.bind_eq_some_iff.mp h
 injection h with h
 injection h with h1 h2'
 subst h1 h2'; have HX := zA hx; have HC := zA hc
 have d1 : decide (a2 < 1) = false := decide_eq_false h2
 clear hc h2 hx
 go_enter Tryd.func15, Tryd.ntmps15
 go_wp2_with (first
  | (go_at_call 24; refine HL.out.mono ?_; rintro e w1 ⟨p, rfl, hp, hb⟩; obtain ⟨t, b, rfl, hT⟩ := hp rfl; have HB1 := zA hb; have HT := zA hT; clear hb hT hp)
  | (go_at_call 32; refine (slices_Clone_string_string.calls _ _ l1 x _ (Kd.C_below HR1.out HB1.out) HC1.out HX.out).mono ?_; rintro e w2 ⟨v2, rfl, hR, hb⟩; have HB2 := zA (HB1.out.trans (hb.mono HB1.out.size)); have HR := zA (Kd.R_lower hR HB1.out.size); have HT2 := zA (HT.out.below hb); clear hb hR HT HX))
 go_loopg [10] k (fun kq v10 wr => ∃ y : List ByteArray, Aside0 (merge_Down.go kq l0 y a2 = some c) ∧ Aside0 (kq ≤ k) ∧ Aside0 (Kd.R Kd.string 9 wr w.heap.size (fun _ => True) v10 y) ∧ Aside0 (Gh57.Is ⟨t, b, Dsp, l0⟩ wr) ∧ Aside0 (Below w.heap.size w wr))
 case atStart => exact ⟨x, HC, ⟨Nat.le_refl _⟩, HR, HT2, HB2⟩
 case round =>
  clear HC HR HT2 HB2; obtain ⟨y, HA, HK1, HR, HT, HB⟩ := hrel
  cases gk with
  | zero => exact absurd HA.out (by simp [merge_Down.go])
  | succ k1 =>
   have H := HA.out
   clear HA
   simp only [merge_Down.go] at H
   obtain ⟨A2, c2, rfl⟩ := Kd.R_slice HR.out
   by_cases hc : a2 < (y.length : Int)
   rotate_left
   ·rw [if_neg hc] at H
    injection H with H
    subst H
    have d2 : decide (a2 < (y.length : Int)) = false := decide_eq_false hc
    clear hc; go_wp2; go_ret2
    exact ⟨_, rfl, HR.out, HB.out⟩
   rw [if_pos hc] at H
   obtain ⟨z, hz, H⟩ := Option.bind_eq_some_iff.mp H
   have HZ := zA (hz)
   have H' := zA H
   have d2 : decide (a2 < (y.length : Int)) = true := decide_eq_true hc
   clear hz H hc
   go_wp2_with (first
    | (go_at_call 33; refine (merge_step.calls k1 ⟨t, b, Dsp, l0⟩ _ _ y z _ HT.out (Kd.R_reads' HR.out).2.2 (Kd.R_reads' HR.out).2.1 ((merge_step.at_gh0 k1 t b l0 y).trans HZ.out)).mono ?_; rintro e w3 ⟨v3, rfl, hR, hb⟩; have HB3 := zA (HB.out.trans (hb.mono HB.out.size)); have HR3 := zA (Kd.R_lower hR HB.out.size); have HT3 := zA (HT.out.below hb); clear hb hR))
   go_roundg k1
   case measure => have := HK1.out; omega
   case rel => exact ⟨z, H', ⟨by have := HK1.out; omega⟩, HR3, HT3, HB3⟩
end Go.Proofs.YtnfolcefjkannaaDoor.G
namespace Go.Proofs.YtnfolcefjkannaaDoor.G
open Go.RowKit Go.Proofs.YtnfolcefjkannaaDoorW.PrintWords Go.Proofs.YtnfolcefjkannaaDoorW.PrintLast Go.Proofs.YtnfolcefjkannaaDoorW.PrintMore
attribute [local go_sem] max2_int min2_int max_two min_two max_three min_three max_four min_four
set_option linter.unusedVariables false
set_option linter.unusedSimpArgs false
def merge_At.f (k : Nat) (l0 : List ByteArray) (a1 : ByteArray) : Option (List ByteArray × Int) := (cone_Valid.f k l0).bind fun t212 => (if t212 = 0 then ((path_Valid.f k a1).bind fun t213 => (if t213 = true then ((merge_at.f k l0 a1).bind fun t214 => (some (t214, 0))) else (some (([] : List ByteArray), 7)))) else (some (([] : List ByteArray), t212)))
set_option maxHeartbeats 8000000 in
set_option maxRecDepth 100000 in
theorem merge_At.calls (k : Nat) (A0 : Option Addr) (c0 : Nat) (l0 : List ByteArray) (a1 : ByteArray) (r1 : List ByteArray) (r2 : Int) (w : World) (hr0 : Kd.C Kd.string w A0 l0.length l0) (hc0 : l0.length ≤ c0) (h : merge_At.f k l0 a1 = some (r1, r2)) :
  Calls Tryd.prog 10 #[.slice A0 l0.length c0, .string a1] w fun e w' => ∃ v0_ : Value, e = .returned (.tuple #[v0_, .int .i64 r2]) ∧ Kd.R Kd.string 9 w' w.heap.size (fun _ => True) v0_ r1 ∧ Below w.heap.size w w' := by
 have HR0 := zA hr0; have HC0 := zA hc0; clear hr0 hc0
 have HB := zA (Below.refl w.heap.size w)
 have H : ((cone_Valid.f k l0).bind fun t212 => (if t212 = 0 then ((path_Valid.f k a1).bind fun t213 => (if t213 = true then ((merge_at.f k l0 a1).bind fun t214 => (some (t214, 0))) else (some (([] : List ByteArray), 7)))) else (some (([] : List ByteArray), t212)))) = some (r1, r2) := h
 clear h; replace H := Option.bind_eq_some_iff.mp H; obtain ⟨t212, A30, H⟩ := H
 replace H : (if t212 = 0 then ((path_Valid.f k a1).bind fun t213 => (if t213 = true then ((merge_at.f k l0 a1).bind fun t214 => (some (t214, 0))) else (some (([] : List ByteArray), 7)))) else (some (([] : List ByteArray), t212))) = some (r1, r2) := H
 have A3 := zA A30; clear A30
 by_cases c4 : t212 = 0
 rotate_left
 ·rw [if_neg c4] at H
  have c4b0 : (t212 == 0) = false := beq_eq_false_iff_ne.mpr c4
  have c4b1 : (t212 != 0) = true := bne_iff_ne.mpr c4
  simp only [Option.some.injEq, Prod.mk.injEq] at H
  obtain ⟨rfl, rfl⟩ := H
  go_enter Tryd.func10, Tryd.ntmps10
  go_wp2_with (first | ((with_reducible refine gate_callee (f := 18) rfl ?_); refine goesL_ (some 8) rfl rfl Tryd.func18 (by kernel_rfl) rfl #[.slice A0 l0.length c0] rfl (by (try simp only [List.map_toArray, List.map_cons, List.map_nil]); first | done | rfl | (simp only [List.length_drop, List.length_take]; rfl)) ?_; (with_reducible refine (cone_Valid.calls k _ _ l0 t212 _ ?side1 ?side2 A3.out).mono ?_); (case side1 => repeat (first | exact HR0.out | (with_reducible refine Kd.C_alloc ?_ _) | (with_reducible refine Kd.C_drewN ?_ _) | (with_reducible refine Kd.C_drew ?_))); (case side2 => exact HC0.out); rintro e w13 ⟨rfl, hb⟩; refine ⟨_, rfl, ?_⟩; have n0_ := zA (below_step (by repeat (first | (with_reducible first | exact HB.out | apply zL | apply zN | apply zD) | exact HB.out)) hb); clear HB; have HB := n0_; clear n0_; (try clear hb); (try clear hb2); (try clear hk); (try clear hi)))
  go_ret2
  exact ⟨_, by first | rfl | (simp [errW_none, errW_some] <;> rfl) | (simp [*, errW_none, errW_some] <;> rfl), by first | exact Kd.R_nil _ _ _ _ _ | exact Kd.N_nil _ _ _ _ _ | exact Kd.V_nil _ _ _ _ _ | exact Kd.Q_nil _ _ _ _ _ | exact Kd.S_nil _ _ _ _ _, by repeat (first | (with_reducible first | exact HB.out | apply zL | apply zN | apply zD) | exact HB.out)⟩
 rw [if_pos c4] at H
 have c4b0 : (t212 == 0) = true := beq_iff_eq.mpr c4
 have c4b1 : (t212 != 0) = false := bne_eq_false_iff_eq.mpr c4
 clear c4; replace H := Option.bind_eq_some_iff.mp H; obtain ⟨t213, A50, H⟩ := H
 replace H : (if t213 = true then ((merge_at.f k l0 a1).bind fun t214 => (some (t214, 0))) else (some (([] : List ByteArray), 7))) = some (r1, r2) := H
 have A5 := zA A50; clear A50
 by_cases c6 : t213 = true
 rotate_left
 ·replace c6 := Bool.eq_false_iff.mpr c6
  subst c6
  have H1 : (some (([] : List ByteArray), 7)) = some (r1, r2) := by rw [if_neg (show ¬ (false = true) by decide)] at H; exact H
  clear H; have H := H1; clear H1
  simp only [Option.some.injEq, Prod.mk.injEq] at H
  obtain ⟨rfl, rfl⟩ := H
  go_enter Tryd.func10, Tryd.ntmps10
  go_wp2_with (first | ((with_reducible refine gate_callee (f := 18) rfl ?_); refine goesL_ (some 8) rfl rfl Tryd.func18 (by kernel_rfl) rfl #[.slice A0 l0.length c0] rfl (by (try simp only [List.map_toArray, List.map_cons, List.map_nil]); first | done | rfl | (simp only [List.length_drop, List.length_take]; rfl)) ?_; (with_reducible refine (cone_Valid.calls k _ _ l0 t212 _ ?side1 ?side2 A3.out).mono ?_); (case side1 => repeat (first | exact HR0.out | (with_reducible refine Kd.C_alloc ?_ _) | (with_reducible refine Kd.C_drewN ?_ _) | (with_reducible refine Kd.C_drew ?_))); (case side2 => exact HC0.out); rintro e w11 ⟨rfl, hb⟩; refine ⟨_, rfl, ?_⟩; have n0_ := zA (below_step (by repeat (first | (with_reducible first | exact HB.out | apply zL | apply zN | apply zD) | exact HB.out)) hb); clear HB; have HB := n0_; clear n0_; (try clear hb); (try clear hb2); (try clear hk); (try clear hi)) | ((with_reducible refine gate_callee (f := 28) rfl ?_); refine goesL_ (some 13) rfl rfl Tryd.func28 (by kernel_rfl) rfl #[.string a1] rfl (by (try simp only [List.map_toArray, List.map_cons, List.map_nil]); first | done | rfl | (simp only [List.length_drop, List.length_take]; rfl)) ?_; (with_reducible refine (path_Valid.calls k a1 false _ A5.out).mono ?_); rintro e w12 ⟨rfl, hb⟩; refine ⟨_, rfl, ?_⟩; have n0_ := zA (below_step (by repeat (first | (with_reducible first | exact HB.out | apply zL | apply zN | apply zD) | exact HB.out)) hb); clear HB; have HB := n0_; clear n0_; (try clear hb); (try clear hb2); (try clear hk); (try clear hi)))
  go_ret2
  exact ⟨_, by first | rfl | (simp [errW_none, errW_some] <;> rfl) | (simp [*, errW_none, errW_some] <;> rfl), by first | exact Kd.R_nil _ _ _ _ _ | exact Kd.N_nil _ _ _ _ _ | exact Kd.V_nil _ _ _ _ _ | exact Kd.Q_nil _ _ _ _ _ | exact Kd.S_nil _ _ _ _ _, by repeat (first | (with_reducible first | exact HB.out | apply zL | apply zN | apply zD) | exact HB.out)⟩
 subst c6
 have H1 : ((merge_at.f k l0 a1).bind fun t214 => (some (t214, 0))) = some (r1, r2) := by rw [if_pos rfl] at H; exact H
 clear H; have H := H1; clear H1; replace H := Option.bind_eq_some_iff.mp H; obtain ⟨t214, A70, H⟩ := H
 replace H : (some (t214, 0)) = some (r1, r2) := H
 have A7 := zA A70; clear A70
 simp only [Option.some.injEq, Prod.mk.injEq] at H
 obtain ⟨rfl, rfl⟩ := H
 go_enter Tryd.func10, Tryd.ntmps10
 go_wp2_with (first | ((with_reducible refine gate_callee (f := 18) rfl ?_); refine goesL_ (some 8) rfl rfl Tryd.func18 (by kernel_rfl) rfl #[.slice A0 l0.length c0] rfl (by (try simp only [List.map_toArray, List.map_cons, List.map_nil]); first | done | rfl | (simp only [List.length_drop, List.length_take]; rfl)) ?_; (with_reducible refine (cone_Valid.calls k _ _ l0 t212 _ ?side1 ?side2 A3.out).mono ?_); (case side1 => repeat (first | exact HR0.out | (with_reducible refine Kd.C_alloc ?_ _) | (with_reducible refine Kd.C_drewN ?_ _) | (with_reducible refine Kd.C_drew ?_))); (case side2 => exact HC0.out); rintro e w8 ⟨rfl, hb⟩; refine ⟨_, rfl, ?_⟩; have n0_ := zA (below_step (by repeat (first | (with_reducible first | exact HB.out | apply zL | apply zN | apply zD) | exact HB.out)) hb); clear HB; have HB := n0_; clear n0_; (try clear hb); (try clear hb2); (try clear hk); (try clear hi)) | ((with_reducible refine gate_callee (f := 28) rfl ?_); refine goesL_ (some 13) rfl rfl Tryd.func28 (by kernel_rfl) rfl #[.string a1] rfl (by (try simp only [List.map_toArray, List.map_cons, List.map_nil]); first | done | rfl | (simp only [List.length_drop, List.length_take]; rfl)) ?_; (with_reducible refine (path_Valid.calls k a1 true _ A5.out).mono ?_); rintro e w9 ⟨rfl, hb⟩; refine ⟨_, rfl, ?_⟩; have n0_ := zA (below_step (by repeat (first | (with_reducible first | exact HB.out | apply zL | apply zN | apply zD) | exact HB.out)) hb); clear HB; have HB := n0_; clear n0_; (try clear hb); (try clear hb2); (try clear hk); (try clear hi)) | ((with_reducible refine gate_callee (f := 29) rfl ?_); refine goesL_ (some 17) rfl rfl Tryd.func29 (by kernel_rfl) rfl #[.slice A0 l0.length c0, .string a1] rfl (by (try simp only [List.map_toArray, List.map_cons, List.map_nil]); first | done | rfl | (simp only [List.length_drop, List.length_take]; rfl)) ?_; (with_reducible refine (merge_at.calls k _ _ l0 a1 t214 _ ?side1 ?side2 A7.out).mono ?_); (case side1 => repeat (first | exact (Kd.C_below HR0.out HB.out) | (with_reducible refine Kd.C_alloc ?_ _) | (with_reducible refine Kd.C_drewN ?_ _) | (with_reducible refine Kd.C_drew ?_))); (case side2 => exact HC0.out); rintro e w10 ⟨v215, rfl, ho0, hb⟩; refine ⟨_, rfl, ?_⟩; have n0_ := zA (Kd.R_lower ho0 (below_size (by repeat (first | (with_reducible first | exact HB.out | apply zL | apply zN | apply zD) | exact HB.out)))); have n1_ := zA (below_step (by repeat (first | (with_reducible first | exact HB.out | apply zL | apply zN | apply zD) | exact HB.out)) hb); clear HB; have HO216 := n0_; have HB := n1_; clear n0_ n1_; (try clear hb); (try clear hb2); (try clear hk); (try clear hi); (try clear ho0)))
 go_ret2
 exact ⟨_, by first | rfl | (simp [errW_none, errW_some] <;> rfl) | (simp [*, errW_none, errW_some] <;> rfl), by (with_reducible repeat (first | apply Kd.R_alloc | apply Kd.R_drewN | apply Kd.R_drew)); exact HO216.out, by repeat (first | (with_reducible first | exact HB.out | apply zL | apply zN | apply zD) | exact HB.out)⟩
def copseref02_Split.l0 : Nat → ByteArray → List ByteArray → Int → Int → Option (List ByteArray)
 | 0, _, _, _, _ => none
 | k + 1, x0, x3, x4, x5 => if x5 ≤ (x0.size : Int) then (if x5 = (x0.size : Int) then (if 0 ≤ x4 then (if x4 ≤ x5 then (if x3.length < 8796093022208 then (copseref02_Split.l0 k x0 (x3 ++ [x0.extract (x4 : Int).toNat (x5 : Int).toNat]) (wrap64 (x5 + 1)) (wrap64 (x5 + 1))) else (none)) else (none)) else (none)) else (if 0 ≤ x5 then (if x5 < (x0.size : Int) then (if (bt x0 x5) = 47 then (if 0 ≤ x4 then (if x4 ≤ x5 then (if x3.length < 8796093022208 then (copseref02_Split.l0 k x0 (x3 ++ [x0.extract (x4 : Int).toNat (x5 : Int).toNat]) (wrap64 (x5 + 1)) (wrap64 (x5 + 1))) else (none)) else (none)) else (none)) else (copseref02_Split.l0 k x0 x3 x4 (wrap64 (x5 + 1)))) else (none)) else (none))) else (some x3)
def copseref02_Split.f (k : Nat) (a0 : ByteArray) : Option (List ByteArray) := if a0.toList = ([] : List UInt8) then (some ([] : List ByteArray)) else (copseref02_Split.l0 k a0 ([] : List ByteArray) 0 0)
set_option maxHeartbeats 8000000 in
set_option maxRecDepth 100000 in
theorem copseref02_Split.calls (k : Nat) (a0 : ByteArray) (r : List ByteArray) (w : World) (h : copseref02_Split.f k a0 = some r) :
  Calls Tryd.prog 40 #[.string a0] w fun e w' => ∃ v0_ : Value, e = .returned (v0_) ∧ Kd.R Kd.string 9 w' w.heap.size (fun _ => True) v0_ r ∧ Below w.heap.size w w' := by
 have HB := zA (Below.refl w.heap.size w)
 have H : (if a0.toList = ([] : List UInt8) then (some ([] : List ByteArray)) else (copseref02_Split.l0 k a0 ([] : List ByteArray) 0 0)) = some r := h
 clear h
 by_cases c2 : a0.toList = ([] : List UInt8)
 ·rw [if_pos c2] at H
  have c2b0 : (a0.toList == ([] : List UInt8)) = true := beq_iff_eq.mpr c2
  have c2b1 : (a0.toList != ([] : List UInt8)) = false := bne_eq_false_iff_eq.mpr c2
  clear c2; obtain rfl := Option.some.inj H
  go_enter Tryd.func40, Tryd.ntmps40
  go_wp2; go_ret
  exact ⟨_, by first | rfl | (simp [errW_none, errW_some] <;> rfl) | (simp [*, errW_none, errW_some] <;> rfl), by first | exact Kd.R_nil _ _ _ _ _ | exact Kd.N_nil _ _ _ _ _ | exact Kd.V_nil _ _ _ _ _ | exact Kd.Q_nil _ _ _ _ _ | exact Kd.S_nil _ _ _ _ _, by repeat (first | (with_reducible first | exact HB.out | apply zL | apply zN | apply zD) | exact HB.out)⟩
 rw [if_neg c2] at H
 have c2b0 : (a0.toList == ([] : List UInt8)) = false := beq_eq_false_iff_ne.mpr c2
 have c2b1 : (a0.toList != ([] : List UInt8)) = true := bne_iff_ne.mpr c2
 have H' := zA H
 clear H
 go_enter Tryd.func40, Tryd.ntmps40
 go_wp2
 go_loopg [3, 4, 5] k (fun kq v3 v4 v5 w' => ∃ (x3_1 : List ByteArray) (x4_1 : Int) (x5_1 : Int), v4 = .int .i64 x4_1 ∧ v5 = .int .i64 x5_1 ∧ Aside0 (copseref02_Split.l0 kq a0 x3_1 x4_1 x5_1 = some r) ∧ Aside0 (kq ≤ k) ∧ Aside0 (Kd.R Kd.string 9 w' w.heap.size (fun _ => True) v3 x3_1) ∧ Aside0 (Below w.heap.size w w'))
 case atStart => exact ⟨(([] : List ByteArray)), (0), (0), (by first | rfl | (simp; done) | (simp [*]; done)), (by first | rfl | (simp; done) | (simp [*]; done)), H', ⟨Nat.le_refl _⟩, ⟨by first | exact Kd.R_nil _ _ _ _ _ | exact Kd.N_nil _ _ _ _ _ | exact Kd.V_nil _ _ _ _ _ | exact Kd.Q_nil _ _ _ _ _ | exact Kd.S_nil _ _ _ _ _⟩, ⟨by repeat (first | (with_reducible first | exact HB.out | apply zL | apply zN | apply zD) | exact HB.out)⟩⟩
 case round =>
  clear H'
  try clear c2
  try clear c2b0
  try clear c2b1
  try clear p2
  obtain ⟨x3_1, x4_1, x5_1, rfl, rfl, HA, HK1, HO_3, HB⟩ := hrel
  cases gk with
  | zero => exact absurd HA.out (by simp [copseref02_Split.l0])
  | succ k1 =>
   have H := HA.out
   clear HA
   simp only [copseref02_Split.l0] at H
   by_cases c3 : x5_1 ≤ (a0.size : Int)
   rotate_left
   ·rw [if_neg c3] at H
    have c3b0 : decide (x5_1 ≤ (a0.size : Int)) = false := decide_eq_false c3
    clear c3; obtain rfl := Option.some.inj H; go_wp2; go_ret
    exact ⟨_, by first | rfl | (simp [errW_none, errW_some] <;> rfl) | (simp [*, errW_none, errW_some] <;> rfl), by (with_reducible repeat (first | apply Kd.R_alloc | apply Kd.R_drewN | apply Kd.R_drew)); exact HO_3.out, by repeat (first | (with_reducible first | exact HB.out | apply zL | apply zN | apply zD) | exact HB.out)⟩
   rw [if_pos c3] at H
   have c3b0 : decide (x5_1 ≤ (a0.size : Int)) = true := decide_eq_true c3
   clear c3
   by_cases c4 : x5_1 = (a0.size : Int)
   ·rw [if_pos c4] at H
    have c4b0 : (x5_1 == (a0.size : Int)) = true := beq_iff_eq.mpr c4
    have c4b1 : (x5_1 != (a0.size : Int)) = false := bne_eq_false_iff_eq.mpr c4
    clear c4
    by_cases c5 : 0 ≤ x4_1
    rotate_left
    ·rw [if_neg c5] at H
     exact absurd H (by simp)
    rw [if_pos c5] at H
    have c5b0 := eq_true c5
    have c5b1 : decide (0 ≤ x4_1) = true := decide_eq_true c5
    clear c5
    by_cases c6 : x4_1 ≤ x5_1
    rotate_left
    ·rw [if_neg c6] at H
     exact absurd H (by simp)
    rw [if_pos c6] at H
    have c6b0 := eq_true c6
    have c6b1 : decide (x4_1 ≤ x5_1) = true := decide_eq_true c6
    clear c6
    have c7b0 := eq_true (zO (by first | (with_reducible assumption) | assumption) : x5_1 ≤ (a0.size : Int))
    by_cases c8 : x3_1.length < 8796093022208
    rotate_left
    ·rw [if_neg c8] at H
     exact absurd H (by simp)
    rw [if_pos c8] at H; have LMc8 := zA c8; clear c8
    obtain ⟨y217, hy217⟩ : ∃ y_ : List ByteArray, y_ = (x3_1 ++ [a0.extract (x4_1 : Int).toNat (x5_1 : Int).toNat]) := ⟨_, rfl⟩
    replace H : (copseref02_Split.l0 k1 a0 y217 (wrap64 (x5_1 + 1)) (wrap64 (x5_1 + 1))) = some r := by first | (rw [hy217]; with_reducible exact H) | (have H2_ := (Option.bind_some _ _).symm.trans H; rw [hy217]; with_reducible exact H2_) | (have H2_ := (Option.bind_some _ _).symm.trans H; with_reducible exact H2_) | with_reducible exact H | (rw [hy217]; exact H) | exact H
    have Ny217 := zA hy217; clear hy217
    have H' := zA H
    clear H
    go_wp2_with (first | ((with_reducible refine gate_builtin (b := .append) (xs := #[.tmp 25, .tmp 30]) rfl ?_); at_builtin; refine Kd.R_append Kd.string (w0 := w) w.heap.size rfl (.tmp 25) (.tmp 30) 23 9 (.string ⟨#[]⟩) 16 rfl Tryd.underlying23 info9 rfl (by decide) (by omega) u3 x3_1 (a0.extract (x4_1 : Int).toNat (x5_1 : Int).toNat) [.string (a0.extract (x4_1 : Int).toNat (x5_1 : Int).toNat)] (fun _ => True) (fun _ => False) rfl rfl ?aP (fun _ hk => hk.elim) ?aF ?aO ?aB ?aS ?aL ?_; (case aP => exact rfl); (case aB => exact (by repeat (first | (with_reducible first | exact HB.out | apply zL | apply zN | apply zD) | exact HB.out))); (case aF => exact (fun _ _ => trivial)); (case aO => exact (by (with_reducible repeat (first | apply Kd.R_alloc | apply Kd.R_drewN | apply Kd.R_drew)); exact HO_3.out)); (case aS => exact (below_size (by repeat (first | (with_reducible first | exact HB.out | apply zL | apply zN | apply zD) | exact HB.out)))); (case aL => have := LMc8.out; omega); intro v218 w9 ho hb hg hat; rw [← Ny217.out] at ho; have n0_ := zA (hb); have n1_ := zA (ho); clear HB; clear HO_3; have HB := n0_; have HO219 := n1_; clear n0_ n1_; clear ho hb hg hat))
    go_roundg k1
    case measure => have := HK1.out; omega
    case rel => exact ⟨(y217), (wrap64 (x5_1 + 1)), (wrap64 (x5_1 + 1)), (by first | rfl | (simp; done) | (simp [*]; done)), (by first | rfl | (simp; done) | (simp [*]; done)), H', ⟨by have := HK1.out; omega⟩, ⟨by (with_reducible repeat (first | apply Kd.R_alloc | apply Kd.R_drewN | apply Kd.R_drew)); exact HO219.out⟩, ⟨by repeat (first | (with_reducible first | exact HB.out | apply zL | apply zN | apply zD) | exact HB.out)⟩⟩
   rw [if_neg c4] at H
   have c4b0 : (x5_1 == (a0.size : Int)) = false := beq_eq_false_iff_ne.mpr c4
   have c4b1 : (x5_1 != (a0.size : Int)) = true := bne_iff_ne.mpr c4
   by_cases c10 : 0 ≤ x5_1
   rotate_left
   ·rw [if_neg c10] at H
    exact absurd H (by simp)
   rw [if_pos c10] at H
   have c10b0 : decide (0 ≤ x5_1) = true := decide_eq_true c10
   clear c10
   by_cases c11 : x5_1 < (a0.size : Int)
   rotate_left
   ·rw [if_neg c11] at H
    exact absurd H (by simp)
   rw [if_pos c11] at H
   have c11b0 : decide (x5_1 < (a0.size : Int)) = true := decide_eq_true c11
   clear c11
   by_cases c13 : (bt a0 x5_1) = 47
   rotate_left
   ·rw [if_neg c13] at H
    have c13b0 : ((bt a0 x5_1) == 47) = false := beq_eq_false_iff_ne.mpr c13
    have c13b1 : ((bt a0 x5_1) != 47) = true := bne_iff_ne.mpr c13
    have H' := zA H
    clear H
    have p12 : 0 ≤ (x5_1 : Int) := zO (by first | (with_reducible assumption) | assumption)
    have q12 : x5_1 < (a0.size : Int) := zO (by first | (with_reducible assumption) | assumption)
    have hx12 := bt_at a0 x5_1
    replace p12 := eq_true p12
    replace q12 := eq_true q12
    go_wp2
    go_roundg k1
    case measure => have := HK1.out; omega
    case rel => exact ⟨(x3_1), (x4_1), (wrap64 (x5_1 + 1)), (by first | rfl | (simp; done) | (simp [*]; done)), (by first | rfl | (simp; done) | (simp [*]; done)), H', ⟨by have := HK1.out; omega⟩, ⟨by (with_reducible repeat (first | apply Kd.R_alloc | apply Kd.R_drewN | apply Kd.R_drew)); exact HO_3.out⟩, ⟨by repeat (first | (with_reducible first | exact HB.out | apply zL | apply zN | apply zD) | exact HB.out)⟩⟩
   rw [if_pos c13] at H
   have c13b0 : ((bt a0 x5_1) == 47) = true := beq_iff_eq.mpr c13
   have c13b1 : ((bt a0 x5_1) != 47) = false := bne_eq_false_iff_eq.mpr c13
   clear c13
   by_cases c14 : 0 ≤ x4_1
   rotate_left
   ·rw [if_neg c14] at H
    exact absurd H (by simp)
   rw [if_pos c14] at H
   have c14b0 := eq_true c14
   have c14b1 : decide (0 ≤ x4_1) = true := decide_eq_true c14
   clear c14
   by_cases c15 : x4_1 ≤ x5_1
   rotate_left
   ·rw [if_neg c15] at H
    exact absurd H (by simp)
   rw [if_pos c15] at H
   have c15b0 := eq_true c15
   have c15b1 : decide (x4_1 ≤ x5_1) = true := decide_eq_true c15
   clear c15
   have c16b0 := eq_true (zO (by first | (with_reducible assumption) | assumption) : x5_1 ≤ (a0.size : Int))
   by_cases c17 : x3_1.length < 8796093022208
   rotate_left
   ·rw [if_neg c17] at H
    exact absurd H (by simp)
   rw [if_pos c17] at H; have LMc17 := zA c17; clear c17
   obtain ⟨y220, hy220⟩ : ∃ y_ : List ByteArray, y_ = (x3_1 ++ [a0.extract (x4_1 : Int).toNat (x5_1 : Int).toNat]) := ⟨_, rfl⟩
   replace H : (copseref02_Split.l0 k1 a0 y220 (wrap64 (x5_1 + 1)) (wrap64 (x5_1 + 1))) = some r := by first | (rw [hy220]; with_reducible exact H) | (have H2_ := (Option.bind_some _ _).symm.trans H; rw [hy220]; with_reducible exact H2_) | (have H2_ := (Option.bind_some _ _).symm.trans H; with_reducible exact H2_) | with_reducible exact H | (rw [hy220]; exact H) | exact H
   have Ny220 := zA hy220; clear hy220
   have H' := zA H
   clear H
   have p12 : 0 ≤ (x5_1 : Int) := zO (by first | (with_reducible assumption) | assumption)
   have q12 : x5_1 < (a0.size : Int) := zO (by first | (with_reducible assumption) | assumption)
   have hx12 := bt_at a0 x5_1
   replace p12 := eq_true p12
   replace q12 := eq_true q12
   go_wp2_with (first | ((with_reducible refine gate_builtin (b := .append) (xs := #[.tmp 25, .tmp 30]) rfl ?_); at_builtin; refine Kd.R_append Kd.string (w0 := w) w.heap.size rfl (.tmp 25) (.tmp 30) 23 9 (.string ⟨#[]⟩) 16 rfl Tryd.underlying23 info9 rfl (by decide) (by omega) u3 x3_1 (a0.extract (x4_1 : Int).toNat (x5_1 : Int).toNat) [.string (a0.extract (x4_1 : Int).toNat (x5_1 : Int).toNat)] (fun _ => True) (fun _ => False) rfl rfl ?aP (fun _ hk => hk.elim) ?aF ?aO ?aB ?aS ?aL ?_; (case aP => exact rfl); (case aB => exact (by repeat (first | (with_reducible first | exact HB.out | apply zL | apply zN | apply zD) | exact HB.out))); (case aF => exact (fun _ _ => trivial)); (case aO => exact (by (with_reducible repeat (first | apply Kd.R_alloc | apply Kd.R_drewN | apply Kd.R_drew)); exact HO_3.out)); (case aS => exact (below_size (by repeat (first | (with_reducible first | exact HB.out | apply zL | apply zN | apply zD) | exact HB.out)))); (case aL => have := LMc17.out; omega); intro v221 w18 ho hb hg hat; rw [← Ny220.out] at ho; have n0_ := zA (hb); have n1_ := zA (ho); clear HB; clear HO_3; have HB := n0_; have HO222 := n1_; clear n0_ n1_; clear ho hb hg hat))
   go_roundg k1
   case measure => have := HK1.out; omega
   case rel => exact ⟨(y220), (wrap64 (x5_1 + 1)), (wrap64 (x5_1 + 1)), (by first | rfl | (simp; done) | (simp [*]; done)), (by first | rfl | (simp; done) | (simp [*]; done)), H', ⟨by have := HK1.out; omega⟩, ⟨by (with_reducible repeat (first | apply Kd.R_alloc | apply Kd.R_drewN | apply Kd.R_drew)); exact HO222.out⟩, ⟨by repeat (first | (with_reducible first | exact HB.out | apply zL | apply zN | apply zD) | exact HB.out)⟩⟩
def copseref02_Byte.f (a0 : Int) : Option (Bool) := if a0 ≥ 97 then (if a0 ≤ 122 then (some true) else (if a0 ≥ 65 then (if a0 ≤ 90 then (some true) else (if a0 ≥ 48 then (if a0 ≤ 57 then (some true) else (if a0 = 46 then (some true) else (if a0 = 95 then (some true) else (some (a0 == 45))))) else (if a0 = 46 then (some true) else (if a0 = 95 then (some true) else (some (a0 == 45)))))) else (if a0 ≥ 48 then (if a0 ≤ 57 then (some true) else (if a0 = 46 then (some true) else (if a0 = 95 then (some true) else (some (a0 == 45))))) else (if a0 = 46 then (some true) else (if a0 = 95 then (some true) else (some (a0 == 45))))))) else (if a0 ≥ 65 then (if a0 ≤ 90 then (some true) else (if a0 ≥ 48 then (if a0 ≤ 57 then (some true) else (if a0 = 46 then (some true) else (if a0 = 95 then (some true) else (some (a0 == 45))))) else (if a0 = 46 then (some true) else (if a0 = 95 then (some true) else (some (a0 == 45)))))) else (if a0 ≥ 48 then (if a0 ≤ 57 then (some true) else (if a0 = 46 then (some true) else (if a0 = 95 then (some true) else (some (a0 == 45))))) else (if a0 = 46 then (some true) else (if a0 = 95 then (some true) else (some (a0 == 45))))))
set_option maxHeartbeats 8000000 in
set_option maxRecDepth 100000 in
theorem copseref02_Byte.calls (a0 : Int) (r : Bool) (w : World) (h : copseref02_Byte.f a0 = some r) :
  Calls Tryd.prog 76 #[.int .u8 a0] w fun e w' => e = .returned (.bool r) ∧ Drawn0 w w' := by
 have H : (if a0 ≥ 97 then (if a0 ≤ 122 then (some true) else (if a0 ≥ 65 then (if a0 ≤ 90 then (some true) else (if a0 ≥ 48 then (if a0 ≤ 57 then (some true) else (if a0 = 46 then (some true) else (if a0 = 95 then (some true) else (some (a0 == 45))))) else (if a0 = 46 then (some true) else (if a0 = 95 then (some true) else (some (a0 == 45)))))) else (if a0 ≥ 48 then (if a0 ≤ 57 then (some true) else (if a0 = 46 then (some true) else (if a0 = 95 then (some true) else (some (a0 == 45))))) else (if a0 = 46 then (some true) else (if a0 = 95 then (some true) else (some (a0 == 45))))))) else (if a0 ≥ 65 then (if a0 ≤ 90 then (some true) else (if a0 ≥ 48 then (if a0 ≤ 57 then (some true) else (if a0 = 46 then (some true) else (if a0 = 95 then (some true) else (some (a0 == 45))))) else (if a0 = 46 then (some true) else (if a0 = 95 then (some true) else (some (a0 == 45)))))) else (if a0 ≥ 48 then (if a0 ≤ 57 then (some true) else (if a0 = 46 then (some true) else (if a0 = 95 then (some true) else (some (a0 == 45))))) else (if a0 = 46 then (some true) else (if a0 = 95 then (some true) else (some (a0 == 45))))))) = some r := h
 clear h
 by_cases c2 : a0 ≥ 97
 rotate_left
 ·rw [if_neg c2] at H
  have c2b0 : decide (97 ≤ a0) = false := decide_eq_false c2
  clear c2
  by_cases c18 : a0 ≥ 65
  rotate_left
  ·rw [if_neg c18] at H
   have c18b0 : decide (65 ≤ a0) = false := decide_eq_false c18
   clear c18
   by_cases c26 : a0 ≥ 48
   rotate_left
   ·rw [if_neg c26] at H
    have c26b0 : decide (48 ≤ a0) = false := decide_eq_false c26
    clear c26
    by_cases c30 : a0 = 46
    ·rw [if_pos c30] at H
     have c30b0 : (a0 == 46) = true := beq_iff_eq.mpr c30
     have c30b1 : (a0 != 46) = false := bne_eq_false_iff_eq.mpr c30
     clear c30; obtain rfl := Option.some.inj H
     go_enter Tryd.func76, Tryd.ntmps76
     go_wp2; go_ret
     exact ⟨by first | rfl | (simp; done) | (simp [*]; done), by repeat (first | exact Drawn0.refl _ | apply Drawn0.step)⟩
    rw [if_neg c30] at H
    have c30b0 : (a0 == 46) = false := beq_eq_false_iff_ne.mpr c30
    have c30b1 : (a0 != 46) = true := bne_iff_ne.mpr c30
    by_cases c31 : a0 = 95
    rotate_left
    ·rw [if_neg c31] at H
     have c31b0 : (a0 == 95) = false := beq_eq_false_iff_ne.mpr c31
     have c31b1 : (a0 != 95) = true := bne_iff_ne.mpr c31
     obtain rfl := Option.some.inj H
     go_enter Tryd.func76, Tryd.ntmps76
     go_wp2; go_ret
     exact ⟨by first | rfl | (simp; done) | (simp [*]; done), by repeat (first | exact Drawn0.refl _ | apply Drawn0.step)⟩
    rw [if_pos c31] at H
    have c31b0 : (a0 == 95) = true := beq_iff_eq.mpr c31
    have c31b1 : (a0 != 95) = false := bne_eq_false_iff_eq.mpr c31
    clear c31; obtain rfl := Option.some.inj H
    go_enter Tryd.func76, Tryd.ntmps76
    go_wp2; go_ret
    exact ⟨by first | rfl | (simp; done) | (simp [*]; done), by repeat (first | exact Drawn0.refl _ | apply Drawn0.step)⟩
   rw [if_pos c26] at H
   have c26b0 : decide (48 ≤ a0) = true := decide_eq_true c26
   clear c26
   by_cases c27 : a0 ≤ 57
   ·rw [if_pos c27] at H
    have c27b0 : decide (a0 ≤ 57) = true := decide_eq_true c27
    clear c27; obtain rfl := Option.some.inj H
    go_enter Tryd.func76, Tryd.ntmps76
    go_wp2; go_ret
    exact ⟨by first | rfl | (simp; done) | (simp [*]; done), by repeat (first | exact Drawn0.refl _ | apply Drawn0.step)⟩
   rw [if_neg c27] at H
   have c27b0 : decide (a0 ≤ 57) = false := decide_eq_false c27
   clear c27
   by_cases c28 : a0 = 46
   ·rw [if_pos c28] at H
    have c28b0 : (a0 == 46) = true := beq_iff_eq.mpr c28
    have c28b1 : (a0 != 46) = false := bne_eq_false_iff_eq.mpr c28
    clear c28; obtain rfl := Option.some.inj H
    go_enter Tryd.func76, Tryd.ntmps76
    go_wp2; go_ret
    exact ⟨by first | rfl | (simp; done) | (simp [*]; done), by repeat (first | exact Drawn0.refl _ | apply Drawn0.step)⟩
   rw [if_neg c28] at H
   have c28b0 : (a0 == 46) = false := beq_eq_false_iff_ne.mpr c28
   have c28b1 : (a0 != 46) = true := bne_iff_ne.mpr c28
   by_cases c29 : a0 = 95
   rotate_left
   ·rw [if_neg c29] at H
    have c29b0 : (a0 == 95) = false := beq_eq_false_iff_ne.mpr c29
    have c29b1 : (a0 != 95) = true := bne_iff_ne.mpr c29
    obtain rfl := Option.some.inj H
    go_enter Tryd.func76, Tryd.ntmps76
    go_wp2; go_ret
    exact ⟨by first | rfl | (simp; done) | (simp [*]; done), by repeat (first | exact Drawn0.refl _ | apply Drawn0.step)⟩
   rw [if_pos c29] at H
   have c29b0 : (a0 == 95) = true := beq_iff_eq.mpr c29
   have c29b1 : (a0 != 95) = false := bne_eq_false_iff_eq.mpr c29
   clear c29; obtain rfl := Option.some.inj H
   go_enter Tryd.func76, Tryd.ntmps76
   go_wp2; go_ret
   exact ⟨by first | rfl | (simp; done) | (simp [*]; done), by repeat (first | exact Drawn0.refl _ | apply Drawn0.step)⟩
  rw [if_pos c18] at H
  have c18b0 : decide (65 ≤ a0) = true := decide_eq_true c18
  clear c18
  by_cases c19 : a0 ≤ 90
  ·rw [if_pos c19] at H
   have c19b0 : decide (a0 ≤ 90) = true := decide_eq_true c19
   clear c19; obtain rfl := Option.some.inj H
   go_enter Tryd.func76, Tryd.ntmps76
   go_wp2; go_ret
   exact ⟨by first | rfl | (simp; done) | (simp [*]; done), by repeat (first | exact Drawn0.refl _ | apply Drawn0.step)⟩
  rw [if_neg c19] at H
  have c19b0 : decide (a0 ≤ 90) = false := decide_eq_false c19
  clear c19
  by_cases c20 : a0 ≥ 48
  rotate_left
  ·rw [if_neg c20] at H
   have c20b0 : decide (48 ≤ a0) = false := decide_eq_false c20
   clear c20
   by_cases c24 : a0 = 46
   ·rw [if_pos c24] at H
    have c24b0 : (a0 == 46) = true := beq_iff_eq.mpr c24
    have c24b1 : (a0 != 46) = false := bne_eq_false_iff_eq.mpr c24
    clear c24; obtain rfl := Option.some.inj H
    go_enter Tryd.func76, Tryd.ntmps76
    go_wp2; go_ret
    exact ⟨by first | rfl | (simp; done) | (simp [*]; done), by repeat (first | exact Drawn0.refl _ | apply Drawn0.step)⟩
   rw [if_neg c24] at H
   have c24b0 : (a0 == 46) = false := beq_eq_false_iff_ne.mpr c24
   have c24b1 : (a0 != 46) = true := bne_iff_ne.mpr c24
   by_cases c25 : a0 = 95
   rotate_left
   ·rw [if_neg c25] at H
    have c25b0 : (a0 == 95) = false := beq_eq_false_iff_ne.mpr c25
    have c25b1 : (a0 != 95) = true := bne_iff_ne.mpr c25
    obtain rfl := Option.some.inj H
    go_enter Tryd.func76, Tryd.ntmps76
    go_wp2; go_ret
    exact ⟨by first | rfl | (simp; done) | (simp [*]; done), by repeat (first | exact Drawn0.refl _ | apply Drawn0.step)⟩
   rw [if_pos c25] at H
   have c25b0 : (a0 == 95) = true := beq_iff_eq.mpr c25
   have c25b1 : (a0 != 95) = false := bne_eq_false_iff_eq.mpr c25
   clear c25; obtain rfl := Option.some.inj H
   go_enter Tryd.func76, Tryd.ntmps76
   go_wp2; go_ret
   exact ⟨by first | rfl | (simp; done) | (simp [*]; done), by repeat (first | exact Drawn0.refl _ | apply Drawn0.step)⟩
  rw [if_pos c20] at H
  have c20b0 : decide (48 ≤ a0) = true := decide_eq_true c20
  clear c20
  by_cases c21 : a0 ≤ 57
  ·rw [if_pos c21] at H
   have c21b0 : decide (a0 ≤ 57) = true := decide_eq_true c21
   clear c21; obtain rfl := Option.some.inj H
   go_enter Tryd.func76, Tryd.ntmps76
   go_wp2; go_ret
   exact ⟨by first | rfl | (simp; done) | (simp [*]; done), by repeat (first | exact Drawn0.refl _ | apply Drawn0.step)⟩
  rw [if_neg c21] at H
  have c21b0 : decide (a0 ≤ 57) = false := decide_eq_false c21
  clear c21
  by_cases c22 : a0 = 46
  ·rw [if_pos c22] at H
   have c22b0 : (a0 == 46) = true := beq_iff_eq.mpr c22
   have c22b1 : (a0 != 46) = false := bne_eq_false_iff_eq.mpr c22
   clear c22; obtain rfl := Option.some.inj H
   go_enter Tryd.func76, Tryd.ntmps76
   go_wp2; go_ret
   exact ⟨by first | rfl | (simp; done) | (simp [*]; done), by repeat (first | exact Drawn0.refl _ | apply Drawn0.step)⟩
  rw [if_neg c22] at H
  have c22b0 : (a0 == 46) = false := beq_eq_false_iff_ne.mpr c22
  have c22b1 : (a0 != 46) = true := bne_iff_ne.mpr c22
  by_cases c23 : a0 = 95
  rotate_left
  ·rw [if_neg c23] at H
   have c23b0 : (a0 == 95) = false := beq_eq_false_iff_ne.mpr c23
   have c23b1 : (a0 != 95) = true := bne_iff_ne.mpr c23
   obtain rfl := Option.some.inj H
   go_enter Tryd.func76, Tryd.ntmps76
   go_wp2; go_ret
   exact ⟨by first | rfl | (simp; done) | (simp [*]; done), by repeat (first | exact Drawn0.refl _ | apply Drawn0.step)⟩
  rw [if_pos c23] at H
  have c23b0 : (a0 == 95) = true := beq_iff_eq.mpr c23
  have c23b1 : (a0 != 95) = false := bne_eq_false_iff_eq.mpr c23
  clear c23; obtain rfl := Option.some.inj H
  go_enter Tryd.func76, Tryd.ntmps76
  go_wp2; go_ret
  exact ⟨by first | rfl | (simp; done) | (simp [*]; done), by repeat (first | exact Drawn0.refl _ | apply Drawn0.step)⟩
 rw [if_pos c2] at H
 have c2b0 : decide (97 ≤ a0) = true := decide_eq_true c2
 clear c2
 by_cases c3 : a0 ≤ 122
 ·rw [if_pos c3] at H
  have c3b0 : decide (a0 ≤ 122) = true := decide_eq_true c3
  clear c3; obtain rfl := Option.some.inj H
  go_enter Tryd.func76, Tryd.ntmps76
  go_wp2; go_ret
  exact ⟨by first | rfl | (simp; done) | (simp [*]; done), by repeat (first | exact Drawn0.refl _ | apply Drawn0.step)⟩
 rw [if_neg c3] at H
 have c3b0 : decide (a0 ≤ 122) = false := decide_eq_false c3
 clear c3
 by_cases c4 : a0 ≥ 65
 rotate_left
 ·rw [if_neg c4] at H
  have c4b0 : decide (65 ≤ a0) = false := decide_eq_false c4
  clear c4
  by_cases c12 : a0 ≥ 48
  rotate_left
  ·rw [if_neg c12] at H
   have c12b0 : decide (48 ≤ a0) = false := decide_eq_false c12
   clear c12
   by_cases c16 : a0 = 46
   ·rw [if_pos c16] at H
    have c16b0 : (a0 == 46) = true := beq_iff_eq.mpr c16
    have c16b1 : (a0 != 46) = false := bne_eq_false_iff_eq.mpr c16
    clear c16; obtain rfl := Option.some.inj H
    go_enter Tryd.func76, Tryd.ntmps76
    go_wp2; go_ret
    exact ⟨by first | rfl | (simp; done) | (simp [*]; done), by repeat (first | exact Drawn0.refl _ | apply Drawn0.step)⟩
   rw [if_neg c16] at H
   have c16b0 : (a0 == 46) = false := beq_eq_false_iff_ne.mpr c16
   have c16b1 : (a0 != 46) = true := bne_iff_ne.mpr c16
   by_cases c17 : a0 = 95
   rotate_left
   ·rw [if_neg c17] at H
    have c17b0 : (a0 == 95) = false := beq_eq_false_iff_ne.mpr c17
    have c17b1 : (a0 != 95) = true := bne_iff_ne.mpr c17
    obtain rfl := Option.some.inj H
    go_enter Tryd.func76, Tryd.ntmps76
    go_wp2; go_ret
    exact ⟨by first | rfl | (simp; done) | (simp [*]; done), by repeat (first | exact Drawn0.refl _ | apply Drawn0.step)⟩
   rw [if_pos c17] at H
   have c17b0 : (a0 == 95) = true := beq_iff_eq.mpr c17
   have c17b1 : (a0 != 95) = false := bne_eq_false_iff_eq.mpr c17
   clear c17; obtain rfl := Option.some.inj H
   go_enter Tryd.func76, Tryd.ntmps76
   go_wp2; go_ret
   exact ⟨by first | rfl | (simp; done) | (simp [*]; done), by repeat (first | exact Drawn0.refl _ | apply Drawn0.step)⟩
  rw [if_pos c12] at H
  have c12b0 : decide (48 ≤ a0) = true := decide_eq_true c12
  clear c12
  by_cases c13 : a0 ≤ 57
  ·rw [if_pos c13] at H
   have c13b0 : decide (a0 ≤ 57) = true := decide_eq_true c13
   clear c13; obtain rfl := Option.some.inj H
   go_enter Tryd.func76, Tryd.ntmps76
   go_wp2; go_ret
   exact ⟨by first | rfl | (simp; done) | (simp [*]; done), by repeat (first | exact Drawn0.refl _ | apply Drawn0.step)⟩
  rw [if_neg c13] at H
  have c13b0 : decide (a0 ≤ 57) = false := decide_eq_false c13
  clear c13
  by_cases c14 : a0 = 46
  ·rw [if_pos c14] at H
   have c14b0 : (a0 == 46) = true := beq_iff_eq.mpr c14
   have c14b1 : (a0 != 46) = false := bne_eq_false_iff_eq.mpr c14
   clear c14; obtain rfl := Option.some.inj H
   go_enter Tryd.func76, Tryd.ntmps76
   go_wp2; go_ret
   exact ⟨by first | rfl | (simp; done) | (simp [*]; done), by repeat (first | exact Drawn0.refl _ | apply Drawn0.step)⟩
  rw [if_neg c14] at H
  have c14b0 : (a0 == 46) = false := beq_eq_false_iff_ne.mpr c14
  have c14b1 : (a0 != 46) = true := bne_iff_ne.mpr c14
  by_cases c15 : a0 = 95
  rotate_left
  ·rw [if_neg c15] at H
   have c15b0 : (a0 == 95) = false := beq_eq_false_iff_ne.mpr c15
   have c15b1 : (a0 != 95) = true := bne_iff_ne.mpr c15
   obtain rfl := Option.some.inj H
   go_enter Tryd.func76, Tryd.ntmps76
   go_wp2; go_ret
   exact ⟨by first | rfl | (simp; done) | (simp [*]; done), by repeat (first | exact Drawn0.refl _ | apply Drawn0.step)⟩
  rw [if_pos c15] at H
  have c15b0 : (a0 == 95) = true := beq_iff_eq.mpr c15
  have c15b1 : (a0 != 95) = false := bne_eq_false_iff_eq.mpr c15
  clear c15; obtain rfl := Option.some.inj H
  go_enter Tryd.func76, Tryd.ntmps76
  go_wp2; go_ret
  exact ⟨by first | rfl | (simp; done) | (simp [*]; done), by repeat (first | exact Drawn0.refl _ | apply Drawn0.step)⟩
 rw [if_pos c4] at H
 have c4b0 : decide (65 ≤ a0) = true := decide_eq_true c4
 clear c4
 by_cases c5 : a0 ≤ 90
 ·rw [if_pos c5] at H
  have c5b0 : decide (a0 ≤ 90) = true := decide_eq_true c5
  clear c5; obtain rfl := Option.some.inj H
  go_enter Tryd.func76, Tryd.ntmps76
  go_wp2; go_ret
  exact ⟨by first | rfl | (simp; done) | (simp [*]; done), by repeat (first | exact Drawn0.refl _ | apply Drawn0.step)⟩
 rw [if_neg c5] at H
 have c5b0 : decide (a0 ≤ 90) = false := decide_eq_false c5
 clear c5
 by_cases c6 : a0 ≥ 48
 rotate_left
 ·rw [if_neg c6] at H
  have c6b0 : decide (48 ≤ a0) = false := decide_eq_false c6
  clear c6
  by_cases c10 : a0 = 46
  ·rw [if_pos c10] at H
   have c10b0 : (a0 == 46) = true := beq_iff_eq.mpr c10
   have c10b1 : (a0 != 46) = false := bne_eq_false_iff_eq.mpr c10
   clear c10; obtain rfl := Option.some.inj H
   go_enter Tryd.func76, Tryd.ntmps76
   go_wp2; go_ret
   exact ⟨by first | rfl | (simp; done) | (simp [*]; done), by repeat (first | exact Drawn0.refl _ | apply Drawn0.step)⟩
  rw [if_neg c10] at H
  have c10b0 : (a0 == 46) = false := beq_eq_false_iff_ne.mpr c10
  have c10b1 : (a0 != 46) = true := bne_iff_ne.mpr c10
  by_cases c11 : a0 = 95
  rotate_left
  ·rw [if_neg c11] at H
   have c11b0 : (a0 == 95) = false := beq_eq_false_iff_ne.mpr c11
   have c11b1 : (a0 != 95) = true := bne_iff_ne.mpr c11
   obtain rfl := Option.some.inj H
   go_enter Tryd.func76, Tryd.ntmps76
   go_wp2; go_ret
   exact ⟨by first | rfl | (simp; done) | (simp [*]; done), by repeat (first | exact Drawn0.refl _ | apply Drawn0.step)⟩
  rw [if_pos c11] at H
  have c11b0 : (a0 == 95) = true := beq_iff_eq.mpr c11
  have c11b1 : (a0 != 95) = false := bne_eq_false_iff_eq.mpr c11
  clear c11; obtain rfl := Option.some.inj H
  go_enter Tryd.func76, Tryd.ntmps76
  go_wp2; go_ret
  exact ⟨by first | rfl | (simp; done) | (simp [*]; done), by repeat (first | exact Drawn0.refl _ | apply Drawn0.step)⟩
 rw [if_pos c6] at H
 have c6b0 : decide (48 ≤ a0) = true := decide_eq_true c6
 clear c6
 by_cases c7 : a0 ≤ 57
 ·rw [if_pos c7] at H
  have c7b0 : decide (a0 ≤ 57) = true := decide_eq_true c7
  clear c7; obtain rfl := Option.some.inj H
  go_enter Tryd.func76, Tryd.ntmps76
  go_wp2; go_ret
  exact ⟨by first | rfl | (simp; done) | (simp [*]; done), by repeat (first | exact Drawn0.refl _ | apply Drawn0.step)⟩
 rw [if_neg c7] at H
 have c7b0 : decide (a0 ≤ 57) = false := decide_eq_false c7
 clear c7
 by_cases c8 : a0 = 46
 ·rw [if_pos c8] at H
  have c8b0 : (a0 == 46) = true := beq_iff_eq.mpr c8
  have c8b1 : (a0 != 46) = false := bne_eq_false_iff_eq.mpr c8
  clear c8; obtain rfl := Option.some.inj H
  go_enter Tryd.func76, Tryd.ntmps76
  go_wp2; go_ret
  exact ⟨by first | rfl | (simp; done) | (simp [*]; done), by repeat (first | exact Drawn0.refl _ | apply Drawn0.step)⟩
 rw [if_neg c8] at H
 have c8b0 : (a0 == 46) = false := beq_eq_false_iff_ne.mpr c8
 have c8b1 : (a0 != 46) = true := bne_iff_ne.mpr c8
 by_cases c9 : a0 = 95
 rotate_left
 ·rw [if_neg c9] at H
  have c9b0 : (a0 == 95) = false := beq_eq_false_iff_ne.mpr c9
  have c9b1 : (a0 != 95) = true := bne_iff_ne.mpr c9
  obtain rfl := Option.some.inj H
  go_enter Tryd.func76, Tryd.ntmps76
  go_wp2; go_ret
  exact ⟨by first | rfl | (simp; done) | (simp [*]; done), by repeat (first | exact Drawn0.refl _ | apply Drawn0.step)⟩
 rw [if_pos c9] at H
 have c9b0 : (a0 == 95) = true := beq_iff_eq.mpr c9
 have c9b1 : (a0 != 95) = false := bne_eq_false_iff_eq.mpr c9
 clear c9; obtain rfl := Option.some.inj H
 go_enter Tryd.func76, Tryd.ntmps76
 go_wp2; go_ret
 exact ⟨by first | rfl | (simp; done) | (simp [*]; done), by repeat (first | exact Drawn0.refl _ | apply Drawn0.step)⟩
mutual
def copseref02_Component.j0 : Nat → ByteArray → Bool → Option (Bool)
 | 0, _, _ => none
 | k + 1, x0, x23 => if x23 = true then (some false) else (copseref02_Component.l0 k x0 0)
def copseref02_Component.l0 : Nat → ByteArray → Int → Option (Bool)
 | 0, _, _ => none
 | k + 1, x0, x3 => if x3 < (x0.size : Int) then (if 0 ≤ x3 then ((copseref02_Byte.f (bt x0 x3)).bind fun t223 => (if t223 = true then (copseref02_Component.l0 k x0 (wrap64 (x3 + 1))) else (some false))) else (none)) else (some true)
end
def copseref02_Component.f (k : Nat) (a0 : ByteArray) : Option (Bool) := if (a0.size : Int) < 1 then (copseref02_Component.j0 k a0 true) else (if (a0.size : Int) > 32 then (copseref02_Component.j0 k a0 true) else (if a0.toList = ([46] : List UInt8) then (copseref02_Component.j0 k a0 true) else (if a0.toList = ([46, 46] : List UInt8) then (copseref02_Component.j0 k a0 true) else (copseref02_Component.j0 k a0 (a0.toList == ([46, 46, 46] : List UInt8))))))
set_option maxHeartbeats 8000000 in
set_option maxRecDepth 100000 in
theorem copseref02_Component.calls (k : Nat) (a0 : ByteArray) (r : Bool) (w : World) (h : copseref02_Component.f k a0 = some r) :
  Calls Tryd.prog 54 #[.string a0] w fun e w' => e = .returned (.bool r) ∧ Drawn0 w w' := by
 have H : (if (a0.size : Int) < 1 then (copseref02_Component.j0 k a0 true) else (if (a0.size : Int) > 32 then (copseref02_Component.j0 k a0 true) else (if a0.toList = ([46] : List UInt8) then (copseref02_Component.j0 k a0 true) else (if a0.toList = ([46, 46] : List UInt8) then (copseref02_Component.j0 k a0 true) else (copseref02_Component.j0 k a0 (a0.toList == ([46, 46, 46] : List UInt8))))))) = some r := h
 clear h; have HC2 := zA H; clear H
 go_enter Tryd.func54, Tryd.ntmps54
 go_upto_region 1 with (fail)
 go_cut [23] (fun v23 wc => ∃ (kq : Nat) (x23_1 : Bool), v23 = .bool x23_1 ∧ Aside0 (copseref02_Component.j0 kq a0 x23_1 = some r) ∧ Aside0 (kq ≤ k) ∧ Drawn0 w wc)
 case first =>
  have H := HC2.out
  clear HC2
  by_cases c3 : (a0.size : Int) < 1
  ·rw [if_pos c3] at H
   have c3b0 : decide ((a0.size : Int) < 1) = true := decide_eq_true c3
   have c3b1 : decide (a0.size < 1) = true := decide_eq_true (by omega)
   clear c3
   (first | rw [c3b0] | (simp only [i64_w, i32_w]; rw [c3b0]) | skip)
   have H' := zA H
   clear H; go_wp2
   go_meet
   case rel => exact ⟨_, (true), (by first | rfl | (simp; done) | (simp [*]; done)), H', ⟨by first | omega | exact Nat.le_refl _⟩, by repeat (first | exact Drawn0.refl _ | apply Drawn0.step)⟩
  rw [if_neg c3] at H
  have c3b0 : decide ((a0.size : Int) < 1) = false := decide_eq_false c3
  have c3b1 : decide (a0.size < 1) = false := decide_eq_false (by omega)
  clear c3
  (first | rw [c3b0] | (simp only [i64_w, i32_w]; rw [c3b0]) | skip)
  by_cases c4 : (a0.size : Int) > 32
  ·rw [if_pos c4] at H
   have c4b0 : decide (32 < (a0.size : Int)) = true := decide_eq_true c4
   have c4b1 : decide (32 < a0.size) = true := decide_eq_true (by omega)
   clear c4
   have H' := zA H
   clear H; go_wp2
   go_meet
   case rel => exact ⟨_, (true), (by first | rfl | (simp; done) | (simp [*]; done)), H', ⟨by first | omega | exact Nat.le_refl _⟩, by repeat (first | exact Drawn0.refl _ | apply Drawn0.step)⟩
  rw [if_neg c4] at H
  have c4b0 : decide (32 < (a0.size : Int)) = false := decide_eq_false c4
  have c4b1 : decide (32 < a0.size) = false := decide_eq_false (by omega)
  clear c4
  by_cases c5 : a0.toList = ([46] : List UInt8)
  ·rw [if_pos c5] at H
   have c5b0 : (a0.toList == ([46] : List UInt8)) = true := beq_iff_eq.mpr c5
   have c5b1 : (a0.toList != ([46] : List UInt8)) = false := bne_eq_false_iff_eq.mpr c5
   clear c5
   have H' := zA H
   clear H; go_wp2
   go_meet
   case rel => exact ⟨_, (true), (by first | rfl | (simp; done) | (simp [*]; done)), H', ⟨by first | omega | exact Nat.le_refl _⟩, by repeat (first | exact Drawn0.refl _ | apply Drawn0.step)⟩
  rw [if_neg c5] at H
  have c5b0 : (a0.toList == ([46] : List UInt8)) = false := beq_eq_false_iff_ne.mpr c5
  have c5b1 : (a0.toList != ([46] : List UInt8)) = true := bne_iff_ne.mpr c5
  by_cases c6 : a0.toList = ([46, 46] : List UInt8)
  ·rw [if_pos c6] at H
   have c6b0 : (a0.toList == ([46, 46] : List UInt8)) = true := beq_iff_eq.mpr c6
   have c6b1 : (a0.toList != ([46, 46] : List UInt8)) = false := bne_eq_false_iff_eq.mpr c6
   clear c6
   have H' := zA H
   clear H; go_wp2
   go_meet
   case rel => exact ⟨_, (true), (by first | rfl | (simp; done) | (simp [*]; done)), H', ⟨by first | omega | exact Nat.le_refl _⟩, by repeat (first | exact Drawn0.refl _ | apply Drawn0.step)⟩
  rw [if_neg c6] at H
  have c6b0 : (a0.toList == ([46, 46] : List UInt8)) = false := beq_eq_false_iff_ne.mpr c6
  have c6b1 : (a0.toList != ([46, 46] : List UInt8)) = true := bne_iff_ne.mpr c6
  have H' := zA H
  clear H; go_wp2
  go_meet
  case rel => exact ⟨_, ((a0.toList == ([46, 46, 46] : List UInt8))), (by first | rfl | (simp; done) | (simp [*]; done)), H', ⟨by first | omega | exact Nat.le_refl _⟩, by repeat (first | exact Drawn0.refl _ | apply Drawn0.step)⟩
 case rest =>
  clear HC2
  try clear p2
  try clear c3
  try clear c3b0
  try clear c3b1
  try clear c4
  try clear c4b0
  try clear c4b1
  try clear c5
  try clear c5b0
  try clear c5b1
  try clear c6
  try clear c6b0
  try clear c6b1
  obtain ⟨kq, x23_1, rfl, HA, HJ1, ⟨mc1, rfl⟩⟩ := hcut
  cases kq with
  | zero => exact absurd HA.out (by simp [copseref02_Component.j0])
  | succ kj1 =>
   have H := HA.out
   clear HA
   simp only [copseref02_Component.j0] at H
   by_cases c7 : x23_1 = true
   ·subst c7
    have H1 : (some false) = some r := by rw [if_pos rfl] at H; exact H
    clear H; have H := H1; clear H1; obtain rfl := Option.some.inj H; go_wp2; go_ret
    exact ⟨by first | rfl | (simp; done) | (simp [*]; done), by repeat (first | exact Drawn0.refl _ | apply Drawn0.step)⟩
   replace c7 := Bool.eq_false_iff.mpr c7
   subst c7
   have H1 : (copseref02_Component.l0 kj1 a0 0) = some r := by rw [if_neg (show ¬ (false = true) by decide)] at H; exact H
   clear H; have H := H1; clear H1
   have H' := zA H
   clear H; go_wp2
   go_loopg [3] kj1 (fun kq v3 w' => ∃ (x3_2 : Int), v3 = .int .i64 x3_2 ∧ Aside0 (copseref02_Component.l0 kq a0 x3_2 = some r) ∧ Aside0 (kq ≤ kj1) ∧ Drawn0 w w')
   case atStart => exact ⟨(0), (by first | rfl | (simp; done) | (simp [*]; done)), H', ⟨Nat.le_refl _⟩, by repeat (first | exact Drawn0.refl _ | apply Drawn0.step)⟩
   case round =>
    clear H'
    try clear c1
    try clear p2
    try clear c3
    try clear c3b0
    try clear c3b1
    try clear c4
    try clear c4b0
    try clear c4b1
    try clear c5
    try clear c5b0
    try clear c5b1
    try clear c6
    try clear c6b0
    try clear c6b1
    try clear c7
    try clear p2
    obtain ⟨x3_2, rfl, HA, HK2, ⟨m2, rfl⟩⟩ := hrel
    cases gk with
    | zero => exact absurd HA.out (by simp [copseref02_Component.l0])
    | succ k2 =>
     have H := HA.out
     clear HA
     simp only [copseref02_Component.l0] at H
     by_cases c8 : x3_2 < (a0.size : Int)
     rotate_left
     ·rw [if_neg c8] at H
      have c8b0 : decide (x3_2 < (a0.size : Int)) = false := decide_eq_false c8
      clear c8; obtain rfl := Option.some.inj H; go_wp2; go_ret
      exact ⟨by first | rfl | (simp; done) | (simp [*]; done), by repeat (first | exact Drawn0.refl _ | apply Drawn0.step)⟩
     rw [if_pos c8] at H
     have c8b0 : decide (x3_2 < (a0.size : Int)) = true := decide_eq_true c8
     clear c8
     by_cases c9 : 0 ≤ x3_2
     rotate_left
     ·rw [if_neg c9] at H
      exact absurd H (by simp)
     rw [if_pos c9] at H
     have c9b0 : decide (0 ≤ x3_2) = true := decide_eq_true c9
     clear c9; replace H := Option.bind_eq_some_iff.mp H; obtain ⟨t223, A110, H⟩ := H
     replace H : (if t223 = true then (copseref02_Component.l0 k2 a0 (wrap64 (x3_2 + 1))) else (some false)) = some r := H
     have A11 := zA A110; clear A110
     by_cases c12 : t223 = true
     rotate_left
     ·replace c12 := Bool.eq_false_iff.mpr c12
      subst c12
      have H1 : (some false) = some r := by rw [if_neg (show ¬ (false = true) by decide)] at H; exact H
      clear H; have H := H1; clear H1; obtain rfl := Option.some.inj H
      have p10 : 0 ≤ (x3_2 : Int) := zO (by first | (with_reducible assumption) | assumption)
      have q10 : x3_2 < (a0.size : Int) := zO (by first | (with_reducible assumption) | assumption)
      have hx10 := bt_at a0 x3_2
      replace p10 := eq_true p10
      replace q10 := eq_true q10
      go_wp2_with (first | ((with_reducible refine gate_callee (f := 76) rfl ?_); refine goesL_ (some 33) rfl rfl Tryd.func76 (by kernel_rfl) rfl #[.int .u8 (bt a0 x3_2)] rfl (by (try simp only [List.map_toArray, List.map_cons, List.map_nil]); first | done | rfl | (simp only [List.length_drop, List.length_take]; rfl)) ?_; (with_reducible refine (copseref02_Byte.calls (bt a0 x3_2) false _ A11.out).mono ?_); rintro e w' ⟨rfl, ⟨nd, rfl⟩⟩; refine ⟨_, rfl, ?_⟩))
      go_ret
      exact ⟨by first | rfl | (simp; done) | (simp [*]; done), by repeat (first | exact Drawn0.refl _ | apply Drawn0.step)⟩
     subst c12
     have H1 : (copseref02_Component.l0 k2 a0 (wrap64 (x3_2 + 1))) = some r := by rw [if_pos rfl] at H; exact H
     clear H; have H := H1; clear H1
     have H' := zA H
     clear H
     have p10 : 0 ≤ (x3_2 : Int) := zO (by first | (with_reducible assumption) | assumption)
     have q10 : x3_2 < (a0.size : Int) := zO (by first | (with_reducible assumption) | assumption)
     have hx10 := bt_at a0 x3_2
     replace p10 := eq_true p10
     replace q10 := eq_true q10
     go_wp2_with (first | ((with_reducible refine gate_callee (f := 76) rfl ?_); refine goesL_ (some 33) rfl rfl Tryd.func76 (by kernel_rfl) rfl #[.int .u8 (bt a0 x3_2)] rfl (by (try simp only [List.map_toArray, List.map_cons, List.map_nil]); first | done | rfl | (simp only [List.length_drop, List.length_take]; rfl)) ?_; (with_reducible refine (copseref02_Byte.calls (bt a0 x3_2) true _ A11.out).mono ?_); rintro e w' ⟨rfl, ⟨nd, rfl⟩⟩; refine ⟨_, rfl, ?_⟩))
     go_roundg k2
     case measure => have := HJ1.out; have := HK2.out; omega
     case rel => exact ⟨(wrap64 (x3_2 + 1)), (by first | rfl | (simp; done) | (simp [*]; done)), H', ⟨by have := HJ1.out; have := HK2.out; omega⟩, by repeat (first | exact Drawn0.refl _ | apply Drawn0.step)⟩
mutual
def copseref02_Valid.j0 : Nat → List ByteArray → Bool → Option (Bool)
 | 0, _, _ => none
 | k + 1, x3, x14 => if x14 = true then (some false) else (copseref02_Valid.l0 k x3 0)
def copseref02_Valid.l0 : Nat → List ByteArray → Int → Option (Bool)
 | 0, _, _ => none
 | k + 1, x3, x4 => if x4 < (x3.length : Int) then (if 0 ≤ x4 then ((copseref02_Component.f k (rdOf ByteArray.empty x3 x4)).bind fun t228 => (if t228 = true then (copseref02_Valid.l0 k x3 (wrap64 (x4 + 1))) else (some false))) else (none)) else (some true)
end
def copseref02_Valid.f (k : Nat) (a0 : ByteArray) : Option (Bool) := (copseref02_Split.f k a0).bind fun t224 => (if (a0.size : Int) > 120 then (copseref02_Valid.j0 k t224 true) else (copseref02_Valid.j0 k t224 (decide ((t224.length : Int) > 12))))
set_option maxHeartbeats 8000000 in
set_option maxRecDepth 100000 in
theorem copseref02_Valid.calls (k : Nat) (a0 : ByteArray) (r : Bool) (w : World) (h : copseref02_Valid.f k a0 = some r) :
  Calls Tryd.prog 30 #[.string a0] w fun e w' => e = .returned (.bool r) ∧ Below w.heap.size w w' := by
 have HB := zA (Below.refl w.heap.size w)
 have H : ((copseref02_Split.f k a0).bind fun t224 => (if (a0.size : Int) > 120 then (copseref02_Valid.j0 k t224 true) else (copseref02_Valid.j0 k t224 (decide ((t224.length : Int) > 12))))) = some r := h
 clear h; replace H := Option.bind_eq_some_iff.mp H; obtain ⟨t224, A20, H⟩ := H
 replace H : (if (a0.size : Int) > 120 then (copseref02_Valid.j0 k t224 true) else (copseref02_Valid.j0 k t224 (decide ((t224.length : Int) > 12)))) = some r := H
 have A2 := zA A20; clear A20; have HC3 := zA H; clear H
 go_enter Tryd.func30, Tryd.ntmps30
 go_upto_region 2 with (first | ((with_reducible refine gate_callee (f := 40) rfl ?_); refine goesL_ (some 6) rfl rfl Tryd.func40 (by kernel_rfl) rfl #[.string a0] rfl (by (try simp only [List.map_toArray, List.map_cons, List.map_nil]); first | done | rfl | (simp only [List.length_drop, List.length_take]; rfl)) ?_; (with_reducible refine (copseref02_Split.calls k a0 t224 _ A2.out).mono ?_); rintro e w4 ⟨v225, rfl, ho0, hb⟩; refine ⟨_, rfl, ?_⟩; have n0_ := zA (Kd.R_lower ho0 (below_size (by repeat (first | (with_reducible first | exact HB.out | apply zL | apply zN | apply zD) | exact HB.out)))); have n1_ := zA (below_step (by repeat (first | (with_reducible first | exact HB.out | apply zL | apply zN | apply zD) | exact HB.out)) hb); clear HB; have HO226 := n0_; have HB := n1_; clear n0_ n1_; (try clear hb); (try clear hb2); (try clear hk); (try clear hi); (try clear ho0)))
 (try simp only [Act.put, zS, zZ, zC])
 go_cut [14] (fun v14 wc => ∃ (kq : Nat) (x14_2 : Bool), v14 = .bool x14_2 ∧ Aside0 (copseref02_Valid.j0 kq t224 x14_2 = some r) ∧ Aside0 (kq ≤ k) ∧ Aside0 (Kd.R Kd.string 9 wc w.heap.size (fun _ => True) v225 t224) ∧ Aside0 (Below w.heap.size w wc))
 case first =>
  have H := HC3.out
  clear HC3
  by_cases c5 : (a0.size : Int) > 120
  ·rw [if_pos c5] at H
   have c5b0 : decide (120 < (a0.size : Int)) = true := decide_eq_true c5
   have c5b1 : decide (120 < a0.size) = true := decide_eq_true (by omega)
   clear c5
   (first | rw [c5b0] | (simp only [i64_w, i32_w]; rw [c5b0]) | skip)
   have H' := zA H
   clear H; go_wp2
   go_meet
   case rel => exact ⟨_, (true), (by first | rfl | (simp; done) | (simp [*]; done)), H', ⟨by first | omega | exact Nat.le_refl _⟩, ⟨by (with_reducible repeat (first | apply Kd.R_alloc | apply Kd.R_drewN | apply Kd.R_drew)); exact HO226.out⟩, ⟨by repeat (first | (with_reducible first | exact HB.out | apply zL | apply zN | apply zD) | exact HB.out)⟩⟩
  rw [if_neg c5] at H
  have c5b0 : decide (120 < (a0.size : Int)) = false := decide_eq_false c5
  have c5b1 : decide (120 < a0.size) = false := decide_eq_false (by omega)
  clear c5
  (first | rw [c5b0] | (simp only [i64_w, i32_w]; rw [c5b0]) | skip)
  have H' := zA H
  clear H
  obtain ⟨Ao6, co6, eo6⟩ := Kd.R_slice HO226.out
  subst eo6; go_wp2
  go_meet
  case rel => exact ⟨_, (decide ((t224.length : Int) > 12)), (by first | rfl | (simp; done) | (simp [*]; done)), H', ⟨by first | omega | exact Nat.le_refl _⟩, ⟨by (with_reducible repeat (first | apply Kd.R_alloc | apply Kd.R_drewN | apply Kd.R_drew)); exact HO226.out⟩, ⟨by repeat (first | (with_reducible first | exact HB.out | apply zL | apply zN | apply zD) | exact HB.out)⟩⟩
 case rest =>
  clear HC3
  try clear p2
  try clear c3
  try clear c4
  try clear c5
  try clear c5b0
  try clear c5b1
  obtain ⟨kq, x14_2, rfl, HA, HJ2, HO_3, HB⟩ := hcut
  cases kq with
  | zero => exact absurd HA.out (by simp [copseref02_Valid.j0])
  | succ kj2 =>
   have H := HA.out
   clear HA
   simp only [copseref02_Valid.j0] at H
   by_cases c7 : x14_2 = true
   ·subst c7
    have H1 : (some false) = some r := by rw [if_pos rfl] at H; exact H
    clear H; have H := H1; clear H1; obtain rfl := Option.some.inj H; go_wp2; go_ret
    exact ⟨by first | rfl | (simp [errW_none, errW_some] <;> rfl) | (simp [*, errW_none, errW_some] <;> rfl), by repeat (first | (with_reducible first | exact HB.out | apply zL | apply zN | apply zD) | exact HB.out)⟩
   replace c7 := Bool.eq_false_iff.mpr c7
   subst c7
   have H1 : (copseref02_Valid.l0 kj2 t224 0) = some r := by rw [if_neg (show ¬ (false = true) by decide)] at H; exact H
   clear H; have H := H1; clear H1
   have H' := zA H
   clear H; go_wp2
   go_loopg [4] kj2 (fun kq v4 w' => ∃ (x4_2 : Int), v4 = .int .i64 x4_2 ∧ Aside0 (copseref02_Valid.l0 kq t224 x4_2 = some r) ∧ Aside0 (kq ≤ kj2) ∧ Aside0 (Kd.R Kd.string 9 w' w.heap.size (fun _ => True) v225 t224) ∧ Aside0 (Below w.heap.size w w'))
   case atStart => exact ⟨(0), (by first | rfl | (simp; done) | (simp [*]; done)), H', ⟨Nat.le_refl _⟩, ⟨by (with_reducible repeat (first | apply Kd.R_alloc | apply Kd.R_drewN | apply Kd.R_drew)); exact HO_3.out⟩, ⟨by repeat (first | (with_reducible first | exact HB.out | apply zL | apply zN | apply zD) | exact HB.out)⟩⟩
   case round =>
    clear H'
    try clear p2
    try clear c3
    try clear c4
    try clear c5
    try clear c5b0
    try clear c5b1
    try clear c7
    try clear p2
    obtain ⟨x4_2, rfl, HA, HK2, HO_3, HB⟩ := hrel
    cases gk with
    | zero => exact absurd HA.out (by simp [copseref02_Valid.l0])
    | succ k2 =>
     have H := HA.out
     clear HA
     simp only [copseref02_Valid.l0] at H
     by_cases c8 : x4_2 < (t224.length : Int)
     rotate_left
     ·rw [if_neg c8] at H
      have c8b0 : decide (x4_2 < (t224.length : Int)) = false := decide_eq_false c8
      clear c8; obtain rfl := Option.some.inj H
      obtain ⟨Ao14, co14, eo14⟩ := Kd.R_slice HO_3.out
      subst eo14; go_wp2; go_ret
      exact ⟨by first | rfl | (simp [errW_none, errW_some] <;> rfl) | (simp [*, errW_none, errW_some] <;> rfl), by repeat (first | (with_reducible first | exact HB.out | apply zL | apply zN | apply zD) | exact HB.out)⟩
     rw [if_pos c8] at H
     have c8b0 : decide (x4_2 < (t224.length : Int)) = true := decide_eq_true c8
     clear c8
     by_cases c9 : 0 ≤ x4_2
     rotate_left
     ·rw [if_neg c9] at H
      exact absurd H (by simp)
     rw [if_pos c9] at H
     have c9b0 : decide (0 ≤ x4_2) = true := decide_eq_true c9
     clear c9; replace H := Option.bind_eq_some_iff.mp H; obtain ⟨t228, A100, H⟩ := H
     replace H : (if t228 = true then (copseref02_Valid.l0 k2 t224 (wrap64 (x4_2 + 1))) else (some false)) = some r := H
     have A10 := zA A100; clear A100
     by_cases c11 : t228 = true
     rotate_left
     ·replace c11 := Bool.eq_false_iff.mpr c11
      subst c11
      have H1 : (some false) = some r := by rw [if_neg (show ¬ (false = true) by decide)] at H; exact H
      clear H; have H := H1; clear H1; obtain rfl := Option.some.inj H
      obtain ⟨Ao13, co13, eo13⟩ := Kd.R_slice HO_3.out
      subst eo13
      have p227 : 0 ≤ (x4_2 : Int) := zO (by first | (with_reducible assumption) | assumption)
      have q227 : x4_2 < (t224.length : Int) := zO (by first | (with_reducible assumption) | assumption)
      obtain ⟨ad227, e227, hx227_0⟩ := Kd.at_string (Kd.R_reads' HO_3.out).2.2 x4_2 p227 q227
      cases e227
      replace p227 := eq_true p227
      replace q227 := eq_true q227
      go_wp2_with (first | ((with_reducible refine gate_callee (f := 54) rfl ?_); refine goesL_ (some 25) rfl rfl Tryd.func54 (by kernel_rfl) rfl #[.string (rdOf ByteArray.empty t224 x4_2)] rfl (by (try simp only [List.map_toArray, List.map_cons, List.map_nil]); first | done | rfl | (simp only [List.length_drop, List.length_take]; rfl)) ?_; (with_reducible refine (copseref02_Component.calls k2 (rdOf ByteArray.empty t224 x4_2) false _ A10.out).mono ?_); rintro e w' ⟨rfl, ⟨nd, rfl⟩⟩; refine ⟨_, rfl, ?_⟩))
      go_ret
      exact ⟨by first | rfl | (simp [errW_none, errW_some] <;> rfl) | (simp [*, errW_none, errW_some] <;> rfl), by repeat (first | (with_reducible first | exact HB.out | apply zL | apply zN | apply zD) | exact HB.out)⟩
     subst c11
     have H1 : (copseref02_Valid.l0 k2 t224 (wrap64 (x4_2 + 1))) = some r := by rw [if_pos rfl] at H; exact H
     clear H; have H := H1; clear H1
     have H' := zA H
     clear H
     obtain ⟨Ao12, co12, eo12⟩ := Kd.R_slice HO_3.out
     subst eo12
     have p227 : 0 ≤ (x4_2 : Int) := zO (by first | (with_reducible assumption) | assumption)
     have q227 : x4_2 < (t224.length : Int) := zO (by first | (with_reducible assumption) | assumption)
     obtain ⟨ad227, e227, hx227_0⟩ := Kd.at_string (Kd.R_reads' HO_3.out).2.2 x4_2 p227 q227
     cases e227
     replace p227 := eq_true p227
     replace q227 := eq_true q227
     go_wp2_with (first | ((with_reducible refine gate_callee (f := 54) rfl ?_); refine goesL_ (some 25) rfl rfl Tryd.func54 (by kernel_rfl) rfl #[.string (rdOf ByteArray.empty t224 x4_2)] rfl (by (try simp only [List.map_toArray, List.map_cons, List.map_nil]); first | done | rfl | (simp only [List.length_drop, List.length_take]; rfl)) ?_; (with_reducible refine (copseref02_Component.calls k2 (rdOf ByteArray.empty t224 x4_2) true _ A10.out).mono ?_); rintro e w' ⟨rfl, ⟨nd, rfl⟩⟩; refine ⟨_, rfl, ?_⟩))
     go_roundg k2
     case measure => have := HJ2.out; have := HK2.out; omega
     case rel => exact ⟨(wrap64 (x4_2 + 1)), (by first | rfl | (simp; done) | (simp [*]; done)), H', ⟨by have := HJ2.out; have := HK2.out; omega⟩, ⟨by (with_reducible repeat (first | apply Kd.R_alloc | apply Kd.R_drewN | apply Kd.R_drew)); exact HO_3.out⟩, ⟨by repeat (first | (with_reducible first | exact HB.out | apply zL | apply zN | apply zD) | exact HB.out)⟩⟩
def copseref02_shared.l0 : Nat → List ByteArray → List ByteArray → Int → Option (Int)
 | 0, _, _, _ => none
 | k + 1, x0, x1, x5 => if x5 < (x0.length : Int) then (if x5 < (x1.length : Int) then (if 0 ≤ x5 then (if (rdOf ByteArray.empty x0 x5).toList = (rdOf ByteArray.empty x1 x5).toList then (copseref02_shared.l0 k x0 x1 (wrap64 (x5 + 1))) else (some x5)) else (none)) else (some x5)) else (some x5)
def copseref02_shared.f (k : Nat) (l0 : List ByteArray) (l1 : List ByteArray) : Option (Int) := copseref02_shared.l0 k l0 l1 0
set_option maxHeartbeats 8000000 in
set_option maxRecDepth 100000 in
theorem copseref02_shared.calls (k : Nat) (A0 : Option Addr) (c0 : Nat) (l0 : List ByteArray) (A1 : Option Addr) (c1 : Nat) (l1 : List ByteArray) (r : Int) (w : World) (hr0 : Kd.C Kd.string w A0 l0.length l0) (hc0 : l0.length ≤ c0) (hr1 : Kd.C Kd.string w A1 l1.length l1) (hc1 : l1.length ≤ c1) (h : copseref02_shared.f k l0 l1 = some r) :
  Calls Tryd.prog 42 #[.slice A0 l0.length c0, .slice A1 l1.length c1] w fun e w' => e = .returned (.int .i64 r) ∧ Drawn0 w w' := by
 have HR0 := zA hr0; have HC0 := zA hc0; clear hr0 hc0; have HR1 := zA hr1; have HC1 := zA hc1; clear hr1 hc1
 have H : (copseref02_shared.l0 k l0 l1 0) = some r := h
 clear h
 have H' := zA H
 clear H
 go_enter Tryd.func42, Tryd.ntmps42
 go_wp2
 repeat (go_quiet (fail); try go_wp2)
 go_loopg [5] k (fun kq v5 w' => ∃ (x5_1 : Int), v5 = .int .i64 x5_1 ∧ Aside0 (copseref02_shared.l0 kq l0 l1 x5_1 = some r) ∧ Aside0 (kq ≤ k) ∧ Drawn0 w w')
 case atStart => exact ⟨(0), (by first | rfl | (simp; done) | (simp [*]; done)), H', ⟨Nat.le_refl _⟩, by repeat (first | exact Drawn0.refl _ | apply Drawn0.step)⟩
 case round =>
  clear H'
  try clear c1
  try clear p2
  obtain ⟨x5_1, rfl, HA, HK1, ⟨m1, rfl⟩⟩ := hrel
  cases gk with
  | zero => exact absurd HA.out (by simp [copseref02_shared.l0])
  | succ k1 =>
   have H := HA.out
   clear HA
   simp only [copseref02_shared.l0] at H
   by_cases c3 : x5_1 < (l0.length : Int)
   rotate_left
   ·rw [if_neg c3] at H
    have c3b0 : decide (x5_1 < (l0.length : Int)) = false := decide_eq_false c3
    clear c3; obtain rfl := Option.some.inj H; go_wp2
    repeat (go_quiet (fail); try go_wp2)
    go_ret
    exact ⟨by first | rfl | (simp; done) | (simp [*]; done), by repeat (first | exact Drawn0.refl _ | apply Drawn0.step)⟩
   rw [if_pos c3] at H
   have c3b0 : decide (x5_1 < (l0.length : Int)) = true := decide_eq_true c3
   clear c3
   by_cases c4 : x5_1 < (l1.length : Int)
   rotate_left
   ·rw [if_neg c4] at H
    have c4b0 : decide (x5_1 < (l1.length : Int)) = false := decide_eq_false c4
    clear c4; obtain rfl := Option.some.inj H; go_wp2
    repeat (go_quiet (fail); try go_wp2)
    go_ret
    exact ⟨by first | rfl | (simp; done) | (simp [*]; done), by repeat (first | exact Drawn0.refl _ | apply Drawn0.step)⟩
   rw [if_pos c4] at H
   have c4b0 : decide (x5_1 < (l1.length : Int)) = true := decide_eq_true c4
   clear c4
   by_cases c5 : 0 ≤ x5_1
   rotate_left
   ·rw [if_neg c5] at H
    exact absurd H (by simp)
   rw [if_pos c5] at H
   have c5b0 : decide (0 ≤ x5_1) = true := decide_eq_true c5
   clear c5
   by_cases c6 : (rdOf ByteArray.empty l0 x5_1).toList = (rdOf ByteArray.empty l1 x5_1).toList
   rotate_left
   ·rw [if_neg c6] at H
    have c6b0 : ((rdOf ByteArray.empty l0 x5_1).toList == (rdOf ByteArray.empty l1 x5_1).toList) = false := beq_eq_false_iff_ne.mpr c6
    have c6b1 : ((rdOf ByteArray.empty l0 x5_1).toList != (rdOf ByteArray.empty l1 x5_1).toList) = true := bne_iff_ne.mpr c6
    obtain rfl := Option.some.inj H
    have p229 : 0 ≤ (x5_1 : Int) := zO (by first | (with_reducible assumption) | assumption)
    have q229 : x5_1 < (l0.length : Int) := zO (by first | (with_reducible assumption) | assumption)
    obtain ⟨ad229, e229, hx229_0⟩ := Kd.at_string HR0.out x5_1 p229 q229
    cases e229
    replace p229 := eq_true p229
    replace q229 := eq_true q229
    have p230 : 0 ≤ (x5_1 : Int) := zO (by first | (with_reducible assumption) | assumption)
    have q230 : x5_1 < (l1.length : Int) := zO (by first | (with_reducible assumption) | assumption)
    obtain ⟨ad230, e230, hx230_0⟩ := Kd.at_string HR1.out x5_1 p230 q230
    cases e230
    replace p230 := eq_true p230
    replace q230 := eq_true q230
    go_wp2
    repeat (go_quiet (fail); try go_wp2)
    go_ret
    exact ⟨by first | rfl | (simp; done) | (simp [*]; done), by repeat (first | exact Drawn0.refl _ | apply Drawn0.step)⟩
   rw [if_pos c6] at H
   have c6b0 : ((rdOf ByteArray.empty l0 x5_1).toList == (rdOf ByteArray.empty l1 x5_1).toList) = true := beq_iff_eq.mpr c6
   have c6b1 : ((rdOf ByteArray.empty l0 x5_1).toList != (rdOf ByteArray.empty l1 x5_1).toList) = false := bne_eq_false_iff_eq.mpr c6
   clear c6
   have H' := zA H
   clear H
   have p229 : 0 ≤ (x5_1 : Int) := zO (by first | (with_reducible assumption) | assumption)
   have q229 : x5_1 < (l0.length : Int) := zO (by first | (with_reducible assumption) | assumption)
   obtain ⟨ad229, e229, hx229_0⟩ := Kd.at_string HR0.out x5_1 p229 q229
   cases e229
   replace p229 := eq_true p229
   replace q229 := eq_true q229
   have p230 : 0 ≤ (x5_1 : Int) := zO (by first | (with_reducible assumption) | assumption)
   have q230 : x5_1 < (l1.length : Int) := zO (by first | (with_reducible assumption) | assumption)
   obtain ⟨ad230, e230, hx230_0⟩ := Kd.at_string HR1.out x5_1 p230 q230
   cases e230
   replace p230 := eq_true p230
   replace q230 := eq_true q230
   go_wp2
   repeat (go_quiet (fail); try go_wp2)
   go_roundg k1
   case measure => have := HK1.out; omega
   case rel => exact ⟨(wrap64 (x5_1 + 1)), (by first | rfl | (simp; done) | (simp [*]; done)), H', ⟨by have := HK1.out; omega⟩, by repeat (first | exact Drawn0.refl _ | apply Drawn0.step)⟩
def copseref02_Above.f (k : Nat) (a0 : ByteArray) (a1 : ByteArray) : Option (Bool) := (copseref02_Split.f k a0).bind fun t231 => ((copseref02_Split.f k a1).bind fun t234 => (if (t231.length : Int) < (t234.length : Int) then ((copseref02_shared.f k t231 t234).bind fun t237 => (some (t237 == (t231.length : Int)))) else (some false)))
set_option maxHeartbeats 8000000 in
set_option maxRecDepth 100000 in
theorem copseref02_Above.calls (k : Nat) (a0 : ByteArray) (a1 : ByteArray) (r : Bool) (w : World) (h : copseref02_Above.f k a0 a1 = some r) :
  Calls Tryd.prog 31 #[.string a0, .string a1] w fun e w' => e = .returned (.bool r) ∧ Below w.heap.size w w' := by
 have HB := zA (Below.refl w.heap.size w)
 have H : ((copseref02_Split.f k a0).bind fun t231 => ((copseref02_Split.f k a1).bind fun t234 => (if (t231.length : Int) < (t234.length : Int) then ((copseref02_shared.f k t231 t234).bind fun t237 => (some (t237 == (t231.length : Int)))) else (some false)))) = some r := h
 clear h; replace H := Option.bind_eq_some_iff.mp H; obtain ⟨t231, A30, H⟩ := H
 replace H : ((copseref02_Split.f k a1).bind fun t234 => (if (t231.length : Int) < (t234.length : Int) then ((copseref02_shared.f k t231 t234).bind fun t237 => (some (t237 == (t231.length : Int)))) else (some false))) = some r := H
 have A3 := zA A30; clear A30; replace H := Option.bind_eq_some_iff.mp H; obtain ⟨t234, A40, H⟩ := H
 replace H : (if (t231.length : Int) < (t234.length : Int) then ((copseref02_shared.f k t231 t234).bind fun t237 => (some (t237 == (t231.length : Int)))) else (some false)) = some r := H
 have A4 := zA A40; clear A40
 by_cases c5 : (t231.length : Int) < (t234.length : Int)
 rotate_left
 ·rw [if_neg c5] at H
  have c5b0 : decide ((t231.length : Int) < (t234.length : Int)) = false := decide_eq_false c5
  have c5b1 : decide (t231.length < t234.length) = false := decide_eq_false (fun h => c5 (Int.ofNat_lt.mpr h))
  clear c5; obtain rfl := Option.some.inj H
  go_enter Tryd.func31, Tryd.ntmps31
  go_wp2_with (first | ((with_reducible refine gate_callee (f := 40) rfl ?_); refine goesL_ (some 8) rfl rfl Tryd.func40 (by kernel_rfl) rfl #[.string a0] rfl (by (try simp only [List.map_toArray, List.map_cons, List.map_nil]); first | done | rfl | (simp only [List.length_drop, List.length_take]; rfl)) ?_; (with_reducible refine (copseref02_Split.calls k a0 t231 _ A3.out).mono ?_); rintro e w11 ⟨v232, rfl, ho0, hb⟩; refine ⟨_, rfl, ?_⟩; have n0_ := zA (Kd.R_lower ho0 (below_size (by repeat (first | (with_reducible first | exact HB.out | apply zL | apply zN | apply zD) | exact HB.out)))); have n1_ := zA (below_step (by repeat (first | (with_reducible first | exact HB.out | apply zL | apply zN | apply zD) | exact HB.out)) hb); clear HB; have HO233 := n0_; have HB := n1_; clear n0_ n1_; (try clear hb); (try clear hb2); (try clear hk); (try clear hi); (try clear ho0)) | ((with_reducible refine gate_callee (f := 40) rfl ?_); refine goesL_ (some 10) rfl rfl Tryd.func40 (by kernel_rfl) rfl #[.string a1] rfl (by (try simp only [List.map_toArray, List.map_cons, List.map_nil]); first | done | rfl | (simp only [List.length_drop, List.length_take]; rfl)) ?_; (with_reducible refine (copseref02_Split.calls k a1 t234 _ A4.out).mono ?_); rintro e w12 ⟨v235, rfl, ho0, hb⟩; refine ⟨_, rfl, ?_⟩; have n0_ := zA (Kd.R_elder' (by (with_reducible repeat (first | apply Kd.R_alloc | apply Kd.R_drewN | apply Kd.R_drew)); exact HO233.out) (Kd.R_base ho0) hb); have n1_ := zA (Kd.R_lower (Kd.R_new' ho0 (Kd.R_lt (by (with_reducible repeat (first | apply Kd.R_alloc | apply Kd.R_drewN | apply Kd.R_drew)); exact HO233.out))) (below_size (by repeat (first | (with_reducible first | exact HB.out | apply zL | apply zN | apply zD) | exact HB.out)))); have n2_ := zA (below_step (by repeat (first | (with_reducible first | exact HB.out | apply zL | apply zN | apply zD) | exact HB.out)) hb); clear HO233; clear HB; have HO233 := n0_; have HO236 := n1_; have HB := n2_; clear n0_ n1_ n2_; (try clear hb); (try clear hb2); (try clear hk); (try clear hi); (try clear ho0); obtain ⟨Ao13, co13, eo13⟩ := Kd.R_slice HO233.out; subst eo13; obtain ⟨Ao14, co14, eo14⟩ := Kd.R_slice HO236.out; subst eo14))
  go_ret
  exact ⟨by first | rfl | (simp [errW_none, errW_some] <;> rfl) | (simp [*, errW_none, errW_some] <;> rfl), by repeat (first | (with_reducible first | exact HB.out | apply zL | apply zN | apply zD) | exact HB.out)⟩
 rw [if_pos c5] at H
 have c5b0 : decide ((t231.length : Int) < (t234.length : Int)) = true := decide_eq_true c5
 have c5b1 : decide (t231.length < t234.length) = true := decide_eq_true (Int.ofNat_lt.mp c5)
 clear c5; replace H := Option.bind_eq_some_iff.mp H; obtain ⟨t237, A60, H⟩ := H
 replace H : (some (t237 == (t231.length : Int))) = some r := H
 have A6 := zA A60; clear A60; obtain rfl := Option.some.inj H
 go_enter Tryd.func31, Tryd.ntmps31
 go_wp2_with (first | ((with_reducible refine gate_callee (f := 40) rfl ?_); refine goesL_ (some 8) rfl rfl Tryd.func40 (by kernel_rfl) rfl #[.string a0] rfl (by (try simp only [List.map_toArray, List.map_cons, List.map_nil]); first | done | rfl | (simp only [List.length_drop, List.length_take]; rfl)) ?_; (with_reducible refine (copseref02_Split.calls k a0 t231 _ A3.out).mono ?_); rintro e w7 ⟨v232, rfl, ho0, hb⟩; refine ⟨_, rfl, ?_⟩; have n0_ := zA (Kd.R_lower ho0 (below_size (by repeat (first | (with_reducible first | exact HB.out | apply zL | apply zN | apply zD) | exact HB.out)))); have n1_ := zA (below_step (by repeat (first | (with_reducible first | exact HB.out | apply zL | apply zN | apply zD) | exact HB.out)) hb); clear HB; have HO233 := n0_; have HB := n1_; clear n0_ n1_; (try clear hb); (try clear hb2); (try clear hk); (try clear hi); (try clear ho0)) | ((with_reducible refine gate_callee (f := 40) rfl ?_); refine goesL_ (some 10) rfl rfl Tryd.func40 (by kernel_rfl) rfl #[.string a1] rfl (by (try simp only [List.map_toArray, List.map_cons, List.map_nil]); first | done | rfl | (simp only [List.length_drop, List.length_take]; rfl)) ?_; (with_reducible refine (copseref02_Split.calls k a1 t234 _ A4.out).mono ?_); rintro e w8 ⟨v235, rfl, ho0, hb⟩; refine ⟨_, rfl, ?_⟩; have n0_ := zA (Kd.R_elder' (by (with_reducible repeat (first | apply Kd.R_alloc | apply Kd.R_drewN | apply Kd.R_drew)); exact HO233.out) (Kd.R_base ho0) hb); have n1_ := zA (Kd.R_lower (Kd.R_new' ho0 (Kd.R_lt (by (with_reducible repeat (first | apply Kd.R_alloc | apply Kd.R_drewN | apply Kd.R_drew)); exact HO233.out))) (below_size (by repeat (first | (with_reducible first | exact HB.out | apply zL | apply zN | apply zD) | exact HB.out)))); have n2_ := zA (below_step (by repeat (first | (with_reducible first | exact HB.out | apply zL | apply zN | apply zD) | exact HB.out)) hb); clear HO233; clear HB; have HO233 := n0_; have HO236 := n1_; have HB := n2_; clear n0_ n1_ n2_; (try clear hb); (try clear hb2); (try clear hk); (try clear hi); (try clear ho0); obtain ⟨Ao9, co9, eo9⟩ := Kd.R_slice HO233.out; subst eo9; obtain ⟨Ao10, co10, eo10⟩ := Kd.R_slice HO236.out; subst eo10) | (go_at_call 42; (with_reducible refine (copseref02_shared.calls k _ _ t231 _ _ t234 t237 _ ?side1 ?side2 ?side3 ?side4 A6.out).mono ?_); (case side1 => repeat (first | exact (Kd.R_reads' HO233.out).2.2 | (with_reducible refine Kd.C_alloc ?_ _) | (with_reducible refine Kd.C_drewN ?_ _) | (with_reducible refine Kd.C_drew ?_))); (case side2 => exact (Kd.R_reads' HO233.out).2.1); (case side3 => repeat (first | exact (Kd.R_reads' HO236.out).2.2 | (with_reducible refine Kd.C_alloc ?_ _) | (with_reducible refine Kd.C_drewN ?_ _) | (with_reducible refine Kd.C_drew ?_))); (case side4 => exact (Kd.R_reads' HO236.out).2.1); rintro e w' ⟨rfl, ⟨nd, rfl⟩⟩))
 go_ret
 exact ⟨by first | rfl | (simp [errW_none, errW_some] <;> rfl) | (simp [*, errW_none, errW_some] <;> rfl), by repeat (first | (with_reducible first | exact HB.out | apply zL | apply zN | apply zD) | exact HB.out)⟩
mutual
def copseref02_bytes.l0 : Nat → ByteArray → ByteArray → Int → Option (Int)
 | 0, _, _, _ => none
 | k + 1, x0, x1, x5 => if x5 < (x0.size : Int) then (copseref02_bytes.j1 k x0 x1 x5 (decide (x5 < (x1.size : Int)))) else (copseref02_bytes.j1 k x0 x1 x5 false)
def copseref02_bytes.j1 : Nat → ByteArray → ByteArray → Int → Bool → Option (Int)
 | 0, _, _, _, _ => none
 | k + 1, x0, x1, x5, x15 => if x15 = true then (if 0 ≤ x5 then (if x5 < (x0.size : Int) then (if x5 < (x1.size : Int) then (if (bt x0 x5) < (bt x1 x5) then (some (-1)) else (if (bt x0 x5) > (bt x1 x5) then (some 1) else (copseref02_bytes.l0 k x0 x1 (wrap64 (x5 + 1))))) else (none)) else (none)) else (none)) else (if (x0.size : Int) < (x1.size : Int) then (some (-1)) else (if (x0.size : Int) > (x1.size : Int) then (some 1) else (some 0)))
end
def copseref02_bytes.f (k : Nat) (a0 : ByteArray) (a1 : ByteArray) : Option (Int) := copseref02_bytes.l0 k a0 a1 0
set_option maxHeartbeats 8000000 in
set_option maxRecDepth 100000 in
theorem copseref02_bytes.calls (k : Nat) (a0 : ByteArray) (a1 : ByteArray) (r : Int) (w : World) (h : copseref02_bytes.f k a0 a1 = some r) :
  Calls Tryd.prog 58 #[.string a0, .string a1] w fun e w' => e = .returned (.int .i64 r) ∧ Drawn0 w w' := by
 have H : (copseref02_bytes.l0 k a0 a1 0) = some r := h
 clear h
 have H' := zA H
 clear H
 go_enter Tryd.func58, Tryd.ntmps58
 go_wp2
 repeat (go_quiet (fail); try go_wp2)
 go_loopg [5] k (fun kq v5 w' => ∃ (x5_1 : Int), v5 = .int .i64 x5_1 ∧ Aside0 (copseref02_bytes.l0 kq a0 a1 x5_1 = some r) ∧ Aside0 (kq ≤ k) ∧ Drawn0 w w')
 case atStart => exact ⟨(0), (by first | rfl | (simp; done) | (simp [*]; done)), H', ⟨Nat.le_refl _⟩, by repeat (first | exact Drawn0.refl _ | apply Drawn0.step)⟩
 case round =>
  clear H'
  try clear p2
  obtain ⟨x5_1, rfl, HA, HK1, ⟨m1, rfl⟩⟩ := hrel
  cases gk with
  | zero => exact absurd HA.out (by simp [copseref02_bytes.l0])
  | succ k1 =>
   have H := HA.out
   clear HA
   simp only [copseref02_bytes.l0] at H
   have HC3 := zA H; clear H
   go_upto_region 2 with (fail)
   repeat (go_quiet (fail); go_upto_region 2 with (fail))
   go_cut [15] (fun v15 wc => ∃ (kq : Nat) (x15_2 : Bool), v15 = .bool x15_2 ∧ Aside0 (copseref02_bytes.j1 kq a0 a1 x5_1 x15_2 = some r) ∧ Aside0 (kq ≤ k1) ∧ Drawn0 w wc)
   case first =>
    have H := HC3.out
    clear HC3
    by_cases c4 : x5_1 < (a0.size : Int)
    rotate_left
    ·rw [if_neg c4] at H
     have c4b0 : decide (x5_1 < (a0.size : Int)) = false := decide_eq_false c4
     clear c4
     (first | rw [c4b0] | (simp only [i64_w, i32_w]; rw [c4b0]) | skip)
     have H' := zA H
     clear H; go_wp2
     repeat (go_quiet (fail); try go_wp2)
     go_meet
     case rel => exact ⟨_, (false), (by first | rfl | (simp; done) | (simp [*]; done)), H', ⟨by have := HK1.out; first | omega | exact Nat.le_refl _⟩, by repeat (first | exact Drawn0.refl _ | apply Drawn0.step)⟩
    rw [if_pos c4] at H
    have c4b0 : decide (x5_1 < (a0.size : Int)) = true := decide_eq_true c4
    clear c4
    (first | rw [c4b0] | (simp only [i64_w, i32_w]; rw [c4b0]) | skip)
    have H' := zA H
    clear H; go_wp2
    repeat (go_quiet (fail); try go_wp2)
    go_meet
    case rel => exact ⟨_, (decide (x5_1 < (a1.size : Int))), (by first | rfl | (simp; done) | (simp [*]; done)), H', ⟨by have := HK1.out; first | omega | exact Nat.le_refl _⟩, by repeat (first | exact Drawn0.refl _ | apply Drawn0.step)⟩
   case rest =>
    clear HC3
    try clear p2
    try clear c4
    try clear c4b0
    try clear p2
    obtain ⟨kq, x15_2, rfl, HA, HJ2, ⟨mc2, rfl⟩⟩ := hcut
    cases kq with
    | zero => exact absurd HA.out (by simp [copseref02_bytes.j1])
    | succ kj2 =>
     have H := HA.out
     clear HA
     simp only [copseref02_bytes.j1] at H
     by_cases c5 : x15_2 = true
     rotate_left
     ·replace c5 := Bool.eq_false_iff.mpr c5
      subst c5
      have H1 : (if (a0.size : Int) < (a1.size : Int) then (some (-1)) else (if (a0.size : Int) > (a1.size : Int) then (some 1) else (some 0))) = some r := by rw [if_neg (show ¬ (false = true) by decide)] at H; exact H
      clear H; have H := H1; clear H1
      by_cases c15 : (a0.size : Int) < (a1.size : Int)
      ·rw [if_pos c15] at H
       have c15b0 : decide ((a0.size : Int) < (a1.size : Int)) = true := decide_eq_true c15
       have c15b1 : decide (a0.size < a1.size) = true := decide_eq_true (Int.ofNat_lt.mp c15)
       clear c15; obtain rfl := Option.some.inj H; go_wp2
       repeat (go_quiet (fail); try go_wp2)
       go_ret
       exact ⟨by first | rfl | (simp; done) | (simp [*]; done), by repeat (first | exact Drawn0.refl _ | apply Drawn0.step)⟩
      rw [if_neg c15] at H
      have c15b0 : decide ((a0.size : Int) < (a1.size : Int)) = false := decide_eq_false c15
      have c15b1 : decide (a0.size < a1.size) = false := decide_eq_false (fun h => c15 (Int.ofNat_lt.mpr h))
      clear c15
      by_cases c16 : (a0.size : Int) > (a1.size : Int)
      ·rw [if_pos c16] at H
       have c16b0 : decide ((a1.size : Int) < (a0.size : Int)) = true := decide_eq_true c16
       have c16b1 : decide (a1.size < a0.size) = true := decide_eq_true (Int.ofNat_lt.mp c16)
       clear c16; obtain rfl := Option.some.inj H; go_wp2
       repeat (go_quiet (fail); try go_wp2)
       go_ret
       exact ⟨by first | rfl | (simp; done) | (simp [*]; done), by repeat (first | exact Drawn0.refl _ | apply Drawn0.step)⟩
      rw [if_neg c16] at H
      have c16b0 : decide ((a1.size : Int) < (a0.size : Int)) = false := decide_eq_false c16
      have c16b1 : decide (a1.size < a0.size) = false := decide_eq_false (fun h => c16 (Int.ofNat_lt.mpr h))
      clear c16; obtain rfl := Option.some.inj H; go_wp2
      repeat (go_quiet (fail); try go_wp2)
      go_ret
      exact ⟨by first | rfl | (simp; done) | (simp [*]; done), by repeat (first | exact Drawn0.refl _ | apply Drawn0.step)⟩
     subst c5
     have H1 : (if 0 ≤ x5_1 then (if x5_1 < (a0.size : Int) then (if x5_1 < (a1.size : Int) then (if (bt a0 x5_1) < (bt a1 x5_1) then (some (-1)) else (if (bt a0 x5_1) > (bt a1 x5_1) then (some 1) else (copseref02_bytes.l0 kj2 a0 a1 (wrap64 (x5_1 + 1))))) else (none)) else (none)) else (none)) = some r := by rw [if_pos rfl] at H; exact H
     clear H; have H := H1; clear H1
     by_cases c6 : 0 ≤ x5_1
     rotate_left
     ·rw [if_neg c6] at H
      exact absurd H (by simp)
     rw [if_pos c6] at H
     have c6b0 : decide (0 ≤ x5_1) = true := decide_eq_true c6
     clear c6
     by_cases c7 : x5_1 < (a0.size : Int)
     rotate_left
     ·rw [if_neg c7] at H
      exact absurd H (by simp)
     rw [if_pos c7] at H
     have c7b0 : decide (x5_1 < (a0.size : Int)) = true := decide_eq_true c7
     clear c7
     by_cases c9 : x5_1 < (a1.size : Int)
     rotate_left
     ·rw [if_neg c9] at H
      exact absurd H (by simp)
     rw [if_pos c9] at H
     have c9b0 : decide (x5_1 < (a1.size : Int)) = true := decide_eq_true c9
     clear c9
     by_cases c11 : (bt a0 x5_1) < (bt a1 x5_1)
     ·rw [if_pos c11] at H
      have c11b0 : decide ((bt a0 x5_1) < (bt a1 x5_1)) = true := decide_eq_true c11
      clear c11; obtain rfl := Option.some.inj H
      have p8 : 0 ≤ (x5_1 : Int) := zO (by first | (with_reducible assumption) | assumption)
      have q8 : x5_1 < (a0.size : Int) := zO (by first | (with_reducible assumption) | assumption)
      have hx8 := bt_at a0 x5_1
      replace p8 := eq_true p8
      replace q8 := eq_true q8
      have p10 : 0 ≤ (x5_1 : Int) := zO (by first | (with_reducible assumption) | assumption)
      have q10 : x5_1 < (a1.size : Int) := zO (by first | (with_reducible assumption) | assumption)
      have hx10 := bt_at a1 x5_1
      replace p10 := eq_true p10
      replace q10 := eq_true q10
      go_wp2
      repeat (go_quiet (fail); try go_wp2)
      go_ret
      exact ⟨by first | rfl | (simp; done) | (simp [*]; done), by repeat (first | exact Drawn0.refl _ | apply Drawn0.step)⟩
     rw [if_neg c11] at H
     have c11b0 : decide ((bt a0 x5_1) < (bt a1 x5_1)) = false := decide_eq_false c11
     clear c11
     by_cases c14 : (bt a0 x5_1) > (bt a1 x5_1)
     ·rw [if_pos c14] at H
      have c14b0 : decide ((bt a1 x5_1) < (bt a0 x5_1)) = true := decide_eq_true c14
      clear c14; obtain rfl := Option.some.inj H
      have p8 : 0 ≤ (x5_1 : Int) := zO (by first | (with_reducible assumption) | assumption)
      have q8 : x5_1 < (a0.size : Int) := zO (by first | (with_reducible assumption) | assumption)
      have hx8 := bt_at a0 x5_1
      replace p8 := eq_true p8
      replace q8 := eq_true q8
      have p10 : 0 ≤ (x5_1 : Int) := zO (by first | (with_reducible assumption) | assumption)
      have q10 : x5_1 < (a1.size : Int) := zO (by first | (with_reducible assumption) | assumption)
      have hx10 := bt_at a1 x5_1
      replace p10 := eq_true p10
      replace q10 := eq_true q10
      have p12 : 0 ≤ (x5_1 : Int) := zO (by first | (with_reducible assumption) | assumption)
      have q12 : x5_1 < (a0.size : Int) := zO (by first | (with_reducible assumption) | assumption)
      have hx12 := bt_at a0 x5_1
      replace p12 := eq_true p12
      replace q12 := eq_true q12
      have p13 : 0 ≤ (x5_1 : Int) := zO (by first | (with_reducible assumption) | assumption)
      have q13 : x5_1 < (a1.size : Int) := zO (by first | (with_reducible assumption) | assumption)
      have hx13 := bt_at a1 x5_1
      replace p13 := eq_true p13
      replace q13 := eq_true q13
      go_wp2
      repeat (go_quiet (fail); try go_wp2)
      go_ret
      exact ⟨by first | rfl | (simp; done) | (simp [*]; done), by repeat (first | exact Drawn0.refl _ | apply Drawn0.step)⟩
     rw [if_neg c14] at H
     have c14b0 : decide ((bt a1 x5_1) < (bt a0 x5_1)) = false := decide_eq_false c14
     clear c14
     have H' := zA H
     clear H
     have p8 : 0 ≤ (x5_1 : Int) := zO (by first | (with_reducible assumption) | assumption)
     have q8 : x5_1 < (a0.size : Int) := zO (by first | (with_reducible assumption) | assumption)
     have hx8 := bt_at a0 x5_1
     replace p8 := eq_true p8
     replace q8 := eq_true q8
     have p10 : 0 ≤ (x5_1 : Int) := zO (by first | (with_reducible assumption) | assumption)
     have q10 : x5_1 < (a1.size : Int) := zO (by first | (with_reducible assumption) | assumption)
     have hx10 := bt_at a1 x5_1
     replace p10 := eq_true p10
     replace q10 := eq_true q10
     have p12 : 0 ≤ (x5_1 : Int) := zO (by first | (with_reducible assumption) | assumption)
     have q12 : x5_1 < (a0.size : Int) := zO (by first | (with_reducible assumption) | assumption)
     have hx12 := bt_at a0 x5_1
     replace p12 := eq_true p12
     replace q12 := eq_true q12
     have p13 : 0 ≤ (x5_1 : Int) := zO (by first | (with_reducible assumption) | assumption)
     have q13 : x5_1 < (a1.size : Int) := zO (by first | (with_reducible assumption) | assumption)
     have hx13 := bt_at a1 x5_1
     replace p13 := eq_true p13
     replace q13 := eq_true q13
     go_wp2
     repeat (go_quiet (fail); try go_wp2)
     go_roundg kj2
     case measure => have := HK1.out; have := HJ2.out; omega
     case rel => exact ⟨(wrap64 (x5_1 + 1)), (by first | rfl | (simp; done) | (simp [*]; done)), H', ⟨by have := HK1.out; have := HJ2.out; omega⟩, by repeat (first | exact Drawn0.refl _ | apply Drawn0.step)⟩
mutual
def copseref02_Cmp.l0 : Nat → List ByteArray → List ByteArray → Int → Option (Int)
 | 0, _, _, _ => none
 | k + 1, x5, x6, x7 => if x7 < (x5.length : Int) then (copseref02_Cmp.j1 k x5 x6 x7 (decide (x7 < (x6.length : Int)))) else (copseref02_Cmp.j1 k x5 x6 x7 false)
def copseref02_Cmp.j1 : Nat → List ByteArray → List ByteArray → Int → Bool → Option (Int)
 | 0, _, _, _, _ => none
 | k + 1, x5, x6, x7, x22 => if x22 = true then (if 0 ≤ x7 then (if x7 < (x5.length : Int) then (if x7 < (x6.length : Int) then ((copseref02_bytes.f k (rdOf ByteArray.empty x5 x7) (rdOf ByteArray.empty x6 x7)).bind fun t246 => (if t246 = 0 then (copseref02_Cmp.l0 k x5 x6 (wrap64 (x7 + 1))) else (some t246))) else (none)) else (none)) else (none)) else (if (x5.length : Int) < (x6.length : Int) then (some (-1)) else (if (x5.length : Int) > (x6.length : Int) then (some 1) else (some 0)))
end
def copseref02_Cmp.f (k : Nat) (a0 : ByteArray) (a1 : ByteArray) : Option (Int) := (copseref02_Split.f k a0).bind fun t238 => ((copseref02_Split.f k a1).bind fun t241 => (copseref02_Cmp.l0 k t238 t241 0))
set_option maxHeartbeats 8000000 in
set_option maxRecDepth 100000 in
theorem copseref02_Cmp.calls (k : Nat) (a0 : ByteArray) (a1 : ByteArray) (r : Int) (w : World) (h : copseref02_Cmp.f k a0 a1 = some r) :
  Calls Tryd.prog 35 #[.string a0, .string a1] w fun e w' => e = .returned (.int .i64 r) ∧ Below w.heap.size w w' := by
 have HB := zA (Below.refl w.heap.size w)
 have H : ((copseref02_Split.f k a0).bind fun t238 => ((copseref02_Split.f k a1).bind fun t241 => (copseref02_Cmp.l0 k t238 t241 0))) = some r := h
 clear h; replace H := Option.bind_eq_some_iff.mp H; obtain ⟨t238, A30, H⟩ := H
 replace H : ((copseref02_Split.f k a1).bind fun t241 => (copseref02_Cmp.l0 k t238 t241 0)) = some r := H
 have A3 := zA A30; clear A30; replace H := Option.bind_eq_some_iff.mp H; obtain ⟨t241, A40, H⟩ := H
 replace H : (copseref02_Cmp.l0 k t238 t241 0) = some r := H
 have A4 := zA A40; clear A40
 have H' := zA H
 clear H
 go_enter Tryd.func35, Tryd.ntmps35
 go_wp2_with (first | (go_at_call 40; (with_reducible refine (copseref02_Split.calls k a0 t238 _ A3.out).mono ?_); rintro e w5 ⟨v239, rfl, ho0, hb⟩; have n0_ := zA (Kd.R_lower ho0 (below_size (by repeat (first | (with_reducible first | exact HB.out | apply zL | apply zN | apply zD) | exact HB.out)))); have n1_ := zA (below_step (by repeat (first | (with_reducible first | exact HB.out | apply zL | apply zN | apply zD) | exact HB.out)) hb); clear HB; have HO240 := n0_; have HB := n1_; clear n0_ n1_; (try clear hb); (try clear hb2); (try clear hk); (try clear hi); (try clear ho0)) | (go_at_call 40; (with_reducible refine (copseref02_Split.calls k a1 t241 _ A4.out).mono ?_); rintro e w6 ⟨v242, rfl, ho0, hb⟩; have n0_ := zA (Kd.R_elder' (by (with_reducible repeat (first | apply Kd.R_alloc | apply Kd.R_drewN | apply Kd.R_drew)); exact HO240.out) (Kd.R_base ho0) hb); have n1_ := zA (Kd.R_lower (Kd.R_new' ho0 (Kd.R_lt (by (with_reducible repeat (first | apply Kd.R_alloc | apply Kd.R_drewN | apply Kd.R_drew)); exact HO240.out))) (below_size (by repeat (first | (with_reducible first | exact HB.out | apply zL | apply zN | apply zD) | exact HB.out)))); have n2_ := zA (below_step (by repeat (first | (with_reducible first | exact HB.out | apply zL | apply zN | apply zD) | exact HB.out)) hb); clear HO240; clear HB; have HO240 := n0_; have HO243 := n1_; have HB := n2_; clear n0_ n1_ n2_; (try clear hb); (try clear hb2); (try clear hk); (try clear hi); (try clear ho0)))
 repeat (go_quiet (first | (go_at_call 40; (with_reducible refine (copseref02_Split.calls k a0 t238 _ A3.out).mono ?_); rintro e w5 ⟨v239, rfl, ho0, hb⟩; have n0_ := zA (Kd.R_lower ho0 (below_size (by repeat (first | (with_reducible first | exact HB.out | apply zL | apply zN | apply zD) | exact HB.out)))); have n1_ := zA (below_step (by repeat (first | (with_reducible first | exact HB.out | apply zL | apply zN | apply zD) | exact HB.out)) hb); clear HB; have HO240 := n0_; have HB := n1_; clear n0_ n1_; (try clear hb); (try clear hb2); (try clear hk); (try clear hi); (try clear ho0)) | (go_at_call 40; (with_reducible refine (copseref02_Split.calls k a1 t241 _ A4.out).mono ?_); rintro e w6 ⟨v242, rfl, ho0, hb⟩; have n0_ := zA (Kd.R_elder' (by (with_reducible repeat (first | apply Kd.R_alloc | apply Kd.R_drewN | apply Kd.R_drew)); exact HO240.out) (Kd.R_base ho0) hb); have n1_ := zA (Kd.R_lower (Kd.R_new' ho0 (Kd.R_lt (by (with_reducible repeat (first | apply Kd.R_alloc | apply Kd.R_drewN | apply Kd.R_drew)); exact HO240.out))) (below_size (by repeat (first | (with_reducible first | exact HB.out | apply zL | apply zN | apply zD) | exact HB.out)))); have n2_ := zA (below_step (by repeat (first | (with_reducible first | exact HB.out | apply zL | apply zN | apply zD) | exact HB.out)) hb); clear HO240; clear HB; have HO240 := n0_; have HO243 := n1_; have HB := n2_; clear n0_ n1_ n2_; (try clear hb); (try clear hb2); (try clear hk); (try clear hi); (try clear ho0))); try go_wp2_with (first | (go_at_call 40; (with_reducible refine (copseref02_Split.calls k a0 t238 _ A3.out).mono ?_); rintro e w5 ⟨v239, rfl, ho0, hb⟩; have n0_ := zA (Kd.R_lower ho0 (below_size (by repeat (first | (with_reducible first | exact HB.out | apply zL | apply zN | apply zD) | exact HB.out)))); have n1_ := zA (below_step (by repeat (first | (with_reducible first | exact HB.out | apply zL | apply zN | apply zD) | exact HB.out)) hb); clear HB; have HO240 := n0_; have HB := n1_; clear n0_ n1_; (try clear hb); (try clear hb2); (try clear hk); (try clear hi); (try clear ho0)) | (go_at_call 40; (with_reducible refine (copseref02_Split.calls k a1 t241 _ A4.out).mono ?_); rintro e w6 ⟨v242, rfl, ho0, hb⟩; have n0_ := zA (Kd.R_elder' (by (with_reducible repeat (first | apply Kd.R_alloc | apply Kd.R_drewN | apply Kd.R_drew)); exact HO240.out) (Kd.R_base ho0) hb); have n1_ := zA (Kd.R_lower (Kd.R_new' ho0 (Kd.R_lt (by (with_reducible repeat (first | apply Kd.R_alloc | apply Kd.R_drewN | apply Kd.R_drew)); exact HO240.out))) (below_size (by repeat (first | (with_reducible first | exact HB.out | apply zL | apply zN | apply zD) | exact HB.out)))); have n2_ := zA (below_step (by repeat (first | (with_reducible first | exact HB.out | apply zL | apply zN | apply zD) | exact HB.out)) hb); clear HO240; clear HB; have HO240 := n0_; have HO243 := n1_; have HB := n2_; clear n0_ n1_ n2_; (try clear hb); (try clear hb2); (try clear hk); (try clear hi); (try clear ho0))))
 go_loopg [7] k (fun kq v7 w' => ∃ (x7_1 : Int), v7 = .int .i64 x7_1 ∧ Aside0 (copseref02_Cmp.l0 kq t238 t241 x7_1 = some r) ∧ Aside0 (kq ≤ k) ∧ Aside0 (Kd.R Kd.string 9 w' w.heap.size (fun k_ => some k_ ≠ (v242 : Value).ownBlock) v239 t238) ∧ Aside0 (Kd.R Kd.string 9 w' w.heap.size (fun k_ => some k_ ≠ (v239 : Value).ownBlock) v242 t241) ∧ Aside0 (Below w.heap.size w w'))
 case atStart => exact ⟨(0), (by first | rfl | (simp; done) | (simp [*]; done)), H', ⟨Nat.le_refl _⟩, ⟨by (with_reducible repeat (first | apply Kd.R_alloc | apply Kd.R_drewN | apply Kd.R_drew)); exact Kd.R_mono HO240.out (fun _ hk => hk.2)⟩, ⟨by (with_reducible repeat (first | apply Kd.R_alloc | apply Kd.R_drewN | apply Kd.R_drew)); exact Kd.R_mono HO243.out (fun _ hk => hk.2)⟩, ⟨by repeat (first | (with_reducible first | exact HB.out | apply zL | apply zN | apply zD) | exact HB.out)⟩⟩
 case round =>
  clear H'
  try clear p2
  try clear c3
  obtain ⟨x7_1, rfl, HA, HK1, HO_5, HO_6, HB⟩ := hrel
  cases gk with
  | zero => exact absurd HA.out (by simp [copseref02_Cmp.l0])
  | succ k1 =>
   have H := HA.out
   clear HA
   simp only [copseref02_Cmp.l0] at H
   have HC7 := zA H; clear H
   go_upto_region 4 with (fail)
   repeat (go_quiet (fail); go_upto_region 4 with (fail))
   go_cut [22] (fun v22 wc => ∃ (kq : Nat) (x22_6 : Bool), v22 = .bool x22_6 ∧ Aside0 (copseref02_Cmp.j1 kq t238 t241 x7_1 x22_6 = some r) ∧ Aside0 (kq ≤ k1) ∧ Aside0 (Kd.R Kd.string 9 wc w.heap.size (fun k_ => some k_ ≠ (v242 : Value).ownBlock) v239 t238) ∧ Aside0 (Kd.R Kd.string 9 wc w.heap.size (fun k_ => some k_ ≠ (v239 : Value).ownBlock) v242 t241) ∧ Aside0 (Below w.heap.size w wc))
   case first =>
    have H := HC7.out
    clear HC7
    by_cases c8 : x7_1 < (t238.length : Int)
    rotate_left
    ·rw [if_neg c8] at H
     have c8b0 : decide (x7_1 < (t238.length : Int)) = false := decide_eq_false c8
     clear c8
     (first | rw [c8b0] | (simp only [i64_w, i32_w]; rw [c8b0]) | skip)
     have H' := zA H
     clear H
     obtain ⟨Ao11, co11, eo11⟩ := Kd.R_slice HO_5.out
     subst eo11; go_wp2
     repeat (go_quiet (fail); try go_wp2)
     go_meet
     case rel => exact ⟨_, (false), (by first | rfl | (simp; done) | (simp [*]; done)), H', ⟨by have := HK1.out; first | omega | exact Nat.le_refl _⟩, ⟨by (with_reducible repeat (first | apply Kd.R_alloc | apply Kd.R_drewN | apply Kd.R_drew)); exact HO_5.out⟩, ⟨by (with_reducible repeat (first | apply Kd.R_alloc | apply Kd.R_drewN | apply Kd.R_drew)); exact HO_6.out⟩, ⟨by repeat (first | (with_reducible first | exact HB.out | apply zL | apply zN | apply zD) | exact HB.out)⟩⟩
    rw [if_pos c8] at H
    have c8b0 : decide (x7_1 < (t238.length : Int)) = true := decide_eq_true c8
    clear c8
    (first | rw [c8b0] | (simp only [i64_w, i32_w]; rw [c8b0]) | skip)
    have H' := zA H
    clear H
    obtain ⟨Ao9, co9, eo9⟩ := Kd.R_slice HO_5.out
    subst eo9
    obtain ⟨Ao10, co10, eo10⟩ := Kd.R_slice HO_6.out
    subst eo10; go_wp2
    repeat (go_quiet (fail); try go_wp2)
    go_meet
    case rel => exact ⟨_, (decide (x7_1 < (t241.length : Int))), (by first | rfl | (simp; done) | (simp [*]; done)), H', ⟨by have := HK1.out; first | omega | exact Nat.le_refl _⟩, ⟨by (with_reducible repeat (first | apply Kd.R_alloc | apply Kd.R_drewN | apply Kd.R_drew)); exact HO_5.out⟩, ⟨by (with_reducible repeat (first | apply Kd.R_alloc | apply Kd.R_drewN | apply Kd.R_drew)); exact HO_6.out⟩, ⟨by repeat (first | (with_reducible first | exact HB.out | apply zL | apply zN | apply zD) | exact HB.out)⟩⟩
   case rest =>
    clear HC7
    try clear p2
    try clear c3
    try clear c8
    try clear c8b0
    try clear p2
    obtain ⟨kq, x22_6, rfl, HA, HJ6, HO_5, HO_6, HB⟩ := hcut
    cases kq with
    | zero => exact absurd HA.out (by simp [copseref02_Cmp.j1])
    | succ kj6 =>
     have H := HA.out
     clear HA
     simp only [copseref02_Cmp.j1] at H
     by_cases c12 : x22_6 = true
     rotate_left
     ·replace c12 := Bool.eq_false_iff.mpr c12
      subst c12
      have H1 : (if (t238.length : Int) < (t241.length : Int) then (some (-1)) else (if (t238.length : Int) > (t241.length : Int) then (some 1) else (some 0))) = some r := by rw [if_neg (show ¬ (false = true) by decide)] at H; exact H
      clear H; have H := H1; clear H1
      by_cases c22 : (t238.length : Int) < (t241.length : Int)
      ·rw [if_pos c22] at H
       have c22b0 : decide ((t238.length : Int) < (t241.length : Int)) = true := decide_eq_true c22
       have c22b1 : decide (t238.length < t241.length) = true := decide_eq_true (Int.ofNat_lt.mp c22)
       clear c22; obtain rfl := Option.some.inj H
       obtain ⟨Ao23, co23, eo23⟩ := Kd.R_slice HO_5.out
       subst eo23
       obtain ⟨Ao24, co24, eo24⟩ := Kd.R_slice HO_6.out
       subst eo24; go_wp2
       repeat (go_quiet (fail); try go_wp2)
       go_ret
       exact ⟨by first | rfl | (simp [errW_none, errW_some] <;> rfl) | (simp [*, errW_none, errW_some] <;> rfl), by repeat (first | (with_reducible first | exact HB.out | apply zL | apply zN | apply zD) | exact HB.out)⟩
      rw [if_neg c22] at H
      have c22b0 : decide ((t238.length : Int) < (t241.length : Int)) = false := decide_eq_false c22
      have c22b1 : decide (t238.length < t241.length) = false := decide_eq_false (fun h => c22 (Int.ofNat_lt.mpr h))
      clear c22
      by_cases c25 : (t238.length : Int) > (t241.length : Int)
      ·rw [if_pos c25] at H
       have c25b0 : decide ((t241.length : Int) < (t238.length : Int)) = true := decide_eq_true c25
       have c25b1 : decide (t241.length < t238.length) = true := decide_eq_true (Int.ofNat_lt.mp c25)
       clear c25; obtain rfl := Option.some.inj H
       obtain ⟨Ao26, co26, eo26⟩ := Kd.R_slice HO_5.out
       subst eo26
       obtain ⟨Ao27, co27, eo27⟩ := Kd.R_slice HO_6.out
       subst eo27; go_wp2
       repeat (go_quiet (fail); try go_wp2)
       go_ret
       exact ⟨by first | rfl | (simp [errW_none, errW_some] <;> rfl) | (simp [*, errW_none, errW_some] <;> rfl), by repeat (first | (with_reducible first | exact HB.out | apply zL | apply zN | apply zD) | exact HB.out)⟩
      rw [if_neg c25] at H
      have c25b0 : decide ((t241.length : Int) < (t238.length : Int)) = false := decide_eq_false c25
      have c25b1 : decide (t241.length < t238.length) = false := decide_eq_false (fun h => c25 (Int.ofNat_lt.mpr h))
      clear c25; obtain rfl := Option.some.inj H
      obtain ⟨Ao28, co28, eo28⟩ := Kd.R_slice HO_5.out
      subst eo28
      obtain ⟨Ao29, co29, eo29⟩ := Kd.R_slice HO_6.out
      subst eo29; go_wp2
      repeat (go_quiet (fail); try go_wp2)
      go_ret
      exact ⟨by first | rfl | (simp [errW_none, errW_some] <;> rfl) | (simp [*, errW_none, errW_some] <;> rfl), by repeat (first | (with_reducible first | exact HB.out | apply zL | apply zN | apply zD) | exact HB.out)⟩
     subst c12
     have H1 : (if 0 ≤ x7_1 then (if x7_1 < (t238.length : Int) then (if x7_1 < (t241.length : Int) then ((copseref02_bytes.f kj6 (rdOf ByteArray.empty t238 x7_1) (rdOf ByteArray.empty t241 x7_1)).bind fun t246 => (if t246 = 0 then (copseref02_Cmp.l0 kj6 t238 t241 (wrap64 (x7_1 + 1))) else (some t246))) else (none)) else (none)) else (none)) = some r := by rw [if_pos rfl] at H; exact H
     clear H; have H := H1; clear H1
     by_cases c13 : 0 ≤ x7_1
     rotate_left
     ·rw [if_neg c13] at H
      exact absurd H (by simp)
     rw [if_pos c13] at H
     have c13b0 : decide (0 ≤ x7_1) = true := decide_eq_true c13
     clear c13
     by_cases c14 : x7_1 < (t238.length : Int)
     rotate_left
     ·rw [if_neg c14] at H
      exact absurd H (by simp)
     rw [if_pos c14] at H
     have c14b0 : decide (x7_1 < (t238.length : Int)) = true := decide_eq_true c14
     clear c14
     by_cases c15 : x7_1 < (t241.length : Int)
     rotate_left
     ·rw [if_neg c15] at H
      exact absurd H (by simp)
     rw [if_pos c15] at H
     have c15b0 : decide (x7_1 < (t241.length : Int)) = true := decide_eq_true c15
     clear c15; replace H := Option.bind_eq_some_iff.mp H; obtain ⟨t246, A160, H⟩ := H
     replace H : (if t246 = 0 then (copseref02_Cmp.l0 kj6 t238 t241 (wrap64 (x7_1 + 1))) else (some t246)) = some r := H
     have A16 := zA A160; clear A160
     by_cases c17 : t246 = 0
     rotate_left
     ·rw [if_neg c17] at H
      have c17b0 : (t246 == 0) = false := beq_eq_false_iff_ne.mpr c17
      have c17b1 : (t246 != 0) = true := bne_iff_ne.mpr c17
      obtain rfl := Option.some.inj H
      obtain ⟨Ao20, co20, eo20⟩ := Kd.R_slice HO_5.out
      subst eo20
      have p244 : 0 ≤ (x7_1 : Int) := zO (by first | (with_reducible assumption) | assumption)
      have q244 : x7_1 < (t238.length : Int) := zO (by first | (with_reducible assumption) | assumption)
      obtain ⟨ad244, e244, hx244_0⟩ := Kd.at_string (Kd.R_reads' HO_5.out).2.2 x7_1 p244 q244
      cases e244
      replace p244 := eq_true p244
      replace q244 := eq_true q244
      obtain ⟨Ao21, co21, eo21⟩ := Kd.R_slice HO_6.out
      subst eo21
      have p245 : 0 ≤ (x7_1 : Int) := zO (by first | (with_reducible assumption) | assumption)
      have q245 : x7_1 < (t241.length : Int) := zO (by first | (with_reducible assumption) | assumption)
      obtain ⟨ad245, e245, hx245_0⟩ := Kd.at_string (Kd.R_reads' HO_6.out).2.2 x7_1 p245 q245
      cases e245
      replace p245 := eq_true p245
      replace q245 := eq_true q245
      go_wp2_with (first | (go_at_call 58; (with_reducible refine (copseref02_bytes.calls kj6 (rdOf ByteArray.empty t238 x7_1) (rdOf ByteArray.empty t241 x7_1) t246 _ A16.out).mono ?_); rintro e w' ⟨rfl, ⟨nd, rfl⟩⟩; (try first | exact ⟨rfl, _, World.drewN_drewN _ _ _⟩ | exact ⟨rfl, _, Eq.trans (World.drewN_drewN _ _ _) (congrArg (World.drewN _) (Nat.add_assoc _ _ _))⟩)))
      repeat (go_quiet (first | (go_at_call 58; (with_reducible refine (copseref02_bytes.calls kj6 (rdOf ByteArray.empty t238 x7_1) (rdOf ByteArray.empty t241 x7_1) t246 _ A16.out).mono ?_); rintro e w' ⟨rfl, ⟨nd, rfl⟩⟩; (try first | exact ⟨rfl, _, World.drewN_drewN _ _ _⟩ | exact ⟨rfl, _, Eq.trans (World.drewN_drewN _ _ _) (congrArg (World.drewN _) (Nat.add_assoc _ _ _))⟩))); try go_wp2_with (first | (go_at_call 58; (with_reducible refine (copseref02_bytes.calls kj6 (rdOf ByteArray.empty t238 x7_1) (rdOf ByteArray.empty t241 x7_1) t246 _ A16.out).mono ?_); rintro e w' ⟨rfl, ⟨nd, rfl⟩⟩; (try first | exact ⟨rfl, _, World.drewN_drewN _ _ _⟩ | exact ⟨rfl, _, Eq.trans (World.drewN_drewN _ _ _) (congrArg (World.drewN _) (Nat.add_assoc _ _ _))⟩))))
      go_ret
      exact ⟨by first | rfl | (simp [errW_none, errW_some] <;> rfl) | (simp [*, errW_none, errW_some] <;> rfl), by repeat (first | (with_reducible first | exact HB.out | apply zL | apply zN | apply zD) | exact HB.out)⟩
     rw [if_pos c17] at H
     have c17b0 : (t246 == 0) = true := beq_iff_eq.mpr c17
     have c17b1 : (t246 != 0) = false := bne_eq_false_iff_eq.mpr c17
     clear c17
     have H' := zA H
     clear H
     obtain ⟨Ao18, co18, eo18⟩ := Kd.R_slice HO_5.out
     subst eo18
     have p244 : 0 ≤ (x7_1 : Int) := zO (by first | (with_reducible assumption) | assumption)
     have q244 : x7_1 < (t238.length : Int) := zO (by first | (with_reducible assumption) | assumption)
     obtain ⟨ad244, e244, hx244_0⟩ := Kd.at_string (Kd.R_reads' HO_5.out).2.2 x7_1 p244 q244
     cases e244
     replace p244 := eq_true p244
     replace q244 := eq_true q244
     obtain ⟨Ao19, co19, eo19⟩ := Kd.R_slice HO_6.out
     subst eo19
     have p245 : 0 ≤ (x7_1 : Int) := zO (by first | (with_reducible assumption) | assumption)
     have q245 : x7_1 < (t241.length : Int) := zO (by first | (with_reducible assumption) | assumption)
     obtain ⟨ad245, e245, hx245_0⟩ := Kd.at_string (Kd.R_reads' HO_6.out).2.2 x7_1 p245 q245
     cases e245
     replace p245 := eq_true p245
     replace q245 := eq_true q245
     go_wp2_with (first | (go_at_call 58; (with_reducible refine (copseref02_bytes.calls kj6 (rdOf ByteArray.empty t238 x7_1) (rdOf ByteArray.empty t241 x7_1) t246 _ A16.out).mono ?_); rintro e w' ⟨rfl, ⟨nd, rfl⟩⟩; (try first | exact ⟨rfl, _, World.drewN_drewN _ _ _⟩ | exact ⟨rfl, _, Eq.trans (World.drewN_drewN _ _ _) (congrArg (World.drewN _) (Nat.add_assoc _ _ _))⟩)))
     repeat (go_quiet (first | (go_at_call 58; (with_reducible refine (copseref02_bytes.calls kj6 (rdOf ByteArray.empty t238 x7_1) (rdOf ByteArray.empty t241 x7_1) t246 _ A16.out).mono ?_); rintro e w' ⟨rfl, ⟨nd, rfl⟩⟩; (try first | exact ⟨rfl, _, World.drewN_drewN _ _ _⟩ | exact ⟨rfl, _, Eq.trans (World.drewN_drewN _ _ _) (congrArg (World.drewN _) (Nat.add_assoc _ _ _))⟩))); try go_wp2_with (first | (go_at_call 58; (with_reducible refine (copseref02_bytes.calls kj6 (rdOf ByteArray.empty t238 x7_1) (rdOf ByteArray.empty t241 x7_1) t246 _ A16.out).mono ?_); rintro e w' ⟨rfl, ⟨nd, rfl⟩⟩; (try first | exact ⟨rfl, _, World.drewN_drewN _ _ _⟩ | exact ⟨rfl, _, Eq.trans (World.drewN_drewN _ _ _) (congrArg (World.drewN _) (Nat.add_assoc _ _ _))⟩))))
     go_roundg kj6
     case measure => have := HK1.out; have := HJ6.out; omega
     case rel => exact ⟨(wrap64 (x7_1 + 1)), (by first | rfl | (simp; done) | (simp [*]; done)), H', ⟨by have := HK1.out; have := HJ6.out; omega⟩, ⟨by (with_reducible repeat (first | apply Kd.R_alloc | apply Kd.R_drewN | apply Kd.R_drew)); exact HO_5.out⟩, ⟨by (with_reducible repeat (first | apply Kd.R_alloc | apply Kd.R_drewN | apply Kd.R_drew)); exact HO_6.out⟩, ⟨by repeat (first | (with_reducible first | exact HB.out | apply zL | apply zN | apply zD) | exact HB.out)⟩⟩
end Go.Proofs.YtnfolcefjkannaaDoor.G
