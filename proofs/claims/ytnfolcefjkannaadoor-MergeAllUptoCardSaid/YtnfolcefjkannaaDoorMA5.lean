/- This session's texts, joined by a program of this session's: contracts of functions, printed and typed, and plain laws; what nothing needs is left out. -/
import Derived.Test.YtnfolcefjkannaaDoorMA4
set_option linter.unusedVariables false
set_option linter.unusedSectionVars false
set_option linter.unusedSimpArgs false
namespace Go.Proofs.YtnfolcefjkannaaDoor.G
open Go.RowKit Go.Proofs.YtnfolcefjkannaaDoorW.PrintWords Go.Proofs.YtnfolcefjkannaaDoorW.PrintLast Go.Proofs.YtnfolcefjkannaaDoorW.PrintMore
attribute [local go_sem] max2_int min2_int max_two min_two max_three min_three max_four min_four
set_option linter.unusedVariables false
set_option linter.unusedSimpArgs false
def copseref02_text.l0 : Nat → List ByteArray → ByteArray → Int → Option (ByteArray)
 | 0, _, _, _ => none
 | k + 1, x0, x3, x4 => if x4 < (x0.length : Int) then (if x4 > 0 then (if x3.size + 1 ≤ 9223372036854775807 then (if 0 ≤ x4 then (if (x3 ++ (⟨#[47]⟩ : ByteArray)).size + (rdOf ByteArray.empty x0 x4).size ≤ 9223372036854775807 then (copseref02_text.l0 k x0 ((x3 ++ (⟨#[47]⟩ : ByteArray)) ++ (rdOf ByteArray.empty x0 x4)) (wrap64 (x4 + 1))) else (none)) else (none)) else (none)) else (if 0 ≤ x4 then (if x3.size + (rdOf ByteArray.empty x0 x4).size ≤ 9223372036854775807 then (copseref02_text.l0 k x0 (x3 ++ (rdOf ByteArray.empty x0 x4)) (wrap64 (x4 + 1))) else (none)) else (none))) else (some x3)
def copseref02_text.f (k : Nat) (l0 : List ByteArray) : Option (ByteArray) := copseref02_text.l0 k l0 (⟨#[]⟩ : ByteArray) 0
set_option maxHeartbeats 8000000 in
set_option maxRecDepth 100000 in
theorem copseref02_text.calls (k : Nat) (A0 : Option Addr) (c0 : Nat) (l0 : List ByteArray) (r : ByteArray) (w : World) (hr0 : Kd.C Kd.string w A0 l0.length l0) (hc0 : l0.length ≤ c0) (h : copseref02_text.f k l0 = some r) :
  Calls Tryd.prog 41 #[.slice A0 l0.length c0] w fun e w' => e = .returned (.string r) ∧ Drawn0 w w' := by
 have HR0 := zA hr0; have HC0 := zA hc0; clear hr0 hc0
 have H : (copseref02_text.l0 k l0 (⟨#[]⟩ : ByteArray) 0) = some r := h
 clear h
 have H' := zA H
 clear H
 go_enter Tryd.func41, Tryd.ntmps41
 go_wp2
 go_loopg [3, 4] k (fun kq v3 v4 w' => ∃ (x3_1 : ByteArray) (x4_1 : Int), v3 = .string x3_1 ∧ v4 = .int .i64 x4_1 ∧ Aside0 (copseref02_text.l0 kq l0 x3_1 x4_1 = some r) ∧ Aside0 (kq ≤ k) ∧ Drawn0 w w')
 case atStart => exact ⟨((⟨#[]⟩ : ByteArray)), (0), (by first | rfl | (simp; done) | (simp [*]; done)), (by first | rfl | (simp; done) | (simp [*]; done)), H', ⟨Nat.le_refl _⟩, by repeat (first | exact Drawn0.refl _ | apply Drawn0.step)⟩
 case round =>
  clear H'; obtain ⟨x3_1, x4_1, rfl, rfl, HA, HK1, ⟨m1, rfl⟩⟩ := hrel
  cases gk with
  | zero => exact absurd HA.out (by simp [copseref02_text.l0])
  | succ k1 =>
   have H := HA.out
   clear HA
   simp only [copseref02_text.l0] at H
   by_cases c2 : x4_1 < (l0.length : Int)
   rotate_left
   ·rw [if_neg c2] at H
    have c2b0 : decide (x4_1 < (l0.length : Int)) = false := decide_eq_false c2
    clear c2; obtain rfl := Option.some.inj H; go_wp2; go_ret
    exact ⟨by first | rfl | (simp; done) | (simp [*]; done), by repeat (first | exact Drawn0.refl _ | apply Drawn0.step)⟩
   rw [if_pos c2] at H
   have c2b0 : decide (x4_1 < (l0.length : Int)) = true := decide_eq_true c2
   clear c2
   by_cases c3 : x4_1 > 0
   rotate_left
   ·rw [if_neg c3] at H
    have c3b0 : decide (0 < x4_1) = false := decide_eq_false c3
    clear c3
    by_cases c7 : 0 ≤ x4_1
    rotate_left
    ·rw [if_neg c7] at H
     exact absurd H (by simp)
    rw [if_pos c7] at H
    have c7b0 : decide (0 ≤ x4_1) = true := decide_eq_true c7
    clear c7
    by_cases c8 : x3_1.size + (rdOf ByteArray.empty l0 x4_1).size ≤ 9223372036854775807
    rotate_left
    ·rw [if_neg c8] at H
     exact absurd H (by simp)
    rw [if_pos c8] at H
    have c8b0 := eq_true c8
    have c8b1 : decide (x3_1.size + (rdOf ByteArray.empty l0 x4_1).size ≤ 9223372036854775807) = true := decide_eq_true c8
    try have c8b2 : (9223372036854775807 < x3_1.size + (rdOf ByteArray.empty l0 x4_1).size) = False := eq_false (Nat.not_lt.2 c8)
    have H' := zA H
    clear H
    have p297 : 0 ≤ (x4_1 : Int) := zO (by first | (with_reducible assumption) | assumption)
    have q297 : x4_1 < (l0.length : Int) := zO (by first | (with_reducible assumption) | assumption)
    obtain ⟨ad297, e297, hx297_0⟩ := Kd.at_string HR0.out x4_1 p297 q297
    cases e297
    replace p297 := eq_true p297
    replace q297 := eq_true q297
    go_wp2
    go_roundg k1
    case measure => have := HK1.out; omega
    case rel => exact ⟨(x3_1 ++ (rdOf ByteArray.empty l0 x4_1)), (wrap64 (x4_1 + 1)), (by first | rfl | (simp; done) | (simp [*]; done)), (by first | rfl | (simp; done) | (simp [*]; done)), H', ⟨by have := HK1.out; omega⟩, by repeat (first | exact Drawn0.refl _ | apply Drawn0.step)⟩
   rw [if_pos c3] at H
   have c3b0 : decide (0 < x4_1) = true := decide_eq_true c3
   clear c3
   by_cases c4 : x3_1.size + 1 ≤ 9223372036854775807
   rotate_left
   ·rw [if_neg c4] at H
    exact absurd H (by simp)
   rw [if_pos c4] at H
   have c4b0 := eq_true c4
   have c4b1 : decide (x3_1.size + 1 ≤ 9223372036854775807) = true := decide_eq_true c4
   try have c4b2 : (9223372036854775807 < x3_1.size + 1) = False := eq_false (Nat.not_lt.2 c4)
   by_cases c5 : 0 ≤ x4_1
   rotate_left
   ·rw [if_neg c5] at H
    exact absurd H (by simp)
   rw [if_pos c5] at H
   have c5b0 : decide (0 ≤ x4_1) = true := decide_eq_true c5
   clear c5
   by_cases c6 : (x3_1 ++ (⟨#[47]⟩ : ByteArray)).size + (rdOf ByteArray.empty l0 x4_1).size ≤ 9223372036854775807
   rotate_left
   ·rw [if_neg c6] at H
    exact absurd H (by simp)
   rw [if_pos c6] at H
   have c6b0 := eq_true c6
   have c6b1 : decide ((x3_1 ++ (⟨#[47]⟩ : ByteArray)).size + (rdOf ByteArray.empty l0 x4_1).size ≤ 9223372036854775807) = true := decide_eq_true c6
   try have c6b2 : (9223372036854775807 < (x3_1 ++ (⟨#[47]⟩ : ByteArray)).size + (rdOf ByteArray.empty l0 x4_1).size) = False := eq_false (Nat.not_lt.2 c6)
   have H' := zA H
   clear H
   have p296 : 0 ≤ (x4_1 : Int) := zO (by first | (with_reducible assumption) | assumption)
   have q296 : x4_1 < (l0.length : Int) := zO (by first | (with_reducible assumption) | assumption)
   obtain ⟨ad296, e296, hx296_0⟩ := Kd.at_string HR0.out x4_1 p296 q296
   cases e296
   replace p296 := eq_true p296
   replace q296 := eq_true q296
   go_wp2
   go_roundg k1
   case measure => have := HK1.out; omega
   case rel => exact ⟨((x3_1 ++ (⟨#[47]⟩ : ByteArray)) ++ (rdOf ByteArray.empty l0 x4_1)), (wrap64 (x4_1 + 1)), (by first | rfl | (simp; done) | (simp [*]; done)), (by first | rfl | (simp; done) | (simp [*]; done)), H', ⟨by have := HK1.out; omega⟩, by repeat (first | exact Drawn0.refl _ | apply Drawn0.step)⟩
def copseref02_Common.f (k : Nat) (a0 : ByteArray) (a1 : ByteArray) : Option (ByteArray) := (copseref02_Split.f k a0).bind fun t298 => ((copseref02_Split.f k a1).bind fun t301 => ((copseref02_shared.f k t298 t301).bind fun t304 => (if 0 ≤ t304 then (if t304 ≤ (t298.length : Int) then ((copseref02_text.f k (t298.take (t304 : Int).toNat)).bind fun t309 => (some t309)) else (none)) else (none))))
set_option maxHeartbeats 8000000 in
set_option maxRecDepth 100000 in
theorem copseref02_Common.calls (k : Nat) (a0 : ByteArray) (a1 : ByteArray) (r : ByteArray) (w : World) (h : copseref02_Common.f k a0 a1 = some r) :
  Calls Tryd.prog 22 #[.string a0, .string a1] w fun e w' => e = .returned (.string r) ∧ Below w.heap.size w w' := by
 have HB := zA (Below.refl w.heap.size w)
 have H : ((copseref02_Split.f k a0).bind fun t298 => ((copseref02_Split.f k a1).bind fun t301 => ((copseref02_shared.f k t298 t301).bind fun t304 => (if 0 ≤ t304 then (if t304 ≤ (t298.length : Int) then ((copseref02_text.f k (t298.take (t304 : Int).toNat)).bind fun t309 => (some t309)) else (none)) else (none))))) = some r := h
 clear h; replace H := Option.bind_eq_some_iff.mp H; obtain ⟨t298, A30, H⟩ := H
 replace H : ((copseref02_Split.f k a1).bind fun t301 => ((copseref02_shared.f k t298 t301).bind fun t304 => (if 0 ≤ t304 then (if t304 ≤ (t298.length : Int) then ((copseref02_text.f k (t298.take (t304 : Int).toNat)).bind fun t309 => (some t309)) else (none)) else (none)))) = some r := H
 have A3 := zA A30; clear A30; replace H := Option.bind_eq_some_iff.mp H; obtain ⟨t301, A40, H⟩ := H
 replace H : ((copseref02_shared.f k t298 t301).bind fun t304 => (if 0 ≤ t304 then (if t304 ≤ (t298.length : Int) then ((copseref02_text.f k (t298.take (t304 : Int).toNat)).bind fun t309 => (some t309)) else (none)) else (none))) = some r := H
 have A4 := zA A40; clear A40; replace H := Option.bind_eq_some_iff.mp H; obtain ⟨t304, A50, H⟩ := H
 replace H : (if 0 ≤ t304 then (if t304 ≤ (t298.length : Int) then ((copseref02_text.f k (t298.take (t304 : Int).toNat)).bind fun t309 => (some t309)) else (none)) else (none)) = some r := H
 have A5 := zA A50; clear A50
 by_cases c6 : 0 ≤ t304
 rotate_left
 ·rw [if_neg c6] at H
  exact absurd H (by simp)
 rw [if_pos c6] at H
 have c6b0 := eq_true c6
 have c6b1 : decide (0 ≤ t304) = true := decide_eq_true c6
 clear c6
 by_cases c7 : t304 ≤ (t298.length : Int)
 rotate_left
 ·rw [if_neg c7] at H
  exact absurd H (by simp)
 rw [if_pos c7] at H
 have c7b0 := eq_true c7
 have c7b1 : decide (t304 ≤ (t298.length : Int)) = true := decide_eq_true c7
 clear c7
 obtain ⟨y305, hy305⟩ : ∃ y_ : List ByteArray, y_ = (t298.take (t304 : Int).toNat) := ⟨_, rfl⟩
 replace H : ((copseref02_text.f k y305).bind fun t309 => (some t309)) = some r := by first | (rw [hy305]; with_reducible exact H) | (have H2_ := (Option.bind_some _ _).symm.trans H; rw [hy305]; with_reducible exact H2_) | (have H2_ := (Option.bind_some _ _).symm.trans H; with_reducible exact H2_) | with_reducible exact H | (rw [hy305]; exact H) | exact H
 have Ny305 := zA hy305; clear hy305; replace H := Option.bind_eq_some_iff.mp H; obtain ⟨t309, A80, H⟩ := H
 replace H : (some t309) = some r := H
 have A8 := zA A80; clear A80; obtain rfl := Option.some.inj H
 go_enter Tryd.func22, Tryd.ntmps22
 go_wp2_with (first | ((with_reducible refine gate_callee (f := 40) rfl ?_); refine goesL_ (some 7) rfl rfl Tryd.func40 (by kernel_rfl) rfl #[.string a0] rfl (by (try simp only [List.map_toArray, List.map_cons, List.map_nil]); first | done | rfl | (simp only [List.length_drop, List.length_take]; rfl)) ?_; (with_reducible refine (copseref02_Split.calls k a0 t298 _ A3.out).mono ?_); rintro e w9 ⟨v299, rfl, ho0, hb⟩; refine ⟨_, rfl, ?_⟩; have n0_ := zA (Kd.R_lower ho0 (below_size (by repeat (first | (with_reducible first | exact HB.out | apply zL | apply zN | apply zD) | exact HB.out)))); have n1_ := zA (below_step (by repeat (first | (with_reducible first | exact HB.out | apply zL | apply zN | apply zD) | exact HB.out)) hb); clear HB; have HO300 := n0_; have HB := n1_; clear n0_ n1_; (try clear hb); (try clear hb2); (try clear hk); (try clear hi); (try clear ho0)) | ((with_reducible refine gate_callee (f := 40) rfl ?_); refine goesL_ (some 11) rfl rfl Tryd.func40 (by kernel_rfl) rfl #[.string a1] rfl (by (try simp only [List.map_toArray, List.map_cons, List.map_nil]); first | done | rfl | (simp only [List.length_drop, List.length_take]; rfl)) ?_; (with_reducible refine (copseref02_Split.calls k a1 t301 _ A4.out).mono ?_); rintro e w10 ⟨v302, rfl, ho0, hb⟩; refine ⟨_, rfl, ?_⟩; have n0_ := zA (Kd.R_elder' (by (with_reducible repeat (first | apply Kd.R_alloc | apply Kd.R_drewN | apply Kd.R_drew)); exact HO300.out) (Kd.R_base ho0) hb); have n1_ := zA (Kd.R_lower (Kd.R_new' ho0 (Kd.R_lt (by (with_reducible repeat (first | apply Kd.R_alloc | apply Kd.R_drewN | apply Kd.R_drew)); exact HO300.out))) (below_size (by repeat (first | (with_reducible first | exact HB.out | apply zL | apply zN | apply zD) | exact HB.out)))); have n2_ := zA (below_step (by repeat (first | (with_reducible first | exact HB.out | apply zL | apply zN | apply zD) | exact HB.out)) hb); clear HO300; clear HB; have HO300 := n0_; have HO303 := n1_; have HB := n2_; clear n0_ n1_ n2_; (try clear hb); (try clear hb2); (try clear hk); (try clear hi); (try clear ho0); obtain ⟨Ao11, co11, eo11⟩ := Kd.R_slice HO300.out; subst eo11; obtain ⟨Ao12, co12, eo12⟩ := Kd.R_slice HO303.out; subst eo12) | ((with_reducible refine gate_callee (f := 42) rfl ?_); refine goesL_ (some 12) rfl rfl Tryd.func42 (by kernel_rfl) rfl #[.slice Ao11 t298.length co11, .slice Ao12 t301.length co12] rfl (by (try simp only [List.map_toArray, List.map_cons, List.map_nil]); first | done | rfl | (simp only [List.length_drop, List.length_take]; rfl)) ?_; (with_reducible refine (copseref02_shared.calls k _ _ t298 _ _ t301 t304 _ ?side1 ?side2 ?side3 ?side4 A5.out).mono ?_); (case side1 => repeat (first | exact (Kd.R_reads' HO300.out).2.2 | (with_reducible refine Kd.C_alloc ?_ _) | (with_reducible refine Kd.C_drewN ?_ _) | (with_reducible refine Kd.C_drew ?_))); (case side2 => exact (Kd.R_reads' HO300.out).2.1); (case side3 => repeat (first | exact (Kd.R_reads' HO303.out).2.2 | (with_reducible refine Kd.C_alloc ?_ _) | (with_reducible refine Kd.C_drewN ?_ _) | (with_reducible refine Kd.C_drew ?_))); (case side4 => exact (Kd.R_reads' HO303.out).2.1); rintro e w' ⟨rfl, ⟨nd, rfl⟩⟩; refine ⟨_, rfl, ?_⟩; have q13 : (t304 : Int) ≤ ((t298.length : Int) : Int) := zO (by first | (with_reducible assumption) | assumption); obtain ⟨i013, hi013, _, hsz13, _⟩ := info_parts info9; have hroom13 : t298.length ≤ co11 := (Kd.R_reads' HO300.out).2.1; have hC13 : Kd.C Kd.string _ Ao11 t298.length t298 := (Kd.R_reads' HO300.out).2.2; have hcut13 := cut_to (P := Tryd.prog) 23 9 .i64 Tryd.underlying23 hi013 Ao11 t298.length co11 t304 (zO (by first | (with_reducible assumption) | assumption)) q13 hroom13; have hr13 := Kd.C_take (m := (t304 : Int).toNat) hC13 (by omega); have hy13 : y305.length = (t304 : Int).toNat := (by rw [Ny305.out, List.length_take]; omega); rw [← Ny305.out] at hr13; rw [← hy13] at hcut13; have HR308 := zA hr13; have HC308 := zA (show y305.length ≤ co11 from by omega); clear hr13 hC13 hroom13 hi013 hsz13; have KY13 := zA hy13; clear hy13; have KL13 := zA (show (t304 : Int).toNat ≤ t298.length from by omega); replace q13 := eq_true q13) | ((with_reducible refine gate_callee (f := 41) rfl ?_); refine goesL_ (some 14) rfl rfl Tryd.func41 (by kernel_rfl) rfl #[.slice Ao11 y305.length co11] rfl (by (try simp only [List.map_toArray, List.map_cons, List.map_nil]); first | done | rfl | (simp only [List.length_drop, List.length_take]; rfl)) ?_; (with_reducible refine (copseref02_text.calls k _ _ y305 t309 _ ?side1 ?side2 A8.out).mono ?_); (case side1 => repeat (first | exact (by repeat (first | (with_reducible exact HR308.out) | (with_reducible refine Kd.C_alloc ?_ _) | (with_reducible refine Kd.C_drewN ?_ _) | (with_reducible refine Kd.C_drew ?_) | exact HR308.out)) | (with_reducible refine Kd.C_alloc ?_ _) | (with_reducible refine Kd.C_drewN ?_ _) | (with_reducible refine Kd.C_drew ?_))); (case side2 => exact HC308.out); rintro e w' ⟨rfl, ⟨nd, rfl⟩⟩; refine ⟨_, rfl, ?_⟩))
 go_ret
 exact ⟨by first | rfl | (simp [errW_none, errW_some] <;> rfl) | (simp [*, errW_none, errW_some] <;> rfl), by repeat (first | (with_reducible first | exact HB.out | apply zL | apply zN | apply zD) | exact HB.out)⟩
def copseref16_step.l0 : Nat → List (S45) → List ByteArray → ByteArray → Int → Int → Option (List ByteArray)
 | 0, _, _, _, _, _ => none
 | k + 1, x0, x1, x5, x6, x7 => if (wrap64 (x7 + 1)) < (x1.length : Int) then (if 0 ≤ x7 then (if x7 < (x1.length : Int) then (if 0 ≤ (wrap64 (x7 + 1)) then ((copseref02_Common.f k (rdOf ByteArray.empty x1 x7) (rdOf ByteArray.empty x1 (wrap64 (x7 + 1)))).bind fun t316 => ((copseref16_At.f k x1 t316).bind fun bt317 => ((copseref16_cost.f k x0 bt317.1).bind fun t321 => ((copseref02_Split.f k t316).bind fun t322 => ((copseref02_Split.f k x5).bind fun t325 => (if x7 = 0 then (copseref16_step.l0 k x0 x1 t316 t321 (wrap64 (x7 + 1))) else (if t321 < x6 then (copseref16_step.l0 k x0 x1 t316 t321 (wrap64 (x7 + 1))) else (if t321 = x6 then (if (t322.length : Int) > (t325.length : Int) then (copseref16_step.l0 k x0 x1 t316 t321 (wrap64 (x7 + 1))) else (if (t322.length : Int) = (t325.length : Int) then ((copseref02_Cmp.f k t316 x5).bind fun t328 => (if t328 < 0 then (copseref16_step.l0 k x0 x1 t316 t321 (wrap64 (x7 + 1))) else (copseref16_step.l0 k x0 x1 x5 x6 (wrap64 (x7 + 1))))) else (copseref16_step.l0 k x0 x1 x5 x6 (wrap64 (x7 + 1))))) else (copseref16_step.l0 k x0 x1 x5 x6 (wrap64 (x7 + 1))))))))))) else (none)) else (none)) else (none)) else ((copseref16_At.f k x1 x5).bind fun bt310 => (some bt310.1))
def copseref16_step.f (k : Nat) (l0 : List (S45)) (l1 : List ByteArray) : Option (List ByteArray) := copseref16_step.l0 k l0 l1 (⟨#[]⟩ : ByteArray) 0 0
def copseref16_step.T6 : Bool × List (List Nat × List Nat) := (true, [([], []), ([], []), ([0, 1], [0, 1]), ([2], [2]), ([], []), ([], []), ([5], [5]), ([4, 6], [4, 6]), ([7], [7]), ([3, 8], [3, 8]), ([9, 9, 0, 1, 2, 3, 4, 5, 6, 7, 8, 9], [9])])
def copseref16_step.B6 : List Nat := [0, 0, 3, 7, 0, 0, 32, 112, 240, 511, 1023]
theorem copseref16_step.tab6 : rtab .any (opsOf Tryd.f34 6) = copseref16_step.T6 := by kernel_rfl
theorem copseref16_step.bits6 : waitsOk copseref16_step.T6.2 copseref16_step.B6 = true := by kernel_rfl
set_option maxHeartbeats 8000000 in
set_option maxRecDepth 100000 in
theorem copseref16_step.calls (k : Nat) (A0 : Option Addr) (c0 : Nat) (l0 : List (S45)) (A1 : Option Addr) (c1 : Nat) (l1 : List ByteArray) (r : List ByteArray) (w : World) (hr0 : Kd.C k45 w A0 l0.length l0) (hc0 : l0.length ≤ c0) (hr1 : Kd.C Kd.string w A1 l1.length l1) (hc1 : l1.length ≤ c1) (h : copseref16_step.f k l0 l1 = some r) :
  Calls Tryd.prog 34 #[.slice A0 l0.length c0, .slice A1 l1.length c1] w fun e w' => ∃ v0_ : Value, e = .returned (v0_) ∧ Kd.R Kd.string 9 w' w.heap.size (fun _ => True) v0_ r ∧ Below w.heap.size w w' := by
 have HR0 := zA hr0; have HC0 := zA hc0; clear hr0 hc0; have HR1 := zA hr1; have HC1 := zA hc1; clear hr1 hc1
 have HB := zA (Below.refl w.heap.size w)
 have H : (copseref16_step.l0 k l0 l1 (⟨#[]⟩ : ByteArray) 0 0) = some r := h
 clear h
 have H' := zA H
 clear H
 go_enter Tryd.func34, Tryd.ntmps34
 go_wp2
 go_loopg [5, 6, 7] k (fun kq v5 v6 v7 w' => ∃ (x5_1 : ByteArray) (x6_1 : Int) (x7_1 : Int), v5 = .string x5_1 ∧ v6 = .int .i64 x6_1 ∧ v7 = .int .i64 x7_1 ∧ Aside0 (copseref16_step.l0 kq l0 l1 x5_1 x6_1 x7_1 = some r) ∧ Aside0 (kq ≤ k) ∧ Aside0 (Below w.heap.size w w'))
 case atStart => exact ⟨((⟨#[]⟩ : ByteArray)), (0), (0), (by first | rfl | (simp; done) | (simp [*]; done)), (by first | rfl | (simp; done) | (simp [*]; done)), (by first | rfl | (simp; done) | (simp [*]; done)), H', ⟨Nat.le_refl _⟩, ⟨by repeat (first | (with_reducible first | exact HB.out | apply zL | apply zN | apply zD) | exact HB.out)⟩⟩
 case round =>
  clear H'
  try clear c1
  try clear p2
  obtain ⟨x5_1, x6_1, x7_1, rfl, rfl, rfl, HA, HK1, HB⟩ := hrel
  cases gk with
  | zero => exact absurd HA.out (by simp [copseref16_step.l0])
  | succ k1 =>
   have H := HA.out
   clear HA
   simp only [copseref16_step.l0] at H
   by_cases c3 : (wrap64 (x7_1 + 1)) < (l1.length : Int)
   rotate_left
   ·rw [if_neg c3] at H
    have c3b0 : decide ((wrap64 (x7_1 + 1)) < (l1.length : Int)) = false := decide_eq_false c3
    clear c3; replace H := Option.bind_eq_some_iff.mp H; obtain ⟨⟨t310, t311⟩, A850, H⟩ := H
    replace H : (some t310) = some r := H
    have A85 := zA A850; clear A850; obtain rfl := Option.some.inj H
    go_wp2_with (first | ((with_reducible refine gate_callee (f := 11) rfl ?_); refine goesL_ (some 81) rfl rfl Tryd.func11 (by kernel_rfl) rfl #[.slice A1 l1.length c1, .string x5_1] rfl (by (try simp only [List.map_toArray, List.map_cons, List.map_nil]); first | done | rfl | (simp only [List.length_drop, List.length_take]; rfl)) ?_; (with_reducible refine (copseref16_At.calls k1 _ _ l1 x5_1 t310 t311 _ ?side1 ?side2 A85.out).mono ?_); (case side1 => repeat (first | exact (Kd.C_below HR1.out HB.out) | (with_reducible refine Kd.C_alloc ?_ _) | (with_reducible refine Kd.C_drewN ?_ _) | (with_reducible refine Kd.C_drew ?_))); (case side2 => exact HC1.out); rintro e w86 ⟨v312, rfl, ho0, hb⟩; refine ⟨_, rfl, ?_⟩; have n0_ := zA (Kd.R_lower ho0 (below_size (by repeat (first | (with_reducible first | exact HB.out | apply zL | apply zN | apply zD) | exact HB.out)))); have n1_ := zA (below_step (by repeat (first | (with_reducible first | exact HB.out | apply zL | apply zN | apply zD) | exact HB.out)) hb); clear HB; have HO313 := n0_; have HB := n1_; clear n0_ n1_; (try clear hb); (try clear hb2); (try clear hk); (try clear hi); (try clear ho0)))
    go_ret
    exact ⟨_, by first | rfl | (simp [errW_none, errW_some] <;> rfl) | (simp [*, errW_none, errW_some] <;> rfl), by (with_reducible repeat (first | apply Kd.R_alloc | apply Kd.R_drewN | apply Kd.R_drew)); exact HO313.out, by repeat (first | (with_reducible first | exact HB.out | apply zL | apply zN | apply zD) | exact HB.out)⟩
   rw [if_pos c3] at H
   have c3b0 : decide ((wrap64 (x7_1 + 1)) < (l1.length : Int)) = true := decide_eq_true c3
   clear c3
   by_cases c4 : 0 ≤ x7_1
   rotate_left
   ·rw [if_neg c4] at H
    exact absurd H (by simp)
   rw [if_pos c4] at H
   have c4b0 : decide (0 ≤ x7_1) = true := decide_eq_true c4
   clear c4
   by_cases c5 : x7_1 < (l1.length : Int)
   rotate_left
   ·rw [if_neg c5] at H
    exact absurd H (by simp)
   rw [if_pos c5] at H
   have c5b0 : decide (x7_1 < (l1.length : Int)) = true := decide_eq_true c5
   clear c5
   obtain ⟨ji6, hji6⟩ : ∃ j_ : Int, (wrap64 (x7_1 + 1)) = j_ := ⟨_, rfl⟩
   replace H : (if 0 ≤ (ji6) then ((copseref02_Common.f k1 (rdOf ByteArray.empty l1 x7_1) (rdOf ByteArray.empty l1 (ji6))).bind fun t316 => ((copseref16_At.f k1 l1 t316).bind fun bt317 => ((copseref16_cost.f k1 l0 bt317.1).bind fun t321 => ((copseref02_Split.f k1 t316).bind fun t322 => ((copseref02_Split.f k1 x5_1).bind fun t325 => (if x7_1 = 0 then (copseref16_step.l0 k1 l0 l1 t316 t321 ji6) else (if t321 < x6_1 then (copseref16_step.l0 k1 l0 l1 t316 t321 ji6) else (if t321 = x6_1 then (if (t322.length : Int) > (t325.length : Int) then (copseref16_step.l0 k1 l0 l1 t316 t321 ji6) else (if (t322.length : Int) = (t325.length : Int) then ((copseref02_Cmp.f k1 t316 x5_1).bind fun t328 => (if t328 < 0 then (copseref16_step.l0 k1 l0 l1 t316 t321 ji6) else (copseref16_step.l0 k1 l0 l1 x5_1 x6_1 ji6))) else (copseref16_step.l0 k1 l0 l1 x5_1 x6_1 ji6))) else (copseref16_step.l0 k1 l0 l1 x5_1 x6_1 ji6))))))))) else (none)) = some r := by first | (rw [hji6] at H; exact H) | (simp only [hji6] at H ⊢; exact H)
   (try rw [hji6] at c3b0)
   have hji6w : (IntKind.i64.wrap (x7_1 + 1)) = ji6 := (i64_w _).trans hji6
   by_cases c7 : 0 ≤ (ji6)
   rotate_left
   ·rw [if_neg c7] at H
    exact absurd H (by simp)
   rw [if_pos c7] at H
   have c7b0 : decide (0 ≤ (ji6)) = true := decide_eq_true c7
   clear c7; replace H := Option.bind_eq_some_iff.mp H; obtain ⟨t316, A80, H⟩ := H
   replace H : ((copseref16_At.f k1 l1 t316).bind fun bt317 => ((copseref16_cost.f k1 l0 bt317.1).bind fun t321 => ((copseref02_Split.f k1 t316).bind fun t322 => ((copseref02_Split.f k1 x5_1).bind fun t325 => (if x7_1 = 0 then (copseref16_step.l0 k1 l0 l1 t316 t321 ji6) else (if t321 < x6_1 then (copseref16_step.l0 k1 l0 l1 t316 t321 ji6) else (if t321 = x6_1 then (if (t322.length : Int) > (t325.length : Int) then (copseref16_step.l0 k1 l0 l1 t316 t321 ji6) else (if (t322.length : Int) = (t325.length : Int) then ((copseref02_Cmp.f k1 t316 x5_1).bind fun t328 => (if t328 < 0 then (copseref16_step.l0 k1 l0 l1 t316 t321 ji6) else (copseref16_step.l0 k1 l0 l1 x5_1 x6_1 ji6))) else (copseref16_step.l0 k1 l0 l1 x5_1 x6_1 ji6))) else (copseref16_step.l0 k1 l0 l1 x5_1 x6_1 ji6)))))))) = some r := H
   have A8 := zA A80; clear A80; replace H := Option.bind_eq_some_iff.mp H; obtain ⟨⟨t317, t318⟩, A90, H⟩ := H
   replace H : ((copseref16_cost.f k1 l0 t317).bind fun t321 => ((copseref02_Split.f k1 t316).bind fun t322 => ((copseref02_Split.f k1 x5_1).bind fun t325 => (if x7_1 = 0 then (copseref16_step.l0 k1 l0 l1 t316 t321 ji6) else (if t321 < x6_1 then (copseref16_step.l0 k1 l0 l1 t316 t321 ji6) else (if t321 = x6_1 then (if (t322.length : Int) > (t325.length : Int) then (copseref16_step.l0 k1 l0 l1 t316 t321 ji6) else (if (t322.length : Int) = (t325.length : Int) then ((copseref02_Cmp.f k1 t316 x5_1).bind fun t328 => (if t328 < 0 then (copseref16_step.l0 k1 l0 l1 t316 t321 ji6) else (copseref16_step.l0 k1 l0 l1 x5_1 x6_1 ji6))) else (copseref16_step.l0 k1 l0 l1 x5_1 x6_1 ji6))) else (copseref16_step.l0 k1 l0 l1 x5_1 x6_1 ji6))))))) = some r := H
   have A9 := zA A90; clear A90; replace H := Option.bind_eq_some_iff.mp H; obtain ⟨t321, A100, H⟩ := H
   replace H : ((copseref02_Split.f k1 t316).bind fun t322 => ((copseref02_Split.f k1 x5_1).bind fun t325 => (if x7_1 = 0 then (copseref16_step.l0 k1 l0 l1 t316 t321 ji6) else (if t321 < x6_1 then (copseref16_step.l0 k1 l0 l1 t316 t321 ji6) else (if t321 = x6_1 then (if (t322.length : Int) > (t325.length : Int) then (copseref16_step.l0 k1 l0 l1 t316 t321 ji6) else (if (t322.length : Int) = (t325.length : Int) then ((copseref02_Cmp.f k1 t316 x5_1).bind fun t328 => (if t328 < 0 then (copseref16_step.l0 k1 l0 l1 t316 t321 ji6) else (copseref16_step.l0 k1 l0 l1 x5_1 x6_1 ji6))) else (copseref16_step.l0 k1 l0 l1 x5_1 x6_1 ji6))) else (copseref16_step.l0 k1 l0 l1 x5_1 x6_1 ji6)))))) = some r := H
   have A10 := zA A100; clear A100; replace H := Option.bind_eq_some_iff.mp H; obtain ⟨t322, A110, H⟩ := H
   replace H : ((copseref02_Split.f k1 x5_1).bind fun t325 => (if x7_1 = 0 then (copseref16_step.l0 k1 l0 l1 t316 t321 ji6) else (if t321 < x6_1 then (copseref16_step.l0 k1 l0 l1 t316 t321 ji6) else (if t321 = x6_1 then (if (t322.length : Int) > (t325.length : Int) then (copseref16_step.l0 k1 l0 l1 t316 t321 ji6) else (if (t322.length : Int) = (t325.length : Int) then ((copseref02_Cmp.f k1 t316 x5_1).bind fun t328 => (if t328 < 0 then (copseref16_step.l0 k1 l0 l1 t316 t321 ji6) else (copseref16_step.l0 k1 l0 l1 x5_1 x6_1 ji6))) else (copseref16_step.l0 k1 l0 l1 x5_1 x6_1 ji6))) else (copseref16_step.l0 k1 l0 l1 x5_1 x6_1 ji6))))) = some r := H
   have A11 := zA A110; clear A110; replace H := Option.bind_eq_some_iff.mp H; obtain ⟨t325, A120, H⟩ := H
   replace H : (if x7_1 = 0 then (copseref16_step.l0 k1 l0 l1 t316 t321 ji6) else (if t321 < x6_1 then (copseref16_step.l0 k1 l0 l1 t316 t321 ji6) else (if t321 = x6_1 then (if (t322.length : Int) > (t325.length : Int) then (copseref16_step.l0 k1 l0 l1 t316 t321 ji6) else (if (t322.length : Int) = (t325.length : Int) then ((copseref02_Cmp.f k1 t316 x5_1).bind fun t328 => (if t328 < 0 then (copseref16_step.l0 k1 l0 l1 t316 t321 ji6) else (copseref16_step.l0 k1 l0 l1 x5_1 x6_1 ji6))) else (copseref16_step.l0 k1 l0 l1 x5_1 x6_1 ji6))) else (copseref16_step.l0 k1 l0 l1 x5_1 x6_1 ji6)))) = some r := H
   have A12 := zA A120; clear A120
   by_cases c13 : x7_1 = 0
   ·rw [if_pos c13] at H
    have c13b0 : (x7_1 == 0) = true := beq_iff_eq.mpr c13
    have c13b1 : (x7_1 != 0) = false := bne_eq_false_iff_eq.mpr c13
    clear c13
    have H' := zA H
    clear H
    try go_wp2
    have n0_ := zA (zD HB.out)
    clear HB; have HB := n0_; clear n0_
    have p314 : 0 ≤ (x7_1 : Int) := zO (by first | (with_reducible assumption) | assumption)
    have q314 : x7_1 < (l1.length : Int) := zO (by first | (with_reducible assumption) | assumption)
    obtain ⟨ad314, e314, hx314_0⟩ := Kd.at_string HR1.out x7_1 p314 q314
    have hw314_0 := hx314_0
    cases e314
    replace hx314_0 := (HB.out.cell (zB w _ hx314_0)).trans hx314_0
    replace p314 := eq_true p314
    replace q314 := eq_true q314
    have p315 : 0 ≤ ((ji6) : Int) := zO (by first | (with_reducible assumption) | assumption)
    have q315 : (ji6) < (l1.length : Int) := zO (by first | (with_reducible assumption) | assumption)
    obtain ⟨ad315, e315, hx315_0⟩ := Kd.at_string HR1.out (ji6) p315 q315
    have hw315_0 := hx315_0
    obtain rfl : ad314 = ad315 := (by injection e315)
    replace hx315_0 := (HB.out.cell (zB w _ hx315_0)).trans hx315_0
    replace p315 := eq_true p315
    replace q315 := eq_true q315
    refine start_ (n := 11) (S := fun w' => w'.cell? (ad314.add (x7_1).toNat) = some (.string (rdOf ByteArray.empty l1 x7_1)) ∧ w'.cell? (ad314.add ((ji6)).toNat) = some (.string (rdOf ByteArray.empty l1 (ji6)))) (ds := []) #[F, F, F, F, F, F, F, F, F, F, F] (by kernel_rfl) rfl rfl ⟨((HB.out.cell (zB w _ hw314_0)).trans hw314_0), ((HB.out.cell (zB w _ hw315_0)).trans hw315_0)⟩ (fun hHeld => ?_); refine with_tabW copseref16_step.tab6 copseref16_step.bits6 (fun HT_ HW_ => ?_)
    generalize wr.drew = w14 at HB hx314_0 hx315_0 hHeld ⊢
    refine pure_ (i := 0) (N := some 23) (v := ?_) (a' := ?_) #[T, F, F, F, F, F, F, F, F, F, F] rfl rfl (any_of HT_.out (by kernel_rfl)) (fun _ _ _ h => h) (Or.inl ⟨by rfl, ?_⟩) ?_ ?_
    rotate_left
    ·intro w'; go_simp; with_reducible rfl
    rotate_left
    ·simp only [Act.put, zS, zZ, zC, i64_w, i32_w]
     rfl
    refine pure_ (i := 1) (N := some 24) (v := ?_) (a' := ?_) #[T, T, F, F, F, F, F, F, F, F, F] rfl rfl (any_of HT_.out (by kernel_rfl)) (fun _ _ _ h => h) (Or.inl ⟨by rfl, ?_⟩) ?_ ?_
    rotate_left
    ·intro w'; go_simp; with_reducible rfl
    rotate_left
    ·simp only [Act.put, zS, zZ, zC, i64_w, i32_w]
     rfl
    refine pure_ (i := 2) (N := some 25) (v := ?_) (a' := ?_) #[T, T, T, F, F, F, F, F, F, F, F] rfl rfl (any_of HT_.out (by kernel_rfl)) (fun _ _ _ h => h) (Or.inl ⟨by rfl, ?_⟩) ?_ ?_
    rotate_left
    ·intro w'; go_simp; with_reducible rfl
    rotate_left
    ·simp only [Act.put, zS, zZ, zC, i64_w, i32_w]
     rfl
    refine pure_ (i := 4) (N := some 27) (v := ?_) (a' := ?_) #[T, T, T, F, T, F, F, F, F, F, F] rfl rfl (any_of HT_.out (by kernel_rfl)) (fun _ _ _ h => h) (Or.inl ⟨by rfl, ?_⟩) ?_ ?_
    rotate_left
    ·intro w'; go_simp; with_reducible rfl
    rotate_left
    ·simp only [Act.put, zS, zZ, zC, i64_w, i32_w]
     rfl
    refine pure_ (i := 5) (N := some 28) (v := ?_) (a' := ?_) #[T, T, T, F, T, T, F, F, F, F, F] rfl rfl (any_of HT_.out (by kernel_rfl)) (fun _ _ _ h => h) (Or.inl ⟨by rfl, ?_⟩) ?_ ?_
    rotate_left
    ·intro w'; go_simp; with_reducible rfl
    rotate_left
    ·simp only [Act.put, zS, zZ, zC, i64_w, i32_w]
     rfl
    refine pure_ (i := 6) (N := some 29) (v := ?_) (a' := ?_) #[T, T, T, F, T, T, T, F, F, F, F] rfl rfl (any_of HT_.out (by kernel_rfl)) (fun _ _ _ h => h) (Or.inl ⟨by rfl, ?_⟩) ?_ ?_
    rotate_left
    ·intro w'; go_simp; with_reducible rfl
    rotate_left
    ·simp only [Act.put, zS, zZ, zC, i64_w, i32_w]
     rfl
    refine pure_ (i := 7) (N := some 30) (v := ?_) (a' := ?_) #[T, T, T, F, T, T, T, T, F, F, F] rfl rfl (any_of HT_.out (by kernel_rfl)) (fun _ _ _ h => h) (Or.inl ⟨by rfl, ?_⟩) ?_ ?_
    rotate_left
    ·intro w'; go_simp; with_reducible rfl
    rotate_left
    ·simp only [Act.put, zS, zZ, zC, i64_w, i32_w]
     rfl
    refine take_ (i := 3) (N := some 26) (v := ?_) (a' := ?_) #[T, T, T, T, T, T, T, T, F, F, F] rfl rfl (take_ofW HT_.out HW_.out (by kernel_rfl)) (fun _ _ _ h => h) (Or.inl ⟨by rfl, ?_⟩) hHeld ?_ ?_
    rotate_left
    ·rintro w' ⟨s0, s1⟩
     go_simp; with_reducible rfl
    rotate_left
    ·simp only [Act.put, zS, zZ, zC, i64_w, i32_w]
     rfl
    refine take_ (i := 8) (N := some 31) (v := ?_) (a' := ?_) #[T, T, T, T, T, T, T, T, T, F, F] rfl rfl (take_ofW HT_.out HW_.out (by kernel_rfl)) (fun _ _ _ h => h) (Or.inl ⟨by rfl, ?_⟩) hHeld ?_ ?_
    rotate_left
    ·rintro w' ⟨s0, s1⟩
     go_simp; with_reducible rfl
    rotate_left
    ·simp only [Act.put, zS, zZ, zC, i64_w, i32_w]
     rfl
    refine one_ (i := 9) (N := some 32) #[T, T, T, T, T, T, T, T, T, T, F] rfl rfl (one_of HT_.out (by kernel_rfl)) (by decide) (fun K hK => ?_)
    refine goes_ Tryd.func22 (by kernel_rfl) rfl #[.string (rdOf ByteArray.empty l1 x7_1), .string (rdOf ByteArray.empty l1 (ji6))] (by rfl) rfl rfl (by (try simp only [List.map_toArray, List.map_cons, List.map_nil]); first | done | (simp only [hji6]; rfl) | rfl | (simp only [List.length_drop, List.length_take]; rfl)) ?_
    with_reducible refine (copseref02_Common.calls k1 (rdOf ByteArray.empty l1 x7_1) (rdOf ByteArray.empty l1 (ji6)) t316 _ A8.out).mono ?_
    rintro e w15 ⟨rfl, hb⟩
    refine ⟨_, rfl, ?_⟩
    have n0_ := zA (below_step (by repeat (first | (with_reducible first | exact HB.out | apply zL | apply zN | apply zD) | exact HB.out)) hb)
    clear HB; have HB := n0_; clear n0_
    (try clear hb)
    (try clear hb2)
    (try clear hk)
    (try clear hi)
    refine hK.out _ _ ⟨((HB.out.cell (zB w _ hw314_0)).trans hw314_0), ((HB.out.cell (zB w _ hw315_0)).trans hw315_0)⟩ (fun hHeld => ?_)
    clear hK K
    refine norm_ (a' := ?_) ?_ ?_
    rotate_left
    ·show Act.put _ (some 32) _ = _
     simp only [Act.put, zS, zZ, zC, i64_w, i32_w]
     rfl
    refine pure_ (i := 10) (N := some 8) (v := ?_) (a' := ?_) #[T, T, T, T, T, T, T, T, T, T, T] rfl rfl (any_of HT_.out (by kernel_rfl)) (fun _ _ _ h => h) (Or.inl ⟨by rfl, ?_⟩) ?_ ?_
    rotate_left
    ·intro w'; go_simp; with_reducible rfl
    rotate_left
    ·simp only [Act.put, zS, zZ, zC, i64_w, i32_w]
     rfl
    refine done_ (done_of HT_.out (by kernel_rfl)) ?_
    try go_wp2_with (first | ((with_reducible refine gate_callee (f := 11) rfl ?_); refine goesL_ (some 36) rfl rfl Tryd.func11 (by kernel_rfl) rfl #[.slice (some ad314) l1.length c1, .string t316] rfl (by (try simp only [List.map_toArray, List.map_cons, List.map_nil]); first | done | rfl | (simp only [List.length_drop, List.length_take]; rfl)) ?_; (with_reducible refine (copseref16_At.calls k1 _ _ l1 t316 t317 t318 _ ?side1 ?side2 A9.out).mono ?_); (case side1 => repeat (first | exact (Kd.C_below HR1.out HB.out) | (with_reducible refine Kd.C_alloc ?_ _) | (with_reducible refine Kd.C_drewN ?_ _) | (with_reducible refine Kd.C_drew ?_))); (case side2 => exact HC1.out); rintro e w16 ⟨v319, rfl, ho0, hb⟩; refine ⟨_, rfl, ?_⟩; have n0_ := zA (Kd.R_lower ho0 (below_size (by repeat (first | (with_reducible first | exact HB.out | apply zL | apply zN | apply zD) | exact HB.out)))); have n1_ := zA (below_step (by repeat (first | (with_reducible first | exact HB.out | apply zL | apply zN | apply zD) | exact HB.out)) hb); clear HB; have HO320 := n0_; have HB := n1_; clear n0_ n1_; (try clear hb); (try clear hb2); (try clear hk); (try clear hi); (try clear ho0); obtain ⟨Ao17, co17, eo17⟩ := Kd.R_slice HO320.out; subst eo17) | ((with_reducible refine gate_callee (f := 27) rfl ?_); refine goesL_ (some 41) rfl rfl Tryd.func27 (by kernel_rfl) rfl #[.slice A0 l0.length c0, .slice Ao17 t317.length co17] rfl (by (try simp only [List.map_toArray, List.map_cons, List.map_nil]); first | done | rfl | (simp only [List.length_drop, List.length_take]; rfl)) ?_; (with_reducible refine (copseref16_cost.calls k1 _ _ l0 _ _ t317 t321 _ ?side1 ?side2 ?side3 ?side4 A10.out).mono ?_); (case side1 => repeat (first | exact (Kd.C_below HR0.out HB.out) | (with_reducible refine Kd.C_alloc ?_ _) | (with_reducible refine Kd.C_drewN ?_ _) | (with_reducible refine Kd.C_drew ?_))); (case side2 => exact HC0.out); (case side3 => repeat (first | exact (Kd.R_reads' HO320.out).2.2 | (with_reducible refine Kd.C_alloc ?_ _) | (with_reducible refine Kd.C_drewN ?_ _) | (with_reducible refine Kd.C_drew ?_))); (case side4 => exact (Kd.R_reads' HO320.out).2.1); rintro e w18 ⟨rfl, hb⟩; refine ⟨_, rfl, ?_⟩; have n0_ := zA (Kd.R_below (by (with_reducible repeat (first | apply Kd.R_alloc | apply Kd.R_drewN | apply Kd.R_drew)); exact HO320.out) hb); have n1_ := zA (below_step (by repeat (first | (with_reducible first | exact HB.out | apply zL | apply zN | apply zD) | exact HB.out)) hb); clear HO320; clear HB; have HO320 := n0_; have HB := n1_; clear n0_ n1_; (try clear hb); (try clear hb2); (try clear hk); (try clear hi)) | ((with_reducible refine gate_callee (f := 40) rfl ?_); refine goesL_ (some 43) rfl rfl Tryd.func40 (by kernel_rfl) rfl #[.string t316] rfl (by (try simp only [List.map_toArray, List.map_cons, List.map_nil]); first | done | rfl | (simp only [List.length_drop, List.length_take]; rfl)) ?_; (with_reducible refine (copseref02_Split.calls k1 t316 t322 _ A11.out).mono ?_); rintro e w19 ⟨v323, rfl, ho0, hb⟩; refine ⟨_, rfl, ?_⟩; have n0_ := zA (Kd.R_elder' (by (with_reducible repeat (first | apply Kd.R_alloc | apply Kd.R_drewN | apply Kd.R_drew)); exact HO320.out) (Kd.R_base ho0) hb); have n1_ := zA (Kd.R_lower (Kd.R_new' ho0 (Kd.R_lt (by (with_reducible repeat (first | apply Kd.R_alloc | apply Kd.R_drewN | apply Kd.R_drew)); exact HO320.out))) (below_size (by repeat (first | (with_reducible first | exact HB.out | apply zL | apply zN | apply zD) | exact HB.out)))); have n2_ := zA (below_step (by repeat (first | (with_reducible first | exact HB.out | apply zL | apply zN | apply zD) | exact HB.out)) hb); clear HO320; clear HB; have HO320 := n0_; have HO324 := n1_; have HB := n2_; clear n0_ n1_ n2_; (try clear hb); (try clear hb2); (try clear hk); (try clear hi); (try clear ho0); obtain ⟨Ao20, co20, eo20⟩ := Kd.R_slice HO324.out; subst eo20) | ((with_reducible refine gate_callee (f := 40) rfl ?_); refine goesL_ (some 46) rfl rfl Tryd.func40 (by kernel_rfl) rfl #[.string x5_1] rfl (by (try simp only [List.map_toArray, List.map_cons, List.map_nil]); first | done | rfl | (simp only [List.length_drop, List.length_take]; rfl)) ?_; (with_reducible refine (copseref02_Split.calls k1 x5_1 t325 _ A12.out).mono ?_); rintro e w21 ⟨v326, rfl, ho0, hb⟩; refine ⟨_, rfl, ?_⟩; have n0_ := zA (Kd.R_elder' (by (with_reducible repeat (first | apply Kd.R_alloc | apply Kd.R_drewN | apply Kd.R_drew)); exact HO320.out) (Kd.R_base ho0) hb); have n1_ := zA (Kd.R_elder' (by (with_reducible repeat (first | apply Kd.R_alloc | apply Kd.R_drewN | apply Kd.R_drew)); exact HO324.out) (Kd.R_base ho0) hb); have n2_ := zA (Kd.R_lower (Kd.R_new' (Kd.R_new' ho0 (Kd.R_lt (by (with_reducible repeat (first | apply Kd.R_alloc | apply Kd.R_drewN | apply Kd.R_drew)); exact HO320.out))) (Kd.R_lt (by (with_reducible repeat (first | apply Kd.R_alloc | apply Kd.R_drewN | apply Kd.R_drew)); exact HO324.out))) (below_size (by repeat (first | (with_reducible first | exact HB.out | apply zL | apply zN | apply zD) | exact HB.out)))); have n3_ := zA (below_step (by repeat (first | (with_reducible first | exact HB.out | apply zL | apply zN | apply zD) | exact HB.out)) hb); clear HO320; clear HO324; clear HB; have HO320 := n0_; have HO324 := n1_; have HO327 := n2_; have HB := n3_; clear n0_ n1_ n2_ n3_; (try clear hb); (try clear hb2); (try clear hk); (try clear hi); (try clear ho0); obtain ⟨Ao22, co22, eo22⟩ := Kd.R_slice HO327.out; subst eo22))
    go_roundg k1
    case measure => have := HK1.out; omega
    case rel => exact ⟨(t316), (t321), (ji6), (by first | rfl | (simp; done) | (simp [*]; done)), (by first | rfl | (simp; done) | (simp [*]; done)), (by first | rfl | (simp; done) | (simp only [← hji6] <;> (first | rfl | simp)) | (simp [*]; done)), H', ⟨by have := HK1.out; omega⟩, ⟨by repeat (first | (with_reducible first | exact HB.out | apply zL | apply zN | apply zD) | exact HB.out)⟩⟩
   rw [if_neg c13] at H
   have c13b0 : (x7_1 == 0) = false := beq_eq_false_iff_ne.mpr c13
   have c13b1 : (x7_1 != 0) = true := bne_iff_ne.mpr c13
   by_cases c23 : t321 < x6_1
   ·rw [if_pos c23] at H
    have c23b0 : decide (t321 < x6_1) = true := decide_eq_true c23
    clear c23
    have H' := zA H
    clear H
    try go_wp2
    have n0_ := zA (zD HB.out)
    clear HB; have HB := n0_; clear n0_
    have p314 : 0 ≤ (x7_1 : Int) := zO (by first | (with_reducible assumption) | assumption)
    have q314 : x7_1 < (l1.length : Int) := zO (by first | (with_reducible assumption) | assumption)
    obtain ⟨ad314, e314, hx314_0⟩ := Kd.at_string HR1.out x7_1 p314 q314
    have hw314_0 := hx314_0
    cases e314
    replace hx314_0 := (HB.out.cell (zB w _ hx314_0)).trans hx314_0
    replace p314 := eq_true p314
    replace q314 := eq_true q314
    have p315 : 0 ≤ ((ji6) : Int) := zO (by first | (with_reducible assumption) | assumption)
    have q315 : (ji6) < (l1.length : Int) := zO (by first | (with_reducible assumption) | assumption)
    obtain ⟨ad315, e315, hx315_0⟩ := Kd.at_string HR1.out (ji6) p315 q315
    have hw315_0 := hx315_0
    obtain rfl : ad314 = ad315 := (by injection e315)
    replace hx315_0 := (HB.out.cell (zB w _ hx315_0)).trans hx315_0
    replace p315 := eq_true p315
    replace q315 := eq_true q315
    refine start_ (n := 11) (S := fun w' => w'.cell? (ad314.add (x7_1).toNat) = some (.string (rdOf ByteArray.empty l1 x7_1)) ∧ w'.cell? (ad314.add ((ji6)).toNat) = some (.string (rdOf ByteArray.empty l1 (ji6)))) (ds := []) #[F, F, F, F, F, F, F, F, F, F, F] (by kernel_rfl) rfl rfl ⟨((HB.out.cell (zB w _ hw314_0)).trans hw314_0), ((HB.out.cell (zB w _ hw315_0)).trans hw315_0)⟩ (fun hHeld => ?_); refine with_tabW copseref16_step.tab6 copseref16_step.bits6 (fun HT_ HW_ => ?_)
    generalize wr.drew = w24 at HB hx314_0 hx315_0 hHeld ⊢
    refine pure_ (i := 0) (N := some 23) (v := ?_) (a' := ?_) #[T, F, F, F, F, F, F, F, F, F, F] rfl rfl (any_of HT_.out (by kernel_rfl)) (fun _ _ _ h => h) (Or.inl ⟨by rfl, ?_⟩) ?_ ?_
    rotate_left
    ·intro w'; go_simp; with_reducible rfl
    rotate_left
    ·simp only [Act.put, zS, zZ, zC, i64_w, i32_w]
     rfl
    refine pure_ (i := 1) (N := some 24) (v := ?_) (a' := ?_) #[T, T, F, F, F, F, F, F, F, F, F] rfl rfl (any_of HT_.out (by kernel_rfl)) (fun _ _ _ h => h) (Or.inl ⟨by rfl, ?_⟩) ?_ ?_
    rotate_left
    ·intro w'; go_simp; with_reducible rfl
    rotate_left
    ·simp only [Act.put, zS, zZ, zC, i64_w, i32_w]
     rfl
    refine pure_ (i := 2) (N := some 25) (v := ?_) (a' := ?_) #[T, T, T, F, F, F, F, F, F, F, F] rfl rfl (any_of HT_.out (by kernel_rfl)) (fun _ _ _ h => h) (Or.inl ⟨by rfl, ?_⟩) ?_ ?_
    rotate_left
    ·intro w'; go_simp; with_reducible rfl
    rotate_left
    ·simp only [Act.put, zS, zZ, zC, i64_w, i32_w]
     rfl
    refine pure_ (i := 4) (N := some 27) (v := ?_) (a' := ?_) #[T, T, T, F, T, F, F, F, F, F, F] rfl rfl (any_of HT_.out (by kernel_rfl)) (fun _ _ _ h => h) (Or.inl ⟨by rfl, ?_⟩) ?_ ?_
    rotate_left
    ·intro w'; go_simp; with_reducible rfl
    rotate_left
    ·simp only [Act.put, zS, zZ, zC, i64_w, i32_w]
     rfl
    refine pure_ (i := 5) (N := some 28) (v := ?_) (a' := ?_) #[T, T, T, F, T, T, F, F, F, F, F] rfl rfl (any_of HT_.out (by kernel_rfl)) (fun _ _ _ h => h) (Or.inl ⟨by rfl, ?_⟩) ?_ ?_
    rotate_left
    ·intro w'; go_simp; with_reducible rfl
    rotate_left
    ·simp only [Act.put, zS, zZ, zC, i64_w, i32_w]
     rfl
    refine pure_ (i := 6) (N := some 29) (v := ?_) (a' := ?_) #[T, T, T, F, T, T, T, F, F, F, F] rfl rfl (any_of HT_.out (by kernel_rfl)) (fun _ _ _ h => h) (Or.inl ⟨by rfl, ?_⟩) ?_ ?_
    rotate_left
    ·intro w'; go_simp; with_reducible rfl
    rotate_left
    ·simp only [Act.put, zS, zZ, zC, i64_w, i32_w]
     rfl
    refine pure_ (i := 7) (N := some 30) (v := ?_) (a' := ?_) #[T, T, T, F, T, T, T, T, F, F, F] rfl rfl (any_of HT_.out (by kernel_rfl)) (fun _ _ _ h => h) (Or.inl ⟨by rfl, ?_⟩) ?_ ?_
    rotate_left
    ·intro w'; go_simp; with_reducible rfl
    rotate_left
    ·simp only [Act.put, zS, zZ, zC, i64_w, i32_w]
     rfl
    refine take_ (i := 3) (N := some 26) (v := ?_) (a' := ?_) #[T, T, T, T, T, T, T, T, F, F, F] rfl rfl (take_ofW HT_.out HW_.out (by kernel_rfl)) (fun _ _ _ h => h) (Or.inl ⟨by rfl, ?_⟩) hHeld ?_ ?_
    rotate_left
    ·rintro w' ⟨s0, s1⟩
     go_simp; with_reducible rfl
    rotate_left
    ·simp only [Act.put, zS, zZ, zC, i64_w, i32_w]
     rfl
    refine take_ (i := 8) (N := some 31) (v := ?_) (a' := ?_) #[T, T, T, T, T, T, T, T, T, F, F] rfl rfl (take_ofW HT_.out HW_.out (by kernel_rfl)) (fun _ _ _ h => h) (Or.inl ⟨by rfl, ?_⟩) hHeld ?_ ?_
    rotate_left
    ·rintro w' ⟨s0, s1⟩
     go_simp; with_reducible rfl
    rotate_left
    ·simp only [Act.put, zS, zZ, zC, i64_w, i32_w]
     rfl
    refine one_ (i := 9) (N := some 32) #[T, T, T, T, T, T, T, T, T, T, F] rfl rfl (one_of HT_.out (by kernel_rfl)) (by decide) (fun K hK => ?_)
    refine goes_ Tryd.func22 (by kernel_rfl) rfl #[.string (rdOf ByteArray.empty l1 x7_1), .string (rdOf ByteArray.empty l1 (ji6))] (by rfl) rfl rfl (by (try simp only [List.map_toArray, List.map_cons, List.map_nil]); first | done | (simp only [hji6]; rfl) | rfl | (simp only [List.length_drop, List.length_take]; rfl)) ?_
    with_reducible refine (copseref02_Common.calls k1 (rdOf ByteArray.empty l1 x7_1) (rdOf ByteArray.empty l1 (ji6)) t316 _ A8.out).mono ?_
    rintro e w25 ⟨rfl, hb⟩
    refine ⟨_, rfl, ?_⟩
    have n0_ := zA (below_step (by repeat (first | (with_reducible first | exact HB.out | apply zL | apply zN | apply zD) | exact HB.out)) hb)
    clear HB; have HB := n0_; clear n0_
    (try clear hb)
    (try clear hb2)
    (try clear hk)
    (try clear hi)
    refine hK.out _ _ ⟨((HB.out.cell (zB w _ hw314_0)).trans hw314_0), ((HB.out.cell (zB w _ hw315_0)).trans hw315_0)⟩ (fun hHeld => ?_)
    clear hK K
    refine norm_ (a' := ?_) ?_ ?_
    rotate_left
    ·show Act.put _ (some 32) _ = _
     simp only [Act.put, zS, zZ, zC, i64_w, i32_w]
     rfl
    refine pure_ (i := 10) (N := some 8) (v := ?_) (a' := ?_) #[T, T, T, T, T, T, T, T, T, T, T] rfl rfl (any_of HT_.out (by kernel_rfl)) (fun _ _ _ h => h) (Or.inl ⟨by rfl, ?_⟩) ?_ ?_
    rotate_left
    ·intro w'; go_simp; with_reducible rfl
    rotate_left
    ·simp only [Act.put, zS, zZ, zC, i64_w, i32_w]
     rfl
    refine done_ (done_of HT_.out (by kernel_rfl)) ?_
    try go_wp2_with (first | ((with_reducible refine gate_callee (f := 11) rfl ?_); refine goesL_ (some 36) rfl rfl Tryd.func11 (by kernel_rfl) rfl #[.slice (some ad314) l1.length c1, .string t316] rfl (by (try simp only [List.map_toArray, List.map_cons, List.map_nil]); first | done | rfl | (simp only [List.length_drop, List.length_take]; rfl)) ?_; (with_reducible refine (copseref16_At.calls k1 _ _ l1 t316 t317 t318 _ ?side1 ?side2 A9.out).mono ?_); (case side1 => repeat (first | exact (Kd.C_below HR1.out HB.out) | (with_reducible refine Kd.C_alloc ?_ _) | (with_reducible refine Kd.C_drewN ?_ _) | (with_reducible refine Kd.C_drew ?_))); (case side2 => exact HC1.out); rintro e w26 ⟨v319, rfl, ho0, hb⟩; refine ⟨_, rfl, ?_⟩; have n0_ := zA (Kd.R_lower ho0 (below_size (by repeat (first | (with_reducible first | exact HB.out | apply zL | apply zN | apply zD) | exact HB.out)))); have n1_ := zA (below_step (by repeat (first | (with_reducible first | exact HB.out | apply zL | apply zN | apply zD) | exact HB.out)) hb); clear HB; have HO320 := n0_; have HB := n1_; clear n0_ n1_; (try clear hb); (try clear hb2); (try clear hk); (try clear hi); (try clear ho0); obtain ⟨Ao27, co27, eo27⟩ := Kd.R_slice HO320.out; subst eo27) | ((with_reducible refine gate_callee (f := 27) rfl ?_); refine goesL_ (some 41) rfl rfl Tryd.func27 (by kernel_rfl) rfl #[.slice A0 l0.length c0, .slice Ao27 t317.length co27] rfl (by (try simp only [List.map_toArray, List.map_cons, List.map_nil]); first | done | rfl | (simp only [List.length_drop, List.length_take]; rfl)) ?_; (with_reducible refine (copseref16_cost.calls k1 _ _ l0 _ _ t317 t321 _ ?side1 ?side2 ?side3 ?side4 A10.out).mono ?_); (case side1 => repeat (first | exact (Kd.C_below HR0.out HB.out) | (with_reducible refine Kd.C_alloc ?_ _) | (with_reducible refine Kd.C_drewN ?_ _) | (with_reducible refine Kd.C_drew ?_))); (case side2 => exact HC0.out); (case side3 => repeat (first | exact (Kd.R_reads' HO320.out).2.2 | (with_reducible refine Kd.C_alloc ?_ _) | (with_reducible refine Kd.C_drewN ?_ _) | (with_reducible refine Kd.C_drew ?_))); (case side4 => exact (Kd.R_reads' HO320.out).2.1); rintro e w28 ⟨rfl, hb⟩; refine ⟨_, rfl, ?_⟩; have n0_ := zA (Kd.R_below (by (with_reducible repeat (first | apply Kd.R_alloc | apply Kd.R_drewN | apply Kd.R_drew)); exact HO320.out) hb); have n1_ := zA (below_step (by repeat (first | (with_reducible first | exact HB.out | apply zL | apply zN | apply zD) | exact HB.out)) hb); clear HO320; clear HB; have HO320 := n0_; have HB := n1_; clear n0_ n1_; (try clear hb); (try clear hb2); (try clear hk); (try clear hi)) | ((with_reducible refine gate_callee (f := 40) rfl ?_); refine goesL_ (some 43) rfl rfl Tryd.func40 (by kernel_rfl) rfl #[.string t316] rfl (by (try simp only [List.map_toArray, List.map_cons, List.map_nil]); first | done | rfl | (simp only [List.length_drop, List.length_take]; rfl)) ?_; (with_reducible refine (copseref02_Split.calls k1 t316 t322 _ A11.out).mono ?_); rintro e w29 ⟨v323, rfl, ho0, hb⟩; refine ⟨_, rfl, ?_⟩; have n0_ := zA (Kd.R_elder' (by (with_reducible repeat (first | apply Kd.R_alloc | apply Kd.R_drewN | apply Kd.R_drew)); exact HO320.out) (Kd.R_base ho0) hb); have n1_ := zA (Kd.R_lower (Kd.R_new' ho0 (Kd.R_lt (by (with_reducible repeat (first | apply Kd.R_alloc | apply Kd.R_drewN | apply Kd.R_drew)); exact HO320.out))) (below_size (by repeat (first | (with_reducible first | exact HB.out | apply zL | apply zN | apply zD) | exact HB.out)))); have n2_ := zA (below_step (by repeat (first | (with_reducible first | exact HB.out | apply zL | apply zN | apply zD) | exact HB.out)) hb); clear HO320; clear HB; have HO320 := n0_; have HO324 := n1_; have HB := n2_; clear n0_ n1_ n2_; (try clear hb); (try clear hb2); (try clear hk); (try clear hi); (try clear ho0); obtain ⟨Ao30, co30, eo30⟩ := Kd.R_slice HO324.out; subst eo30) | ((with_reducible refine gate_callee (f := 40) rfl ?_); refine goesL_ (some 46) rfl rfl Tryd.func40 (by kernel_rfl) rfl #[.string x5_1] rfl (by (try simp only [List.map_toArray, List.map_cons, List.map_nil]); first | done | rfl | (simp only [List.length_drop, List.length_take]; rfl)) ?_; (with_reducible refine (copseref02_Split.calls k1 x5_1 t325 _ A12.out).mono ?_); rintro e w31 ⟨v326, rfl, ho0, hb⟩; refine ⟨_, rfl, ?_⟩; have n0_ := zA (Kd.R_elder' (by (with_reducible repeat (first | apply Kd.R_alloc | apply Kd.R_drewN | apply Kd.R_drew)); exact HO320.out) (Kd.R_base ho0) hb); have n1_ := zA (Kd.R_elder' (by (with_reducible repeat (first | apply Kd.R_alloc | apply Kd.R_drewN | apply Kd.R_drew)); exact HO324.out) (Kd.R_base ho0) hb); have n2_ := zA (Kd.R_lower (Kd.R_new' (Kd.R_new' ho0 (Kd.R_lt (by (with_reducible repeat (first | apply Kd.R_alloc | apply Kd.R_drewN | apply Kd.R_drew)); exact HO320.out))) (Kd.R_lt (by (with_reducible repeat (first | apply Kd.R_alloc | apply Kd.R_drewN | apply Kd.R_drew)); exact HO324.out))) (below_size (by repeat (first | (with_reducible first | exact HB.out | apply zL | apply zN | apply zD) | exact HB.out)))); have n3_ := zA (below_step (by repeat (first | (with_reducible first | exact HB.out | apply zL | apply zN | apply zD) | exact HB.out)) hb); clear HO320; clear HO324; clear HB; have HO320 := n0_; have HO324 := n1_; have HO327 := n2_; have HB := n3_; clear n0_ n1_ n2_ n3_; (try clear hb); (try clear hb2); (try clear hk); (try clear hi); (try clear ho0); obtain ⟨Ao32, co32, eo32⟩ := Kd.R_slice HO327.out; subst eo32))
    go_roundg k1
    case measure => have := HK1.out; omega
    case rel => exact ⟨(t316), (t321), (ji6), (by first | rfl | (simp; done) | (simp [*]; done)), (by first | rfl | (simp; done) | (simp [*]; done)), (by first | rfl | (simp; done) | (simp only [← hji6] <;> (first | rfl | simp)) | (simp [*]; done)), H', ⟨by have := HK1.out; omega⟩, ⟨by repeat (first | (with_reducible first | exact HB.out | apply zL | apply zN | apply zD) | exact HB.out)⟩⟩
   rw [if_neg c23] at H
   have c23b0 : decide (t321 < x6_1) = false := decide_eq_false c23
   clear c23
   by_cases c33 : t321 = x6_1
   rotate_left
   ·rw [if_neg c33] at H
    have c33b0 : (t321 == x6_1) = false := beq_eq_false_iff_ne.mpr c33
    have c33b1 : (t321 != x6_1) = true := bne_iff_ne.mpr c33
    have H' := zA H
    clear H
    try go_wp2
    have n0_ := zA (zD HB.out)
    clear HB; have HB := n0_; clear n0_
    have p314 : 0 ≤ (x7_1 : Int) := zO (by first | (with_reducible assumption) | assumption)
    have q314 : x7_1 < (l1.length : Int) := zO (by first | (with_reducible assumption) | assumption)
    obtain ⟨ad314, e314, hx314_0⟩ := Kd.at_string HR1.out x7_1 p314 q314
    have hw314_0 := hx314_0
    cases e314
    replace hx314_0 := (HB.out.cell (zB w _ hx314_0)).trans hx314_0
    replace p314 := eq_true p314
    replace q314 := eq_true q314
    have p315 : 0 ≤ ((ji6) : Int) := zO (by first | (with_reducible assumption) | assumption)
    have q315 : (ji6) < (l1.length : Int) := zO (by first | (with_reducible assumption) | assumption)
    obtain ⟨ad315, e315, hx315_0⟩ := Kd.at_string HR1.out (ji6) p315 q315
    have hw315_0 := hx315_0
    obtain rfl : ad314 = ad315 := (by injection e315)
    replace hx315_0 := (HB.out.cell (zB w _ hx315_0)).trans hx315_0
    replace p315 := eq_true p315
    replace q315 := eq_true q315
    refine start_ (n := 11) (S := fun w' => w'.cell? (ad314.add (x7_1).toNat) = some (.string (rdOf ByteArray.empty l1 x7_1)) ∧ w'.cell? (ad314.add ((ji6)).toNat) = some (.string (rdOf ByteArray.empty l1 (ji6)))) (ds := []) #[F, F, F, F, F, F, F, F, F, F, F] (by kernel_rfl) rfl rfl ⟨((HB.out.cell (zB w _ hw314_0)).trans hw314_0), ((HB.out.cell (zB w _ hw315_0)).trans hw315_0)⟩ (fun hHeld => ?_); refine with_tabW copseref16_step.tab6 copseref16_step.bits6 (fun HT_ HW_ => ?_)
    generalize wr.drew = w76 at HB hx314_0 hx315_0 hHeld ⊢
    refine pure_ (i := 0) (N := some 23) (v := ?_) (a' := ?_) #[T, F, F, F, F, F, F, F, F, F, F] rfl rfl (any_of HT_.out (by kernel_rfl)) (fun _ _ _ h => h) (Or.inl ⟨by rfl, ?_⟩) ?_ ?_
    rotate_left
    ·intro w'; go_simp; with_reducible rfl
    rotate_left
    ·simp only [Act.put, zS, zZ, zC, i64_w, i32_w]
     rfl
    refine pure_ (i := 1) (N := some 24) (v := ?_) (a' := ?_) #[T, T, F, F, F, F, F, F, F, F, F] rfl rfl (any_of HT_.out (by kernel_rfl)) (fun _ _ _ h => h) (Or.inl ⟨by rfl, ?_⟩) ?_ ?_
    rotate_left
    ·intro w'; go_simp; with_reducible rfl
    rotate_left
    ·simp only [Act.put, zS, zZ, zC, i64_w, i32_w]
     rfl
    refine pure_ (i := 2) (N := some 25) (v := ?_) (a' := ?_) #[T, T, T, F, F, F, F, F, F, F, F] rfl rfl (any_of HT_.out (by kernel_rfl)) (fun _ _ _ h => h) (Or.inl ⟨by rfl, ?_⟩) ?_ ?_
    rotate_left
    ·intro w'; go_simp; with_reducible rfl
    rotate_left
    ·simp only [Act.put, zS, zZ, zC, i64_w, i32_w]
     rfl
    refine pure_ (i := 4) (N := some 27) (v := ?_) (a' := ?_) #[T, T, T, F, T, F, F, F, F, F, F] rfl rfl (any_of HT_.out (by kernel_rfl)) (fun _ _ _ h => h) (Or.inl ⟨by rfl, ?_⟩) ?_ ?_
    rotate_left
    ·intro w'; go_simp; with_reducible rfl
    rotate_left
    ·simp only [Act.put, zS, zZ, zC, i64_w, i32_w]
     rfl
    refine pure_ (i := 5) (N := some 28) (v := ?_) (a' := ?_) #[T, T, T, F, T, T, F, F, F, F, F] rfl rfl (any_of HT_.out (by kernel_rfl)) (fun _ _ _ h => h) (Or.inl ⟨by rfl, ?_⟩) ?_ ?_
    rotate_left
    ·intro w'; go_simp; with_reducible rfl
    rotate_left
    ·simp only [Act.put, zS, zZ, zC, i64_w, i32_w]
     rfl
    refine pure_ (i := 6) (N := some 29) (v := ?_) (a' := ?_) #[T, T, T, F, T, T, T, F, F, F, F] rfl rfl (any_of HT_.out (by kernel_rfl)) (fun _ _ _ h => h) (Or.inl ⟨by rfl, ?_⟩) ?_ ?_
    rotate_left
    ·intro w'; go_simp; with_reducible rfl
    rotate_left
    ·simp only [Act.put, zS, zZ, zC, i64_w, i32_w]
     rfl
    refine pure_ (i := 7) (N := some 30) (v := ?_) (a' := ?_) #[T, T, T, F, T, T, T, T, F, F, F] rfl rfl (any_of HT_.out (by kernel_rfl)) (fun _ _ _ h => h) (Or.inl ⟨by rfl, ?_⟩) ?_ ?_
    rotate_left
    ·intro w'; go_simp; with_reducible rfl
    rotate_left
    ·simp only [Act.put, zS, zZ, zC, i64_w, i32_w]
     rfl
    refine take_ (i := 3) (N := some 26) (v := ?_) (a' := ?_) #[T, T, T, T, T, T, T, T, F, F, F] rfl rfl (take_ofW HT_.out HW_.out (by kernel_rfl)) (fun _ _ _ h => h) (Or.inl ⟨by rfl, ?_⟩) hHeld ?_ ?_
    rotate_left
    ·rintro w' ⟨s0, s1⟩
     go_simp; with_reducible rfl
    rotate_left
    ·simp only [Act.put, zS, zZ, zC, i64_w, i32_w]
     rfl
    refine take_ (i := 8) (N := some 31) (v := ?_) (a' := ?_) #[T, T, T, T, T, T, T, T, T, F, F] rfl rfl (take_ofW HT_.out HW_.out (by kernel_rfl)) (fun _ _ _ h => h) (Or.inl ⟨by rfl, ?_⟩) hHeld ?_ ?_
    rotate_left
    ·rintro w' ⟨s0, s1⟩
     go_simp; with_reducible rfl
    rotate_left
    ·simp only [Act.put, zS, zZ, zC, i64_w, i32_w]
     rfl
    refine one_ (i := 9) (N := some 32) #[T, T, T, T, T, T, T, T, T, T, F] rfl rfl (one_of HT_.out (by kernel_rfl)) (by decide) (fun K hK => ?_)
    refine goes_ Tryd.func22 (by kernel_rfl) rfl #[.string (rdOf ByteArray.empty l1 x7_1), .string (rdOf ByteArray.empty l1 (ji6))] (by rfl) rfl rfl (by (try simp only [List.map_toArray, List.map_cons, List.map_nil]); first | done | (simp only [hji6]; rfl) | rfl | (simp only [List.length_drop, List.length_take]; rfl)) ?_
    with_reducible refine (copseref02_Common.calls k1 (rdOf ByteArray.empty l1 x7_1) (rdOf ByteArray.empty l1 (ji6)) t316 _ A8.out).mono ?_
    rintro e w77 ⟨rfl, hb⟩
    refine ⟨_, rfl, ?_⟩
    have n0_ := zA (below_step (by repeat (first | (with_reducible first | exact HB.out | apply zL | apply zN | apply zD) | exact HB.out)) hb)
    clear HB; have HB := n0_; clear n0_
    (try clear hb)
    (try clear hb2)
    (try clear hk)
    (try clear hi)
    refine hK.out _ _ ⟨((HB.out.cell (zB w _ hw314_0)).trans hw314_0), ((HB.out.cell (zB w _ hw315_0)).trans hw315_0)⟩ (fun hHeld => ?_)
    clear hK K
    refine norm_ (a' := ?_) ?_ ?_
    rotate_left
    ·show Act.put _ (some 32) _ = _
     simp only [Act.put, zS, zZ, zC, i64_w, i32_w]
     rfl
    refine pure_ (i := 10) (N := some 8) (v := ?_) (a' := ?_) #[T, T, T, T, T, T, T, T, T, T, T] rfl rfl (any_of HT_.out (by kernel_rfl)) (fun _ _ _ h => h) (Or.inl ⟨by rfl, ?_⟩) ?_ ?_
    rotate_left
    ·intro w'; go_simp; with_reducible rfl
    rotate_left
    ·simp only [Act.put, zS, zZ, zC, i64_w, i32_w]
     rfl
    refine done_ (done_of HT_.out (by kernel_rfl)) ?_
    try go_wp2_with (first | ((with_reducible refine gate_callee (f := 11) rfl ?_); refine goesL_ (some 36) rfl rfl Tryd.func11 (by kernel_rfl) rfl #[.slice (some ad314) l1.length c1, .string t316] rfl (by (try simp only [List.map_toArray, List.map_cons, List.map_nil]); first | done | rfl | (simp only [List.length_drop, List.length_take]; rfl)) ?_; (with_reducible refine (copseref16_At.calls k1 _ _ l1 t316 t317 t318 _ ?side1 ?side2 A9.out).mono ?_); (case side1 => repeat (first | exact (Kd.C_below HR1.out HB.out) | (with_reducible refine Kd.C_alloc ?_ _) | (with_reducible refine Kd.C_drewN ?_ _) | (with_reducible refine Kd.C_drew ?_))); (case side2 => exact HC1.out); rintro e w78 ⟨v319, rfl, ho0, hb⟩; refine ⟨_, rfl, ?_⟩; have n0_ := zA (Kd.R_lower ho0 (below_size (by repeat (first | (with_reducible first | exact HB.out | apply zL | apply zN | apply zD) | exact HB.out)))); have n1_ := zA (below_step (by repeat (first | (with_reducible first | exact HB.out | apply zL | apply zN | apply zD) | exact HB.out)) hb); clear HB; have HO320 := n0_; have HB := n1_; clear n0_ n1_; (try clear hb); (try clear hb2); (try clear hk); (try clear hi); (try clear ho0); obtain ⟨Ao79, co79, eo79⟩ := Kd.R_slice HO320.out; subst eo79) | ((with_reducible refine gate_callee (f := 27) rfl ?_); refine goesL_ (some 41) rfl rfl Tryd.func27 (by kernel_rfl) rfl #[.slice A0 l0.length c0, .slice Ao79 t317.length co79] rfl (by (try simp only [List.map_toArray, List.map_cons, List.map_nil]); first | done | rfl | (simp only [List.length_drop, List.length_take]; rfl)) ?_; (with_reducible refine (copseref16_cost.calls k1 _ _ l0 _ _ t317 t321 _ ?side1 ?side2 ?side3 ?side4 A10.out).mono ?_); (case side1 => repeat (first | exact (Kd.C_below HR0.out HB.out) | (with_reducible refine Kd.C_alloc ?_ _) | (with_reducible refine Kd.C_drewN ?_ _) | (with_reducible refine Kd.C_drew ?_))); (case side2 => exact HC0.out); (case side3 => repeat (first | exact (Kd.R_reads' HO320.out).2.2 | (with_reducible refine Kd.C_alloc ?_ _) | (with_reducible refine Kd.C_drewN ?_ _) | (with_reducible refine Kd.C_drew ?_))); (case side4 => exact (Kd.R_reads' HO320.out).2.1); rintro e w80 ⟨rfl, hb⟩; refine ⟨_, rfl, ?_⟩; have n0_ := zA (Kd.R_below (by (with_reducible repeat (first | apply Kd.R_alloc | apply Kd.R_drewN | apply Kd.R_drew)); exact HO320.out) hb); have n1_ := zA (below_step (by repeat (first | (with_reducible first | exact HB.out | apply zL | apply zN | apply zD) | exact HB.out)) hb); clear HO320; clear HB; have HO320 := n0_; have HB := n1_; clear n0_ n1_; (try clear hb); (try clear hb2); (try clear hk); (try clear hi)) | ((with_reducible refine gate_callee (f := 40) rfl ?_); refine goesL_ (some 43) rfl rfl Tryd.func40 (by kernel_rfl) rfl #[.string t316] rfl (by (try simp only [List.map_toArray, List.map_cons, List.map_nil]); first | done | rfl | (simp only [List.length_drop, List.length_take]; rfl)) ?_; (with_reducible refine (copseref02_Split.calls k1 t316 t322 _ A11.out).mono ?_); rintro e w81 ⟨v323, rfl, ho0, hb⟩; refine ⟨_, rfl, ?_⟩; have n0_ := zA (Kd.R_elder' (by (with_reducible repeat (first | apply Kd.R_alloc | apply Kd.R_drewN | apply Kd.R_drew)); exact HO320.out) (Kd.R_base ho0) hb); have n1_ := zA (Kd.R_lower (Kd.R_new' ho0 (Kd.R_lt (by (with_reducible repeat (first | apply Kd.R_alloc | apply Kd.R_drewN | apply Kd.R_drew)); exact HO320.out))) (below_size (by repeat (first | (with_reducible first | exact HB.out | apply zL | apply zN | apply zD) | exact HB.out)))); have n2_ := zA (below_step (by repeat (first | (with_reducible first | exact HB.out | apply zL | apply zN | apply zD) | exact HB.out)) hb); clear HO320; clear HB; have HO320 := n0_; have HO324 := n1_; have HB := n2_; clear n0_ n1_ n2_; (try clear hb); (try clear hb2); (try clear hk); (try clear hi); (try clear ho0); obtain ⟨Ao82, co82, eo82⟩ := Kd.R_slice HO324.out; subst eo82) | ((with_reducible refine gate_callee (f := 40) rfl ?_); refine goesL_ (some 46) rfl rfl Tryd.func40 (by kernel_rfl) rfl #[.string x5_1] rfl (by (try simp only [List.map_toArray, List.map_cons, List.map_nil]); first | done | rfl | (simp only [List.length_drop, List.length_take]; rfl)) ?_; (with_reducible refine (copseref02_Split.calls k1 x5_1 t325 _ A12.out).mono ?_); rintro e w83 ⟨v326, rfl, ho0, hb⟩; refine ⟨_, rfl, ?_⟩; have n0_ := zA (Kd.R_elder' (by (with_reducible repeat (first | apply Kd.R_alloc | apply Kd.R_drewN | apply Kd.R_drew)); exact HO320.out) (Kd.R_base ho0) hb); have n1_ := zA (Kd.R_elder' (by (with_reducible repeat (first | apply Kd.R_alloc | apply Kd.R_drewN | apply Kd.R_drew)); exact HO324.out) (Kd.R_base ho0) hb); have n2_ := zA (Kd.R_lower (Kd.R_new' (Kd.R_new' ho0 (Kd.R_lt (by (with_reducible repeat (first | apply Kd.R_alloc | apply Kd.R_drewN | apply Kd.R_drew)); exact HO320.out))) (Kd.R_lt (by (with_reducible repeat (first | apply Kd.R_alloc | apply Kd.R_drewN | apply Kd.R_drew)); exact HO324.out))) (below_size (by repeat (first | (with_reducible first | exact HB.out | apply zL | apply zN | apply zD) | exact HB.out)))); have n3_ := zA (below_step (by repeat (first | (with_reducible first | exact HB.out | apply zL | apply zN | apply zD) | exact HB.out)) hb); clear HO320; clear HO324; clear HB; have HO320 := n0_; have HO324 := n1_; have HO327 := n2_; have HB := n3_; clear n0_ n1_ n2_ n3_; (try clear hb); (try clear hb2); (try clear hk); (try clear hi); (try clear ho0); obtain ⟨Ao84, co84, eo84⟩ := Kd.R_slice HO327.out; subst eo84))
    go_roundg k1
    case measure => have := HK1.out; omega
    case rel => exact ⟨(x5_1), (x6_1), (ji6), (by first | rfl | (simp; done) | (simp [*]; done)), (by first | rfl | (simp; done) | (simp [*]; done)), (by first | rfl | (simp; done) | (simp only [← hji6] <;> (first | rfl | simp)) | (simp [*]; done)), H', ⟨by have := HK1.out; omega⟩, ⟨by repeat (first | (with_reducible first | exact HB.out | apply zL | apply zN | apply zD) | exact HB.out)⟩⟩
   rw [if_pos c33] at H
   have c33b0 : (t321 == x6_1) = true := beq_iff_eq.mpr c33
   have c33b1 : (t321 != x6_1) = false := bne_eq_false_iff_eq.mpr c33
   clear c33
   by_cases c34 : (t322.length : Int) > (t325.length : Int)
   ·rw [if_pos c34] at H
    have c34b0 : decide ((t325.length : Int) < (t322.length : Int)) = true := decide_eq_true c34
    have c34b1 : decide (t325.length < t322.length) = true := decide_eq_true (Int.ofNat_lt.mp c34)
    clear c34
    have H' := zA H
    clear H
    try go_wp2
    have n0_ := zA (zD HB.out)
    clear HB; have HB := n0_; clear n0_
    have p314 : 0 ≤ (x7_1 : Int) := zO (by first | (with_reducible assumption) | assumption)
    have q314 : x7_1 < (l1.length : Int) := zO (by first | (with_reducible assumption) | assumption)
    obtain ⟨ad314, e314, hx314_0⟩ := Kd.at_string HR1.out x7_1 p314 q314
    have hw314_0 := hx314_0
    cases e314
    replace hx314_0 := (HB.out.cell (zB w _ hx314_0)).trans hx314_0
    replace p314 := eq_true p314
    replace q314 := eq_true q314
    have p315 : 0 ≤ ((ji6) : Int) := zO (by first | (with_reducible assumption) | assumption)
    have q315 : (ji6) < (l1.length : Int) := zO (by first | (with_reducible assumption) | assumption)
    obtain ⟨ad315, e315, hx315_0⟩ := Kd.at_string HR1.out (ji6) p315 q315
    have hw315_0 := hx315_0
    obtain rfl : ad314 = ad315 := (by injection e315)
    replace hx315_0 := (HB.out.cell (zB w _ hx315_0)).trans hx315_0
    replace p315 := eq_true p315
    replace q315 := eq_true q315
    refine start_ (n := 11) (S := fun w' => w'.cell? (ad314.add (x7_1).toNat) = some (.string (rdOf ByteArray.empty l1 x7_1)) ∧ w'.cell? (ad314.add ((ji6)).toNat) = some (.string (rdOf ByteArray.empty l1 (ji6)))) (ds := []) #[F, F, F, F, F, F, F, F, F, F, F] (by kernel_rfl) rfl rfl ⟨((HB.out.cell (zB w _ hw314_0)).trans hw314_0), ((HB.out.cell (zB w _ hw315_0)).trans hw315_0)⟩ (fun hHeld => ?_); refine with_tabW copseref16_step.tab6 copseref16_step.bits6 (fun HT_ HW_ => ?_)
    generalize wr.drew = w35 at HB hx314_0 hx315_0 hHeld ⊢
    refine pure_ (i := 0) (N := some 23) (v := ?_) (a' := ?_) #[T, F, F, F, F, F, F, F, F, F, F] rfl rfl (any_of HT_.out (by kernel_rfl)) (fun _ _ _ h => h) (Or.inl ⟨by rfl, ?_⟩) ?_ ?_
    rotate_left
    ·intro w'; go_simp; with_reducible rfl
    rotate_left
    ·simp only [Act.put, zS, zZ, zC, i64_w, i32_w]
     rfl
    refine pure_ (i := 1) (N := some 24) (v := ?_) (a' := ?_) #[T, T, F, F, F, F, F, F, F, F, F] rfl rfl (any_of HT_.out (by kernel_rfl)) (fun _ _ _ h => h) (Or.inl ⟨by rfl, ?_⟩) ?_ ?_
    rotate_left
    ·intro w'; go_simp; with_reducible rfl
    rotate_left
    ·simp only [Act.put, zS, zZ, zC, i64_w, i32_w]
     rfl
    refine pure_ (i := 2) (N := some 25) (v := ?_) (a' := ?_) #[T, T, T, F, F, F, F, F, F, F, F] rfl rfl (any_of HT_.out (by kernel_rfl)) (fun _ _ _ h => h) (Or.inl ⟨by rfl, ?_⟩) ?_ ?_
    rotate_left
    ·intro w'; go_simp; with_reducible rfl
    rotate_left
    ·simp only [Act.put, zS, zZ, zC, i64_w, i32_w]
     rfl
    refine pure_ (i := 4) (N := some 27) (v := ?_) (a' := ?_) #[T, T, T, F, T, F, F, F, F, F, F] rfl rfl (any_of HT_.out (by kernel_rfl)) (fun _ _ _ h => h) (Or.inl ⟨by rfl, ?_⟩) ?_ ?_
    rotate_left
    ·intro w'; go_simp; with_reducible rfl
    rotate_left
    ·simp only [Act.put, zS, zZ, zC, i64_w, i32_w]
     rfl
    refine pure_ (i := 5) (N := some 28) (v := ?_) (a' := ?_) #[T, T, T, F, T, T, F, F, F, F, F] rfl rfl (any_of HT_.out (by kernel_rfl)) (fun _ _ _ h => h) (Or.inl ⟨by rfl, ?_⟩) ?_ ?_
    rotate_left
    ·intro w'; go_simp; with_reducible rfl
    rotate_left
    ·simp only [Act.put, zS, zZ, zC, i64_w, i32_w]
     rfl
    refine pure_ (i := 6) (N := some 29) (v := ?_) (a' := ?_) #[T, T, T, F, T, T, T, F, F, F, F] rfl rfl (any_of HT_.out (by kernel_rfl)) (fun _ _ _ h => h) (Or.inl ⟨by rfl, ?_⟩) ?_ ?_
    rotate_left
    ·intro w'; go_simp; with_reducible rfl
    rotate_left
    ·simp only [Act.put, zS, zZ, zC, i64_w, i32_w]
     rfl
    refine pure_ (i := 7) (N := some 30) (v := ?_) (a' := ?_) #[T, T, T, F, T, T, T, T, F, F, F] rfl rfl (any_of HT_.out (by kernel_rfl)) (fun _ _ _ h => h) (Or.inl ⟨by rfl, ?_⟩) ?_ ?_
    rotate_left
    ·intro w'; go_simp; with_reducible rfl
    rotate_left
    ·simp only [Act.put, zS, zZ, zC, i64_w, i32_w]
     rfl
    refine take_ (i := 3) (N := some 26) (v := ?_) (a' := ?_) #[T, T, T, T, T, T, T, T, F, F, F] rfl rfl (take_ofW HT_.out HW_.out (by kernel_rfl)) (fun _ _ _ h => h) (Or.inl ⟨by rfl, ?_⟩) hHeld ?_ ?_
    rotate_left
    ·rintro w' ⟨s0, s1⟩
     go_simp; with_reducible rfl
    rotate_left
    ·simp only [Act.put, zS, zZ, zC, i64_w, i32_w]
     rfl
    refine take_ (i := 8) (N := some 31) (v := ?_) (a' := ?_) #[T, T, T, T, T, T, T, T, T, F, F] rfl rfl (take_ofW HT_.out HW_.out (by kernel_rfl)) (fun _ _ _ h => h) (Or.inl ⟨by rfl, ?_⟩) hHeld ?_ ?_
    rotate_left
    ·rintro w' ⟨s0, s1⟩
     go_simp; with_reducible rfl
    rotate_left
    ·simp only [Act.put, zS, zZ, zC, i64_w, i32_w]
     rfl
    refine one_ (i := 9) (N := some 32) #[T, T, T, T, T, T, T, T, T, T, F] rfl rfl (one_of HT_.out (by kernel_rfl)) (by decide) (fun K hK => ?_)
    refine goes_ Tryd.func22 (by kernel_rfl) rfl #[.string (rdOf ByteArray.empty l1 x7_1), .string (rdOf ByteArray.empty l1 (ji6))] (by rfl) rfl rfl (by (try simp only [List.map_toArray, List.map_cons, List.map_nil]); first | done | (simp only [hji6]; rfl) | rfl | (simp only [List.length_drop, List.length_take]; rfl)) ?_
    with_reducible refine (copseref02_Common.calls k1 (rdOf ByteArray.empty l1 x7_1) (rdOf ByteArray.empty l1 (ji6)) t316 _ A8.out).mono ?_
    rintro e w36 ⟨rfl, hb⟩
    refine ⟨_, rfl, ?_⟩
    have n0_ := zA (below_step (by repeat (first | (with_reducible first | exact HB.out | apply zL | apply zN | apply zD) | exact HB.out)) hb)
    clear HB; have HB := n0_; clear n0_
    (try clear hb)
    (try clear hb2)
    (try clear hk)
    (try clear hi)
    refine hK.out _ _ ⟨((HB.out.cell (zB w _ hw314_0)).trans hw314_0), ((HB.out.cell (zB w _ hw315_0)).trans hw315_0)⟩ (fun hHeld => ?_)
    clear hK K
    refine norm_ (a' := ?_) ?_ ?_
    rotate_left
    ·show Act.put _ (some 32) _ = _
     simp only [Act.put, zS, zZ, zC, i64_w, i32_w]
     rfl
    refine pure_ (i := 10) (N := some 8) (v := ?_) (a' := ?_) #[T, T, T, T, T, T, T, T, T, T, T] rfl rfl (any_of HT_.out (by kernel_rfl)) (fun _ _ _ h => h) (Or.inl ⟨by rfl, ?_⟩) ?_ ?_
    rotate_left
    ·intro w'; go_simp; with_reducible rfl
    rotate_left
    ·simp only [Act.put, zS, zZ, zC, i64_w, i32_w]
     rfl
    refine done_ (done_of HT_.out (by kernel_rfl)) ?_
    try go_wp2_with (first | ((with_reducible refine gate_callee (f := 11) rfl ?_); refine goesL_ (some 36) rfl rfl Tryd.func11 (by kernel_rfl) rfl #[.slice (some ad314) l1.length c1, .string t316] rfl (by (try simp only [List.map_toArray, List.map_cons, List.map_nil]); first | done | rfl | (simp only [List.length_drop, List.length_take]; rfl)) ?_; (with_reducible refine (copseref16_At.calls k1 _ _ l1 t316 t317 t318 _ ?side1 ?side2 A9.out).mono ?_); (case side1 => repeat (first | exact (Kd.C_below HR1.out HB.out) | (with_reducible refine Kd.C_alloc ?_ _) | (with_reducible refine Kd.C_drewN ?_ _) | (with_reducible refine Kd.C_drew ?_))); (case side2 => exact HC1.out); rintro e w37 ⟨v319, rfl, ho0, hb⟩; refine ⟨_, rfl, ?_⟩; have n0_ := zA (Kd.R_lower ho0 (below_size (by repeat (first | (with_reducible first | exact HB.out | apply zL | apply zN | apply zD) | exact HB.out)))); have n1_ := zA (below_step (by repeat (first | (with_reducible first | exact HB.out | apply zL | apply zN | apply zD) | exact HB.out)) hb); clear HB; have HO320 := n0_; have HB := n1_; clear n0_ n1_; (try clear hb); (try clear hb2); (try clear hk); (try clear hi); (try clear ho0); obtain ⟨Ao38, co38, eo38⟩ := Kd.R_slice HO320.out; subst eo38) | ((with_reducible refine gate_callee (f := 27) rfl ?_); refine goesL_ (some 41) rfl rfl Tryd.func27 (by kernel_rfl) rfl #[.slice A0 l0.length c0, .slice Ao38 t317.length co38] rfl (by (try simp only [List.map_toArray, List.map_cons, List.map_nil]); first | done | rfl | (simp only [List.length_drop, List.length_take]; rfl)) ?_; (with_reducible refine (copseref16_cost.calls k1 _ _ l0 _ _ t317 t321 _ ?side1 ?side2 ?side3 ?side4 A10.out).mono ?_); (case side1 => repeat (first | exact (Kd.C_below HR0.out HB.out) | (with_reducible refine Kd.C_alloc ?_ _) | (with_reducible refine Kd.C_drewN ?_ _) | (with_reducible refine Kd.C_drew ?_))); (case side2 => exact HC0.out); (case side3 => repeat (first | exact (Kd.R_reads' HO320.out).2.2 | (with_reducible refine Kd.C_alloc ?_ _) | (with_reducible refine Kd.C_drewN ?_ _) | (with_reducible refine Kd.C_drew ?_))); (case side4 => exact (Kd.R_reads' HO320.out).2.1); rintro e w39 ⟨rfl, hb⟩; refine ⟨_, rfl, ?_⟩; have n0_ := zA (Kd.R_below (by (with_reducible repeat (first | apply Kd.R_alloc | apply Kd.R_drewN | apply Kd.R_drew)); exact HO320.out) hb); have n1_ := zA (below_step (by repeat (first | (with_reducible first | exact HB.out | apply zL | apply zN | apply zD) | exact HB.out)) hb); clear HO320; clear HB; have HO320 := n0_; have HB := n1_; clear n0_ n1_; (try clear hb); (try clear hb2); (try clear hk); (try clear hi)) | ((with_reducible refine gate_callee (f := 40) rfl ?_); refine goesL_ (some 43) rfl rfl Tryd.func40 (by kernel_rfl) rfl #[.string t316] rfl (by (try simp only [List.map_toArray, List.map_cons, List.map_nil]); first | done | rfl | (simp only [List.length_drop, List.length_take]; rfl)) ?_; (with_reducible refine (copseref02_Split.calls k1 t316 t322 _ A11.out).mono ?_); rintro e w40 ⟨v323, rfl, ho0, hb⟩; refine ⟨_, rfl, ?_⟩; have n0_ := zA (Kd.R_elder' (by (with_reducible repeat (first | apply Kd.R_alloc | apply Kd.R_drewN | apply Kd.R_drew)); exact HO320.out) (Kd.R_base ho0) hb); have n1_ := zA (Kd.R_lower (Kd.R_new' ho0 (Kd.R_lt (by (with_reducible repeat (first | apply Kd.R_alloc | apply Kd.R_drewN | apply Kd.R_drew)); exact HO320.out))) (below_size (by repeat (first | (with_reducible first | exact HB.out | apply zL | apply zN | apply zD) | exact HB.out)))); have n2_ := zA (below_step (by repeat (first | (with_reducible first | exact HB.out | apply zL | apply zN | apply zD) | exact HB.out)) hb); clear HO320; clear HB; have HO320 := n0_; have HO324 := n1_; have HB := n2_; clear n0_ n1_ n2_; (try clear hb); (try clear hb2); (try clear hk); (try clear hi); (try clear ho0); obtain ⟨Ao41, co41, eo41⟩ := Kd.R_slice HO324.out; subst eo41) | ((with_reducible refine gate_callee (f := 40) rfl ?_); refine goesL_ (some 46) rfl rfl Tryd.func40 (by kernel_rfl) rfl #[.string x5_1] rfl (by (try simp only [List.map_toArray, List.map_cons, List.map_nil]); first | done | rfl | (simp only [List.length_drop, List.length_take]; rfl)) ?_; (with_reducible refine (copseref02_Split.calls k1 x5_1 t325 _ A12.out).mono ?_); rintro e w42 ⟨v326, rfl, ho0, hb⟩; refine ⟨_, rfl, ?_⟩; have n0_ := zA (Kd.R_elder' (by (with_reducible repeat (first | apply Kd.R_alloc | apply Kd.R_drewN | apply Kd.R_drew)); exact HO320.out) (Kd.R_base ho0) hb); have n1_ := zA (Kd.R_elder' (by (with_reducible repeat (first | apply Kd.R_alloc | apply Kd.R_drewN | apply Kd.R_drew)); exact HO324.out) (Kd.R_base ho0) hb); have n2_ := zA (Kd.R_lower (Kd.R_new' (Kd.R_new' ho0 (Kd.R_lt (by (with_reducible repeat (first | apply Kd.R_alloc | apply Kd.R_drewN | apply Kd.R_drew)); exact HO320.out))) (Kd.R_lt (by (with_reducible repeat (first | apply Kd.R_alloc | apply Kd.R_drewN | apply Kd.R_drew)); exact HO324.out))) (below_size (by repeat (first | (with_reducible first | exact HB.out | apply zL | apply zN | apply zD) | exact HB.out)))); have n3_ := zA (below_step (by repeat (first | (with_reducible first | exact HB.out | apply zL | apply zN | apply zD) | exact HB.out)) hb); clear HO320; clear HO324; clear HB; have HO320 := n0_; have HO324 := n1_; have HO327 := n2_; have HB := n3_; clear n0_ n1_ n2_ n3_; (try clear hb); (try clear hb2); (try clear hk); (try clear hi); (try clear ho0); obtain ⟨Ao43, co43, eo43⟩ := Kd.R_slice HO327.out; subst eo43))
    go_roundg k1
    case measure => have := HK1.out; omega
    case rel => exact ⟨(t316), (t321), (ji6), (by first | rfl | (simp; done) | (simp [*]; done)), (by first | rfl | (simp; done) | (simp [*]; done)), (by first | rfl | (simp; done) | (simp only [← hji6] <;> (first | rfl | simp)) | (simp [*]; done)), H', ⟨by have := HK1.out; omega⟩, ⟨by repeat (first | (with_reducible first | exact HB.out | apply zL | apply zN | apply zD) | exact HB.out)⟩⟩
   rw [if_neg c34] at H
   have c34b0 : decide ((t325.length : Int) < (t322.length : Int)) = false := decide_eq_false c34
   have c34b1 : decide (t325.length < t322.length) = false := decide_eq_false (fun h => c34 (Int.ofNat_lt.mpr h))
   clear c34
   by_cases c44 : (t322.length : Int) = (t325.length : Int)
   rotate_left
   ·rw [if_neg c44] at H
    have c44b0 : ((t322.length : Int) == (t325.length : Int)) = false := beq_eq_false_iff_ne.mpr c44
    have c44b1 : ((t322.length : Int) != (t325.length : Int)) = true := bne_iff_ne.mpr c44
    have c44b2 : (t322.length == t325.length) = false := by first | simpa using c44 | (simp at c44 ⊢; omega)
    have H' := zA H
    clear H
    try go_wp2
    have n0_ := zA (zD HB.out)
    clear HB; have HB := n0_; clear n0_
    have p314 : 0 ≤ (x7_1 : Int) := zO (by first | (with_reducible assumption) | assumption)
    have q314 : x7_1 < (l1.length : Int) := zO (by first | (with_reducible assumption) | assumption)
    obtain ⟨ad314, e314, hx314_0⟩ := Kd.at_string HR1.out x7_1 p314 q314
    have hw314_0 := hx314_0
    cases e314
    replace hx314_0 := (HB.out.cell (zB w _ hx314_0)).trans hx314_0
    replace p314 := eq_true p314
    replace q314 := eq_true q314
    have p315 : 0 ≤ ((ji6) : Int) := zO (by first | (with_reducible assumption) | assumption)
    have q315 : (ji6) < (l1.length : Int) := zO (by first | (with_reducible assumption) | assumption)
    obtain ⟨ad315, e315, hx315_0⟩ := Kd.at_string HR1.out (ji6) p315 q315
    have hw315_0 := hx315_0
    obtain rfl : ad314 = ad315 := (by injection e315)
    replace hx315_0 := (HB.out.cell (zB w _ hx315_0)).trans hx315_0
    replace p315 := eq_true p315
    replace q315 := eq_true q315
    refine start_ (n := 11) (S := fun w' => w'.cell? (ad314.add (x7_1).toNat) = some (.string (rdOf ByteArray.empty l1 x7_1)) ∧ w'.cell? (ad314.add ((ji6)).toNat) = some (.string (rdOf ByteArray.empty l1 (ji6)))) (ds := []) #[F, F, F, F, F, F, F, F, F, F, F] (by kernel_rfl) rfl rfl ⟨((HB.out.cell (zB w _ hw314_0)).trans hw314_0), ((HB.out.cell (zB w _ hw315_0)).trans hw315_0)⟩ (fun hHeld => ?_); refine with_tabW copseref16_step.tab6 copseref16_step.bits6 (fun HT_ HW_ => ?_)
    generalize wr.drew = w67 at HB hx314_0 hx315_0 hHeld ⊢
    refine pure_ (i := 0) (N := some 23) (v := ?_) (a' := ?_) #[T, F, F, F, F, F, F, F, F, F, F] rfl rfl (any_of HT_.out (by kernel_rfl)) (fun _ _ _ h => h) (Or.inl ⟨by rfl, ?_⟩) ?_ ?_
    rotate_left
    ·intro w'; go_simp; with_reducible rfl
    rotate_left
    ·simp only [Act.put, zS, zZ, zC, i64_w, i32_w]
     rfl
    refine pure_ (i := 1) (N := some 24) (v := ?_) (a' := ?_) #[T, T, F, F, F, F, F, F, F, F, F] rfl rfl (any_of HT_.out (by kernel_rfl)) (fun _ _ _ h => h) (Or.inl ⟨by rfl, ?_⟩) ?_ ?_
    rotate_left
    ·intro w'; go_simp; with_reducible rfl
    rotate_left
    ·simp only [Act.put, zS, zZ, zC, i64_w, i32_w]
     rfl
    refine pure_ (i := 2) (N := some 25) (v := ?_) (a' := ?_) #[T, T, T, F, F, F, F, F, F, F, F] rfl rfl (any_of HT_.out (by kernel_rfl)) (fun _ _ _ h => h) (Or.inl ⟨by rfl, ?_⟩) ?_ ?_
    rotate_left
    ·intro w'; go_simp; with_reducible rfl
    rotate_left
    ·simp only [Act.put, zS, zZ, zC, i64_w, i32_w]
     rfl
    refine pure_ (i := 4) (N := some 27) (v := ?_) (a' := ?_) #[T, T, T, F, T, F, F, F, F, F, F] rfl rfl (any_of HT_.out (by kernel_rfl)) (fun _ _ _ h => h) (Or.inl ⟨by rfl, ?_⟩) ?_ ?_
    rotate_left
    ·intro w'; go_simp; with_reducible rfl
    rotate_left
    ·simp only [Act.put, zS, zZ, zC, i64_w, i32_w]
     rfl
    refine pure_ (i := 5) (N := some 28) (v := ?_) (a' := ?_) #[T, T, T, F, T, T, F, F, F, F, F] rfl rfl (any_of HT_.out (by kernel_rfl)) (fun _ _ _ h => h) (Or.inl ⟨by rfl, ?_⟩) ?_ ?_
    rotate_left
    ·intro w'; go_simp; with_reducible rfl
    rotate_left
    ·simp only [Act.put, zS, zZ, zC, i64_w, i32_w]
     rfl
    refine pure_ (i := 6) (N := some 29) (v := ?_) (a' := ?_) #[T, T, T, F, T, T, T, F, F, F, F] rfl rfl (any_of HT_.out (by kernel_rfl)) (fun _ _ _ h => h) (Or.inl ⟨by rfl, ?_⟩) ?_ ?_
    rotate_left
    ·intro w'; go_simp; with_reducible rfl
    rotate_left
    ·simp only [Act.put, zS, zZ, zC, i64_w, i32_w]
     rfl
    refine pure_ (i := 7) (N := some 30) (v := ?_) (a' := ?_) #[T, T, T, F, T, T, T, T, F, F, F] rfl rfl (any_of HT_.out (by kernel_rfl)) (fun _ _ _ h => h) (Or.inl ⟨by rfl, ?_⟩) ?_ ?_
    rotate_left
    ·intro w'; go_simp; with_reducible rfl
    rotate_left
    ·simp only [Act.put, zS, zZ, zC, i64_w, i32_w]
     rfl
    refine take_ (i := 3) (N := some 26) (v := ?_) (a' := ?_) #[T, T, T, T, T, T, T, T, F, F, F] rfl rfl (take_ofW HT_.out HW_.out (by kernel_rfl)) (fun _ _ _ h => h) (Or.inl ⟨by rfl, ?_⟩) hHeld ?_ ?_
    rotate_left
    ·rintro w' ⟨s0, s1⟩
     go_simp; with_reducible rfl
    rotate_left
    ·simp only [Act.put, zS, zZ, zC, i64_w, i32_w]
     rfl
    refine take_ (i := 8) (N := some 31) (v := ?_) (a' := ?_) #[T, T, T, T, T, T, T, T, T, F, F] rfl rfl (take_ofW HT_.out HW_.out (by kernel_rfl)) (fun _ _ _ h => h) (Or.inl ⟨by rfl, ?_⟩) hHeld ?_ ?_
    rotate_left
    ·rintro w' ⟨s0, s1⟩
     go_simp; with_reducible rfl
    rotate_left
    ·simp only [Act.put, zS, zZ, zC, i64_w, i32_w]
     rfl
    refine one_ (i := 9) (N := some 32) #[T, T, T, T, T, T, T, T, T, T, F] rfl rfl (one_of HT_.out (by kernel_rfl)) (by decide) (fun K hK => ?_)
    refine goes_ Tryd.func22 (by kernel_rfl) rfl #[.string (rdOf ByteArray.empty l1 x7_1), .string (rdOf ByteArray.empty l1 (ji6))] (by rfl) rfl rfl (by (try simp only [List.map_toArray, List.map_cons, List.map_nil]); first | done | (simp only [hji6]; rfl) | rfl | (simp only [List.length_drop, List.length_take]; rfl)) ?_
    with_reducible refine (copseref02_Common.calls k1 (rdOf ByteArray.empty l1 x7_1) (rdOf ByteArray.empty l1 (ji6)) t316 _ A8.out).mono ?_
    rintro e w68 ⟨rfl, hb⟩
    refine ⟨_, rfl, ?_⟩
    have n0_ := zA (below_step (by repeat (first | (with_reducible first | exact HB.out | apply zL | apply zN | apply zD) | exact HB.out)) hb)
    clear HB; have HB := n0_; clear n0_
    (try clear hb)
    (try clear hb2)
    (try clear hk)
    (try clear hi)
    refine hK.out _ _ ⟨((HB.out.cell (zB w _ hw314_0)).trans hw314_0), ((HB.out.cell (zB w _ hw315_0)).trans hw315_0)⟩ (fun hHeld => ?_)
    clear hK K
    refine norm_ (a' := ?_) ?_ ?_
    rotate_left
    ·show Act.put _ (some 32) _ = _
     simp only [Act.put, zS, zZ, zC, i64_w, i32_w]
     rfl
    refine pure_ (i := 10) (N := some 8) (v := ?_) (a' := ?_) #[T, T, T, T, T, T, T, T, T, T, T] rfl rfl (any_of HT_.out (by kernel_rfl)) (fun _ _ _ h => h) (Or.inl ⟨by rfl, ?_⟩) ?_ ?_
    rotate_left
    ·intro w'; go_simp; with_reducible rfl
    rotate_left
    ·simp only [Act.put, zS, zZ, zC, i64_w, i32_w]
     rfl
    refine done_ (done_of HT_.out (by kernel_rfl)) ?_
    try go_wp2_with (first | ((with_reducible refine gate_callee (f := 11) rfl ?_); refine goesL_ (some 36) rfl rfl Tryd.func11 (by kernel_rfl) rfl #[.slice (some ad314) l1.length c1, .string t316] rfl (by (try simp only [List.map_toArray, List.map_cons, List.map_nil]); first | done | rfl | (simp only [List.length_drop, List.length_take]; rfl)) ?_; (with_reducible refine (copseref16_At.calls k1 _ _ l1 t316 t317 t318 _ ?side1 ?side2 A9.out).mono ?_); (case side1 => repeat (first | exact (Kd.C_below HR1.out HB.out) | (with_reducible refine Kd.C_alloc ?_ _) | (with_reducible refine Kd.C_drewN ?_ _) | (with_reducible refine Kd.C_drew ?_))); (case side2 => exact HC1.out); rintro e w69 ⟨v319, rfl, ho0, hb⟩; refine ⟨_, rfl, ?_⟩; have n0_ := zA (Kd.R_lower ho0 (below_size (by repeat (first | (with_reducible first | exact HB.out | apply zL | apply zN | apply zD) | exact HB.out)))); have n1_ := zA (below_step (by repeat (first | (with_reducible first | exact HB.out | apply zL | apply zN | apply zD) | exact HB.out)) hb); clear HB; have HO320 := n0_; have HB := n1_; clear n0_ n1_; (try clear hb); (try clear hb2); (try clear hk); (try clear hi); (try clear ho0); obtain ⟨Ao70, co70, eo70⟩ := Kd.R_slice HO320.out; subst eo70) | ((with_reducible refine gate_callee (f := 27) rfl ?_); refine goesL_ (some 41) rfl rfl Tryd.func27 (by kernel_rfl) rfl #[.slice A0 l0.length c0, .slice Ao70 t317.length co70] rfl (by (try simp only [List.map_toArray, List.map_cons, List.map_nil]); first | done | rfl | (simp only [List.length_drop, List.length_take]; rfl)) ?_; (with_reducible refine (copseref16_cost.calls k1 _ _ l0 _ _ t317 t321 _ ?side1 ?side2 ?side3 ?side4 A10.out).mono ?_); (case side1 => repeat (first | exact (Kd.C_below HR0.out HB.out) | (with_reducible refine Kd.C_alloc ?_ _) | (with_reducible refine Kd.C_drewN ?_ _) | (with_reducible refine Kd.C_drew ?_))); (case side2 => exact HC0.out); (case side3 => repeat (first | exact (Kd.R_reads' HO320.out).2.2 | (with_reducible refine Kd.C_alloc ?_ _) | (with_reducible refine Kd.C_drewN ?_ _) | (with_reducible refine Kd.C_drew ?_))); (case side4 => exact (Kd.R_reads' HO320.out).2.1); rintro e w71 ⟨rfl, hb⟩; refine ⟨_, rfl, ?_⟩; have n0_ := zA (Kd.R_below (by (with_reducible repeat (first | apply Kd.R_alloc | apply Kd.R_drewN | apply Kd.R_drew)); exact HO320.out) hb); have n1_ := zA (below_step (by repeat (first | (with_reducible first | exact HB.out | apply zL | apply zN | apply zD) | exact HB.out)) hb); clear HO320; clear HB; have HO320 := n0_; have HB := n1_; clear n0_ n1_; (try clear hb); (try clear hb2); (try clear hk); (try clear hi)) | ((with_reducible refine gate_callee (f := 40) rfl ?_); refine goesL_ (some 43) rfl rfl Tryd.func40 (by kernel_rfl) rfl #[.string t316] rfl (by (try simp only [List.map_toArray, List.map_cons, List.map_nil]); first | done | rfl | (simp only [List.length_drop, List.length_take]; rfl)) ?_; (with_reducible refine (copseref02_Split.calls k1 t316 t322 _ A11.out).mono ?_); rintro e w72 ⟨v323, rfl, ho0, hb⟩; refine ⟨_, rfl, ?_⟩; have n0_ := zA (Kd.R_elder' (by (with_reducible repeat (first | apply Kd.R_alloc | apply Kd.R_drewN | apply Kd.R_drew)); exact HO320.out) (Kd.R_base ho0) hb); have n1_ := zA (Kd.R_lower (Kd.R_new' ho0 (Kd.R_lt (by (with_reducible repeat (first | apply Kd.R_alloc | apply Kd.R_drewN | apply Kd.R_drew)); exact HO320.out))) (below_size (by repeat (first | (with_reducible first | exact HB.out | apply zL | apply zN | apply zD) | exact HB.out)))); have n2_ := zA (below_step (by repeat (first | (with_reducible first | exact HB.out | apply zL | apply zN | apply zD) | exact HB.out)) hb); clear HO320; clear HB; have HO320 := n0_; have HO324 := n1_; have HB := n2_; clear n0_ n1_ n2_; (try clear hb); (try clear hb2); (try clear hk); (try clear hi); (try clear ho0); obtain ⟨Ao73, co73, eo73⟩ := Kd.R_slice HO324.out; subst eo73) | ((with_reducible refine gate_callee (f := 40) rfl ?_); refine goesL_ (some 46) rfl rfl Tryd.func40 (by kernel_rfl) rfl #[.string x5_1] rfl (by (try simp only [List.map_toArray, List.map_cons, List.map_nil]); first | done | rfl | (simp only [List.length_drop, List.length_take]; rfl)) ?_; (with_reducible refine (copseref02_Split.calls k1 x5_1 t325 _ A12.out).mono ?_); rintro e w74 ⟨v326, rfl, ho0, hb⟩; refine ⟨_, rfl, ?_⟩; have n0_ := zA (Kd.R_elder' (by (with_reducible repeat (first | apply Kd.R_alloc | apply Kd.R_drewN | apply Kd.R_drew)); exact HO320.out) (Kd.R_base ho0) hb); have n1_ := zA (Kd.R_elder' (by (with_reducible repeat (first | apply Kd.R_alloc | apply Kd.R_drewN | apply Kd.R_drew)); exact HO324.out) (Kd.R_base ho0) hb); have n2_ := zA (Kd.R_lower (Kd.R_new' (Kd.R_new' ho0 (Kd.R_lt (by (with_reducible repeat (first | apply Kd.R_alloc | apply Kd.R_drewN | apply Kd.R_drew)); exact HO320.out))) (Kd.R_lt (by (with_reducible repeat (first | apply Kd.R_alloc | apply Kd.R_drewN | apply Kd.R_drew)); exact HO324.out))) (below_size (by repeat (first | (with_reducible first | exact HB.out | apply zL | apply zN | apply zD) | exact HB.out)))); have n3_ := zA (below_step (by repeat (first | (with_reducible first | exact HB.out | apply zL | apply zN | apply zD) | exact HB.out)) hb); clear HO320; clear HO324; clear HB; have HO320 := n0_; have HO324 := n1_; have HO327 := n2_; have HB := n3_; clear n0_ n1_ n2_ n3_; (try clear hb); (try clear hb2); (try clear hk); (try clear hi); (try clear ho0); obtain ⟨Ao75, co75, eo75⟩ := Kd.R_slice HO327.out; subst eo75))
    go_roundg k1
    case measure => have := HK1.out; omega
    case rel => exact ⟨(x5_1), (x6_1), (ji6), (by first | rfl | (simp; done) | (simp [*]; done)), (by first | rfl | (simp; done) | (simp [*]; done)), (by first | rfl | (simp; done) | (simp only [← hji6] <;> (first | rfl | simp)) | (simp [*]; done)), H', ⟨by have := HK1.out; omega⟩, ⟨by repeat (first | (with_reducible first | exact HB.out | apply zL | apply zN | apply zD) | exact HB.out)⟩⟩
   rw [if_pos c44] at H
   have c44b0 : ((t322.length : Int) == (t325.length : Int)) = true := beq_iff_eq.mpr c44
   have c44b1 : ((t322.length : Int) != (t325.length : Int)) = false := bne_eq_false_iff_eq.mpr c44
   have c44b2 : (t322.length == t325.length) = true := by first | simpa using c44 | (simp at c44 ⊢; omega)
   clear c44; replace H := Option.bind_eq_some_iff.mp H; obtain ⟨t328, A450, H⟩ := H
   replace H : (if t328 < 0 then (copseref16_step.l0 k1 l0 l1 t316 t321 ji6) else (copseref16_step.l0 k1 l0 l1 x5_1 x6_1 ji6)) = some r := H
   have A45 := zA A450; clear A450
   by_cases c46 : t328 < 0
   ·rw [if_pos c46] at H
    have c46b0 : decide (t328 < 0) = true := decide_eq_true c46
    clear c46
    have H' := zA H
    clear H
    try go_wp2
    have n0_ := zA (zD HB.out)
    clear HB; have HB := n0_; clear n0_
    have p314 : 0 ≤ (x7_1 : Int) := zO (by first | (with_reducible assumption) | assumption)
    have q314 : x7_1 < (l1.length : Int) := zO (by first | (with_reducible assumption) | assumption)
    obtain ⟨ad314, e314, hx314_0⟩ := Kd.at_string HR1.out x7_1 p314 q314
    have hw314_0 := hx314_0
    cases e314
    replace hx314_0 := (HB.out.cell (zB w _ hx314_0)).trans hx314_0
    replace p314 := eq_true p314
    replace q314 := eq_true q314
    have p315 : 0 ≤ ((ji6) : Int) := zO (by first | (with_reducible assumption) | assumption)
    have q315 : (ji6) < (l1.length : Int) := zO (by first | (with_reducible assumption) | assumption)
    obtain ⟨ad315, e315, hx315_0⟩ := Kd.at_string HR1.out (ji6) p315 q315
    have hw315_0 := hx315_0
    obtain rfl : ad314 = ad315 := (by injection e315)
    replace hx315_0 := (HB.out.cell (zB w _ hx315_0)).trans hx315_0
    replace p315 := eq_true p315
    replace q315 := eq_true q315
    refine start_ (n := 11) (S := fun w' => w'.cell? (ad314.add (x7_1).toNat) = some (.string (rdOf ByteArray.empty l1 x7_1)) ∧ w'.cell? (ad314.add ((ji6)).toNat) = some (.string (rdOf ByteArray.empty l1 (ji6)))) (ds := []) #[F, F, F, F, F, F, F, F, F, F, F] (by kernel_rfl) rfl rfl ⟨((HB.out.cell (zB w _ hw314_0)).trans hw314_0), ((HB.out.cell (zB w _ hw315_0)).trans hw315_0)⟩ (fun hHeld => ?_); refine with_tabW copseref16_step.tab6 copseref16_step.bits6 (fun HT_ HW_ => ?_)
    generalize wr.drew = w47 at HB hx314_0 hx315_0 hHeld ⊢
    refine pure_ (i := 0) (N := some 23) (v := ?_) (a' := ?_) #[T, F, F, F, F, F, F, F, F, F, F] rfl rfl (any_of HT_.out (by kernel_rfl)) (fun _ _ _ h => h) (Or.inl ⟨by rfl, ?_⟩) ?_ ?_
    rotate_left
    ·intro w'; go_simp; with_reducible rfl
    rotate_left
    ·simp only [Act.put, zS, zZ, zC, i64_w, i32_w]
     rfl
    refine pure_ (i := 1) (N := some 24) (v := ?_) (a' := ?_) #[T, T, F, F, F, F, F, F, F, F, F] rfl rfl (any_of HT_.out (by kernel_rfl)) (fun _ _ _ h => h) (Or.inl ⟨by rfl, ?_⟩) ?_ ?_
    rotate_left
    ·intro w'; go_simp; with_reducible rfl
    rotate_left
    ·simp only [Act.put, zS, zZ, zC, i64_w, i32_w]
     rfl
    refine pure_ (i := 2) (N := some 25) (v := ?_) (a' := ?_) #[T, T, T, F, F, F, F, F, F, F, F] rfl rfl (any_of HT_.out (by kernel_rfl)) (fun _ _ _ h => h) (Or.inl ⟨by rfl, ?_⟩) ?_ ?_
    rotate_left
    ·intro w'; go_simp; with_reducible rfl
    rotate_left
    ·simp only [Act.put, zS, zZ, zC, i64_w, i32_w]
     rfl
    refine pure_ (i := 4) (N := some 27) (v := ?_) (a' := ?_) #[T, T, T, F, T, F, F, F, F, F, F] rfl rfl (any_of HT_.out (by kernel_rfl)) (fun _ _ _ h => h) (Or.inl ⟨by rfl, ?_⟩) ?_ ?_
    rotate_left
    ·intro w'; go_simp; with_reducible rfl
    rotate_left
    ·simp only [Act.put, zS, zZ, zC, i64_w, i32_w]
     rfl
    refine pure_ (i := 5) (N := some 28) (v := ?_) (a' := ?_) #[T, T, T, F, T, T, F, F, F, F, F] rfl rfl (any_of HT_.out (by kernel_rfl)) (fun _ _ _ h => h) (Or.inl ⟨by rfl, ?_⟩) ?_ ?_
    rotate_left
    ·intro w'; go_simp; with_reducible rfl
    rotate_left
    ·simp only [Act.put, zS, zZ, zC, i64_w, i32_w]
     rfl
    refine pure_ (i := 6) (N := some 29) (v := ?_) (a' := ?_) #[T, T, T, F, T, T, T, F, F, F, F] rfl rfl (any_of HT_.out (by kernel_rfl)) (fun _ _ _ h => h) (Or.inl ⟨by rfl, ?_⟩) ?_ ?_
    rotate_left
    ·intro w'; go_simp; with_reducible rfl
    rotate_left
    ·simp only [Act.put, zS, zZ, zC, i64_w, i32_w]
     rfl
    refine pure_ (i := 7) (N := some 30) (v := ?_) (a' := ?_) #[T, T, T, F, T, T, T, T, F, F, F] rfl rfl (any_of HT_.out (by kernel_rfl)) (fun _ _ _ h => h) (Or.inl ⟨by rfl, ?_⟩) ?_ ?_
    rotate_left
    ·intro w'; go_simp; with_reducible rfl
    rotate_left
    ·simp only [Act.put, zS, zZ, zC, i64_w, i32_w]
     rfl
    refine take_ (i := 3) (N := some 26) (v := ?_) (a' := ?_) #[T, T, T, T, T, T, T, T, F, F, F] rfl rfl (take_ofW HT_.out HW_.out (by kernel_rfl)) (fun _ _ _ h => h) (Or.inl ⟨by rfl, ?_⟩) hHeld ?_ ?_
    rotate_left
    ·rintro w' ⟨s0, s1⟩
     go_simp; with_reducible rfl
    rotate_left
    ·simp only [Act.put, zS, zZ, zC, i64_w, i32_w]
     rfl
    refine take_ (i := 8) (N := some 31) (v := ?_) (a' := ?_) #[T, T, T, T, T, T, T, T, T, F, F] rfl rfl (take_ofW HT_.out HW_.out (by kernel_rfl)) (fun _ _ _ h => h) (Or.inl ⟨by rfl, ?_⟩) hHeld ?_ ?_
    rotate_left
    ·rintro w' ⟨s0, s1⟩
     go_simp; with_reducible rfl
    rotate_left
    ·simp only [Act.put, zS, zZ, zC, i64_w, i32_w]
     rfl
    refine one_ (i := 9) (N := some 32) #[T, T, T, T, T, T, T, T, T, T, F] rfl rfl (one_of HT_.out (by kernel_rfl)) (by decide) (fun K hK => ?_)
    refine goes_ Tryd.func22 (by kernel_rfl) rfl #[.string (rdOf ByteArray.empty l1 x7_1), .string (rdOf ByteArray.empty l1 (ji6))] (by rfl) rfl rfl (by (try simp only [List.map_toArray, List.map_cons, List.map_nil]); first | done | (simp only [hji6]; rfl) | rfl | (simp only [List.length_drop, List.length_take]; rfl)) ?_
    with_reducible refine (copseref02_Common.calls k1 (rdOf ByteArray.empty l1 x7_1) (rdOf ByteArray.empty l1 (ji6)) t316 _ A8.out).mono ?_
    rintro e w48 ⟨rfl, hb⟩
    refine ⟨_, rfl, ?_⟩
    have n0_ := zA (below_step (by repeat (first | (with_reducible first | exact HB.out | apply zL | apply zN | apply zD) | exact HB.out)) hb)
    clear HB; have HB := n0_; clear n0_
    (try clear hb)
    (try clear hb2)
    (try clear hk)
    (try clear hi)
    refine hK.out _ _ ⟨((HB.out.cell (zB w _ hw314_0)).trans hw314_0), ((HB.out.cell (zB w _ hw315_0)).trans hw315_0)⟩ (fun hHeld => ?_)
    clear hK K
    refine norm_ (a' := ?_) ?_ ?_
    rotate_left
    ·show Act.put _ (some 32) _ = _
     simp only [Act.put, zS, zZ, zC, i64_w, i32_w]
     rfl
    refine pure_ (i := 10) (N := some 8) (v := ?_) (a' := ?_) #[T, T, T, T, T, T, T, T, T, T, T] rfl rfl (any_of HT_.out (by kernel_rfl)) (fun _ _ _ h => h) (Or.inl ⟨by rfl, ?_⟩) ?_ ?_
    rotate_left
    ·intro w'; go_simp; with_reducible rfl
    rotate_left
    ·simp only [Act.put, zS, zZ, zC, i64_w, i32_w]
     rfl
    refine done_ (done_of HT_.out (by kernel_rfl)) ?_
    try go_wp2_with (first | ((with_reducible refine gate_callee (f := 11) rfl ?_); refine goesL_ (some 36) rfl rfl Tryd.func11 (by kernel_rfl) rfl #[.slice (some ad314) l1.length c1, .string t316] rfl (by (try simp only [List.map_toArray, List.map_cons, List.map_nil]); first | done | rfl | (simp only [List.length_drop, List.length_take]; rfl)) ?_; (with_reducible refine (copseref16_At.calls k1 _ _ l1 t316 t317 t318 _ ?side1 ?side2 A9.out).mono ?_); (case side1 => repeat (first | exact (Kd.C_below HR1.out HB.out) | (with_reducible refine Kd.C_alloc ?_ _) | (with_reducible refine Kd.C_drewN ?_ _) | (with_reducible refine Kd.C_drew ?_))); (case side2 => exact HC1.out); rintro e w49 ⟨v319, rfl, ho0, hb⟩; refine ⟨_, rfl, ?_⟩; have n0_ := zA (Kd.R_lower ho0 (below_size (by repeat (first | (with_reducible first | exact HB.out | apply zL | apply zN | apply zD) | exact HB.out)))); have n1_ := zA (below_step (by repeat (first | (with_reducible first | exact HB.out | apply zL | apply zN | apply zD) | exact HB.out)) hb); clear HB; have HO320 := n0_; have HB := n1_; clear n0_ n1_; (try clear hb); (try clear hb2); (try clear hk); (try clear hi); (try clear ho0); obtain ⟨Ao50, co50, eo50⟩ := Kd.R_slice HO320.out; subst eo50) | ((with_reducible refine gate_callee (f := 27) rfl ?_); refine goesL_ (some 41) rfl rfl Tryd.func27 (by kernel_rfl) rfl #[.slice A0 l0.length c0, .slice Ao50 t317.length co50] rfl (by (try simp only [List.map_toArray, List.map_cons, List.map_nil]); first | done | rfl | (simp only [List.length_drop, List.length_take]; rfl)) ?_; (with_reducible refine (copseref16_cost.calls k1 _ _ l0 _ _ t317 t321 _ ?side1 ?side2 ?side3 ?side4 A10.out).mono ?_); (case side1 => repeat (first | exact (Kd.C_below HR0.out HB.out) | (with_reducible refine Kd.C_alloc ?_ _) | (with_reducible refine Kd.C_drewN ?_ _) | (with_reducible refine Kd.C_drew ?_))); (case side2 => exact HC0.out); (case side3 => repeat (first | exact (Kd.R_reads' HO320.out).2.2 | (with_reducible refine Kd.C_alloc ?_ _) | (with_reducible refine Kd.C_drewN ?_ _) | (with_reducible refine Kd.C_drew ?_))); (case side4 => exact (Kd.R_reads' HO320.out).2.1); rintro e w51 ⟨rfl, hb⟩; refine ⟨_, rfl, ?_⟩; have n0_ := zA (Kd.R_below (by (with_reducible repeat (first | apply Kd.R_alloc | apply Kd.R_drewN | apply Kd.R_drew)); exact HO320.out) hb); have n1_ := zA (below_step (by repeat (first | (with_reducible first | exact HB.out | apply zL | apply zN | apply zD) | exact HB.out)) hb); clear HO320; clear HB; have HO320 := n0_; have HB := n1_; clear n0_ n1_; (try clear hb); (try clear hb2); (try clear hk); (try clear hi)) | ((with_reducible refine gate_callee (f := 40) rfl ?_); refine goesL_ (some 43) rfl rfl Tryd.func40 (by kernel_rfl) rfl #[.string t316] rfl (by (try simp only [List.map_toArray, List.map_cons, List.map_nil]); first | done | rfl | (simp only [List.length_drop, List.length_take]; rfl)) ?_; (with_reducible refine (copseref02_Split.calls k1 t316 t322 _ A11.out).mono ?_); rintro e w52 ⟨v323, rfl, ho0, hb⟩; refine ⟨_, rfl, ?_⟩; have n0_ := zA (Kd.R_elder' (by (with_reducible repeat (first | apply Kd.R_alloc | apply Kd.R_drewN | apply Kd.R_drew)); exact HO320.out) (Kd.R_base ho0) hb); have n1_ := zA (Kd.R_lower (Kd.R_new' ho0 (Kd.R_lt (by (with_reducible repeat (first | apply Kd.R_alloc | apply Kd.R_drewN | apply Kd.R_drew)); exact HO320.out))) (below_size (by repeat (first | (with_reducible first | exact HB.out | apply zL | apply zN | apply zD) | exact HB.out)))); have n2_ := zA (below_step (by repeat (first | (with_reducible first | exact HB.out | apply zL | apply zN | apply zD) | exact HB.out)) hb); clear HO320; clear HB; have HO320 := n0_; have HO324 := n1_; have HB := n2_; clear n0_ n1_ n2_; (try clear hb); (try clear hb2); (try clear hk); (try clear hi); (try clear ho0); obtain ⟨Ao53, co53, eo53⟩ := Kd.R_slice HO324.out; subst eo53) | ((with_reducible refine gate_callee (f := 40) rfl ?_); refine goesL_ (some 46) rfl rfl Tryd.func40 (by kernel_rfl) rfl #[.string x5_1] rfl (by (try simp only [List.map_toArray, List.map_cons, List.map_nil]); first | done | rfl | (simp only [List.length_drop, List.length_take]; rfl)) ?_; (with_reducible refine (copseref02_Split.calls k1 x5_1 t325 _ A12.out).mono ?_); rintro e w54 ⟨v326, rfl, ho0, hb⟩; refine ⟨_, rfl, ?_⟩; have n0_ := zA (Kd.R_elder' (by (with_reducible repeat (first | apply Kd.R_alloc | apply Kd.R_drewN | apply Kd.R_drew)); exact HO320.out) (Kd.R_base ho0) hb); have n1_ := zA (Kd.R_elder' (by (with_reducible repeat (first | apply Kd.R_alloc | apply Kd.R_drewN | apply Kd.R_drew)); exact HO324.out) (Kd.R_base ho0) hb); have n2_ := zA (Kd.R_lower (Kd.R_new' (Kd.R_new' ho0 (Kd.R_lt (by (with_reducible repeat (first | apply Kd.R_alloc | apply Kd.R_drewN | apply Kd.R_drew)); exact HO320.out))) (Kd.R_lt (by (with_reducible repeat (first | apply Kd.R_alloc | apply Kd.R_drewN | apply Kd.R_drew)); exact HO324.out))) (below_size (by repeat (first | (with_reducible first | exact HB.out | apply zL | apply zN | apply zD) | exact HB.out)))); have n3_ := zA (below_step (by repeat (first | (with_reducible first | exact HB.out | apply zL | apply zN | apply zD) | exact HB.out)) hb); clear HO320; clear HO324; clear HB; have HO320 := n0_; have HO324 := n1_; have HO327 := n2_; have HB := n3_; clear n0_ n1_ n2_ n3_; (try clear hb); (try clear hb2); (try clear hk); (try clear hi); (try clear ho0); obtain ⟨Ao55, co55, eo55⟩ := Kd.R_slice HO327.out; subst eo55) | (go_at_call 35; (with_reducible refine (copseref02_Cmp.calls k1 t316 x5_1 t328 _ A45.out).mono ?_); rintro e w56 ⟨rfl, hb⟩; have n0_ := zA (Kd.R_below (by (with_reducible repeat (first | apply Kd.R_alloc | apply Kd.R_drewN | apply Kd.R_drew)); exact HO320.out) hb); have n1_ := zA (Kd.R_below (by (with_reducible repeat (first | apply Kd.R_alloc | apply Kd.R_drewN | apply Kd.R_drew)); exact HO324.out) hb); have n2_ := zA (Kd.R_below (by (with_reducible repeat (first | apply Kd.R_alloc | apply Kd.R_drewN | apply Kd.R_drew)); exact HO327.out) hb); have n3_ := zA (below_step (by repeat (first | (with_reducible first | exact HB.out | apply zL | apply zN | apply zD) | exact HB.out)) hb); clear HO320; clear HO324; clear HO327; clear HB; have HO320 := n0_; have HO324 := n1_; have HO327 := n2_; have HB := n3_; clear n0_ n1_ n2_ n3_; (try clear hb); (try clear hb2); (try clear hk); (try clear hi)))
    go_roundg k1
    case measure => have := HK1.out; omega
    case rel => exact ⟨(t316), (t321), (ji6), (by first | rfl | (simp; done) | (simp [*]; done)), (by first | rfl | (simp; done) | (simp [*]; done)), (by first | rfl | (simp; done) | (simp only [← hji6] <;> (first | rfl | simp)) | (simp [*]; done)), H', ⟨by have := HK1.out; omega⟩, ⟨by repeat (first | (with_reducible first | exact HB.out | apply zL | apply zN | apply zD) | exact HB.out)⟩⟩
   rw [if_neg c46] at H
   have c46b0 : decide (t328 < 0) = false := decide_eq_false c46
   clear c46
   have H' := zA H
   clear H
   try go_wp2
   have n0_ := zA (zD HB.out)
   clear HB; have HB := n0_; clear n0_
   have p314 : 0 ≤ (x7_1 : Int) := zO (by first | (with_reducible assumption) | assumption)
   have q314 : x7_1 < (l1.length : Int) := zO (by first | (with_reducible assumption) | assumption)
   obtain ⟨ad314, e314, hx314_0⟩ := Kd.at_string HR1.out x7_1 p314 q314
   have hw314_0 := hx314_0
   cases e314
   replace hx314_0 := (HB.out.cell (zB w _ hx314_0)).trans hx314_0
   replace p314 := eq_true p314
   replace q314 := eq_true q314
   have p315 : 0 ≤ ((ji6) : Int) := zO (by first | (with_reducible assumption) | assumption)
   have q315 : (ji6) < (l1.length : Int) := zO (by first | (with_reducible assumption) | assumption)
   obtain ⟨ad315, e315, hx315_0⟩ := Kd.at_string HR1.out (ji6) p315 q315
   have hw315_0 := hx315_0
   obtain rfl : ad314 = ad315 := (by injection e315)
   replace hx315_0 := (HB.out.cell (zB w _ hx315_0)).trans hx315_0
   replace p315 := eq_true p315
   replace q315 := eq_true q315
   refine start_ (n := 11) (S := fun w' => w'.cell? (ad314.add (x7_1).toNat) = some (.string (rdOf ByteArray.empty l1 x7_1)) ∧ w'.cell? (ad314.add ((ji6)).toNat) = some (.string (rdOf ByteArray.empty l1 (ji6)))) (ds := []) #[F, F, F, F, F, F, F, F, F, F, F] (by kernel_rfl) rfl rfl ⟨((HB.out.cell (zB w _ hw314_0)).trans hw314_0), ((HB.out.cell (zB w _ hw315_0)).trans hw315_0)⟩ (fun hHeld => ?_); refine with_tabW copseref16_step.tab6 copseref16_step.bits6 (fun HT_ HW_ => ?_)
   generalize wr.drew = w57 at HB hx314_0 hx315_0 hHeld ⊢
   refine pure_ (i := 0) (N := some 23) (v := ?_) (a' := ?_) #[T, F, F, F, F, F, F, F, F, F, F] rfl rfl (any_of HT_.out (by kernel_rfl)) (fun _ _ _ h => h) (Or.inl ⟨by rfl, ?_⟩) ?_ ?_
   rotate_left
   ·intro w'; go_simp; with_reducible rfl
   rotate_left
   ·simp only [Act.put, zS, zZ, zC, i64_w, i32_w]
    rfl
   refine pure_ (i := 1) (N := some 24) (v := ?_) (a' := ?_) #[T, T, F, F, F, F, F, F, F, F, F] rfl rfl (any_of HT_.out (by kernel_rfl)) (fun _ _ _ h => h) (Or.inl ⟨by rfl, ?_⟩) ?_ ?_
   rotate_left
   ·intro w'; go_simp; with_reducible rfl
   rotate_left
   ·simp only [Act.put, zS, zZ, zC, i64_w, i32_w]
    rfl
   refine pure_ (i := 2) (N := some 25) (v := ?_) (a' := ?_) #[T, T, T, F, F, F, F, F, F, F, F] rfl rfl (any_of HT_.out (by kernel_rfl)) (fun _ _ _ h => h) (Or.inl ⟨by rfl, ?_⟩) ?_ ?_
   rotate_left
   ·intro w'; go_simp; with_reducible rfl
   rotate_left
   ·simp only [Act.put, zS, zZ, zC, i64_w, i32_w]
    rfl
   refine pure_ (i := 4) (N := some 27) (v := ?_) (a' := ?_) #[T, T, T, F, T, F, F, F, F, F, F] rfl rfl (any_of HT_.out (by kernel_rfl)) (fun _ _ _ h => h) (Or.inl ⟨by rfl, ?_⟩) ?_ ?_
   rotate_left
   ·intro w'; go_simp; with_reducible rfl
   rotate_left
   ·simp only [Act.put, zS, zZ, zC, i64_w, i32_w]
    rfl
   refine pure_ (i := 5) (N := some 28) (v := ?_) (a' := ?_) #[T, T, T, F, T, T, F, F, F, F, F] rfl rfl (any_of HT_.out (by kernel_rfl)) (fun _ _ _ h => h) (Or.inl ⟨by rfl, ?_⟩) ?_ ?_
   rotate_left
   ·intro w'; go_simp; with_reducible rfl
   rotate_left
   ·simp only [Act.put, zS, zZ, zC, i64_w, i32_w]
    rfl
   refine pure_ (i := 6) (N := some 29) (v := ?_) (a' := ?_) #[T, T, T, F, T, T, T, F, F, F, F] rfl rfl (any_of HT_.out (by kernel_rfl)) (fun _ _ _ h => h) (Or.inl ⟨by rfl, ?_⟩) ?_ ?_
   rotate_left
   ·intro w'; go_simp; with_reducible rfl
   rotate_left
   ·simp only [Act.put, zS, zZ, zC, i64_w, i32_w]
    rfl
   refine pure_ (i := 7) (N := some 30) (v := ?_) (a' := ?_) #[T, T, T, F, T, T, T, T, F, F, F] rfl rfl (any_of HT_.out (by kernel_rfl)) (fun _ _ _ h => h) (Or.inl ⟨by rfl, ?_⟩) ?_ ?_
   rotate_left
   ·intro w'; go_simp; with_reducible rfl
   rotate_left
   ·simp only [Act.put, zS, zZ, zC, i64_w, i32_w]
    rfl
   refine take_ (i := 3) (N := some 26) (v := ?_) (a' := ?_) #[T, T, T, T, T, T, T, T, F, F, F] rfl rfl (take_ofW HT_.out HW_.out (by kernel_rfl)) (fun _ _ _ h => h) (Or.inl ⟨by rfl, ?_⟩) hHeld ?_ ?_
   rotate_left
   ·rintro w' ⟨s0, s1⟩
    go_simp; with_reducible rfl
   rotate_left
   ·simp only [Act.put, zS, zZ, zC, i64_w, i32_w]
    rfl
   refine take_ (i := 8) (N := some 31) (v := ?_) (a' := ?_) #[T, T, T, T, T, T, T, T, T, F, F] rfl rfl (take_ofW HT_.out HW_.out (by kernel_rfl)) (fun _ _ _ h => h) (Or.inl ⟨by rfl, ?_⟩) hHeld ?_ ?_
   rotate_left
   ·rintro w' ⟨s0, s1⟩
    go_simp; with_reducible rfl
   rotate_left
   ·simp only [Act.put, zS, zZ, zC, i64_w, i32_w]
    rfl
   refine one_ (i := 9) (N := some 32) #[T, T, T, T, T, T, T, T, T, T, F] rfl rfl (one_of HT_.out (by kernel_rfl)) (by decide) (fun K hK => ?_)
   refine goes_ Tryd.func22 (by kernel_rfl) rfl #[.string (rdOf ByteArray.empty l1 x7_1), .string (rdOf ByteArray.empty l1 (ji6))] (by rfl) rfl rfl (by (try simp only [List.map_toArray, List.map_cons, List.map_nil]); first | done | (simp only [hji6]; rfl) | rfl | (simp only [List.length_drop, List.length_take]; rfl)) ?_
   with_reducible refine (copseref02_Common.calls k1 (rdOf ByteArray.empty l1 x7_1) (rdOf ByteArray.empty l1 (ji6)) t316 _ A8.out).mono ?_
   rintro e w58 ⟨rfl, hb⟩
   refine ⟨_, rfl, ?_⟩
   have n0_ := zA (below_step (by repeat (first | (with_reducible first | exact HB.out | apply zL | apply zN | apply zD) | exact HB.out)) hb)
   clear HB; have HB := n0_; clear n0_
   (try clear hb)
   (try clear hb2)
   (try clear hk)
   (try clear hi)
   refine hK.out _ _ ⟨((HB.out.cell (zB w _ hw314_0)).trans hw314_0), ((HB.out.cell (zB w _ hw315_0)).trans hw315_0)⟩ (fun hHeld => ?_)
   clear hK K
   refine norm_ (a' := ?_) ?_ ?_
   rotate_left
   ·show Act.put _ (some 32) _ = _
    simp only [Act.put, zS, zZ, zC, i64_w, i32_w]
    rfl
   refine pure_ (i := 10) (N := some 8) (v := ?_) (a' := ?_) #[T, T, T, T, T, T, T, T, T, T, T] rfl rfl (any_of HT_.out (by kernel_rfl)) (fun _ _ _ h => h) (Or.inl ⟨by rfl, ?_⟩) ?_ ?_
   rotate_left
   ·intro w'; go_simp; with_reducible rfl
   rotate_left
   ·simp only [Act.put, zS, zZ, zC, i64_w, i32_w]
    rfl
   refine done_ (done_of HT_.out (by kernel_rfl)) ?_
   try go_wp2_with (first | ((with_reducible refine gate_callee (f := 11) rfl ?_); refine goesL_ (some 36) rfl rfl Tryd.func11 (by kernel_rfl) rfl #[.slice (some ad314) l1.length c1, .string t316] rfl (by (try simp only [List.map_toArray, List.map_cons, List.map_nil]); first | done | rfl | (simp only [List.length_drop, List.length_take]; rfl)) ?_; (with_reducible refine (copseref16_At.calls k1 _ _ l1 t316 t317 t318 _ ?side1 ?side2 A9.out).mono ?_); (case side1 => repeat (first | exact (Kd.C_below HR1.out HB.out) | (with_reducible refine Kd.C_alloc ?_ _) | (with_reducible refine Kd.C_drewN ?_ _) | (with_reducible refine Kd.C_drew ?_))); (case side2 => exact HC1.out); rintro e w59 ⟨v319, rfl, ho0, hb⟩; refine ⟨_, rfl, ?_⟩; have n0_ := zA (Kd.R_lower ho0 (below_size (by repeat (first | (with_reducible first | exact HB.out | apply zL | apply zN | apply zD) | exact HB.out)))); have n1_ := zA (below_step (by repeat (first | (with_reducible first | exact HB.out | apply zL | apply zN | apply zD) | exact HB.out)) hb); clear HB; have HO320 := n0_; have HB := n1_; clear n0_ n1_; (try clear hb); (try clear hb2); (try clear hk); (try clear hi); (try clear ho0); obtain ⟨Ao60, co60, eo60⟩ := Kd.R_slice HO320.out; subst eo60) | ((with_reducible refine gate_callee (f := 27) rfl ?_); refine goesL_ (some 41) rfl rfl Tryd.func27 (by kernel_rfl) rfl #[.slice A0 l0.length c0, .slice Ao60 t317.length co60] rfl (by (try simp only [List.map_toArray, List.map_cons, List.map_nil]); first | done | rfl | (simp only [List.length_drop, List.length_take]; rfl)) ?_; (with_reducible refine (copseref16_cost.calls k1 _ _ l0 _ _ t317 t321 _ ?side1 ?side2 ?side3 ?side4 A10.out).mono ?_); (case side1 => repeat (first | exact (Kd.C_below HR0.out HB.out) | (with_reducible refine Kd.C_alloc ?_ _) | (with_reducible refine Kd.C_drewN ?_ _) | (with_reducible refine Kd.C_drew ?_))); (case side2 => exact HC0.out); (case side3 => repeat (first | exact (Kd.R_reads' HO320.out).2.2 | (with_reducible refine Kd.C_alloc ?_ _) | (with_reducible refine Kd.C_drewN ?_ _) | (with_reducible refine Kd.C_drew ?_))); (case side4 => exact (Kd.R_reads' HO320.out).2.1); rintro e w61 ⟨rfl, hb⟩; refine ⟨_, rfl, ?_⟩; have n0_ := zA (Kd.R_below (by (with_reducible repeat (first | apply Kd.R_alloc | apply Kd.R_drewN | apply Kd.R_drew)); exact HO320.out) hb); have n1_ := zA (below_step (by repeat (first | (with_reducible first | exact HB.out | apply zL | apply zN | apply zD) | exact HB.out)) hb); clear HO320; clear HB; have HO320 := n0_; have HB := n1_; clear n0_ n1_; (try clear hb); (try clear hb2); (try clear hk); (try clear hi)) | ((with_reducible refine gate_callee (f := 40) rfl ?_); refine goesL_ (some 43) rfl rfl Tryd.func40 (by kernel_rfl) rfl #[.string t316] rfl (by (try simp only [List.map_toArray, List.map_cons, List.map_nil]); first | done | rfl | (simp only [List.length_drop, List.length_take]; rfl)) ?_; (with_reducible refine (copseref02_Split.calls k1 t316 t322 _ A11.out).mono ?_); rintro e w62 ⟨v323, rfl, ho0, hb⟩; refine ⟨_, rfl, ?_⟩; have n0_ := zA (Kd.R_elder' (by (with_reducible repeat (first | apply Kd.R_alloc | apply Kd.R_drewN | apply Kd.R_drew)); exact HO320.out) (Kd.R_base ho0) hb); have n1_ := zA (Kd.R_lower (Kd.R_new' ho0 (Kd.R_lt (by (with_reducible repeat (first | apply Kd.R_alloc | apply Kd.R_drewN | apply Kd.R_drew)); exact HO320.out))) (below_size (by repeat (first | (with_reducible first | exact HB.out | apply zL | apply zN | apply zD) | exact HB.out)))); have n2_ := zA (below_step (by repeat (first | (with_reducible first | exact HB.out | apply zL | apply zN | apply zD) | exact HB.out)) hb); clear HO320; clear HB; have HO320 := n0_; have HO324 := n1_; have HB := n2_; clear n0_ n1_ n2_; (try clear hb); (try clear hb2); (try clear hk); (try clear hi); (try clear ho0); obtain ⟨Ao63, co63, eo63⟩ := Kd.R_slice HO324.out; subst eo63) | ((with_reducible refine gate_callee (f := 40) rfl ?_); refine goesL_ (some 46) rfl rfl Tryd.func40 (by kernel_rfl) rfl #[.string x5_1] rfl (by (try simp only [List.map_toArray, List.map_cons, List.map_nil]); first | done | rfl | (simp only [List.length_drop, List.length_take]; rfl)) ?_; (with_reducible refine (copseref02_Split.calls k1 x5_1 t325 _ A12.out).mono ?_); rintro e w64 ⟨v326, rfl, ho0, hb⟩; refine ⟨_, rfl, ?_⟩; have n0_ := zA (Kd.R_elder' (by (with_reducible repeat (first | apply Kd.R_alloc | apply Kd.R_drewN | apply Kd.R_drew)); exact HO320.out) (Kd.R_base ho0) hb); have n1_ := zA (Kd.R_elder' (by (with_reducible repeat (first | apply Kd.R_alloc | apply Kd.R_drewN | apply Kd.R_drew)); exact HO324.out) (Kd.R_base ho0) hb); have n2_ := zA (Kd.R_lower (Kd.R_new' (Kd.R_new' ho0 (Kd.R_lt (by (with_reducible repeat (first | apply Kd.R_alloc | apply Kd.R_drewN | apply Kd.R_drew)); exact HO320.out))) (Kd.R_lt (by (with_reducible repeat (first | apply Kd.R_alloc | apply Kd.R_drewN | apply Kd.R_drew)); exact HO324.out))) (below_size (by repeat (first | (with_reducible first | exact HB.out | apply zL | apply zN | apply zD) | exact HB.out)))); have n3_ := zA (below_step (by repeat (first | (with_reducible first | exact HB.out | apply zL | apply zN | apply zD) | exact HB.out)) hb); clear HO320; clear HO324; clear HB; have HO320 := n0_; have HO324 := n1_; have HO327 := n2_; have HB := n3_; clear n0_ n1_ n2_ n3_; (try clear hb); (try clear hb2); (try clear hk); (try clear hi); (try clear ho0); obtain ⟨Ao65, co65, eo65⟩ := Kd.R_slice HO327.out; subst eo65) | (go_at_call 35; (with_reducible refine (copseref02_Cmp.calls k1 t316 x5_1 t328 _ A45.out).mono ?_); rintro e w66 ⟨rfl, hb⟩; have n0_ := zA (Kd.R_below (by (with_reducible repeat (first | apply Kd.R_alloc | apply Kd.R_drewN | apply Kd.R_drew)); exact HO320.out) hb); have n1_ := zA (Kd.R_below (by (with_reducible repeat (first | apply Kd.R_alloc | apply Kd.R_drewN | apply Kd.R_drew)); exact HO324.out) hb); have n2_ := zA (Kd.R_below (by (with_reducible repeat (first | apply Kd.R_alloc | apply Kd.R_drewN | apply Kd.R_drew)); exact HO327.out) hb); have n3_ := zA (below_step (by repeat (first | (with_reducible first | exact HB.out | apply zL | apply zN | apply zD) | exact HB.out)) hb); clear HO320; clear HO324; clear HO327; clear HB; have HO320 := n0_; have HO324 := n1_; have HO327 := n2_; have HB := n3_; clear n0_ n1_ n2_ n3_; (try clear hb); (try clear hb2); (try clear hk); (try clear hi)))
   go_roundg k1
   case measure => have := HK1.out; omega
   case rel => exact ⟨(x5_1), (x6_1), (ji6), (by first | rfl | (simp; done) | (simp [*]; done)), (by first | rfl | (simp; done) | (simp [*]; done)), (by first | rfl | (simp; done) | (simp only [← hji6] <;> (first | rfl | simp)) | (simp [*]; done)), H', ⟨by have := HK1.out; omega⟩, ⟨by repeat (first | (with_reducible first | exact HB.out | apply zL | apply zN | apply zD) | exact HB.out)⟩⟩
def RowC (w : World) (v : Value) (xs : List ByteArray) : Prop := ∃ A c, v = .slice A xs.length c ∧ xs.length ≤ c ∧ Kd.C Kd.string w A xs.length xs
theorem RowC.of_R {w : World} {base : Nat} {ok : Nat → Prop} {v : Value} {xs : List ByteArray} (h : Kd.R Kd.string 9 w base ok v xs) : RowC w v xs := Kd.R_reads h
theorem RowC.nil (w : World) : RowC w (.slice none 0 0) [] := RowC.of_R (Kd.R_nil _ _ _ w.heap.size (fun _ => True))
def copseref16_Step.f (k : Nat) (l0 : List S45) (l1 : List ByteArray) : Option (List ByteArray × Int) :=
 (copseref16_looked.f k l0 l1).bind fun e => if e = 0 then (if l1.length < 2 then some (l1, 0) else (copseref16_step.f k l0 l1).bind fun c => some (c, 0)) else some ([], e)
def copseref16_Down.go : Nat → List S45 → List ByteArray → Int → Option (List ByteArray)
 | 0, _, _, _ => none
 | k + 1, l0, x, b => if b < (x.length : Int) then (copseref16_step.f k l0 x).bind fun y => copseref16_Down.go k l0 y b else some x
def copseref16_Down.f (k : Nat) (l0 : List S45) (l1 : List ByteArray) (a2 : Int) : Option (List ByteArray × Int) :=
 (copseref16_looked.f k l0 l1).bind fun e => if e = 0 then (if a2 < 1 then some ([], 6) else (copseref16_Down.go k l0 l1 a2).bind fun c => some (c, 0)) else some ([], e)
set_option maxHeartbeats 2000000 in
set_option maxRecDepth 100000 in
theorem copseref16_Step.calls (k : Nat) (A0 : Option Addr) (c0 : Nat) (l0 : List S45) (A1 : Option Addr) (c1 : Nat) (l1 : List ByteArray) (r1 : List ByteArray) (r2 : Int) (w : World) (hr0 : Kd.C k45 w A0 l0.length l0) (hc0 : l0.length ≤ c0) (hr1 : Kd.C Kd.string w A1 l1.length l1) (hc1 : l1.length ≤ c1) (h : copseref16_Step.f k l0 l1 = some (r1, r2)) :
  Calls Tryd.prog 14 #[.slice A0 l0.length c0, .slice A1 l1.length c1] w fun e w' => ∃ v0_ : Value, e = .returned (.tuple #[v0_, .int .i64 r2]) ∧ RowC w' v0_ r1 ∧ Below w.heap.size w w' := by
 unfold copseref16_Step.f at h
 obtain ⟨e, he, h⟩ := Option.bind_eq_some_iff.mp h
 have HL := zA (copseref16_looked.calls k A0 c0 l0 A1 c1 l1 e w hr0 hc0 hr1 hc1 he)
 have HR0 := zA hr0; have HC0 := zA hc0; have HR1 := zA hr1; have HC1 := zA hc1; clear hr0 hc0 hr1 hc1 he
 by_cases h0 : e = 0
 rotate_left
 ·rw [if_neg h0] at h
  injection h with h
  injection h with h1 h2
  subst h1 h2
  have hne : (e != 0) = true := bne_iff_ne.mpr h0
  clear h0
  go_enter Tryd.func14, Tryd.ntmps14
  go_wp2_with (first
   | (go_at_call 26; refine HL.out.mono ?_; rintro e w1 ⟨rfl, hb⟩; have HB1 := zA hb; clear hb))
  go_ret2
  exact ⟨_, rfl, RowC.nil _, HB1.out⟩
 subst h0; rw [if_pos rfl] at h
 by_cases h2 : l1.length < 2
 ·rw [if_pos h2] at h
  injection h with h
  injection h with h1 h2'
  subst h1 h2'
  have d1 : decide (l1.length < 2) = true := decide_eq_true h2
  have d2 : decide ((l1.length : Int) < 2) = true := decide_eq_true (by omega)
  clear h2
  go_enter Tryd.func14, Tryd.ntmps14
  go_wp2_with (first
   | (go_at_call 26; refine HL.out.mono ?_; rintro e w1 ⟨rfl, hb⟩; have HB1 := zA hb; clear hb))
  go_ret2
  exact ⟨_, rfl, ⟨_, _, rfl, HC1.out, Kd.C_below HR1.out HB1.out⟩, HB1.out⟩
 rw [if_neg h2] at h
 obtain ⟨c, hc, h⟩ := Option.bind_eq_some_iff.mp h
 injection h with h
 injection h with h1 h2'
 subst h1 h2'; have HC := zA hc
 have d1 : decide (l1.length < 2) = false := decide_eq_false h2
 have d2 : decide ((l1.length : Int) < 2) = false := decide_eq_false (by omega)
 clear hc h2
 go_enter Tryd.func14, Tryd.ntmps14
 go_wp2_with (first
  | (go_at_call 26; refine HL.out.mono ?_; rintro e w1 ⟨rfl, hb⟩; have HB1 := zA hb; clear hb)
  | (go_at_call 34; refine (copseref16_step.calls k _ _ l0 _ _ l1 c _ (Kd.C_below HR0.out HB1.out) HC0.out (Kd.C_below HR1.out HB1.out) HC1.out HC.out).mono ?_; rintro e w2 ⟨v2, rfl, hR, hb⟩; have HB2 := zA hb; have HR := zA hR; clear hb hR))
 go_ret2
 exact ⟨_, rfl, RowC.of_R HR.out, HB1.out.trans (HB2.out.mono HB1.out.size)⟩
set_option maxHeartbeats 2000000 in
set_option maxRecDepth 100000 in
theorem copseref16_Down.calls (k : Nat) (A0 : Option Addr) (c0 : Nat) (l0 : List S45) (A1 : Option Addr) (c1 : Nat) (l1 : List ByteArray) (a2 : Int) (r1 : List ByteArray) (r2 : Int) (w : World) (hr0 : Kd.C k45 w A0 l0.length l0) (hc0 : l0.length ≤ c0) (hr1 : Kd.C Kd.string w A1 l1.length l1) (hc1 : l1.length ≤ c1) (h : copseref16_Down.f k l0 l1 a2 = some (r1, r2)) :
  Calls Tryd.prog 16 #[.slice A0 l0.length c0, .slice A1 l1.length c1, .int .i64 a2] w fun e w' => ∃ v0_ : Value, e = .returned (.tuple #[v0_, .int .i64 r2]) ∧ RowC w' v0_ r1 ∧ Below w.heap.size w w' := by
 unfold copseref16_Down.f at h
 obtain ⟨e, he, h⟩ := Option.bind_eq_some_iff.mp h
 have HL := zA (copseref16_looked.calls k A0 c0 l0 A1 c1 l1 e w hr0 hc0 hr1 hc1 he)
 have HR0 := zA hr0; have HC0 := zA hc0; have HR1 := zA hr1; have HC1 := zA hc1; clear hr0 hc0 hr1 hc1 he
 by_cases h0 : e = 0
 rotate_left
 ·rw [if_neg h0] at h
  injection h with h
  injection h with h1 h2
  subst h1 h2
  have hne : (e != 0) = true := bne_iff_ne.mpr h0
  clear h0
  go_enter Tryd.func16, Tryd.ntmps16
  go_wp2_with (first
   | (go_at_call 26; refine HL.out.mono ?_; rintro e w1 ⟨rfl, hb⟩; have HB1 := zA hb; clear hb))
  go_ret2
  exact ⟨_, rfl, RowC.nil _, HB1.out⟩
 subst h0; rw [if_pos rfl] at h
 by_cases h2 : a2 < 1
 ·rw [if_pos h2] at h
  injection h with h
  injection h with h1 h2'
  subst h1 h2'
  have d1 : decide (a2 < 1) = true := decide_eq_true h2
  clear h2
  go_enter Tryd.func16, Tryd.ntmps16
  go_wp2_with (first
   | (go_at_call 26; refine HL.out.mono ?_; rintro e w1 ⟨rfl, hb⟩; have HB1 := zA hb; clear hb))
  go_ret2
  exact ⟨_, rfl, RowC.nil _, HB1.out⟩
 rw [if_neg h2] at h
 obtain ⟨c, hc, h⟩ := Option.bind_eq_some_iff.mp h
 injection h with h
 injection h with h1 h2'
 subst h1 h2'; have HC := zA hc
 have d1 : decide (a2 < 1) = false := decide_eq_false h2
 clear hc h2
 go_enter Tryd.func16, Tryd.ntmps16
 go_wp2_with (first
  | (go_at_call 26; refine HL.out.mono ?_; rintro e w1 ⟨rfl, hb⟩; have HB1 := zA hb; have HRc : Aside0 (RowC w1 (.slice A1 l1.length c1) l1) := ⟨⟨_, _, rfl, HC1.out, Kd.C_below HR1.out hb⟩⟩; clear hb))
 go_loopg [1] k (fun kq v1 wr => ∃ y : List ByteArray, Aside0 (copseref16_Down.go kq l0 y a2 = some c) ∧ Aside0 (kq ≤ k) ∧ Aside0 (RowC wr v1 y) ∧ Aside0 (Below w.heap.size w wr))
 case atStart => exact ⟨l1, HC, ⟨Nat.le_refl _⟩, HRc, HB1⟩
 case round =>
  clear HC HRc HB1; obtain ⟨y, HA, HK1, HR, HB⟩ := hrel
  cases gk with
  | zero => exact absurd HA.out (by simp [copseref16_Down.go])
  | succ k1 =>
   have H := HA.out
   clear HA
   simp only [copseref16_Down.go] at H
   have hR := HR.out
   obtain ⟨A2, c2, rfl, hyc, hC2⟩ := hR; have HY := zA hyc; have HC2 := zA hC2; clear hyc hC2
   by_cases hc : a2 < (y.length : Int)
   rotate_left
   ·rw [if_neg hc] at H
    injection H with H
    subst H
    have d2 : decide (a2 < (y.length : Int)) = false := decide_eq_false hc
    clear hc; go_wp2; go_ret2
    exact ⟨_, rfl, HR.out, HB.out⟩
   rw [if_pos hc] at H
   obtain ⟨z, hz, H⟩ := Option.bind_eq_some_iff.mp H
   have HZ := zA (hz)
   have H' := zA H
   have d2 : decide (a2 < (y.length : Int)) = true := decide_eq_true hc
   clear hz H hc
   go_wp2_with (first
    | (go_at_call 34; refine (copseref16_step.calls k1 _ _ l0 _ _ y z _ (Kd.C_below HR0.out HB.out) HC0.out HC2.out HY.out HZ.out).mono ?_; rintro e w3 ⟨v3, rfl, hR, hb⟩; have HB3 := zA (HB.out.trans (hb.mono HB.out.size)); have HR3 := zA (RowC.of_R hR); clear hb hR))
   go_roundg k1
   case measure => have := HK1.out; omega
   case rel => exact ⟨z, H', ⟨by have := HK1.out; omega⟩, HR3, HB3⟩
def copselaw16_same.l0 : Nat → List ByteArray → List ByteArray → Int → Option (Bool)
 | 0, _, _, _ => none
 | k + 1, x0, x1, x5 => if x5 < (x0.length : Int) then (if 0 ≤ x5 then (if x5 < (x1.length : Int) then (if (rdOf ByteArray.empty x0 x5).toList = (rdOf ByteArray.empty x1 x5).toList then (copselaw16_same.l0 k x0 x1 (wrap64 (x5 + 1))) else (some false)) else (none)) else (none)) else (some true)
def copselaw16_same.f (k : Nat) (l0 : List ByteArray) (l1 : List ByteArray) : Option (Bool) := if (l0.length : Int) = (l1.length : Int) then (copselaw16_same.l0 k l0 l1 0) else (some false)
set_option maxHeartbeats 8000000 in
set_option maxRecDepth 100000 in
theorem copselaw16_same.calls (k : Nat) (A0 : Option Addr) (c0 : Nat) (l0 : List ByteArray) (A1 : Option Addr) (c1 : Nat) (l1 : List ByteArray) (r : Bool) (w : World) (hr0 : Kd.C Kd.string w A0 l0.length l0) (hc0 : l0.length ≤ c0) (hr1 : Kd.C Kd.string w A1 l1.length l1) (hc1 : l1.length ≤ c1) (h : copselaw16_same.f k l0 l1 = some r) :
  Calls Tryd.prog 12 #[.slice A0 l0.length c0, .slice A1 l1.length c1] w fun e w' => e = .returned (.bool r) ∧ Drawn0 w w' := by
 have HR0 := zA hr0; have HC0 := zA hc0; clear hr0 hc0; have HR1 := zA hr1; have HC1 := zA hc1; clear hr1 hc1
 have H : (if (l0.length : Int) = (l1.length : Int) then (copselaw16_same.l0 k l0 l1 0) else (some false)) = some r := h
 clear h
 by_cases c3 : (l0.length : Int) = (l1.length : Int)
 rotate_left
 ·rw [if_neg c3] at H
  have c3b0 : ((l0.length : Int) == (l1.length : Int)) = false := beq_eq_false_iff_ne.mpr c3
  have c3b1 : ((l0.length : Int) != (l1.length : Int)) = true := bne_iff_ne.mpr c3
  have c3b2 : (l0.length == l1.length) = false := by first | simpa using c3 | (simp at c3 ⊢; omega)
  obtain rfl := Option.some.inj H
  go_enter Tryd.func12, Tryd.ntmps12
  go_wp2
  repeat (go_quiet (fail); try go_wp2)
  go_ret
  exact ⟨by first | rfl | (simp; done) | (simp [*]; done), by repeat (first | exact Drawn0.refl _ | apply Drawn0.step)⟩
 rw [if_pos c3] at H
 have c3b0 : ((l0.length : Int) == (l1.length : Int)) = true := beq_iff_eq.mpr c3
 have c3b1 : ((l0.length : Int) != (l1.length : Int)) = false := bne_eq_false_iff_eq.mpr c3
 have c3b2 : (l0.length == l1.length) = true := by first | simpa using c3 | (simp at c3 ⊢; omega)
 clear c3
 have H' := zA H
 clear H
 go_enter Tryd.func12, Tryd.ntmps12
 go_wp2
 repeat (go_quiet (fail); try go_wp2)
 go_loopg [5] k (fun kq v5 w' => ∃ (x5_1 : Int), v5 = .int .i64 x5_1 ∧ Aside0 (copselaw16_same.l0 kq l0 l1 x5_1 = some r) ∧ Aside0 (kq ≤ k) ∧ Drawn0 w w')
 case atStart => exact ⟨(0), (by first | rfl | (simp; done) | (simp [*]; done)), H', ⟨Nat.le_refl _⟩, by repeat (first | exact Drawn0.refl _ | apply Drawn0.step)⟩
 case round =>
  clear H'
  try clear c1
  try clear p2
  try clear c3
  try clear c3b0
  try clear c3b1
  try clear c3b2
  obtain ⟨x5_1, rfl, HA, HK1, ⟨m1, rfl⟩⟩ := hrel
  cases gk with
  | zero => exact absurd HA.out (by simp [copselaw16_same.l0])
  | succ k1 =>
   have H := HA.out
   clear HA
   simp only [copselaw16_same.l0] at H
   by_cases c4 : x5_1 < (l0.length : Int)
   rotate_left
   ·rw [if_neg c4] at H
    have c4b0 : decide (x5_1 < (l0.length : Int)) = false := decide_eq_false c4
    clear c4; obtain rfl := Option.some.inj H; go_wp2
    repeat (go_quiet (fail); try go_wp2)
    go_ret
    exact ⟨by first | rfl | (simp; done) | (simp [*]; done), by repeat (first | exact Drawn0.refl _ | apply Drawn0.step)⟩
   rw [if_pos c4] at H
   have c4b0 : decide (x5_1 < (l0.length : Int)) = true := decide_eq_true c4
   clear c4
   by_cases c5 : 0 ≤ x5_1
   rotate_left
   ·rw [if_neg c5] at H
    exact absurd H (by simp)
   rw [if_pos c5] at H
   have c5b0 : decide (0 ≤ x5_1) = true := decide_eq_true c5
   clear c5
   by_cases c6 : x5_1 < (l1.length : Int)
   rotate_left
   ·rw [if_neg c6] at H
    exact absurd H (by simp)
   rw [if_pos c6] at H
   have c6b0 : decide (x5_1 < (l1.length : Int)) = true := decide_eq_true c6
   clear c6
   by_cases c7 : (rdOf ByteArray.empty l0 x5_1).toList = (rdOf ByteArray.empty l1 x5_1).toList
   rotate_left
   ·rw [if_neg c7] at H
    have c7b0 : ((rdOf ByteArray.empty l0 x5_1).toList == (rdOf ByteArray.empty l1 x5_1).toList) = false := beq_eq_false_iff_ne.mpr c7
    have c7b1 : ((rdOf ByteArray.empty l0 x5_1).toList != (rdOf ByteArray.empty l1 x5_1).toList) = true := bne_iff_ne.mpr c7
    obtain rfl := Option.some.inj H
    have p330 : 0 ≤ (x5_1 : Int) := zO (by first | (with_reducible assumption) | assumption)
    have q330 : x5_1 < (l0.length : Int) := zO (by first | (with_reducible assumption) | assumption)
    obtain ⟨ad330, e330, hx330_0⟩ := Kd.at_string HR0.out x5_1 p330 q330
    cases e330
    replace p330 := eq_true p330
    replace q330 := eq_true q330
    have p331 : 0 ≤ (x5_1 : Int) := zO (by first | (with_reducible assumption) | assumption)
    have q331 : x5_1 < (l1.length : Int) := zO (by first | (with_reducible assumption) | assumption)
    obtain ⟨ad331, e331, hx331_0⟩ := Kd.at_string HR1.out x5_1 p331 q331
    cases e331
    replace p331 := eq_true p331
    replace q331 := eq_true q331
    go_wp2
    repeat (go_quiet (fail); try go_wp2)
    go_ret
    exact ⟨by first | rfl | (simp; done) | (simp [*]; done), by repeat (first | exact Drawn0.refl _ | apply Drawn0.step)⟩
   rw [if_pos c7] at H
   have c7b0 : ((rdOf ByteArray.empty l0 x5_1).toList == (rdOf ByteArray.empty l1 x5_1).toList) = true := beq_iff_eq.mpr c7
   have c7b1 : ((rdOf ByteArray.empty l0 x5_1).toList != (rdOf ByteArray.empty l1 x5_1).toList) = false := bne_eq_false_iff_eq.mpr c7
   clear c7
   have H' := zA H
   clear H
   have p330 : 0 ≤ (x5_1 : Int) := zO (by first | (with_reducible assumption) | assumption)
   have q330 : x5_1 < (l0.length : Int) := zO (by first | (with_reducible assumption) | assumption)
   obtain ⟨ad330, e330, hx330_0⟩ := Kd.at_string HR0.out x5_1 p330 q330
   cases e330
   replace p330 := eq_true p330
   replace q330 := eq_true q330
   have p331 : 0 ≤ (x5_1 : Int) := zO (by first | (with_reducible assumption) | assumption)
   have q331 : x5_1 < (l1.length : Int) := zO (by first | (with_reducible assumption) | assumption)
   obtain ⟨ad331, e331, hx331_0⟩ := Kd.at_string HR1.out x5_1 p331 q331
   cases e331
   replace p331 := eq_true p331
   replace q331 := eq_true q331
   go_wp2
   repeat (go_quiet (fail); try go_wp2)
   go_roundg k1
   case measure => have := HK1.out; omega
   case rel => exact ⟨(wrap64 (x5_1 + 1)), (by first | rfl | (simp; done) | (simp [*]; done)), H', ⟨by have := HK1.out; omega⟩, by repeat (first | exact Drawn0.refl _ | apply Drawn0.step)⟩
def copselaw16_example.f  : Option ((List (S45))) := some (([(⟨(⟨#[97, 47, 120, 47, 49]⟩ : ByteArray), (⟨#[]⟩ : ByteArray), 0, 5⟩ : S45), (⟨(⟨#[97, 47, 121, 47, 50]⟩ : ByteArray), (⟨#[]⟩ : ByteArray), 0, 7⟩ : S45), (⟨(⟨#[97, 47, 122, 47, 51]⟩ : ByteArray), (⟨#[]⟩ : ByteArray), 0, 100⟩ : S45), (⟨(⟨#[98, 47, 52]⟩ : ByteArray), (⟨#[]⟩ : ByteArray), 0, 1⟩ : S45), (⟨(⟨#[114]⟩ : ByteArray), (⟨#[]⟩ : ByteArray), 0, 3⟩ : S45)] : List (S45)))
set_option maxHeartbeats 8000000 in
set_option maxRecDepth 100000 in
theorem copselaw16_example.calls  (r : List (S45)) (w : World) (h : copselaw16_example.f  = some r) :
  Calls Tryd.prog 23 #[] w fun e w' => ∃ v0_ : Value, e = .returned (v0_) ∧ Kd.R k45 45 w' w.heap.size (fun _ => True) v0_ r ∧ Below w.heap.size w w' := by
 have hu45 := Tryd.underlying45
 have HB := zA (Below.refl w.heap.size w)
 have H : (some (([(⟨(⟨#[97, 47, 120, 47, 49]⟩ : ByteArray), (⟨#[]⟩ : ByteArray), 0, 5⟩ : S45), (⟨(⟨#[97, 47, 121, 47, 50]⟩ : ByteArray), (⟨#[]⟩ : ByteArray), 0, 7⟩ : S45), (⟨(⟨#[97, 47, 122, 47, 51]⟩ : ByteArray), (⟨#[]⟩ : ByteArray), 0, 100⟩ : S45), (⟨(⟨#[98, 47, 52]⟩ : ByteArray), (⟨#[]⟩ : ByteArray), 0, 1⟩ : S45), (⟨(⟨#[114]⟩ : ByteArray), (⟨#[]⟩ : ByteArray), 0, 3⟩ : S45)] : List (S45)))) = some r := h
 clear h
 obtain ⟨y332, hy332⟩ : ∃ y_ : List (S45), y_ = (([(⟨(⟨#[97, 47, 120, 47, 49]⟩ : ByteArray), (⟨#[]⟩ : ByteArray), 0, 5⟩ : S45), (⟨(⟨#[97, 47, 121, 47, 50]⟩ : ByteArray), (⟨#[]⟩ : ByteArray), 0, 7⟩ : S45), (⟨(⟨#[97, 47, 122, 47, 51]⟩ : ByteArray), (⟨#[]⟩ : ByteArray), 0, 100⟩ : S45), (⟨(⟨#[98, 47, 52]⟩ : ByteArray), (⟨#[]⟩ : ByteArray), 0, 1⟩ : S45), (⟨(⟨#[114]⟩ : ByteArray), (⟨#[]⟩ : ByteArray), 0, 3⟩ : S45)] : List (S45))) := ⟨_, rfl⟩
 replace H : (some y332) = some r := by first | (rw [hy332]; with_reducible exact H) | (have H2_ := (Option.bind_some _ _).symm.trans H; rw [hy332]; with_reducible exact H2_) | (have H2_ := (Option.bind_some _ _).symm.trans H; with_reducible exact H2_) | with_reducible exact H | (rw [hy332]; exact H) | exact H
 have Ny332 := zA hy332; clear hy332; obtain rfl := Option.some.inj H
 go_enter Tryd.func23, Tryd.ntmps23
 go_wp2_with (first | ((with_reducible refine gate_dst (N := 6) rfl ?_); refine Kd.R_lit k45 _ 45 ?hg (N := 6) ?hd (xs := ([(⟨(⟨#[97, 47, 120, 47, 49]⟩ : ByteArray), (⟨#[]⟩ : ByteArray), 0, 5⟩ : S45), (⟨(⟨#[97, 47, 121, 47, 50]⟩ : ByteArray), (⟨#[]⟩ : ByteArray), 0, 7⟩ : S45), (⟨(⟨#[97, 47, 122, 47, 51]⟩ : ByteArray), (⟨#[]⟩ : ByteArray), 0, 100⟩ : S45), (⟨(⟨#[98, 47, 52]⟩ : ByteArray), (⟨#[]⟩ : ByteArray), 0, 1⟩ : S45), (⟨(⟨#[114]⟩ : ByteArray), (⟨#[]⟩ : ByteArray), 0, 3⟩ : S45)] : List (S45))) (inner := [.string (⟨#[97, 47, 120, 47, 49]⟩ : ByteArray), .string (⟨#[]⟩ : ByteArray), .int .i64 0, .int .i64 5, .string (⟨#[97, 47, 121, 47, 50]⟩ : ByteArray), .string (⟨#[]⟩ : ByteArray), .int .i64 0, .int .i64 7, .string (⟨#[97, 47, 122, 47, 51]⟩ : ByteArray), .string (⟨#[]⟩ : ByteArray), .int .i64 0, .int .i64 100, .string (⟨#[98, 47, 52]⟩ : ByteArray), .string (⟨#[]⟩ : ByteArray), .int .i64 0, .int .i64 1, .string (⟨#[114]⟩ : ByteArray), .string (⟨#[]⟩ : ByteArray), .int .i64 0, .int .i64 3]) (ok := fun _ => True) (okp := fun _ => True) ?hr ?hp (fun _ hk => hk) trivial (Below.refl _ _) (Nat.le_refl _) (by simp) ?_; (case hd => rfl); (case hg => rfl); (case hr => first | (go_simp; done) | (go_simp; rfl)); (case hp => exact (Reps.c4 (show Kd.M k45 _ _ _ (⟨(⟨#[97, 47, 120, 47, 49]⟩ : ByteArray), (⟨#[]⟩ : ByteArray), 0, 5⟩ : S45) [.string (⟨#[97, 47, 120, 47, 49]⟩ : ByteArray), .string (⟨#[]⟩ : ByteArray), .int .i64 0, .int .i64 5] from (k45_mkM _ _ _ (⟨(⟨#[97, 47, 120, 47, 49]⟩ : ByteArray), (⟨#[]⟩ : ByteArray), 0, 5⟩ : S45) )) (Reps.c4 (show Kd.M k45 _ _ _ (⟨(⟨#[97, 47, 121, 47, 50]⟩ : ByteArray), (⟨#[]⟩ : ByteArray), 0, 7⟩ : S45) [.string (⟨#[97, 47, 121, 47, 50]⟩ : ByteArray), .string (⟨#[]⟩ : ByteArray), .int .i64 0, .int .i64 7] from (k45_mkM _ _ _ (⟨(⟨#[97, 47, 121, 47, 50]⟩ : ByteArray), (⟨#[]⟩ : ByteArray), 0, 7⟩ : S45) )) (Reps.c4 (show Kd.M k45 _ _ _ (⟨(⟨#[97, 47, 122, 47, 51]⟩ : ByteArray), (⟨#[]⟩ : ByteArray), 0, 100⟩ : S45) [.string (⟨#[97, 47, 122, 47, 51]⟩ : ByteArray), .string (⟨#[]⟩ : ByteArray), .int .i64 0, .int .i64 100] from (k45_mkM _ _ _ (⟨(⟨#[97, 47, 122, 47, 51]⟩ : ByteArray), (⟨#[]⟩ : ByteArray), 0, 100⟩ : S45) )) (Reps.c4 (show Kd.M k45 _ _ _ (⟨(⟨#[98, 47, 52]⟩ : ByteArray), (⟨#[]⟩ : ByteArray), 0, 1⟩ : S45) [.string (⟨#[98, 47, 52]⟩ : ByteArray), .string (⟨#[]⟩ : ByteArray), .int .i64 0, .int .i64 1] from (k45_mkM _ _ _ (⟨(⟨#[98, 47, 52]⟩ : ByteArray), (⟨#[]⟩ : ByteArray), 0, 1⟩ : S45) )) (Reps.c4 (show Kd.M k45 _ _ _ (⟨(⟨#[114]⟩ : ByteArray), (⟨#[]⟩ : ByteArray), 0, 3⟩ : S45) [.string (⟨#[114]⟩ : ByteArray), .string (⟨#[]⟩ : ByteArray), .int .i64 0, .int .i64 3] from (k45_mkM _ _ _ (⟨(⟨#[114]⟩ : ByteArray), (⟨#[]⟩ : ByteArray), 0, 3⟩ : S45) )) (Reps.none _ _))))))); intro v333 w1 ho2 hb hg_ hnew_; clear hg_ hnew_; (first | rw [← Ny332.out] at ho2 | (simp only [Int.reduceToNat] at ho2; rw [← Ny332.out] at ho2)); have n0_ := zA (Kd.R_lower ho2 (below_size (by repeat (first | (with_reducible first | exact HB.out | apply zL | apply zN | apply zD) | exact HB.out)))); have n1_ := zA (below_step (by repeat (first | (with_reducible first | exact HB.out | apply zL | apply zN | apply zD) | exact HB.out)) hb); clear HB; have HO334 := n0_; have HB := n1_; clear n0_ n1_; clear hb ho2))
 go_ret
 exact ⟨_, by first | rfl | (simp [errW_none, errW_some] <;> rfl) | (simp [*, errW_none, errW_some] <;> rfl), by (with_reducible repeat (first | apply Kd.R_alloc | apply Kd.R_drewN | apply Kd.R_drew)); exact HO334.out, by repeat (first | (with_reducible first | exact HB.out | apply zL | apply zN | apply zD) | exact HB.out)⟩
end Go.Proofs.YtnfolcefjkannaaDoor.G
namespace Go.Proofs.YtnfolcefjkannaaDoor.G
open Go Go.RowKit Go.Proofs.YtnfolcefjkannaaDoorW.PrintWords Go.Proofs.YtnfolcefjkannaaDoorW.PrintLast Go.Proofs.YtnfolcefjkannaaDoorW.PrintMore Go.Proofs.YtnfolcefjkannaaDoor.Base
def Ev {α : Type} (X : Nat → Option α) (v : α) : Prop := ∃ K, ∀ k, K ≤ k → X k = some v
theorem Ev.of {α : Type} {X : Option α} {v : α} (h : X = some v) : Ev (fun _ => X) v := ⟨0, fun _ _ => h⟩
theorem Ev.bind {α β : Type} {X : Nat → Option α} {F : Nat → α → Option β} {a : α} {b : β} (h1 : Ev X a) (h2 : Ev (fun k => F k a) b) : Ev (fun k => (X k).bind (F k)) b := by
  obtain ⟨K1, h1⟩ := h1
  obtain ⟨K2, h2⟩ := h2
  exact ⟨max K1 K2, fun k hk => by show (X k).bind (F k) = some b; rw [h1 k (by omega)]; exact h2 k (by omega)⟩
theorem Ev.step {α : Type} {X Y : Nat → Option α} {v : α} (h : Ev Y v) (e : ∀ k, X (k + 1) = Y k) : Ev X v := by
  obtain ⟨K, h⟩ := h
  refine ⟨K + 1, fun k hk => ?_⟩
  cases k with
  | zero => omega
  | succ k => rw [e]; exact h k (by omega)
theorem Ev.congr {α : Type} {X Y : Nat → Option α} {v : α} (h : Ev Y v) (e : ∀ k, X k = Y k) : Ev X v := by
  obtain ⟨K, h⟩ := h
  exact ⟨K, fun k hk => by rw [e]; exact h k hk⟩
theorem Ev.two {α β : Type} {X : Nat → Option α} {Y : Nat → Option β} {a : α} {b : β} (h1 : Ev X a) (h2 : Ev Y b) : ∃ K, ∀ k, K ≤ k → X k = some a ∧ Y k = some b := by
  obtain ⟨K1, h1⟩ := h1
  obtain ⟨K2, h2⟩ := h2
  exact ⟨max K1 K2, fun k hk => ⟨h1 k (by omega), h2 k (by omega)⟩⟩
theorem wrap_id {i : Int} (h0 : -9223372036854775808 ≤ i) (h : i ≤ 9223372036854775807) : wrap64 i = i := by unfold wrap64; omega
theorem bt_data (s : ByteArray) (i : Nat) (h : i < s.data.toList.length) : bt s (i : Int) = ((s.data.toList[i]'h).toNat : Int) := by
  have h2 : i < s.size := by rw [size_data]; exact h
  simp only [bt, Int.toNat_natCast, dif_pos h2]
  rfl
theorem bt_is (s : ByteArray) (i : Nat) (h : i < s.data.toList.length) : bt s (i : Int) = 47 ↔ s.data.toList[i]? = some 47 := by
  rw [bt_data s i h, List.getElem?_eq_getElem h]
  constructor
  · intro e
    have e2 : (s.data.toList[i]'h).toNat = 47 := by omega
    exact congrArg some (UInt8.toNat_inj.1 e2)
  · intro e
    injection e with e
    rw [e]; rfl
theorem extract_mkB (s : ByteArray) (a b : Nat) : s.extract a b = mkB ((s.data.toList.take b).drop a) := by
  apply data_inj
  rw [mkB_data]
  simp [ByteArray.data_extract, List.drop_take]
def sp (p : ByteArray) : List ByteArray := if p.data.toList = [] then [] else (pieces 47 p.data.toList).map mkB
theorem path_Split_sp (p : ByteArray) (h : p.size < 4294967281) : path_Split.f p = some (sp p) := by
  unfold path_Split.f sp
  rw [toList_eq_data]
  split
  · rfl
  · have e : sep1 (⟨#[47]⟩ : ByteArray) = some 47 := rfl
    simp [strings_Split.f, e, h]
theorem path_Depth_sp (p : ByteArray) (h : p.size < 4294967281) : path_Depth.f p = some ((sp p).length : Int) := by
  unfold path_Depth.f sp
  rw [toList_eq_data]
  split
  · rfl
  · have e : sep1 (⟨#[47]⟩ : ByteArray) = some 47 := rfl
    have hc : p.data.toList.count 47 ≤ p.size := by rw [size_data]; exact List.count_le_length
    simp only [strings_Count.f, e, Option.bind_some, List.length_map, pieces_length]
    rw [wrap_id (by omega) (by omega)]
    simp
theorem ref_Split_l0 (a : ByteArray) (hs : a.size < 4294967281) : ∀ (m i s : Nat) (acc : List ByteArray), a.size - i = m → s ≤ i → i ≤ a.size → acc.length ≤ i → (∀ j, s ≤ j → j < i → a.data.toList[j]? ≠ some 47) →
    Ev (fun k => copseref02_Split.l0 k a acc (s : Int) (i : Int)) (acc ++ (pieces 47 (a.data.toList.drop s)).map mkB) := by
  have hl : a.size = a.data.toList.length := size_data a
  intro m
  induction m with
  | zero =>
    intro i s acc hm hsi hi hacc hno
    have he : i = a.size := by omega
    subst he
    have hp : pieces 47 (a.data.toList.drop s) = [a.data.toList.drop s] := by
      refine pieces_none _ _ (fun hmem => ?_)
      obtain ⟨k, hk, e⟩ := List.mem_iff_getElem.1 hmem
      rw [List.length_drop] at hk
      rw [List.getElem_drop] at e
      exact hno (s + k) (by omega) (by omega) (by rw [List.getElem?_eq_getElem (by omega), e])
    rw [hp]
    refine Ev.step (Y := fun k => copseref02_Split.l0 k a (acc ++ [mkB (a.data.toList.drop s)]) (a.size + 1 : Int) (a.size + 1 : Int)) ?_ (fun k => ?_)
    · refine Ev.step (Y := fun _ => some (acc ++ [mkB (a.data.toList.drop s)])) (Ev.of rfl) (fun k => ?_)
      simp only [copseref02_Split.l0]
      rw [if_neg (by omega)]
    · simp only [copseref02_Split.l0]
      rw [if_pos (by omega), if_pos trivial, if_pos (by omega), if_pos (by omega), if_pos (by omega), wrap_id (by omega) (by omega)]
      rw [extract_mkB, Int.toNat_natCast, Int.toNat_natCast, List.take_of_length_le (by omega)]
  | succ m ih =>
    intro i s acc hm hsi hi hacc hno
    have hlt : i < a.size := by omega
    by_cases h47 : a.data.toList[i]? = some 47
    · have hp : pieces 47 (a.data.toList.drop s) = (a.data.toList.drop s).take (i - s) :: pieces 47 (a.data.toList.drop (i + 1)) := by
        have := pieces_first 47 (a.data.toList.drop s) (i - s) (by rw [List.getElem?_drop, show s + (i - s) = i by omega]; exact h47) (fun k hk => by rw [List.getElem?_drop]; exact hno (s + k) (by omega) (by omega))
        rw [this, List.drop_drop, show s + (i - s + 1) = i + 1 by omega]
      rw [hp]
      have IH := ih (i + 1) (i + 1) (acc ++ [mkB ((a.data.toList.drop s).take (i - s))]) (by omega) (by omega) (by omega) (by simp; omega) (fun j h1 h2 => by omega)
      rw [List.append_assoc] at IH
      refine Ev.step IH (fun k => ?_)
      have hb : bt a (i : Int) = 47 := (bt_is a i (by omega)).2 h47
      simp only [copseref02_Split.l0]
      rw [if_pos (by omega), if_neg (by omega), if_pos (by omega), if_pos (by omega), if_pos hb, if_pos (by omega), if_pos (by omega), if_pos (by omega), wrap_id (by omega) (by omega)]
      rw [extract_mkB, Int.toNat_natCast, Int.toNat_natCast, List.drop_take]
      rfl
    · have IH := ih (i + 1) s acc (by omega) (by omega) (by omega) (by omega) (fun j h1 h2 => by
        by_cases e : j = i
        · rw [e]; exact h47
        · exact hno j h1 (by omega))
      refine Ev.step IH (fun k => ?_)
      have hb : ¬ bt a (i : Int) = 47 := fun h => h47 ((bt_is a i (by omega)).1 h)
      simp only [copseref02_Split.l0]
      rw [if_pos (by omega), if_neg (by omega), if_pos (by omega), if_pos (by omega), if_neg hb, wrap_id (by omega) (by omega)]
      rfl
theorem ref_Split_sp (a : ByteArray) (hs : a.size < 4294967281) : Ev (fun k => copseref02_Split.f k a) (sp a) := by
  unfold sp
  by_cases h : a.data.toList = []
  · rw [if_pos h]
    refine Ev.congr (Ev.of rfl) (fun k => ?_)
    unfold copseref02_Split.f
    rw [toList_eq_data, if_pos h]
  · rw [if_neg h]
    refine Ev.congr (ref_Split_l0 a hs a.size 0 0 [] (by omega) (by omega) (by omega) (by simp) (fun j h1 h2 => by omega)) (fun k => ?_)
    unfold copseref02_Split.f
    rw [toList_eq_data, if_neg h]
    rfl
def Short (p : ByteArray) : Prop := p.size ≤ 2147483648
theorem sp_len (p : ByteArray) (h : Short p) : (sp p).length ≤ 2147483649 := by
  unfold sp
  split
  · simp
  · rw [List.length_map, pieces_length]
    have : p.data.toList.count 47 ≤ p.size := by rw [size_data]; exact List.count_le_length
    unfold Short at h
    omega
theorem ref_shared_l0 (x y : List ByteArray) (hx : x.length ≤ 9223372036854775806) : ∀ (m i : Nat), x.length - i = m → i ≤ x.length → i ≤ y.length →
    Ev (fun k => copseref02_shared.l0 k x y (i : Int)) ((i + SumA.comLen (x.drop i) (y.drop i) : Nat) : Int) := by
  intro m
  induction m with
  | zero =>
    intro i hm hi hy
    refine Ev.step (Y := fun _ => some ((i + SumA.comLen (x.drop i) (y.drop i) : Nat) : Int)) (Ev.of rfl) (fun k => ?_)
    have he : x.drop i = [] := List.drop_eq_nil_of_le (by omega)
    simp only [copseref02_shared.l0]
    rw [if_neg (by omega), he]
    simp [SumA.comLen]
  | succ m ih =>
    intro i hm hi hy
    by_cases hyl : i < y.length
    · rw [SumA.comLen_drop x y i (by omega) hyl]
      by_cases h : (rdOf ByteArray.empty x (i : Int)).toList = (rdOf ByteArray.empty y (i : Int)).toList
      · have IH := ih (i + 1) (by omega) (by omega) (by omega)
        rw [if_pos h, show i + (SumA.comLen (x.drop (i + 1)) (y.drop (i + 1)) + 1) = i + 1 + SumA.comLen (x.drop (i + 1)) (y.drop (i + 1)) by omega]
        refine Ev.step IH (fun k => ?_)
        simp only [copseref02_shared.l0]
        rw [if_pos (by omega), if_pos (by omega), if_pos (by omega), if_pos h, wrap_id (by omega) (by omega)]
        rfl
      · rw [if_neg h]
        refine Ev.step (Y := fun _ => some ((i + 0 : Nat) : Int)) (Ev.of rfl) (fun k => ?_)
        simp only [copseref02_shared.l0]
        rw [if_pos (by omega), if_pos (by omega), if_pos (by omega), if_neg h]
        rfl
    · refine Ev.step (Y := fun _ => some ((i + SumA.comLen (x.drop i) (y.drop i) : Nat) : Int)) (Ev.of rfl) (fun k => ?_)
      have he : y.drop i = [] := List.drop_eq_nil_of_le (by omega)
      have e0 : SumA.comLen (x.drop i) [] = 0 := by cases x.drop i <;> rfl
      simp only [copseref02_shared.l0]
      rw [if_pos (by omega), if_neg (by omega), he, e0]
      rfl
theorem ref_shared (x y : List ByteArray) (hx : x.length ≤ 9223372036854775806) : Ev (fun k => copseref02_shared.f k x y) ((SumA.comLen x y : Nat) : Int) := by
  have := ref_shared_l0 x y hx x.length 0 (by omega) (by omega) (by omega)
  simp only [List.drop_zero, Nat.zero_add] at this
  exact this
theorem beq_cast (a b : Nat) : (((a : Nat) : Int) == ((b : Nat) : Int)) = (a == b) := by
  by_cases h : a = b
  · subst h; simp
  · rw [beq_eq_false_iff_ne.mpr h, beq_eq_false_iff_ne.mpr (by omega)]
def aboveP (p q : ByteArray) : Bool := decide ((sp p).length < (sp q).length) && SumA.comLen (sp p) (sp q) == (sp p).length
theorem path_Above_sp (p q : ByteArray) (hp : Short p) (hq : Short q) : path_Above.f p q = some (aboveP p q) := by
  unfold Short at hp hq
  unfold path_Above.f aboveP
  rw [path_Split_sp p (by omega), path_Split_sp q (by omega)]
  simp only [Option.bind_some, path_common.f]
  by_cases h : (sp p).length < (sp q).length
  · rw [if_pos (by omega)]
    rw [beq_cast, decide_eq_true h, Bool.true_and]
  · rw [if_neg (by omega)]
    simp [h]
theorem ref_Above_sp (p q : ByteArray) (hp : Short p) (hq : Short q) : Ev (fun k => copseref02_Above.f k p q) (aboveP p q) := by
  have l := sp_len p hp
  unfold Short at hp hq
  refine Ev.bind (ref_Split_sp p (by omega)) (Ev.bind (ref_Split_sp q (by omega)) ?_)
  unfold aboveP
  by_cases h : (sp p).length < (sp q).length
  · rw [decide_eq_true h, Bool.true_and, ← beq_cast]
    refine Ev.congr (Ev.bind (F := fun _ t => some (t == ((sp p).length : Int))) (ref_shared (sp p) (sp q) (by omega)) (Ev.of rfl)) (fun k => ?_)
    rw [if_pos (by omega)]
  · refine Ev.congr (Ev.of (X := some false) (by simp [h])) (fun k => ?_)
    rw [if_neg (by omega)]
theorem ref_bytes_l0 (x y : ByteArray) (hx : Short x) (hy : Short y) : ∀ (m i : Nat), x.size - i = m → i ≤ x.size → i ≤ y.size →
    Ev (fun k => copseref02_bytes.l0 k x y (i : Int)) (cmpT (x.data.toList.drop i) (y.data.toList.drop i)) := by
  have lx : x.size = x.data.toList.length := size_data x
  have ly : y.size = y.data.toList.length := size_data y
  unfold Short at hx hy
  intro m
  induction m with
  | zero =>
    intro i hm hi hyi
    have he : x.data.toList.drop i = [] := List.drop_eq_nil_of_le (by omega)
    rw [he]
    refine Ev.step (Y := fun k => copseref02_bytes.j1 k x y (i : Int) false) (Ev.step (Y := fun _ => some (cmpT [] (y.data.toList.drop i))) (Ev.of rfl) (fun k => ?_)) (fun k => ?_)
    · simp only [copseref02_bytes.j1]
      rw [if_neg (by decide)]
      by_cases h : i < y.size
      · rw [if_pos (by omega), List.drop_eq_getElem_cons (by omega)]
        rfl
      · rw [if_neg (by omega), if_neg (by omega), List.drop_eq_nil_of_le (by omega)]
        rfl
    · simp only [copseref02_bytes.l0]
      rw [if_neg (by omega)]
  | succ m ih =>
    intro i hm hi hyi
    have hlt : i < x.size := by omega
    by_cases h : i < y.size
    · have IH := ih (i + 1) (by omega) (by omega) (by omega)
      have bx := bt_data x i (by omega)
      have by_ := bt_data y i (by omega)
      rw [List.drop_eq_getElem_cons (l := x.data.toList) (i := i) (by omega), List.drop_eq_getElem_cons (l := y.data.toList) (i := i) (by omega)]
      refine Ev.step (Y := fun k => copseref02_bytes.j1 k x y (i : Int) true) ?_ (fun k => ?_)
      · unfold cmpT
        by_cases h1 : x.data.toList[i]'(by omega) < y.data.toList[i]'(by omega)
        · rw [if_pos h1]
          refine Ev.step (Y := fun _ => some (-1)) (Ev.of rfl) (fun k => ?_)
          have h1' := UInt8.lt_iff_toNat_lt.1 h1
          simp only [copseref02_bytes.j1]
          rw [if_pos trivial, if_pos (by omega), if_pos (by omega), if_pos (by omega), if_pos (by rw [bx, by_]; omega)]
        · rw [if_neg h1]
          have h1' : ¬ _ := fun hh => h1 (UInt8.lt_iff_toNat_lt.2 hh)
          by_cases h2 : y.data.toList[i]'(by omega) < x.data.toList[i]'(by omega)
          · rw [if_pos h2]
            refine Ev.step (Y := fun _ => some 1) (Ev.of rfl) (fun k => ?_)
            have h2' := UInt8.lt_iff_toNat_lt.1 h2
            simp only [copseref02_bytes.j1]
            rw [if_pos trivial, if_pos (by omega), if_pos (by omega), if_pos (by omega), if_neg (by rw [bx, by_]; omega), if_pos (by rw [bx, by_]; omega)]
          · rw [if_neg h2]
            have h2' : ¬ _ := fun hh => h2 (UInt8.lt_iff_toNat_lt.2 hh)
            refine Ev.step IH (fun k => ?_)
            simp only [copseref02_bytes.j1]
            rw [if_pos trivial, if_pos (by omega), if_pos (by omega), if_pos (by omega), if_neg (by rw [bx, by_]; omega), if_neg (by rw [bx, by_]; omega), wrap_id (by omega) (by omega)]
            rfl
      · simp only [copseref02_bytes.l0]
        rw [if_pos (by omega), decide_eq_true (by omega)]
    · have he : y.data.toList.drop i = [] := List.drop_eq_nil_of_le (by omega)
      rw [he, List.drop_eq_getElem_cons (l := x.data.toList) (i := i) (by omega)]
      refine Ev.step (Y := fun k => copseref02_bytes.j1 k x y (i : Int) false) (Ev.step (Y := fun _ => some 1) (Ev.of rfl) (fun k => ?_)) (fun k => ?_)
      · simp only [copseref02_bytes.j1]
        rw [if_neg (by decide), if_neg (by omega), if_pos (by omega)]
      · simp only [copseref02_bytes.l0]
        rw [if_pos (by omega), decide_eq_false (by omega)]
theorem ref_bytes (x y : ByteArray) (hx : Short x) (hy : Short y) : Ev (fun k => copseref02_bytes.f k x y) (cmpT x.data.toList y.data.toList) := by
  have := ref_bytes_l0 x y hx hy x.size 0 (by omega) (by omega) (by omega)
  simp only [List.drop_zero] at this
  exact this
def cmpL : List ByteArray → List ByteArray → Int
  | [], [] => 0
  | [], _ :: _ => -1
  | _ :: _, [] => 1
  | a :: x, b :: y => if cmpT a.data.toList b.data.toList = 0 then cmpL x y else cmpT a.data.toList b.data.toList
theorem rdOf_drop (x : List ByteArray) (i : Nat) (h : i < x.length) : x.drop i = rdOf ByteArray.empty x (i : Int) :: x.drop (i + 1) := by
  rw [List.drop_eq_getElem_cons h]
  simp [rdOf, List.getD_eq_getElem?_getD, List.getElem?_eq_getElem h]
theorem rdOf_mem (x : List ByteArray) (i : Nat) (h : i < x.length) : rdOf ByteArray.empty x (i : Int) ∈ x := by
  simp [rdOf, List.getD_eq_getElem?_getD, List.getElem?_eq_getElem h]
theorem cmpL_end (x y : List ByteArray) (h : x = [] ∨ y = []) : cmpL x y = if x.length < y.length then -1 else if y.length < x.length then 1 else 0 := by
  cases x <;> cases y <;> simp_all [cmpL]
theorem ref_Cmp_l0 (x y : List ByteArray) (hx : ∀ c ∈ x, Short c) (hy : ∀ c ∈ y, Short c) (hl : x.length ≤ 2147483649) (hl2 : y.length ≤ 2147483649) : ∀ (m i : Nat), x.length - i = m → i ≤ x.length → i ≤ y.length →
    Ev (fun k => copseref02_Cmp.l0 k x y (i : Int)) (cmpL (x.drop i) (y.drop i)) := by
  intro m
  have fin : ∀ i, i ≤ x.length → i ≤ y.length → (i = x.length ∨ i = y.length) → Ev (fun k => copseref02_Cmp.j1 k x y (i : Int) false) (cmpL (x.drop i) (y.drop i)) := by
    intro i h1 h2 h3
    rw [cmpL_end _ _ (by rcases h3 with h3 | h3; exact .inl (List.drop_eq_nil_of_le (by omega)); exact .inr (List.drop_eq_nil_of_le (by omega))), List.length_drop, List.length_drop]
    refine Ev.step (Y := fun _ => some _) (Ev.of rfl) (fun k => ?_)
    simp only [copseref02_Cmp.j1]
    rw [if_neg (by decide)]
    by_cases a : x.length < y.length
    · rw [if_pos (by omega), if_pos (by omega)]
    · rw [if_neg (by omega)]
      by_cases b : y.length < x.length
      · rw [if_pos (by omega), if_neg (by omega), if_pos (by omega)]
      · rw [if_neg (by omega), if_neg (by omega), if_neg (by omega)]
  induction m with
  | zero =>
    intro i hm hi hyi
    refine Ev.step (fin i hi hyi (.inl (by omega))) (fun k => ?_)
    simp only [copseref02_Cmp.l0]
    rw [if_neg (by omega)]
  | succ m ih =>
    intro i hm hi hyi
    by_cases h : i < y.length
    · have IH := ih (i + 1) (by omega) (by omega) (by omega)
      rw [rdOf_drop x i (by omega), rdOf_drop y i h]
      have hb := ref_bytes (rdOf ByteArray.empty x (i : Int)) (rdOf ByteArray.empty y (i : Int)) (hx _ (rdOf_mem x i (by omega))) (hy _ (rdOf_mem y i h))
      refine Ev.step (Y := fun k => copseref02_Cmp.j1 k x y (i : Int) true) ?_ (fun k => ?_)
      · unfold cmpL
        refine Ev.step (Ev.bind hb (F := fun k t => if t = 0 then copseref02_Cmp.l0 k x y ((i + 1 : Nat) : Int) else some t) ?_) (fun k => ?_)
        · by_cases h0 : cmpT (rdOf ByteArray.empty x (i : Int)).data.toList (rdOf ByteArray.empty y (i : Int)).data.toList = 0
          · rw [if_pos h0]
            exact Ev.congr IH (fun k => by rw [if_pos h0])
          · rw [if_neg h0]
            exact Ev.congr (Ev.of rfl) (fun k => by rw [if_neg h0])
        · simp only [copseref02_Cmp.j1]
          rw [if_pos trivial, if_pos (by omega), if_pos (by omega), if_pos (by omega), wrap_id (by omega) (by omega)]
          rfl
      · simp only [copseref02_Cmp.l0]
        rw [if_pos (by omega), decide_eq_true (by omega)]
    · refine Ev.step (fin i hi hyi (.inr (by omega))) (fun k => ?_)
      simp only [copseref02_Cmp.l0]
      rw [if_pos (by omega), decide_eq_false (by omega)]
theorem pieces_size (c : UInt8) : ∀ (l : B), ∀ p ∈ pieces c l, p.length ≤ l.length
  | [], p, h => by
    rw [pieces_none c [] (by simp)] at h
    simp only [List.mem_singleton] at h
    subst h; simp
  | x :: l, p, h => by
    by_cases hx : x = c
    · subst hx
      rw [pieces_eq_cons] at h
      rcases List.mem_cons.1 h with rfl | h
      · simp
      · have := pieces_size x l p h; simp; omega
    · obtain ⟨q, r, e1, e2⟩ := pieces_cons_ne c x l hx
      rw [e2] at h
      have hq := pieces_size c l q (by rw [e1]; simp)
      rcases List.mem_cons.1 h with rfl | h
      · simp; omega
      · have := pieces_size c l p (by rw [e1]; simp [h]); simp; omega
theorem sp_short (p : ByteArray) (h : Short p) : ∀ c ∈ sp p, Short c := by
  intro c hc
  unfold sp at hc
  split at hc
  · cases hc
  · obtain ⟨q, hq, rfl⟩ := List.mem_map.1 hc
    have := pieces_size 47 _ q hq
    unfold Short at h ⊢
    rw [mkB_size]
    rw [size_data] at h
    omega
def cmpP (p q : ByteArray) : Int := cmpL (sp p) (sp q)
theorem ref_Cmp_sp (p q : ByteArray) (hp : Short p) (hq : Short q) : Ev (fun k => copseref02_Cmp.f k p q) (cmpP p q) := by
  have l1 := sp_len p hp
  have l2 := sp_len q hq
  have s1 := sp_short p hp
  have s2 := sp_short q hq
  unfold Short at hp hq
  refine Ev.bind (ref_Split_sp p (by omega)) (Ev.bind (ref_Split_sp q (by omega)) ?_)
  have := ref_Cmp_l0 (sp p) (sp q) s1 s2 l1 l2 (sp p).length 0 (by omega) (by omega) (by omega)
  simp only [List.drop_zero] at this
  exact this
theorem cmpL_com : ∀ (x y : List ByteArray), cmpL x y = if SumA.comLen x y < x.length ∧ SumA.comLen x y < y.length then cmpT (rdOf ByteArray.empty x (SumA.comLen x y : Int)).data.toList (rdOf ByteArray.empty y (SumA.comLen x y : Int)).data.toList else if x.length < y.length then -1 else if y.length < x.length then 1 else 0
  | [], [] => by simp [cmpL, SumA.comLen]
  | [], _ :: _ => by simp [cmpL, SumA.comLen]
  | _ :: _, [] => by simp [cmpL, SumA.comLen]
  | a :: x, b :: y => by
    unfold cmpL SumA.comLen
    by_cases h : a.toList = b.toList
    · have h0 : cmpT a.data.toList b.data.toList = 0 := by rw [cmpT_eq, ← toList_eq_data, ← toList_eq_data, h]
      rw [if_pos h0, if_pos h, cmpL_com x y]
      simp only [List.length_cons, Nat.add_lt_add_iff_right]
      have e : ∀ (z : ByteArray) (l : List ByteArray) (n : Nat), rdOf ByteArray.empty (z :: l) ((n + 1 : Nat) : Int) = rdOf ByteArray.empty l (n : Int) := fun z l n => by simp [rdOf]
      rw [e, e]
    · have h0 : ¬ cmpT a.data.toList b.data.toList = 0 := fun e => h (by rw [toList_eq_data, toList_eq_data]; exact cmpT_eq.1 e)
      rw [if_neg h0, if_neg h]
      simp [rdOf]
theorem path_Cmp_sp (p q : ByteArray) (hp : Short p) (hq : Short q) : Ev (fun k => path_Cmp.f k p q) (cmpP p q) := by
  have l1 := sp_len p hp
  have l2 := sp_len q hq
  unfold Short at hp hq
  have hc := SumA.comLen_le (sp p) (sp q)
  unfold cmpP
  rw [cmpL_com]
  have e : ∀ k, path_Cmp.f k p q = path_Cmp.j0 k (sp p) (sp q) (SumA.comLen (sp p) (sp q) : Int) (decide (SumA.comLen (sp p) (sp q) < (sp p).length ∧ SumA.comLen (sp p) (sp q) < (sp q).length)) := by
    intro k
    unfold path_Cmp.f
    rw [path_Split_sp p (by omega), path_Split_sp q (by omega)]
    simp only [Option.bind_some, path_common.f]
    by_cases h1 : SumA.comLen (sp p) (sp q) < (sp p).length
    · rw [if_pos (by omega)]
      congr 1
      by_cases h2 : SumA.comLen (sp p) (sp q) < (sp q).length
      · rw [decide_eq_true (by omega), decide_eq_true ⟨h1, h2⟩]
      · rw [decide_eq_false (by omega), decide_eq_false (fun h => h2 h.2)]
    · rw [if_neg (by omega), decide_eq_false (fun h => h1 h.1)]
  refine Ev.congr (X := fun k => path_Cmp.f k p q) ?_ (fun k => rfl)
  refine Ev.congr ?_ e
  refine Ev.step (Y := fun _ => some _) (Ev.of rfl) (fun k => ?_)
  simp only [path_Cmp.j0]
  by_cases h : SumA.comLen (sp p) (sp q) < (sp p).length ∧ SumA.comLen (sp p) (sp q) < (sp q).length
  · rw [decide_eq_true h, if_pos rfl, if_pos (by omega), if_pos (by omega), if_pos (by omega), if_pos h]
    rfl
  · rw [decide_eq_false h, if_neg (by decide), if_neg h]
    have n0 : ∀ z : Int, cmp_isNaN_int.f z = some false := fun z => by simp [cmp_isNaN_int.f]
    unfold cmp_Compare_int.f
    rw [n0, n0]
    simp only [Option.bind_some]
    rw [if_neg (by decide), if_neg (by decide)]
    by_cases a : (sp p).length < (sp q).length
    · rw [if_pos (by omega), if_pos a]; rfl
    · rw [if_neg (by omega), if_neg a]
      by_cases b : (sp q).length < (sp p).length
      · rw [if_pos (by omega), if_pos b]; rfl
      · rw [if_neg (by omega), if_neg b]; rfl
theorem glue_snoc (c : UInt8) (q : B) : ∀ (ps : List B), ps ≠ [] → glue c (ps ++ [q]) = glue c ps ++ c :: q
  | [], h => absurd rfl h
  | [p], _ => by rw [List.singleton_append, glue_cons _ _ _ (by simp)]; rfl
  | p :: r :: ps, _ => by
    have e := glue_snoc c q (r :: ps) (by simp)
    rw [List.cons_append, glue_cons c p _ (by simp), e, glue_cons c p (r :: ps) (by simp)]
    simp only [List.append_assoc, List.cons_append]
theorem glue_take_le (c : UInt8) (ps : List B) : ∀ i, i < ps.length → (glue c (ps.take i)).length ≤ (glue c (ps.take (i + 1))).length := by
  intro i hi
  rw [List.take_succ_eq_append_getElem hi]
  by_cases h : ps.take i = []
  · rw [h]; simp [glue]
  · rw [glue_snoc _ _ _ h]; simp
theorem glue_take_all (c : UInt8) (ps : List B) : ∀ m i, ps.length - i = m → (glue c (ps.take i)).length ≤ (glue c ps).length := by
  intro m
  induction m with
  | zero => intro i h; rw [List.take_of_length_le (by omega)]; exact Nat.le_refl _
  | succ m ih => intro i h; exact Nat.le_trans (glue_take_le c ps i (by omega)) (ih (i + 1) (by omega))
theorem ref_text_l0 (x : List ByteArray) (hl : x.length ≤ 2147483649) (hb : (glue 47 (x.map (·.data.toList))).length ≤ 9223372036854775806) : ∀ (m i : Nat), x.length - i = m → i ≤ x.length →
    Ev (fun k => copseref02_text.l0 k x (mkB (glue 47 ((x.map (·.data.toList)).take i))) (i : Int)) (mkB (glue 47 (x.map (·.data.toList)))) := by
  intro m
  induction m with
  | zero =>
    intro i hm hi
    refine Ev.step (Y := fun _ => some (mkB (glue 47 (x.map (·.data.toList))))) (Ev.of rfl) (fun k => ?_)
    simp only [copseref02_text.l0]
    rw [if_neg (by omega), List.take_of_length_le (by simp; omega)]
  | succ m ih =>
    intro i hm hi
    have IH := ih (i + 1) (by omega) (by omega)
    have hlt : i < (x.map (·.data.toList)).length := by rw [List.length_map]; omega
    have hsz := glue_take_all 47 (x.map (·.data.toList)) _ (i + 1) rfl
    have hr : rdOf ByteArray.empty x (i : Int) = x[i]'(by omega) := by simp [rdOf, List.getD_eq_getElem?_getD, List.getElem?_eq_getElem (show i < x.length by omega)]
    by_cases h0 : i = 0
    · subst h0
      refine Ev.step IH (fun k => ?_)
      have e : glue 47 ((x.map (·.data.toList)).take (0 + 1)) = (rdOf ByteArray.empty x ((0 : Nat) : Int)).data.toList := by
        rw [List.take_succ_eq_append_getElem hlt, hr]
        simp [glue]
      rw [e] at hsz ⊢
      have s4 : (⟨#[]⟩ : ByteArray).size = 0 := rfl
      have s5 := size_data (rdOf ByteArray.empty x ((0 : Nat) : Int))
      have e2 : mkB (glue 47 (List.take 0 (x.map (·.data.toList)))) = ⟨#[]⟩ := rfl
      rw [e2]
      simp only [copseref02_text.l0]
      rw [if_pos (by omega), if_neg (by omega), if_pos (by omega), if_pos (by omega), wrap_id (by omega) (by omega)]
      have e3 : (⟨#[]⟩ : ByteArray) ++ rdOf ByteArray.empty x ((0 : Nat) : Int) = mkB (rdOf ByteArray.empty x ((0 : Nat) : Int)).data.toList := by
        apply data_inj
        rw [mkB_data]
        simp
      rw [e3]
      rfl
    · refine Ev.step IH (fun k => ?_)
      have hne : (x.map (·.data.toList)).take i ≠ [] := by
        intro e
        have := congrArg List.length e
        rw [List.length_take, Nat.min_eq_left (by omega)] at this
        exact h0 this
      have e : glue 47 ((x.map (·.data.toList)).take (i + 1)) = glue 47 ((x.map (·.data.toList)).take i) ++ 47 :: (rdOf ByteArray.empty x (i : Int)).data.toList := by
        rw [List.take_succ_eq_append_getElem hlt, glue_snoc _ _ _ hne, hr]
        simp
      rw [e] at hsz ⊢
      rw [List.length_append, List.length_cons] at hsz
      have s1 : (mkB (glue 47 ((x.map (·.data.toList)).take i))).size = (glue 47 ((x.map (·.data.toList)).take i)).length := mkB_size _
      have s2 : (mkB (glue 47 ((x.map (·.data.toList)).take i)) ++ (⟨#[47]⟩ : ByteArray)).size = (glue 47 ((x.map (·.data.toList)).take i)).length + 1 := by rw [size_data]; simp [mkB_data]
      have s3 := size_data (rdOf ByteArray.empty x (i : Int))
      simp only [copseref02_text.l0]
      rw [if_pos (by omega), if_pos (by omega), if_pos (by omega), if_pos (by omega), if_pos (by omega), wrap_id (by omega) (by omega)]
      have e3 : mkB (glue 47 ((x.map (·.data.toList)).take i)) ++ (⟨#[47]⟩ : ByteArray) ++ rdOf ByteArray.empty x (i : Int) = mkB (glue 47 ((x.map (·.data.toList)).take i) ++ 47 :: (rdOf ByteArray.empty x (i : Int)).data.toList) := by
        apply data_inj
        rw [mkB_data]
        simp [mkB_data]
      rw [e3]
      rfl
def commonP (p q : ByteArray) : ByteArray := mkB (glue 47 (((sp p).take (SumA.comLen (sp p) (sp q))).map (·.data.toList)))
theorem glue_sp_le (p : ByteArray) (n : Nat) : (glue 47 (((sp p).take n).map (·.data.toList))).length ≤ p.size := by
  rw [← List.map_take.symm, size_data]
  refine Nat.le_trans (glue_take_all 47 _ _ n rfl) ?_
  unfold sp
  split
  · simp [glue]
  · rename_i h
    have e : ((pieces 47 p.data.toList).map mkB).map (·.data.toList) = pieces 47 p.data.toList := by
      rw [List.map_map]
      have : ((fun x : ByteArray => x.data.toList) ∘ mkB) = id := by funext l; exact mkB_data l
      rw [this, List.map_id]
    rw [e, glue_pieces]
    exact Nat.le_refl _
theorem path_Common_sp (p q : ByteArray) (hp : Short p) (hq : Short q) : path_Common.f p q = some (commonP p q) := by
  have l1 := sp_len p hp
  have hc := SumA.comLen_le (sp p) (sp q)
  have hg := glue_sp_le p (SumA.comLen (sp p) (sp q))
  unfold Short at hp hq
  unfold path_Common.f commonP
  rw [path_Split_sp p (by omega), path_Split_sp q (by omega)]
  simp only [Option.bind_some, path_common.f]
  rw [if_pos (by omega), if_pos (by omega), Int.toNat_natCast]
  have e : sep1 (⟨#[47]⟩ : ByteArray) = some 47 := rfl
  simp only [strings_Join.f, e, Option.bind_some]
  rw [if_pos ⟨by rw [List.length_take]; omega, by omega⟩]
  rfl
theorem ref_Common_sp (p q : ByteArray) (hp : Short p) (hq : Short q) : Ev (fun k => copseref02_Common.f k p q) (commonP p q) := by
  have l1 := sp_len p hp
  have hc := SumA.comLen_le (sp p) (sp q)
  have hg := glue_sp_le p (SumA.comLen (sp p) (sp q))
  unfold Short at hp hq
  refine Ev.bind (ref_Split_sp p (by omega)) (Ev.bind (ref_Split_sp q (by omega)) (Ev.bind (ref_shared (sp p) (sp q) (by omega)) ?_))
  have T := ref_text_l0 ((sp p).take (SumA.comLen (sp p) (sp q))) (by rw [List.length_take]; omega) (by omega) _ 0 rfl (by omega)
  refine Ev.congr (Ev.bind (F := fun _ t => some t) T (Ev.of rfl)) (fun k => ?_)
  rw [if_pos (by omega), if_pos (by omega), Int.toNat_natCast]
  rfl
theorem lastTo_range (l : List UInt8) : ∀ i, -1 ≤ lastTo l i ∧ lastTo l i < (i : Int)
  | 0 => by simp [lastTo]
  | i + 1 => by
    have := lastTo_range l i
    unfold lastTo
    split <;> omega
theorem ref_last_l0 (a : ByteArray) (ha : Short a) : ∀ (m i : Nat), a.size - i = m → i ≤ a.size → Ev (fun k => copseref02_last.l0 k a (lastTo a.data.toList i) (i : Int)) (lastTo a.data.toList a.data.toList.length) := by
  have hl : a.size = a.data.toList.length := size_data a
  unfold Short at ha
  intro m
  induction m with
  | zero =>
    intro i hm hi
    have he : i = a.data.toList.length := by omega
    refine Ev.step (Y := fun _ => some (lastTo a.data.toList a.data.toList.length)) (Ev.of rfl) (fun k => ?_)
    simp only [copseref02_last.l0]
    rw [if_neg (by omega), he]
  | succ m ih =>
    intro i hm hi
    have IH := ih (i + 1) (by omega) (by omega)
    refine Ev.step IH (fun k => ?_)
    simp only [copseref02_last.l0, lastTo]
    rw [if_pos (by omega), if_pos (by omega)]
    by_cases h : a.data.toList[i]? = some 47
    · rw [if_pos ((bt_is a i (by omega)).2 h), if_pos h, wrap_id (by omega) (by omega)]
      rfl
    · rw [if_neg (fun e => h ((bt_is a i (by omega)).1 e)), if_neg h, wrap_id (by omega) (by omega)]
      rfl
theorem ref_last (a : ByteArray) (ha : Short a) : Ev (fun k => copseref02_last.f k a) (lastTo a.data.toList a.data.toList.length) := ref_last_l0 a ha a.size 0 (by omega) (by omega)
theorem code_last_l0 (a : ByteArray) (ha : Short a) : ∀ (i : Nat), i ≤ a.size → Ev (fun k => bytealg_LastIndexByteString.l0 k a 47 ((i : Int) - 1)) (lastTo a.data.toList i) := by
  have hl : a.size = a.data.toList.length := size_data a
  unfold Short at ha
  intro i
  induction i with
  | zero =>
    intro hi
    refine Ev.step (Y := fun _ => some (-1)) (Ev.of rfl) (fun k => ?_)
    simp only [bytealg_LastIndexByteString.l0]
    rw [if_neg (by omega)]
  | succ i ih =>
    intro hi
    have IH := ih (by omega)
    unfold lastTo
    by_cases h : a.data.toList[i]? = some 47
    · rw [if_pos h]
      refine Ev.step (Y := fun _ => some (i : Int)) (Ev.of rfl) (fun k => ?_)
      have e : (((i + 1 : Nat) : Int) - 1) = (i : Int) := by omega
      rw [e]
      simp only [bytealg_LastIndexByteString.l0]
      rw [if_pos (by omega), if_pos (by omega), if_pos (by omega), if_pos ((bt_is a i (by omega)).2 h)]
    · rw [if_neg h]
      refine Ev.step IH (fun k => ?_)
      have e : (((i + 1 : Nat) : Int) - 1) = (i : Int) := by omega
      rw [e]
      simp only [bytealg_LastIndexByteString.l0]
      rw [if_pos (by omega), if_pos (by omega), if_pos (by omega), if_neg (fun e => h ((bt_is a i (by omega)).1 e)), wrap_id (by omega) (by omega)]
theorem code_last (a : ByteArray) (ha : Short a) : Ev (fun k => strings_LastIndexByte.f k a 47) (lastTo a.data.toList a.data.toList.length) := by
  have := code_last_l0 a ha a.size (Nat.le_refl _)
  have hl : a.size = a.data.toList.length := size_data a
  unfold Short at ha
  rw [hl] at this
  refine Ev.bind (F := fun _ t => some t) (Ev.congr this (fun k => ?_)) (Ev.of rfl)
  unfold bytealg_LastIndexByteString.f
  rw [wrap_id (by omega) (by omega), hl]
def dirP (a : ByteArray) : ByteArray := mkB (dirL a.data.toList)
def baseP (a : ByteArray) : ByteArray := mkB (a.data.toList.drop (lastTo a.data.toList a.data.toList.length + 1).toNat)
theorem path_Dir_sp (a : ByteArray) (ha : Short a) : Ev (fun k => path_Dir.f k a) (dirP a) := by
  have hr := lastTo_range a.data.toList a.data.toList.length
  have hl : a.size = a.data.toList.length := size_data a
  refine Ev.bind (code_last a ha) (Ev.congr (Ev.of (X := some (dirP a)) rfl) (fun k => ?_))
  have hm : mx 0 (lastTo a.data.toList a.data.toList.length) = (((lastTo a.data.toList a.data.toList.length).toNat : Nat) : Int) := by unfold mx; split <;> omega
  rw [hm, if_pos (by omega), if_pos (by omega), Int.toNat_natCast, extract_mkB, List.drop_zero]
  rfl
theorem ref_Dir_sp (a : ByteArray) (ha : Short a) : Ev (fun k => copseref02_Dir.f k a) (dirP a) := by
  have hr := lastTo_range a.data.toList a.data.toList.length
  have hl : a.size = a.data.toList.length := size_data a
  refine Ev.bind (ref_last a ha) (Ev.congr (Ev.of (X := some (dirP a)) rfl) (fun k => ?_))
  by_cases h : lastTo a.data.toList a.data.toList.length < 0
  · rw [if_pos h]
    have e : (lastTo a.data.toList a.data.toList.length).toNat = 0 := by omega
    unfold dirP dirL
    rw [e]; rfl
  · rw [if_neg h, if_pos (by omega), if_pos (by omega), extract_mkB, List.drop_zero]
    rfl
theorem path_Base_sp (a : ByteArray) (ha : Short a) : Ev (fun k => path_Base.f k a) (baseP a) := by
  have hr := lastTo_range a.data.toList a.data.toList.length
  have hl : a.size = a.data.toList.length := size_data a
  refine Ev.bind (code_last a ha) (Ev.congr (Ev.of (X := some (baseP a)) rfl) (fun k => ?_))
  unfold Short at ha
  rw [wrap_id (by omega) (by omega), if_pos (by omega), if_pos (by omega), extract_mkB, List.take_of_length_le (by omega)]
  rfl
theorem ref_Base_sp (a : ByteArray) (ha : Short a) : Ev (fun k => copseref02_Base.f k a) (baseP a) := by
  have hr := lastTo_range a.data.toList a.data.toList.length
  have hl : a.size = a.data.toList.length := size_data a
  refine Ev.bind (ref_last a ha) (Ev.congr (Ev.of (X := some (baseP a)) rfl) (fun k => ?_))
  unfold Short at ha
  rw [wrap_id (by omega) (by omega), if_pos (by omega), if_pos (by omega), extract_mkB, List.take_of_length_le (by omega)]
  rfl
theorem dir_short (a : ByteArray) (ha : Short a) : Short (dirP a) := by
  unfold Short dirP dirL at *
  rw [mkB_size, List.length_take]
  have := size_data a
  omega
def okByte (b : Int) : Bool := (decide (97 ≤ b) && decide (b ≤ 122)) || (decide (65 ≤ b) && decide (b ≤ 90)) || (decide (48 ≤ b) && decide (b ≤ 57)) || decide (b = 46) || decide (b = 95) || decide (b = 45)
theorem ref_Byte_sp (b : Int) : copseref02_Byte.f b = some (okByte b) := by
  unfold copseref02_Byte.f okByte
  by_cases h1 : 97 ≤ b <;> by_cases h2 : b ≤ 122 <;> by_cases h3 : 65 ≤ b <;> by_cases h4 : b ≤ 90 <;> by_cases h5 : 48 ≤ b <;> by_cases h6 : b ≤ 57 <;> by_cases h7 : b = 46 <;> by_cases h8 : b = 95 <;> by_cases h9 : b = 45 <;> simp [h1, h2, h3, h4, h5, h6, h7, h8, h9]
def okFrom (l : List UInt8) : Bool := l.all fun b => okByte (b.toNat : Int)
theorem ref_Comp_l0 (a : ByteArray) (ha : Short a) : ∀ (m i : Nat), a.size - i = m → i ≤ a.size → Ev (fun k => copseref02_Component.l0 k a (i : Int)) (okFrom (a.data.toList.drop i)) := by
  have hl : a.size = a.data.toList.length := size_data a
  unfold Short at ha
  intro m
  induction m with
  | zero =>
    intro i hm hi
    refine Ev.step (Y := fun _ => some true) (Ev.congr (Ev.of rfl) (fun k => rfl)) (fun k => ?_) |> fun z => by
      rw [List.drop_eq_nil_of_le (by omega)]; exact z
    simp only [copseref02_Component.l0]
    rw [if_neg (by omega)]
  | succ m ih =>
    intro i hm hi
    have IH := ih (i + 1) (by omega) (by omega)
    rw [List.drop_eq_getElem_cons (by omega)]
    have hb := bt_data a i (by omega)
    by_cases h : okByte ((a.data.toList[i]'(by omega)).toNat : Int) = true
    · have e : okFrom (a.data.toList[i]'(by omega) :: a.data.toList.drop (i + 1)) = okFrom (a.data.toList.drop (i + 1)) := by unfold okFrom; rw [List.all_cons, h, Bool.true_and]
      rw [e]
      refine Ev.step IH (fun k => ?_)
      simp only [copseref02_Component.l0]
      rw [if_pos (by omega), if_pos (by omega), hb, ref_Byte_sp]
      simp only [Option.bind_some]
      rw [if_pos h, wrap_id (by omega) (by omega)]
      rfl
    · have e : okFrom (a.data.toList[i]'(by omega) :: a.data.toList.drop (i + 1)) = false := by unfold okFrom; rw [List.all_cons, Bool.eq_false_iff.mpr h, Bool.false_and]
      rw [e]
      refine Ev.step (Y := fun _ => some false) (Ev.of rfl) (fun k => ?_)
      simp only [copseref02_Component.l0]
      rw [if_pos (by omega), if_pos (by omega), hb, ref_Byte_sp]
      simp only [Option.bind_some]
      rw [if_neg h]
def compP (a : ByteArray) : Bool := decide (1 ≤ a.size) && decide (a.size ≤ 32) && !(a.data.toList == [46]) && !(a.data.toList == [46, 46]) && !(a.data.toList == [46, 46, 46]) && okFrom a.data.toList
theorem code_Comp_step (k : Nat) (a : ByteArray) (n x : Int) (h0 : x < n) (h1 : 0 ≤ x) (h2 : x < (a.size : Int)) : path_Component.l0 (k + 1) a n x = if okByte (bt a x) = true then path_Component.l0 k a n (wrap64 (x + 1)) else some false := by
  simp only [path_Component.l0]
  rw [if_pos h0, if_pos h1, if_pos h2]
  unfold okByte
  generalize bt a x = b
  by_cases h1 : 97 ≤ b <;> by_cases h2 : b ≤ 122 <;> by_cases h3 : 65 ≤ b <;> by_cases h4 : b ≤ 90 <;> by_cases h5 : 48 ≤ b <;> by_cases h6 : b ≤ 57 <;> by_cases h7 : b = 46 <;> by_cases h8 : b = 95 <;> by_cases h9 : b = 45 <;> simp [h1, h2, h3, h4, h5, h6, h7, h8, h9]
theorem code_Comp_l0 (a : ByteArray) (ha : Short a) : ∀ (m i : Nat), a.size - i = m → i ≤ a.size → Ev (fun k => path_Component.l0 k a (a.size : Int) (i : Int)) (okFrom (a.data.toList.drop i)) := by
  have hl : a.size = a.data.toList.length := size_data a
  unfold Short at ha
  intro m
  induction m with
  | zero =>
    intro i hm hi
    rw [List.drop_eq_nil_of_le (by omega)]
    refine Ev.step (Y := fun _ => some true) (Ev.of rfl) (fun k => ?_)
    simp only [path_Component.l0]
    rw [if_neg (by omega)]
  | succ m ih =>
    intro i hm hi
    have IH := ih (i + 1) (by omega) (by omega)
    rw [List.drop_eq_getElem_cons (by omega)]
    have hb := bt_data a i (by omega)
    by_cases h : okByte ((a.data.toList[i]'(by omega)).toNat : Int) = true
    · have e : okFrom (a.data.toList[i]'(by omega) :: a.data.toList.drop (i + 1)) = okFrom (a.data.toList.drop (i + 1)) := by unfold okFrom; rw [List.all_cons, h, Bool.true_and]
      rw [e]
      refine Ev.step IH (fun k => ?_)
      rw [code_Comp_step k a _ _ (by omega) (by omega) (by omega), hb, if_pos h, wrap_id (by omega) (by omega)]
      rfl
    · have e : okFrom (a.data.toList[i]'(by omega) :: a.data.toList.drop (i + 1)) = false := by unfold okFrom; rw [List.all_cons, Bool.eq_false_iff.mpr h, Bool.false_and]
      rw [e]
      refine Ev.step (Y := fun _ => some false) (Ev.of rfl) (fun k => ?_)
      rw [code_Comp_step k a _ _ (by omega) (by omega) (by omega), hb, if_neg h]
theorem path_Component_sp (a : ByteArray) (ha : Short a) : Ev (fun k => path_Component.f k a) (compP a) := by
  have hl : a.size = a.data.toList.length := size_data a
  have L := code_Comp_l0 a ha a.size 0 (by omega) (by omega)
  rw [List.drop_zero] at L
  have bad : ∀ X : Nat → Option Bool, (∀ k, X k = path_Component.j0 k a true) → Ev X false := fun X hX => Ev.congr (Ev.step (Y := fun _ => some false) (Ev.of rfl) (fun k => by simp only [path_Component.j0]; rw [if_pos trivial])) hX
  have good : ∀ X : Nat → Option Bool, (∀ k, X k = path_Component.j0 k a false) → Ev X (okFrom a.data.toList) := fun X hX => Ev.congr (Ev.step L (fun k => by simp only [path_Component.j0]; rw [if_neg (by decide)]; rfl)) hX
  unfold compP
  simp only [path_Component.f, toList_eq_data]
  by_cases h0 : a.data.toList = []
  · have e : a.size = 0 := by rw [hl, h0]; rfl
    simp only [if_pos h0]
    rw [decide_eq_false (show ¬ 1 ≤ a.size by omega)]
    simpa using bad _ (fun _ => rfl)
  · have h1 : 1 ≤ a.size := by rw [hl]; exact List.length_pos_iff.2 h0
    simp only [if_neg h0]
    rw [decide_eq_true h1]
    by_cases h2 : (a.size : Int) > 32
    · simp only [if_pos h2]
      rw [decide_eq_false (show ¬ a.size ≤ 32 by omega)]
      simpa using bad _ (fun _ => rfl)
    · simp only [if_neg h2]
      rw [decide_eq_true (show a.size ≤ 32 by omega)]
      by_cases h3 : a.data.toList = [46]
      · simp only [if_pos h3]
        rw [h3]
        simpa using bad _ (fun _ => rfl)
      · simp only [if_neg h3]
        by_cases h4 : a.data.toList = [46, 46]
        · simp only [if_pos h4]
          rw [h4]
          simpa using bad _ (fun _ => rfl)
        · simp only [if_neg h4]
          by_cases h5 : a.data.toList = [46, 46, 46]
          · simp only [h5]
            simpa using bad _ (fun _ => rfl)
          · have e3 : (a.data.toList == [46]) = false := beq_eq_false_iff_ne.mpr h3
            have e4 : (a.data.toList == [46, 46]) = false := beq_eq_false_iff_ne.mpr h4
            have e5 : (a.data.toList == [46, 46, 46]) = false := beq_eq_false_iff_ne.mpr h5
            rw [e3, e4, e5]
            simpa using good _ (fun _ => rfl)
theorem ref_Component_sp (a : ByteArray) (ha : Short a) : Ev (fun k => copseref02_Component.f k a) (compP a) := by
  have hl : a.size = a.data.toList.length := size_data a
  have L := ref_Comp_l0 a ha a.size 0 (by omega) (by omega)
  rw [List.drop_zero] at L
  have bad : ∀ X : Nat → Option Bool, (∀ k, X k = copseref02_Component.j0 k a true) → Ev X false := fun X hX => Ev.congr (Ev.step (Y := fun _ => some false) (Ev.of rfl) (fun k => by simp only [copseref02_Component.j0]; rw [if_pos trivial])) hX
  have good : ∀ X : Nat → Option Bool, (∀ k, X k = copseref02_Component.j0 k a false) → Ev X (okFrom a.data.toList) := fun X hX => Ev.congr (Ev.step L (fun k => by simp only [copseref02_Component.j0]; rw [if_neg (by decide)]; rfl)) hX
  unfold compP
  simp only [copseref02_Component.f, toList_eq_data]
  by_cases h1 : (a.size : Int) < 1
  · simp only [if_pos h1]
    rw [decide_eq_false (show ¬ 1 ≤ a.size by omega)]
    simpa using bad _ (fun _ => rfl)
  · simp only [if_neg h1]
    rw [decide_eq_true (show 1 ≤ a.size by omega)]
    by_cases h2 : (a.size : Int) > 32
    · simp only [if_pos h2]
      rw [decide_eq_false (show ¬ a.size ≤ 32 by omega)]
      simpa using bad _ (fun _ => rfl)
    · simp only [if_neg h2]
      rw [decide_eq_true (show a.size ≤ 32 by omega)]
      by_cases h3 : a.data.toList = [46]
      · simp only [if_pos h3]
        rw [h3]
        simpa using bad _ (fun _ => rfl)
      · simp only [if_neg h3]
        by_cases h4 : a.data.toList = [46, 46]
        · simp only [if_pos h4]
          rw [h4]
          simpa using bad _ (fun _ => rfl)
        · simp only [if_neg h4]
          by_cases h5 : a.data.toList = [46, 46, 46]
          · simp only [h5]
            simpa using bad _ (fun _ => rfl)
          · have e3 : (a.data.toList == [46]) = false := beq_eq_false_iff_ne.mpr h3
            have e4 : (a.data.toList == [46, 46]) = false := beq_eq_false_iff_ne.mpr h4
            have e5 : (a.data.toList == [46, 46, 46]) = false := beq_eq_false_iff_ne.mpr h5
            rw [e3, e4, e5]
            simpa using good _ (fun _ => rfl)
def validP (p : ByteArray) : Bool := decide (p.size ≤ 120) && decide ((sp p).length ≤ 12) && (sp p).all compP
theorem code_Valid_l0 (x : List ByteArray) (hx : ∀ c ∈ x, Short c) (hl : x.length ≤ 2147483649) : ∀ (m i : Nat), x.length - i = m → i ≤ x.length → Ev (fun k => path_Valid.l0 k x (x.length : Int) (i : Int)) ((x.drop i).all compP) := by
  intro m
  induction m with
  | zero =>
    intro i hm hi
    rw [List.drop_eq_nil_of_le (by omega)]
    refine Ev.step (Y := fun _ => some true) (Ev.of rfl) (fun k => ?_)
    simp only [path_Valid.l0]
    rw [if_neg (by omega)]
  | succ m ih =>
    intro i hm hi
    have IH := ih (i + 1) (by omega) (by omega)
    rw [rdOf_drop x i (by omega), List.all_cons]
    have C := path_Component_sp _ (hx _ (rdOf_mem x i (by omega)))
    refine Ev.step (Ev.bind C (F := fun k t => if t = true then path_Valid.l0 k x (x.length : Int) ((i + 1 : Nat) : Int) else some false) ?_) (fun k => ?_)
    · cases compP (rdOf ByteArray.empty x (i : Int)) with
      | true => simpa using IH
      | false => simpa using (Ev.of (X := some false) rfl)
    · simp only [path_Valid.l0]
      rw [if_pos (by omega), if_pos (by omega), if_pos (by omega), wrap_id (by omega) (by omega)]
      rfl
theorem ref_Valid_l0 (x : List ByteArray) (hx : ∀ c ∈ x, Short c) (hl : x.length ≤ 2147483649) : ∀ (m i : Nat), x.length - i = m → i ≤ x.length → Ev (fun k => copseref02_Valid.l0 k x (i : Int)) ((x.drop i).all compP) := by
  intro m
  induction m with
  | zero =>
    intro i hm hi
    rw [List.drop_eq_nil_of_le (by omega)]
    refine Ev.step (Y := fun _ => some true) (Ev.of rfl) (fun k => ?_)
    simp only [copseref02_Valid.l0]
    rw [if_neg (by omega)]
  | succ m ih =>
    intro i hm hi
    have IH := ih (i + 1) (by omega) (by omega)
    rw [rdOf_drop x i (by omega), List.all_cons]
    have C := ref_Component_sp _ (hx _ (rdOf_mem x i (by omega)))
    refine Ev.step (Ev.bind C (F := fun k t => if t = true then copseref02_Valid.l0 k x ((i + 1 : Nat) : Int) else some false) ?_) (fun k => ?_)
    · cases compP (rdOf ByteArray.empty x (i : Int)) with
      | true => simpa using IH
      | false => simpa using (Ev.of (X := some false) rfl)
    · simp only [copseref02_Valid.l0]
      rw [if_pos (by omega), if_pos (by omega), wrap_id (by omega) (by omega)]
      rfl
theorem path_Valid_sp (p : ByteArray) (hp : Short p) : Ev (fun k => path_Valid.f k p) (validP p) := by
  have l1 := sp_len p hp
  have L := code_Valid_l0 (sp p) (sp_short p hp) l1 _ 0 rfl (by omega)
  rw [List.drop_zero] at L
  unfold Short at hp
  unfold validP
  by_cases h : p.size ≤ 120
  · rw [decide_eq_true h, Bool.true_and]
    by_cases h2 : (sp p).length ≤ 12
    · rw [decide_eq_true h2, Bool.true_and]
      refine Ev.congr (Ev.step L (X := fun k => path_Valid.j0 k p false) (fun k => ?_)) (fun k => ?_)
      · simp only [path_Valid.j0]
        rw [if_neg (by decide), path_Split_sp p (by omega)]
        rfl
      · unfold path_Valid.f
        rw [if_neg (by omega), path_Depth_sp p (by omega)]
        simp only [Option.bind_some]
        rw [decide_eq_false (by omega)]
    · rw [decide_eq_false h2, Bool.false_and]
      refine Ev.congr (Ev.step (Y := fun _ => some false) (Ev.of rfl) (X := fun k => path_Valid.j0 k p true) (fun k => ?_)) (fun k => ?_)
      · simp only [path_Valid.j0]
        rw [if_pos trivial]
      · unfold path_Valid.f
        rw [if_neg (by omega), path_Depth_sp p (by omega)]
        simp only [Option.bind_some]
        rw [decide_eq_true (by omega)]
  · rw [decide_eq_false h, Bool.false_and, Bool.false_and]
    refine Ev.congr (Ev.step (Y := fun _ => some false) (Ev.of rfl) (X := fun k => path_Valid.j0 k p true) (fun k => ?_)) (fun k => ?_)
    · simp only [path_Valid.j0]
      rw [if_pos trivial]
    · unfold path_Valid.f
      rw [if_pos (by omega)]
theorem ref_Valid_sp (p : ByteArray) (hp : Short p) : Ev (fun k => copseref02_Valid.f k p) (validP p) := by
  have l1 := sp_len p hp
  have L := ref_Valid_l0 (sp p) (sp_short p hp) l1 _ 0 rfl (by omega)
  rw [List.drop_zero] at L
  unfold Short at hp
  have bad : Ev (fun k => copseref02_Valid.j0 k (sp p) true) false := Ev.step (Y := fun _ => some false) (Ev.of rfl) (fun k => by simp only [copseref02_Valid.j0]; rw [if_pos trivial])
  have good : Ev (fun k => copseref02_Valid.j0 k (sp p) false) ((sp p).all compP) := Ev.step L (fun k => by simp only [copseref02_Valid.j0]; rw [if_neg (by decide)]; rfl)
  refine Ev.bind (ref_Split_sp p (by omega)) ?_
  unfold validP
  by_cases h : p.size ≤ 120
  · rw [decide_eq_true h, Bool.true_and]
    by_cases h2 : (sp p).length ≤ 12
    · rw [decide_eq_true h2, Bool.true_and]
      exact Ev.congr good (fun k => by rw [if_neg (by omega), decide_eq_false (by omega)])
    · rw [decide_eq_false h2, Bool.false_and]
      exact Ev.congr bad (fun k => by rw [if_neg (by omega), decide_eq_true (by omega)])
  · rw [decide_eq_false h, Bool.false_and, Bool.false_and]
    exact Ev.congr bad (fun k => by rw [if_pos (by omega)])
abbrev Pc := List ByteArray
theorem cmpL_cases : ∀ (x y : Pc), cmpL x y = -1 ∨ cmpL x y = 0 ∨ cmpL x y = 1
  | [], [] => by simp [cmpL]
  | [], _ :: _ => by simp [cmpL]
  | _ :: _, [] => by simp [cmpL]
  | a :: x, b :: y => by
    unfold cmpL
    split
    · exact cmpL_cases x y
    · exact cmpT_cases _ _
theorem cmpL_zero : ∀ {x y : Pc}, cmpL x y = 0 ↔ x = y
  | [], [] => by simp [cmpL]
  | [], _ :: _ => by simp [cmpL]
  | _ :: _, [] => by simp [cmpL]
  | a :: x, b :: y => by
    unfold cmpL
    by_cases h : cmpT a.data.toList b.data.toList = 0
    · rw [if_pos h, cmpL_zero]
      have e := data_inj (cmpT_eq.1 h)
      rw [e]; simp
    · rw [if_neg h]
      constructor
      · intro e; exact absurd e h
      · intro e
        injection e with e1 e2
        exact absurd (by rw [e1]; exact cmpT_self _) h
theorem cmpL_self (x : Pc) : cmpL x x = 0 := cmpL_zero.2 rfl
def ltL (x y : Pc) : Prop := cmpL x y = -1
theorem ltL_nil {y : Pc} (h : y ≠ []) : ltL [] y := by cases y; exact absurd rfl h; simp [ltL, cmpL]
theorem not_ltL_nil (x : Pc) : ¬ ltL x [] := by cases x <;> simp [ltL, cmpL]
theorem ltL_cons {a b : ByteArray} {x y : Pc} : ltL (a :: x) (b :: y) ↔ cmpT a.data.toList b.data.toList = -1 ∨ (a = b ∧ ltL x y) := by
  unfold ltL
  rw [cmpL]
  by_cases h : cmpT a.data.toList b.data.toList = 0
  · rw [if_pos h]
    have e := data_inj (cmpT_eq.1 h)
    constructor
    · intro k; exact .inr ⟨e, k⟩
    · rintro (k | ⟨_, k⟩)
      · omega
      · exact k
  · rw [if_neg h]
    constructor
    · intro k; exact .inl k
    · rintro (k | ⟨k, _⟩)
      · exact k
      · exact absurd (by rw [k]; exact cmpT_self _) h
theorem ltL_trans : ∀ {x y z : Pc}, ltL x y → ltL y z → ltL x z
  | _, _, [], _, h => absurd h (not_ltL_nil _)
  | _, [], _ :: _, h, _ => absurd h (not_ltL_nil _)
  | [], _ :: _, _ :: _, _, _ => ltL_nil (by simp)
  | a :: x, b :: y, c :: z, h1, h2 => by
    rw [ltL_cons] at h1 h2 ⊢
    rcases h1 with h1 | ⟨rfl, h1⟩ <;> rcases h2 with h2 | ⟨rfl, h2⟩
    · exact .inl (cmpT_trans h1 h2)
    · exact .inl h1
    · exact .inl h2
    · exact .inr ⟨rfl, ltL_trans h1 h2⟩
theorem ltL_irrefl (x : Pc) : ¬ ltL x x := by unfold ltL; rw [cmpL_self]; decide
theorem ltL_prefix : ∀ {x y : Pc}, x <+: y → x ≠ y → ltL x y
  | [], [], _, h => absurd rfl h
  | [], _ :: _, _, _ => ltL_nil (by simp)
  | _ :: _, [], h, _ => by simp at h
  | a :: x, b :: y, h, hn => by
    rw [List.cons_prefix_cons] at h
    obtain ⟨rfl, h⟩ := h
    exact ltL_cons.2 (.inr ⟨rfl, ltL_prefix h (fun e => hn (by rw [e]))⟩)
theorem ltL_between : ∀ {x y z : Pc}, x <+: z → ltL x y → ltL y z → x <+: y
  | [], _, _, _, _, _ => List.nil_prefix
  | _ :: _, _, [], h, _, _ => by simp at h
  | _ :: _, [], _ :: _, _, h, _ => absurd h (not_ltL_nil _)
  | a :: x, b :: y, c :: z, h, h1, h2 => by
    rw [List.cons_prefix_cons] at h
    obtain ⟨rfl, h⟩ := h
    rw [ltL_cons] at h1 h2
    rcases h1 with h1 | ⟨rfl, h1⟩ <;> rcases h2 with h2 | ⟨e, h2⟩
    · have := cmpT_swap a.data.toList b.data.toList; omega
    · rw [e, cmpT_self] at h1; omega
    · rw [cmpT_self] at h2; omega
    · exact List.cons_prefix_cons.2 ⟨rfl, ltL_between h h1 h2⟩
theorem ltL_block : ∀ {p c x : Pc}, p <+: c → ¬ p <+: x → ¬ x <+: p → (ltL x c ↔ ltL x p) ∧ (ltL c x ↔ ltL p x)
  | [], _, _, _, h, _ => absurd List.nil_prefix h
  | _ :: _, [], _, h, _, _ => by simp at h
  | _ :: _, _ :: _, [], _, _, h => absurd List.nil_prefix h
  | p :: ps, c :: cs, x :: xs, h, h1, h2 => by
    rw [List.cons_prefix_cons] at h h1 h2
    obtain ⟨rfl, h⟩ := h
    simp only [ltL_cons]
    by_cases e : p = x
    · subst e
      have IH := ltL_block h (fun k => h1 ⟨rfl, k⟩) (fun k => h2 ⟨rfl, k⟩)
      rw [IH.1, IH.2]
      exact ⟨Iff.rfl, Iff.rfl⟩
    · have e2 : ¬ x = p := fun k => e k.symm
      simp [e, e2]
def Apart (a b : Pc) : Prop := ltL a b ∧ ¬ a <+: b
theorem Apart.trans {a b c : Pc} (h1 : Apart a b) (h2 : Apart b c) : Apart a c :=
  ⟨ltL_trans h1.1 h2.1, fun h => h1.2 (ltL_between h h1.1 h2.1)⟩
theorem Apart.not_prefix {a b : Pc} (h : Apart a b) : ¬ b <+: a := fun k => by
  by_cases e : b = a
  · exact ltL_irrefl a (by have := h.1; rw [e] at this; exact this)
  · exact ltL_irrefl a (ltL_trans h.1 (ltL_prefix k e))
theorem comLen_prefix : ∀ {x y : Pc}, SumA.comLen x y = x.length ↔ x <+: y
  | [], _ => by cases ‹Pc› <;> simp [SumA.comLen]
  | _ :: _, [] => by simp [SumA.comLen]
  | a :: x, b :: y => by
    unfold SumA.comLen
    rw [List.cons_prefix_cons]
    by_cases h : a.toList = b.toList
    · rw [if_pos h]
      have e : a = b := data_inj (by rw [← toList_eq_data, ← toList_eq_data]; exact h)
      rw [List.length_cons, Nat.add_right_cancel_iff, comLen_prefix]
      simp [e]
    · rw [if_neg h]
      have e : ¬ a = b := fun k => h (by rw [k])
      simp [e]
theorem comLen_take : ∀ (x y : Pc), x.take (SumA.comLen x y) <+: y
  | [], _ => by simp
  | _ :: _, [] => by simp [SumA.comLen]
  | a :: x, b :: y => by
    unfold SumA.comLen
    by_cases h : a.toList = b.toList
    · rw [if_pos h]
      have e : a = b := data_inj (by rw [← toList_eq_data, ← toList_eq_data]; exact h)
      rw [List.take_succ_cons, e]
      exact List.cons_prefix_cons.2 ⟨rfl, comLen_take x y⟩
    · rw [if_neg h]
      simp
theorem glue_sp (p : ByteArray) : glue 47 ((sp p).map (·.data.toList)) = p.data.toList := by
  unfold sp
  by_cases h : p.data.toList = []
  · rw [if_pos h, h]; rfl
  · rw [if_neg h]
    have e : ((pieces 47 p.data.toList).map mkB).map (·.data.toList) = pieces 47 p.data.toList := by
      rw [List.map_map]
      have : ((fun x : ByteArray => x.data.toList) ∘ mkB) = id := by funext l; exact mkB_data l
      rw [this, List.map_id]
    rw [e, glue_pieces]
theorem sp_inj {p q : ByteArray} (h : sp p = sp q) : p = q := by
  apply data_inj
  rw [← glue_sp p, ← glue_sp q, h]
theorem sp_no (p : ByteArray) : ∀ c ∈ sp p, 47 ∉ c.data.toList := by
  unfold sp
  split
  · simp
  · intro c hc
    obtain ⟨l, hl, rfl⟩ := List.mem_map.1 hc
    rw [mkB_data]
    exact pieces_no 47 _ l hl
theorem sp_empty : sp (⟨#[]⟩ : ByteArray) = [] := by unfold sp; exact if_pos rfl
theorem sp_nil {p : ByteArray} : sp p = [] ↔ p.data.toList = [] := by
  unfold sp
  by_cases h : p.data.toList = []
  · rw [if_pos h]; simp [h]
  · rw [if_neg h]
    have := pieces_ne 47 p.data.toList
    simp [h, this]
theorem glue_ne {ps : List B} (h : ∀ c ∈ ps, c ≠ []) (h0 : ps ≠ []) : glue 47 ps ≠ [] := by
  cases ps with
  | nil => exact absurd rfl h0
  | cons p r =>
    have hp := h p (by simp)
    cases r with
    | nil => exact hp
    | cons q r => rw [glue_cons _ _ _ (by simp)]; simp
theorem sp_mk (ps : Pc) (h : ∀ c ∈ ps, c.data.toList ≠ []) (hn : ∀ c ∈ ps, 47 ∉ c.data.toList) : sp (mkB (glue 47 (ps.map (·.data.toList)))) = ps := by
  unfold sp
  rw [mkB_data]
  by_cases h0 : ps = []
  · subst h0; rfl
  · have hm : ps.map (·.data.toList) ≠ [] := by simpa using h0
    rw [if_neg (glue_ne (by intro c hc; obtain ⟨x, hx, rfl⟩ := List.mem_map.1 hc; exact h x hx) hm)]
    rw [pieces_glue 47 _ (by intro c hc; obtain ⟨x, hx, rfl⟩ := List.mem_map.1 hc; exact hn x hx) hm]
    exact map_mkB ps
def Full (p : ByteArray) : Prop := ∀ c ∈ sp p, c.data.toList ≠ []
theorem full_of_valid {p : ByteArray} (h : validP p = true) : Full p := by
  intro c hc e
  unfold validP at h
  simp only [Bool.and_eq_true, List.all_eq_true] at h
  have := h.2 c hc
  unfold compP at this
  simp only [Bool.and_eq_true, decide_eq_true_eq] at this
  have s := size_data c
  rw [e] at s
  have := this.1.1.1.1.1
  rw [List.length_nil] at s
  omega
theorem short_of_valid {p : ByteArray} (h : validP p = true) : p.size ≤ 120 := by
  unfold validP at h
  simp only [Bool.and_eq_true, decide_eq_true_eq] at h
  exact h.1.1
theorem Short.of_valid {p : ByteArray} (h : validP p = true) : Short p := by
  have := short_of_valid h
  unfold Short
  omega
theorem sp_of_valid {p : ByteArray} (h : validP p = true) : (sp p).length ≤ 12 := by
  unfold validP at h
  simp only [Bool.and_eq_true, decide_eq_true_eq] at h
  exact h.1.2
theorem sp_pre {p : ByteArray} (h : Full p) {n : Nat} : sp (mkB (glue 47 (((sp p).take n).map (·.data.toList)))) = (sp p).take n :=
  sp_mk _ (fun c hc => h c (List.mem_of_mem_take hc)) (fun c hc => sp_no p c (List.mem_of_mem_take hc))
theorem valid_pre {p : ByteArray} (h : validP p = true) {n : Nat} : validP (mkB (glue 47 (((sp p).take n).map (·.data.toList)))) = true := by
  have e := sp_pre (full_of_valid h) (n := n)
  have s := glue_sp_le p n
  unfold validP at h ⊢
  rw [e, mkB_size]
  simp only [Bool.and_eq_true, decide_eq_true_eq, List.all_eq_true] at h ⊢
  exact ⟨⟨by omega, by rw [List.length_take]; omega⟩, fun c hc => h.2 c (List.mem_of_mem_take hc)⟩
theorem sp_common {p : ByteArray} (h : Full p) (q : ByteArray) : sp (commonP p q) = (sp p).take (SumA.comLen (sp p) (sp q)) := sp_pre h
theorem valid_common {p : ByteArray} (h : validP p = true) (q : ByteArray) : validP (commonP p q) = true := valid_pre h
theorem common_left {p : ByteArray} (h : Full p) (q : ByteArray) : sp (commonP p q) <+: sp p := by rw [sp_common h]; exact List.take_prefix _ _
theorem common_right {p : ByteArray} (h : Full p) (q : ByteArray) : sp (commonP p q) <+: sp q := by rw [sp_common h]; exact comLen_take _ _
theorem aboveP_iff (p q : ByteArray) : aboveP p q = true ↔ sp p <+: sp q ∧ sp p ≠ sp q := by
  unfold aboveP
  rw [Bool.and_eq_true, decide_eq_true_eq, beq_iff_eq, comLen_prefix]
  constructor
  · rintro ⟨h1, h2⟩
    exact ⟨h2, fun e => by rw [e] at h1; omega⟩
  · rintro ⟨h1, h2⟩
    refine ⟨?_, h1⟩
    have := h1.length_le
    by_cases e : (sp p).length = (sp q).length
    · exact absurd (h1.eq_of_length e) h2
    · omega
theorem lastTo_none (l : List UInt8) (h : 47 ∉ l) : ∀ i, lastTo l i = -1
  | 0 => rfl
  | i + 1 => by
    unfold lastTo
    rw [if_neg (fun e => h (List.mem_of_getElem? e)), lastTo_none l h i]
theorem lastTo_at (a b : List UInt8) (h : 47 ∉ b) : ∀ n, n ≤ b.length → lastTo (a ++ 47 :: b) (a.length + 1 + n) = (a.length : Int)
  | 0, _ => by
    rw [Nat.add_zero]
    unfold lastTo
    rw [if_pos (by rw [List.getElem?_append_right (Nat.le_refl _)]; simp)]
  | n + 1, hn => by
    rw [show a.length + 1 + (n + 1) = (a.length + 1 + n) + 1 by omega]
    unfold lastTo
    rw [if_neg, lastTo_at a b h n (by omega)]
    intro e
    rw [List.getElem?_append_right (by omega), show a.length + 1 + n - a.length = n + 1 by omega, List.getElem?_cons_succ] at e
    exact h (List.mem_of_getElem? e)
theorem sp_dir {p : ByteArray} (h : Full p) : sp (dirP p) = (sp p).dropLast := by
  have g := glue_sp p
  by_cases h0 : sp p = []
  · rw [sp_nil] at h0
    unfold dirP dirL
    rw [h0]
    have e : sp p = [] := sp_nil.2 h0
    rw [e]
    simp only [List.take_nil]
    exact sp_nil.2 (by rw [mkB_data])
  · obtain ⟨c, hc⟩ : ∃ c, sp p = (sp p).dropLast ++ [c] := ⟨(sp p).getLast h0, (List.dropLast_concat_getLast h0).symm⟩
    have hcm : c ∈ sp p := by rw [hc]; simp
    have hno := sp_no p c hcm
    have sub : ∀ x ∈ (sp p).dropLast, x ∈ sp p := fun x hx => (List.dropLast_sublist _).mem hx
    generalize hD : (sp p).dropLast = D at *
    by_cases hd : D = []
    · subst hd
      rw [hc] at g
      simp only [List.nil_append, List.map_cons, List.map_nil, glue] at g
      unfold dirP dirL
      rw [lastTo_none _ (by rw [← g]; exact hno)]
      exact sp_nil.2 (by rw [mkB_data]; rfl)
    · have hdm : D.map (·.data.toList) ≠ [] := by simpa using hd
      rw [hc, List.map_append, List.map_cons, List.map_nil, glue_snoc _ _ _ hdm] at g
      have e : dirP p = mkB (glue 47 (D.map (·.data.toList))) := by
        unfold dirP dirL
        have L := lastTo_at (glue 47 (D.map (·.data.toList))) c.data.toList hno c.data.toList.length (Nat.le_refl _)
        have hl : p.data.toList.length = (glue 47 (D.map (·.data.toList))).length + 1 + c.data.toList.length := by rw [← g]; simp; omega
        rw [← g] at hl ⊢
        rw [hl, L, Int.toNat_natCast, List.take_left]
      rw [e]
      exact sp_mk D (fun x hx => h x (sub x hx)) (fun x hx => sp_no p x (sub x hx))
theorem full_dir {p : ByteArray} (h : Full p) : Full (dirP p) := by
  intro c hc
  rw [sp_dir h] at hc
  exact h c ((List.dropLast_sublist _).mem hc)
abbrev rdB (x : List ByteArray) (i : Nat) : ByteArray := rdOf ByteArray.empty x (i : Int)
def coneAt (x : List ByteArray) (i : Nat) : Bool := validP (rdB x i) && (decide (i = 0) || (decide (cmpP (rdB x (i - 1)) (rdB x i) < 0) && !aboveP (rdB x (i - 1)) (rdB x i)))
def conesFrom (x : List ByteArray) : Nat → Nat → Bool
  | 0, _ => true
  | m + 1, i => coneAt x i && conesFrom x m (i + 1)
def conesP (x : List ByteArray) : Bool := conesFrom x x.length 0
theorem code_Cones_l0 (x : List ByteArray) (hx : ∀ c ∈ x, Short c) (hl : x.length ≤ 2147483649) : ∀ (m i : Nat), i + m = x.length → Ev (fun k => cone_Valid.l0 k x x (x.length : Int) (i : Int)) (if conesFrom x m i = true then 0 else 13) := by
  intro m
  induction m with
  | zero =>
    intro i hm
    refine Ev.step (Y := fun _ => some 0) (Ev.of rfl) (fun k => ?_)
    simp only [cone_Valid.l0]
    rw [if_neg (by omega)]
  | succ m ih =>
    intro i hm
    have IH := ih (i + 1) (by omega)
    have si := hx _ (rdOf_mem x i (by omega))
    have V := path_Valid_sp _ si
    have bad : Ev (fun _ => some (13 : Int)) (if false = true then (0 : Int) else 13) := Ev.of rfl
    unfold conesFrom coneAt
    refine Ev.step (Y := fun k => (path_Valid.f k (rdOf ByteArray.empty x (i : Int))).bind fun t => if t = true then (if (i : Int) > 0 then (path_Cmp.f k (rdB x (i - 1)) (rdB x i)).bind fun t134 => if t134 ≥ 0 then some 13 else (path_Above.f (rdB x (i - 1)) (rdB x i)).bind fun t136 => if t136 = true then some 13 else cone_Valid.l0 k x x (x.length : Int) ((i + 1 : Nat) : Int) else cone_Valid.l0 k x x (x.length : Int) ((i + 1 : Nat) : Int)) else some 13) (Ev.bind V ?_) (fun k => ?_)
    · cases hv : validP (rdB x i) with
      | false => simpa using bad
      | true =>
        by_cases h0 : i = 0
        · subst h0
          simpa using IH
        · have sp1 := hx _ (rdOf_mem x (i - 1) (by omega))
          have hi : (i : Int) > 0 := by omega
          simp only [if_true, if_pos hi, decide_eq_false h0, Bool.false_or, Bool.true_and]
          refine Ev.bind (path_Cmp_sp _ _ sp1 si) ?_
          by_cases hc : cmpP (rdB x (i - 1)) (rdB x i) < 0
          · rw [decide_eq_true hc, Bool.true_and]
            refine Ev.congr (Ev.bind (Ev.of (path_Above_sp _ _ sp1 si)) (F := fun k t => if t = true then some 13 else cone_Valid.l0 k x x (x.length : Int) ((i + 1 : Nat) : Int)) ?_) (fun k => by rw [if_neg (by omega)])
            cases aboveP (rdB x (i - 1)) (rdB x i) with
            | true => simpa using bad
            | false => simpa using IH
          · rw [decide_eq_false hc, Bool.false_and, Bool.false_and]
            exact Ev.congr bad (fun k => by rw [if_pos (by omega)])
    · simp only [cone_Valid.l0]
      rw [if_pos (by omega), if_pos (by omega), if_pos (by omega), wrap_id (i := (i : Int) + 1) (by omega) (by omega)]
      congr 1
      funext t
      by_cases h0 : (i : Int) > 0
      · have e : wrap64 ((i : Int) - 1) = ((i - 1 : Nat) : Int) := by rw [wrap_id (by omega) (by omega)]; omega
        rw [if_pos h0, if_pos h0, e, if_pos (show (0 : Int) ≤ ((i - 1 : Nat) : Int) by omega), if_pos (show ((i - 1 : Nat) : Int) < (x.length : Int) by omega)]
        rfl
      · rw [if_neg h0, if_neg h0]
        rfl
theorem cone_Valid_sp (x : List ByteArray) (hx : ∀ c ∈ x, Short c) (hl : x.length ≤ 2147483649) : Ev (fun k => cone_Valid.f k x) (if conesP x = true then 0 else 13) := code_Cones_l0 x hx hl x.length 0 (by omega)
theorem ref_Cones_l0 (x : List ByteArray) (hx : ∀ c ∈ x, Short c) (hl : x.length ≤ 2147483649) : ∀ (m i : Nat), i + m = x.length → Ev (fun k => copseref16_Cones.l0 k x (i : Int)) (conesFrom x m i) := by
  intro m
  induction m with
  | zero =>
    intro i hm
    refine Ev.step (Y := fun _ => some true) (Ev.of rfl) (fun k => ?_)
    simp only [copseref16_Cones.l0]
    rw [if_neg (by omega)]
  | succ m ih =>
    intro i hm
    have IH := ih (i + 1) (by omega)
    have si := hx _ (rdOf_mem x i (by omega))
    have V := ref_Valid_sp _ si
    have bad : Ev (fun _ => some false) false := Ev.of rfl
    unfold conesFrom coneAt
    refine Ev.step (Y := fun k => (copseref02_Valid.f k (rdOf ByteArray.empty x (i : Int))).bind fun t => if t = true then (if (i : Int) > 0 then (copseref02_Cmp.f k (rdB x (i - 1)) (rdB x i)).bind fun t134 => if t134 ≥ 0 then some false else (copseref02_Above.f k (rdB x (i - 1)) (rdB x i)).bind fun t136 => if t136 = true then some false else copseref16_Cones.l0 k x ((i + 1 : Nat) : Int) else copseref16_Cones.l0 k x ((i + 1 : Nat) : Int)) else some false) (Ev.bind V ?_) (fun k => ?_)
    · cases hv : validP (rdB x i) with
      | false => simpa using bad
      | true =>
        by_cases h0 : i = 0
        · subst h0
          simpa using IH
        · have sp1 := hx _ (rdOf_mem x (i - 1) (by omega))
          have hi : (i : Int) > 0 := by omega
          simp only [if_true, if_pos hi, decide_eq_false h0, Bool.false_or, Bool.true_and]
          refine Ev.bind (ref_Cmp_sp _ _ sp1 si) ?_
          by_cases hc : cmpP (rdB x (i - 1)) (rdB x i) < 0
          · rw [decide_eq_true hc, Bool.true_and]
            refine Ev.congr (Ev.bind (ref_Above_sp _ _ sp1 si) (F := fun k t => if t = true then some false else copseref16_Cones.l0 k x ((i + 1 : Nat) : Int)) ?_) (fun k => by rw [if_neg (by omega)])
            cases aboveP (rdB x (i - 1)) (rdB x i) with
            | true => simpa using bad
            | false => simpa using IH
          · rw [decide_eq_false hc, Bool.false_and, Bool.false_and]
            exact Ev.congr bad (fun k => by rw [if_pos (by omega)])
    · simp only [copseref16_Cones.l0]
      rw [if_pos (by omega), if_pos (by omega), wrap_id (i := (i : Int) + 1) (by omega) (by omega)]
      congr 1
      funext t
      by_cases h0 : (i : Int) > 0
      · have e : wrap64 ((i : Int) - 1) = ((i - 1 : Nat) : Int) := by rw [wrap_id (by omega) (by omega)]; omega
        rw [if_pos h0, if_pos h0, e, if_pos (show (0 : Int) ≤ ((i - 1 : Nat) : Int) by omega), if_pos (show ((i - 1 : Nat) : Int) < (x.length : Int) by omega)]
        rfl
      · rw [if_neg h0, if_neg h0]
        rfl
theorem ref_Cones_sp (x : List ByteArray) (hx : ∀ c ∈ x, Short c) (hl : x.length ≤ 2147483649) : Ev (fun k => copseref16_Cones.f k x) (conesP x) := ref_Cones_l0 x hx hl x.length 0 (by omega)
theorem conesFrom_iff (x : List ByteArray) : ∀ m i, conesFrom x m i = true ↔ ∀ j, i ≤ j → j < i + m → coneAt x j = true
  | 0, i => by simp [conesFrom]; intro j h1 h2; omega
  | m + 1, i => by
    unfold conesFrom
    rw [Bool.and_eq_true, conesFrom_iff x m (i + 1)]
    constructor
    · rintro ⟨h1, h2⟩ j hj1 hj2
      by_cases e : j = i
      · rw [e]; exact h1
      · exact h2 j (by omega) (by omega)
    · intro h
      exact ⟨h i (by omega) (by omega), fun j h1 h2 => h j (by omega) (by omega)⟩
theorem cmpP_lt {p q : ByteArray} : cmpP p q < 0 ↔ ltL (sp p) (sp q) := by
  unfold cmpP ltL
  rcases cmpL_cases (sp p) (sp q) with h | h | h <;> rw [h] <;> decide
theorem apart_iff {p q : ByteArray} : (cmpP p q < 0 ∧ aboveP p q = false) ↔ Apart (sp p) (sp q) := by
  rw [cmpP_lt]
  unfold Apart
  constructor
  · rintro ⟨h1, h2⟩
    refine ⟨h1, fun h => ?_⟩
    have : aboveP p q = true := (aboveP_iff p q).2 ⟨h, fun e => ltL_irrefl _ (by rw [e] at h1; exact h1)⟩
    rw [h2] at this; cases this
  · rintro ⟨h1, h2⟩
    refine ⟨h1, ?_⟩
    cases ha : aboveP p q with
    | false => rfl
    | true => exact absurd ((aboveP_iff p q).1 ha).1 h2
def ConesG (x : List ByteArray) : Prop := (∀ c ∈ x, validP c = true) ∧ x.Pairwise fun a b => Apart (sp a) (sp b)
theorem rdB_get (x : List ByteArray) (i : Nat) (h : i < x.length) : rdB x i = x[i] := by
  simp [rdB, rdOf, List.getD_eq_getElem?_getD, List.getElem?_eq_getElem h]
theorem conesP_iff (x : List ByteArray) : conesP x = true ↔ ConesG x := by
  unfold conesP
  rw [conesFrom_iff]
  constructor
  · intro h
    have hv : ∀ i (hi : i < x.length), validP x[i] = true ∧ (0 < i → Apart (sp (x[i - 1]'(by omega))) (sp x[i])) := by
      intro i hi
      have := h i (by omega) (by omega)
      unfold coneAt at this
      rw [rdB_get x i hi, Bool.and_eq_true] at this
      refine ⟨this.1, fun h0 => ?_⟩
      rw [rdB_get x (i - 1) (by omega), decide_eq_false (by omega), Bool.false_or, Bool.and_eq_true, decide_eq_true_eq] at this
      exact apart_iff.1 ⟨this.2.1, by simpa using this.2.2⟩
    constructor
    · intro c hc
      obtain ⟨i, hi, rfl⟩ := List.mem_iff_getElem.1 hc
      exact (hv i hi).1
    · rw [List.pairwise_iff_getElem]
      intro i j hi hj hij
      induction j with
      | zero => omega
      | succ j ih =>
        have a := (hv (j + 1) hj).2 (by omega)
        by_cases e : i = j
        · subst e; exact a
        · exact (ih (by omega) (by omega)).trans a
  · rintro ⟨h1, h2⟩ j _ hj
    have hj' : j < x.length := by omega
    unfold coneAt
    rw [rdB_get x j hj', Bool.and_eq_true]
    refine ⟨h1 _ (List.getElem_mem hj'), ?_⟩
    by_cases h0 : j = 0
    · subst h0; rfl
    · rw [decide_eq_false h0, Bool.false_or, Bool.and_eq_true, decide_eq_true_eq, rdB_get x (j - 1) (by omega)]
      rw [List.pairwise_iff_getElem] at h2
      have := apart_iff.2 (h2 (j - 1) j (by omega) hj' (by omega))
      exact ⟨this.1, by simpa using this.2⟩
abbrev File := S45
def placedP (f : File) : Bool := !(f.f0.toList == ([] : List UInt8)) && validP f.f0
def restP (f : File) : Bool := if (baseP f.f0).toList = ([84, 65, 82, 71, 69, 84, 83] : List UInt8) then decide (f.f2 = 0) && decide (f.f3 = (f.f1.size : Int)) else decide (f.f1.toList = ([] : List UInt8)) && (decide (0 ≤ f.f2) && (decide (f.f2 ≤ 1152921504606846976) && (decide (0 ≤ f.f3) && decide (f.f3 ≤ 4611686018427387904))))
def fileP (f : File) : Int := if placedP f = true then (if restP f = true then 0 else 8) else 7
theorem snap_placed_sp (f : File) (h : Short f.f0) : Ev (fun k => snap_placed.f k f.f0 f.f1 f.f2 f.f3) (placedP f) := by
  unfold placedP
  by_cases h0 : f.f0.toList = []
  · refine Ev.congr (Ev.of (X := some false) (by simp [h0])) (fun k => ?_)
    unfold snap_placed.f
    rw [if_pos h0]
  · refine Ev.congr (Ev.bind (F := fun _ t => some t) (path_Valid_sp _ h) (Ev.of (by simp [h0]))) (fun k => ?_)
    unfold snap_placed.f
    rw [if_neg h0]
theorem rest_tail (f : File) : (if f.f1.toList = ([] : List UInt8) then (if f.f2 < 0 then (some 8) else (if f.f2 > 1152921504606846976 then (some 8) else (if f.f3 < 0 then (some 8) else (if f.f3 > 4611686018427387904 then (some 8) else (some 0))))) else (some (8 : Int))) = some (if (decide (f.f1.toList = ([] : List UInt8)) && (decide (0 ≤ f.f2) && (decide (f.f2 ≤ 1152921504606846976) && (decide (0 ≤ f.f3) && decide (f.f3 ≤ 4611686018427387904))))) = true then 0 else 8) := by
  by_cases h1 : f.f1.toList = []
  · rw [if_pos h1, decide_eq_true h1, Bool.true_and]
    by_cases h2 : f.f2 < 0
    · rw [if_pos h2, decide_eq_false (by omega)]; rfl
    · rw [if_neg h2, decide_eq_true (by omega), Bool.true_and]
      by_cases h3 : f.f2 > 1152921504606846976
      · rw [if_pos h3, decide_eq_false (by omega)]; rfl
      · rw [if_neg h3, decide_eq_true (by omega), Bool.true_and]
        by_cases h4 : f.f3 < 0
        · rw [if_pos h4, decide_eq_false (by omega)]; rfl
        · rw [if_neg h4, decide_eq_true (by omega), Bool.true_and]
          by_cases h5 : f.f3 > 4611686018427387904
          · rw [if_pos h5, decide_eq_false (by omega)]; rfl
          · rw [if_neg h5, decide_eq_true (by omega)]; rfl
  · rw [if_neg h1, decide_eq_false h1]; rfl
theorem snap_File_sp (f : File) (h : Short f.f0) : Ev (fun k => snap_File.f k f.f0 f.f1 f.f2 f.f3) (fileP f) := by
  refine Ev.bind (snap_placed_sp f h) ?_
  unfold fileP
  cases hp : placedP f with
  | false => exact Ev.of rfl
  | true =>
    rw [if_pos rfl]
    simp only [if_true]
    refine Ev.bind (path_Base_sp _ h) ?_
    unfold restP
    by_cases hb : (baseP f.f0).toList = ([84, 65, 82, 71, 69, 84, 83] : List UInt8)
    · rw [if_pos hb]
      by_cases h2 : f.f2 = 0
      · rw [decide_eq_true h2, Bool.true_and]
        refine Ev.congr (Ev.step (X := fun k => snap_File.j0 k (f.f3 != (f.f1.size : Int))) (Ev.of (X := some (if decide (f.f3 = (f.f1.size : Int)) = true then 0 else 8)) rfl) (fun k => ?_)) (fun k => by rw [if_pos hb, if_pos h2])
        simp only [snap_File.j0]
        by_cases h3 : f.f3 = (f.f1.size : Int)
        · rw [decide_eq_true h3, if_pos rfl, if_neg (by simp [h3])]
        · rw [decide_eq_false h3, if_pos (by simp [h3]), if_neg (by decide)]
      · rw [decide_eq_false h2, Bool.false_and]
        refine Ev.congr (Ev.step (X := fun k => snap_File.j0 k true) (Ev.of (X := some 8) rfl) (fun k => ?_)) (fun k => by rw [if_pos hb, if_neg h2])
        simp only [snap_File.j0]
        rw [if_pos trivial]
    · rw [if_neg hb]
      refine Ev.congr (Ev.of (rest_tail f)) (fun k => ?_)
      rw [if_neg hb]
theorem ref_File_sp (f : File) (h : Short f.f0) : Ev (fun k => copseref04_File.f k f.f0 f.f1 f.f2 f.f3) (fileP f) := by
  refine Ev.bind (ref_Valid_sp _ h) ?_
  have bad : Ev (fun k => copseref04_File.j0 k true f.f0 f.f1 f.f2 f.f3) 7 := Ev.step (Ev.of (X := some 7) rfl) (fun k => by simp only [copseref04_File.j0]; rw [if_pos trivial])
  unfold fileP placedP
  cases hv : validP f.f0 with
  | false => rw [Bool.and_false]; exact bad
  | true =>
    simp only [Bool.and_true, if_true]
    by_cases h0 : f.f0.toList = []
    · have e : (f.f0.toList == ([] : List UInt8)) = true := by simp [h0]
      rw [e]; exact bad
    · have e : (f.f0.toList == ([] : List UInt8)) = false := by simp [h0]
      simp only [e, Bool.not_false, if_true]
      refine Ev.step (Y := fun k => (copseref02_Base.f k f.f0).bind fun t258 => (if t258.toList = ([84, 65, 82, 71, 69, 84, 83] : List UInt8) then (if f.f2 = 0 then (copseref04_File.j1 k (f.f3 != (f.f1.size : Int))) else (copseref04_File.j1 k true)) else some (if (decide (f.f1.toList = ([] : List UInt8)) && (decide (0 ≤ f.f2) && (decide (f.f2 ≤ 1152921504606846976) && (decide (0 ≤ f.f3) && decide (f.f3 ≤ 4611686018427387904))))) = true then 0 else 8))) ?_ (fun k => ?_)
      · refine Ev.bind (ref_Base_sp _ h) ?_
        unfold restP
        by_cases hb : (baseP f.f0).toList = ([84, 65, 82, 71, 69, 84, 83] : List UInt8)
        · simp only [if_pos hb]
          by_cases h2 : f.f2 = 0
          · rw [decide_eq_true h2, Bool.true_and]
            simp only [if_pos h2]
            refine Ev.step (X := fun k => copseref04_File.j1 k (f.f3 != (f.f1.size : Int))) (Ev.of (X := some (if decide (f.f3 = (f.f1.size : Int)) = true then 0 else 8)) rfl) (fun k => ?_)
            simp only [copseref04_File.j1]
            by_cases h3 : f.f3 = (f.f1.size : Int)
            · rw [decide_eq_true h3, if_pos rfl, if_neg (by simp [h3])]
            · rw [decide_eq_false h3, if_pos (by simp [h3]), if_neg (by decide)]
          · rw [decide_eq_false h2, Bool.false_and]
            simp only [if_neg h2]
            refine Ev.step (X := fun k => copseref04_File.j1 k true) (Ev.of (X := some 8) rfl) (fun k => ?_)
            simp only [copseref04_File.j1]
            rw [if_pos trivial]
        · simp only [if_neg hb]
          exact Ev.of rfl
      · simp only [copseref04_File.j0]
        rw [if_neg (by decide), rest_tail f]
abbrev rdF (x : List File) (i : Nat) : File := rd_T45 x (i : Int)
theorem rdF_mem (x : List File) (i : Nat) (h : i < x.length) : rdF x i ∈ x := by
  simp [rdF, rd_T45, List.getD_eq_getElem?_getD, List.getElem?_eq_getElem h]
theorem rdF_get (x : List File) (i : Nat) (h : i < x.length) : rdF x i = x[i] := by
  simp [rdF, rd_T45, List.getD_eq_getElem?_getD, List.getElem?_eq_getElem h]
def allF (P : Nat → Bool) : Nat → Nat → Bool
  | 0, _ => true
  | m + 1, i => P i && allF P m (i + 1)
theorem allF_succ (P : Nat → Bool) (m i : Nat) : allF P (m + 1) i = (P i && allF P m (i + 1)) := rfl
theorem allF_zero (P : Nat → Bool) (i : Nat) : allF P 0 i = true := rfl
theorem allF_iff (P : Nat → Bool) : ∀ m i, allF P m i = true ↔ ∀ j, i ≤ j → j < i + m → P j = true
  | 0, i => by simp [allF]; intro j h1 h2; omega
  | m + 1, i => by
    unfold allF
    rw [Bool.and_eq_true, allF_iff P m (i + 1)]
    constructor
    · rintro ⟨h1, h2⟩ j hj1 hj2
      by_cases e : j = i
      · rw [e]; exact h1
      · exact h2 j (by omega) (by omega)
    · intro h
      exact ⟨h i (by omega) (by omega), fun j h1 h2 => h j (by omega) (by omega)⟩
def sortF (l : List File) (i : Nat) : Bool := decide (i = 0) || decide (cmpP (rdF l (i - 1)).f0 (rdF l i).f0 < 0)
def notF (l : List File) (i : Nat) : Bool := decide (i = 0) || !aboveP (rdF l (i - 1)).f0 (rdF l i).f0
def okF (l : List File) (i : Nat) : Bool := decide (fileP (rdF l i) = 0) && (sortF l i && notF l i)
def snapP (l : List File) : Int := if allF (fun i => placedP (rdF l i)) l.length 0 = true then (if l.length ≤ 512 then (if allF (okF l) l.length 0 = true then 0 else 8) else 8) else 7
theorem sortF_at (l : List File) (i : Nat) : sortF l i = (decide (i = 0) || decide (cmpP (rdF l (i - 1)).f0 (rdF l i).f0 < 0)) := rfl
theorem notF_at (l : List File) (i : Nat) : notF l i = (decide (i = 0) || !aboveP (rdF l (i - 1)).f0 (rdF l i).f0) := rfl
theorem okF_at (l : List File) (i : Nat) : okF l i = (decide (fileP (rdF l i) = 0) && (sortF l i && notF l i)) := rfl
theorem code_snap_l1 (x : List File) (hx : ∀ f ∈ x, Short f.f0) (hl : x.length ≤ 2147483649) : ∀ (m i : Nat), i + m = x.length → Ev (fun k => snap_Valid.l1 k x x (x.length : Int) (i : Int)) (if allF (okF x) m i = true then 0 else 8) := by
  intro m
  induction m with
  | zero =>
    intro i hm
    refine Ev.step (Ev.of (X := some 0) rfl) (fun k => ?_)
    simp only [snap_Valid.l1]
    rw [if_neg (by omega)]
  | succ m ih =>
    intro i hm
    have IH := ih (i + 1) (by omega)
    have si := hx _ (rdF_mem x i (by omega))
    have bad : Ev (fun _ => some (8 : Int)) (if false = true then (0 : Int) else 8) := Ev.of rfl
    rw [allF_succ]
    refine Ev.step (Y := fun k => (snap_File.f k (rdF x i).f0 (rdF x i).f1 (rdF x i).f2 (rdF x i).f3).bind fun t => if t = 0 then (if (i : Int) > 0 then (path_Cmp.f k (rdF x (i - 1)).f0 (rdF x i).f0).bind fun t134 => if t134 ≥ 0 then some 8 else (path_Above.f (rdF x (i - 1)).f0 (rdF x i).f0).bind fun t136 => if t136 = true then some 8 else snap_Valid.l1 k x x (x.length : Int) ((i + 1 : Nat) : Int) else snap_Valid.l1 k x x (x.length : Int) ((i + 1 : Nat) : Int)) else some 8) (Ev.bind (snap_File_sp _ si) ?_) (fun k => ?_)
    · rw [okF_at, sortF_at, notF_at]
      by_cases hf : fileP (rdF x i) = 0
      · simp only [if_pos hf, decide_eq_true hf, Bool.true_and]
        by_cases h0 : i = 0
        · subst h0
          simpa using IH
        · have sp1 := hx _ (rdF_mem x (i - 1) (by omega))
          have hi : (i : Int) > 0 := by omega
          simp only [if_pos hi, decide_eq_false h0, Bool.false_or]
          refine Ev.bind (path_Cmp_sp _ _ sp1 si) ?_
          by_cases hc : cmpP (rdF x (i - 1)).f0 (rdF x i).f0 < 0
          · rw [decide_eq_true hc, Bool.true_and]
            refine Ev.congr (Ev.bind (Ev.of (path_Above_sp _ _ sp1 si)) (F := fun k t => if t = true then some 8 else snap_Valid.l1 k x x (x.length : Int) ((i + 1 : Nat) : Int)) ?_) (fun k => by rw [if_neg (by omega)])
            cases aboveP (rdF x (i - 1)).f0 (rdF x i).f0 with
            | true => simpa using bad
            | false => simpa using IH
          · rw [decide_eq_false hc, Bool.false_and, Bool.false_and]
            exact Ev.congr bad (fun k => by rw [if_pos (by omega)])
      · simp only [if_neg hf, decide_eq_false hf, Bool.false_and]
        exact bad
    · simp only [snap_Valid.l1]
      rw [if_pos (by omega), if_pos (by omega), if_pos (by omega), wrap_id (i := (i : Int) + 1) (by omega) (by omega)]
      congr 1
      funext t
      by_cases h0 : (i : Int) > 0
      · have e : wrap64 ((i : Int) - 1) = ((i - 1 : Nat) : Int) := by rw [wrap_id (by omega) (by omega)]; omega
        rw [if_pos h0, if_pos h0, e, if_pos (show (0 : Int) ≤ ((i - 1 : Nat) : Int) by omega), if_pos (show ((i - 1 : Nat) : Int) < (x.length : Int) by omega)]
        rfl
      · rw [if_neg h0, if_neg h0]
        rfl
theorem code_snap_l0 (x : List File) (hx : ∀ f ∈ x, Short f.f0) (hl : x.length ≤ 2147483649) : ∀ (m i : Nat), i + m = x.length → Ev (fun k => snap_Valid.l0 k x x (x.length : Int) (i : Int)) (if allF (fun i => placedP (rdF x i)) m i = true then (if x.length ≤ 512 then (if allF (okF x) x.length 0 = true then 0 else 8) else 8) else 7) := by
  intro m
  induction m with
  | zero =>
    intro i hm
    refine Ev.step (Y := fun k => if (x.length : Int) > 512 then some 8 else snap_Valid.l1 k x x (x.length : Int) 0) ?_ (fun k => ?_)
    · rw [allF_zero, if_pos rfl]
      by_cases h : x.length ≤ 512
      · rw [if_pos h]
        exact Ev.congr (code_snap_l1 x hx hl x.length 0 (by omega)) (fun k => by rw [if_neg (by omega)]; rfl)
      · rw [if_neg h]
        exact Ev.congr (Ev.of (X := some 8) rfl) (fun k => by rw [if_pos (by omega)])
    · simp only [snap_Valid.l0]
      rw [if_neg (by omega)]
  | succ m ih =>
    intro i hm
    have IH := ih (i + 1) (by omega)
    have si := hx _ (rdF_mem x i (by omega))
    rw [allF_succ]
    refine Ev.step (Y := fun k => (snap_placed.f k (rdF x i).f0 (rdF x i).f1 (rdF x i).f2 (rdF x i).f3).bind fun t => if t = true then snap_Valid.l0 k x x (x.length : Int) ((i + 1 : Nat) : Int) else some 7) (Ev.bind (snap_placed_sp _ si) ?_) (fun k => ?_)
    · cases placedP (rdF x i) with
      | true => simpa using IH
      | false => simpa using (Ev.of (X := some (7 : Int)) rfl)
    · simp only [snap_Valid.l0]
      rw [if_pos (by omega), if_pos (by omega), if_pos (by omega), wrap_id (i := (i : Int) + 1) (by omega) (by omega)]
      rfl
theorem snap_Valid_sp (x : List File) (hx : ∀ f ∈ x, Short f.f0) (hl : x.length ≤ 2147483649) : Ev (fun k => snap_Valid.f k x) (snapP x) := code_snap_l0 x hx hl x.length 0 (by omega)
theorem ref_snap_l2 (x : List File) (hx : ∀ f ∈ x, Short f.f0) (hl : x.length ≤ 2147483649) : ∀ (m i : Nat), i + m + 1 = x.length → Ev (fun k => copseref04_Valid.l2 k x (i : Int)) (if allF (notF x) m (i + 1) = true then 0 else 8) := by
  intro m
  induction m with
  | zero =>
    intro i hm
    refine Ev.step (Ev.of (X := some 0) rfl) (fun k => ?_)
    simp only [copseref04_Valid.l2]
    rw [wrap_id (by omega) (by omega), if_neg (by omega)]
  | succ m ih =>
    intro i hm
    have IH := ih (i + 1) (by omega)
    have si := hx _ (rdF_mem x (i + 1) (by omega))
    have sp1 := hx _ (rdF_mem x i (by omega))
    rw [allF_succ]
    refine Ev.step (Y := fun k => (copseref02_Above.f k (rdF x i).f0 (rdF x (i + 1)).f0).bind fun t => if t = true then some 8 else copseref04_Valid.l2 k x ((i + 1 : Nat) : Int)) (Ev.bind (ref_Above_sp _ _ sp1 si) ?_) (fun k => ?_)
    · rw [notF_at, decide_eq_false (by omega), Bool.false_or, show i + 1 - 1 = i by omega]
      cases aboveP (rdF x i).f0 (rdF x (i + 1)).f0 with
      | true => simpa using (Ev.of (X := some (8 : Int)) rfl)
      | false => simpa using IH
    · simp only [copseref04_Valid.l2]
      rw [wrap_id (i := (i : Int) + 1) (by omega) (by omega), if_pos (by omega), if_pos (by omega), if_pos (by omega), if_pos (by omega)]
      rfl
theorem ref_snap_l2' (x : List File) (hx : ∀ f ∈ x, Short f.f0) (hl : x.length ≤ 2147483649) : Ev (fun k => copseref04_Valid.l2 k x 0) (if allF (notF x) x.length 0 = true then 0 else 8) := by
  cases hn : x.length with
  | zero =>
    refine Ev.step (Ev.of (X := some 0) rfl) (fun k => ?_)
    simp only [copseref04_Valid.l2]
    rw [wrap_id (by omega) (by omega), if_neg (by omega)]
  | succ n =>
    have := ref_snap_l2 x hx hl n 0 (by omega)
    rw [allF_succ]
    have e : notF x 0 = true := rfl
    rw [e, Bool.true_and]
    exact this
theorem ref_snap_l1 (x : List File) (hx : ∀ f ∈ x, Short f.f0) (hl : x.length ≤ 2147483649) : ∀ (m i : Nat), i + m = x.length → Ev (fun k => copseref04_Valid.l1 k x (i : Int)) (if allF (fun i => decide (fileP (rdF x i) = 0) && sortF x i) m i = true then (if allF (notF x) x.length 0 = true then 0 else 8) else 8) := by
  intro m
  induction m with
  | zero =>
    intro i hm
    refine Ev.step (ref_snap_l2' x hx hl) (fun k => ?_)
    simp only [copseref04_Valid.l1]
    rw [if_neg (by omega)]
  | succ m ih =>
    intro i hm
    have IH := ih (i + 1) (by omega)
    have si := hx _ (rdF_mem x i (by omega))
    have bad : Ev (fun _ => some (8 : Int)) (if false = true then (if allF (notF x) x.length 0 = true then (0 : Int) else 8) else 8) := Ev.of rfl
    rw [allF_succ]
    refine Ev.step (Y := fun k => (copseref04_File.f k (rdF x i).f0 (rdF x i).f1 (rdF x i).f2 (rdF x i).f3).bind fun t => if t = 0 then (if (i : Int) > 0 then (copseref02_Cmp.f k (rdF x (i - 1)).f0 (rdF x i).f0).bind fun t134 => if t134 ≥ 0 then some 8 else copseref04_Valid.l1 k x ((i + 1 : Nat) : Int) else copseref04_Valid.l1 k x ((i + 1 : Nat) : Int)) else some 8) (Ev.bind (ref_File_sp _ si) ?_) (fun k => ?_)
    · rw [sortF_at]
      by_cases hf : fileP (rdF x i) = 0
      · simp only [if_pos hf, decide_eq_true hf, Bool.true_and]
        by_cases h0 : i = 0
        · subst h0
          simpa using IH
        · have sp1 := hx _ (rdF_mem x (i - 1) (by omega))
          have hi : (i : Int) > 0 := by omega
          simp only [if_pos hi, decide_eq_false h0, Bool.false_or]
          refine Ev.bind (ref_Cmp_sp _ _ sp1 si) ?_
          by_cases hc : cmpP (rdF x (i - 1)).f0 (rdF x i).f0 < 0
          · rw [decide_eq_true hc, Bool.true_and]
            exact Ev.congr IH (fun k => by rw [if_neg (by omega)])
          · rw [decide_eq_false hc, Bool.false_and]
            exact Ev.congr bad (fun k => by rw [if_pos (by omega)])
      · simp only [if_neg hf, decide_eq_false hf, Bool.false_and]
        exact bad
    · simp only [copseref04_Valid.l1]
      rw [if_pos (by omega), if_pos (by omega), wrap_id (i := (i : Int) + 1) (by omega) (by omega)]
      congr 1
      funext t
      by_cases h0 : (i : Int) > 0
      · have e : wrap64 ((i : Int) - 1) = ((i - 1 : Nat) : Int) := by rw [wrap_id (by omega) (by omega)]; omega
        rw [if_pos h0, if_pos h0, e, if_pos (show (0 : Int) ≤ ((i - 1 : Nat) : Int) by omega), if_pos (show ((i - 1 : Nat) : Int) < (x.length : Int) by omega)]
        rfl
      · rw [if_neg h0, if_neg h0]
        rfl
theorem ref_snap_l0 (x : List File) (hx : ∀ f ∈ x, Short f.f0) (hl : x.length ≤ 2147483649) : ∀ (m i : Nat), i + m = x.length → Ev (fun k => copseref04_Valid.l0 k x (i : Int)) (if allF (fun i => placedP (rdF x i)) m i = true then (if x.length ≤ 512 then (if allF (fun i => decide (fileP (rdF x i) = 0) && sortF x i) x.length 0 = true then (if allF (notF x) x.length 0 = true then 0 else 8) else 8) else 8) else 7) := by
  intro m
  induction m with
  | zero =>
    intro i hm
    refine Ev.step (Y := fun k => if (x.length : Int) > 512 then some 8 else copseref04_Valid.l1 k x 0) ?_ (fun k => ?_)
    · rw [allF_zero, if_pos rfl]
      by_cases h : x.length ≤ 512
      · rw [if_pos h]
        exact Ev.congr (ref_snap_l1 x hx hl x.length 0 (by omega)) (fun k => by rw [if_neg (by omega)]; rfl)
      · rw [if_neg h]
        exact Ev.congr (Ev.of (X := some 8) rfl) (fun k => by rw [if_pos (by omega)])
    · simp only [copseref04_Valid.l0]
      rw [if_neg (by omega)]
  | succ m ih =>
    intro i hm
    have IH := ih (i + 1) (by omega)
    have si := hx _ (rdF_mem x i (by omega))
    rw [allF_succ]
    refine Ev.step (Y := fun k => (copseref04_File.f k (rdF x i).f0 (rdF x i).f1 (rdF x i).f2 (rdF x i).f3).bind fun t => if t = 7 then some 7 else copseref04_Valid.l0 k x ((i + 1 : Nat) : Int)) (Ev.bind (ref_File_sp _ si) ?_) (fun k => ?_)
    · unfold fileP
      cases hp : placedP (rdF x i) with
      | true =>
        rw [if_pos rfl, Bool.true_and]
        refine Ev.congr IH (fun k => ?_)
        rw [if_neg (by split <;> omega)]
      | false => simpa using (Ev.of (X := some (7 : Int)) rfl)
    · simp only [copseref04_Valid.l0]
      rw [if_pos (by omega), if_pos (by omega), wrap_id (i := (i : Int) + 1) (by omega) (by omega)]
      rfl
theorem allF_and (P Q : Nat → Bool) : ∀ m i, allF (fun i => P i && Q i) m i = (allF P m i && allF Q m i)
  | 0, _ => rfl
  | m + 1, i => by
    rw [allF_succ, allF_succ, allF_succ, allF_and P Q m (i + 1)]
    cases P i <;> cases Q i <;> cases allF P m (i + 1) <;> rfl
theorem ref_snap_Valid_sp (x : List File) (hx : ∀ f ∈ x, Short f.f0) (hl : x.length ≤ 2147483649) : Ev (fun k => copseref04_Valid.f k x) (snapP x) := by
  refine Ev.congr (Y := fun k => copseref04_Valid.l0 k x 0) ?_ (fun _ => rfl)
  have := ref_snap_l0 x hx hl x.length 0 (by omega)
  unfold snapP
  have e : okF x = fun i => (decide (fileP (rdF x i) = 0) && sortF x i) && notF x i := by funext i; unfold okF; rw [Bool.and_assoc]
  rw [e, allF_and]
  have e2 : ∀ a b : Bool, (if (a && b) = true then (0 : Int) else 8) = if a = true then (if b = true then 0 else 8) else 8 := by decide
  rw [e2]
  exact this
def ShortF (x : List File) : Prop := ∀ f ∈ x, Short f.f0 ∧ Short f.f1
def lookedP (l : List File) (x : List ByteArray) : Int := if snapP l = 0 then (if conesP x = true then 0 else 13) else snapP l
theorem snapP_zero {l : List File} (hs : ShortF l) (h : snapP l = 0) : l.length ≤ 512 ∧ ∀ f ∈ l, validP f.f0 = true ∧ 0 ≤ f.f3 ∧ f.f3 ≤ 4611686018427387904 := by
  unfold snapP at h
  by_cases h1 : allF (fun i => placedP (rdF l i)) l.length 0 = true
  · rw [if_pos h1] at h
    by_cases h2 : l.length ≤ 512
    · rw [if_pos h2] at h
      refine ⟨h2, fun f hf => ?_⟩
      obtain ⟨i, hi, rfl⟩ := List.mem_iff_getElem.1 hf
      by_cases h3 : allF (okF l) l.length 0 = true
      · have := (allF_iff _ _ _).1 h3 i (by omega) (by omega)
        rw [okF_at, Bool.and_eq_true, decide_eq_true_eq, rdF_get l i hi] at this
        have z := this.1
        unfold fileP at z
        by_cases hp : placedP l[i] = true
        · rw [if_pos hp] at z
          by_cases hr : restP l[i] = true
          · unfold placedP at hp
            rw [Bool.and_eq_true] at hp
            refine ⟨hp.2, ?_⟩
            unfold restP at hr
            split at hr
            · simp only [Bool.and_eq_true, decide_eq_true_eq] at hr
              have := (hs _ hf).2
              unfold Short at this
              omega
            · simp only [Bool.and_eq_true, decide_eq_true_eq] at hr
              exact ⟨hr.2.2.2.1, hr.2.2.2.2⟩
          · rw [if_neg hr] at z; omega
        · rw [if_neg hp] at z; omega
      · rw [if_neg h3] at h; omega
    · rw [if_neg h2] at h; omega
  · rw [if_neg h1] at h; omega
theorem Dsp_eq {x : File} (h : Short x.f0) : Dsp x = sp (dirP x.f0) := by
  have e : (⟨(dirL x.f0.toList).toArray⟩ : ByteArray) = dirP x.f0 := by unfold dirP mkB; rw [toList_eq_data]
  have hd := dir_short x.f0 h
  unfold Dsp
  rw [e, path_Split_sp _ (by unfold Short at hd; omega)]
  rfl
theorem fileOk_sp (f : File) (hs : Short f.f0) (h : 0 ≤ f.f3 ∧ f.f3 ≤ 4611686018427387904) : Ev (fun k => some (fileOk k f)) true := by
  obtain ⟨K, hK⟩ := (path_Dir_sp f.f0 hs).two (path_Base_sp f.f0 hs)
  refine ⟨K, fun k hk => congrArg some ?_⟩
  obtain ⟨h1, h2⟩ := hK k hk
  have hd := dir_short f.f0 hs
  unfold fileOk
  rw [h1, h2]
  have e : path_Split.f (dirP f.f0) = some (Dsp f) := by rw [Dsp_eq hs, path_Split_sp _ (by unfold Short at hd; omega)]
  simp [e, h.1, h.2]
theorem filesOk_sp (l : List File) (hl : l.length ≤ 512) (h : ∀ f ∈ l, Short f.f0 ∧ 0 ≤ f.f3 ∧ f.f3 ≤ 4611686018427387904) : Ev (fun k => some (filesOk k l)) true := by
  have A : ∀ m : List File, (∀ f ∈ m, Short f.f0 ∧ 0 ≤ f.f3 ∧ f.f3 ≤ 4611686018427387904) → Ev (fun k => some (m.all (fileOk k))) true := by
    intro m
    induction m with
    | nil => intro _; exact Ev.of rfl
    | cons f m ih =>
      intro hm
      obtain ⟨K, hK⟩ := (fileOk_sp f (hm f (by simp)).1 (hm f (by simp)).2).two (ih (fun g hg => hm g (by simp [hg])))
      refine ⟨K, fun k hk => ?_⟩
      have e1 := Option.some.inj (hK k hk).1
      have e2 := Option.some.inj (hK k hk).2
      show some ((f :: m).all (fileOk k)) = some true
      rw [List.all_cons, e1, e2]; rfl
  obtain ⟨K, hK⟩ := A l h
  refine ⟨K, fun k hk => ?_⟩
  have e := Option.some.inj (hK k hk)
  show some (filesOk k l) = some true
  unfold filesOk
  rw [e, decide_eq_true hl]; rfl
theorem looked_sp (l : List File) (x : List ByteArray) (hf : ShortF l) (hl : l.length ≤ 2147483649) (hx : ∀ c ∈ x, Short c) (hxl : x.length ≤ 2147483649) : Ev (fun k => looked.e k l x) (lookedP l x) := by
  refine Ev.bind (snap_Valid_sp l (fun f h => (hf f h).1) hl) ?_
  unfold lookedP
  by_cases h : snapP l = 0
  · obtain ⟨h2, h3⟩ := snapP_zero hf h
    simp only [if_pos h]
    obtain ⟨K, hK⟩ := (filesOk_sp l h2 (fun f hm => ⟨(hf f hm).1, (h3 f hm).2⟩)).two (cone_Valid_sp x hx hxl)
    refine ⟨K, fun k hk => ?_⟩
    obtain ⟨e1, e2⟩ := hK k hk
    have e1 := Option.some.inj e1
    show (if filesOk k l = true then cone_Valid.f k x else none) = _
    rw [if_pos e1, e2]
  · simp only [if_neg h]
    exact Ev.of rfl
theorem ref_looked_sp (l : List File) (x : List ByteArray) (hf : ShortF l) (hl : l.length ≤ 2147483649) (hx : ∀ c ∈ x, Short c) (hxl : x.length ≤ 2147483649) : Ev (fun k => copseref16_looked.f k l x) (lookedP l x) := by
  refine Ev.bind (ref_snap_Valid_sp l (fun f h => (hf f h).1) hl) ?_
  unfold lookedP
  by_cases h : snapP l = 0
  · simp only [if_pos h]
    refine Ev.bind (ref_Cones_sp x hx hxl) ?_
    cases conesP x with
    | true => rw [if_pos rfl]; exact Ev.of (by rw [h]; rfl)
    | false => exact Ev.of rfl
  · simp only [if_neg h]
    exact Ev.of rfl
def atP (p : ByteArray) : Bool → List ByteArray → List ByteArray
  | _, [] => []
  | d, c :: r => if sp p <+: sp c then (if d = true then atP p true r else p :: atP p true r) else c :: atP p d r
theorem block_eq (p c : ByteArray) : (c.toList = p.toList ∨ aboveP p c = true) ↔ sp p <+: sp c := by
  rw [aboveP_iff, toList_eq_data, toList_eq_data]
  constructor
  · rintro (h | h)
    · rw [data_inj h]; exact List.prefix_refl _
    · exact h.1
  · intro h
    by_cases e : sp p = sp c
    · left; rw [sp_inj e]
    · right; exact ⟨h, e⟩
theorem drop_rdB (x : List ByteArray) (i : Nat) (h : i < x.length) : x.drop i = rdB x i :: x.drop (i + 1) := rdOf_drop x i h
theorem code_at_l0 (p : ByteArray) (hp : Short p) (x : List ByteArray) (hx : ∀ c ∈ x, Short c) (hl : x.length ≤ 2147483649) : ∀ (m i : Nat) (acc : List ByteArray) (d : Bool), i + m = x.length → acc.length ≤ i → Ev (fun k => merge_at.l0 k p acc d x (x.length : Int) (i : Int)) (acc ++ atP p d (x.drop i)) := by
  intro m
  induction m with
  | zero =>
    intro i acc d hm ha
    rw [List.drop_eq_nil_of_le (by omega)]
    refine Ev.step (Ev.of (X := some (acc ++ [])) rfl) (fun k => ?_)
    simp only [merge_at.l0]
    rw [if_neg (by omega), List.append_nil]
  | succ m ih =>
    intro i acc d hm ha
    have sc := hx _ (rdOf_mem x i (by omega))
    rw [drop_rdB x i (by omega)]
    have w1 : wrap64 ((i : Int) + 1) = ((i + 1 : Nat) : Int) := by rw [wrap_id (by omega) (by omega)]; omega
    have J1 : ¬ sp p <+: sp (rdB x i) → Ev (fun k => merge_at.j1 k p acc d (rdB x i) x (x.length : Int) (i : Int) true) (acc ++ atP p d (rdB x i :: x.drop (i + 1))) := by
      intro hn
      have IH := ih (i + 1) (acc ++ [rdB x i]) d (by omega) (by simp; omega)
      rw [List.append_assoc] at IH
      unfold atP
      rw [if_neg hn]
      refine Ev.step IH (fun k => ?_)
      simp only [merge_at.j1]
      rw [if_pos trivial, if_pos (by omega), w1]
    have J2 : sp p <+: sp (rdB x i) → Ev (fun k => merge_at.j1 k p acc d (rdB x i) x (x.length : Int) (i : Int) false) (acc ++ atP p d (rdB x i :: x.drop (i + 1))) := by
      intro hn
      unfold atP
      rw [if_pos hn]
      cases d with
      | true =>
        have IH := ih (i + 1) acc true (by omega) (by omega)
        rw [if_pos rfl]
        refine Ev.step IH (fun k => ?_)
        simp only [merge_at.j1]
        rw [if_neg (by decide), if_pos trivial, w1]
      | false =>
        have IH := ih (i + 1) (acc ++ [p]) true (by omega) (by simp; omega)
        rw [List.append_assoc] at IH
        rw [if_neg (by decide)]
        refine Ev.step IH (fun k => ?_)
        simp only [merge_at.j1]
        rw [if_neg (by decide), if_neg (by decide), if_pos (by omega), w1]
    by_cases he : (rdB x i).toList = p.toList
    · refine Ev.step (J2 ((block_eq p _).1 (.inl he))) (fun k => ?_)
      simp only [merge_at.l0]
      rw [if_pos (by omega), if_pos (by omega), if_pos (by omega), if_pos he]
    · refine Ev.step (Y := fun k => merge_at.j1 k p acc d (rdB x i) x (x.length : Int) (i : Int) (!aboveP p (rdB x i))) ?_ (fun k => ?_)
      · cases ha : aboveP p (rdB x i) with
        | true => exact J2 ((block_eq p _).1 (.inr ha))
        | false => exact J1 (fun h => by rcases (block_eq p _).2 h with h | h; exact he h; rw [ha] at h; cases h)
      · simp only [merge_at.l0]
        rw [if_pos (by omega), if_pos (by omega), if_pos (by omega), if_neg he, path_Above_sp _ _ hp sc]
        rfl
theorem code_at (p : ByteArray) (hp : Short p) (x : List ByteArray) (hx : ∀ c ∈ x, Short c) (hl : x.length ≤ 2147483649) : Ev (fun k => merge_at.f k x p) (atP p false x) := code_at_l0 p hp x hx hl x.length 0 [] false (by omega) (by simp)
theorem ref_at_l0 (p : ByteArray) (hp : Short p) (x : List ByteArray) (hx : ∀ c ∈ x, Short c) (hl : x.length ≤ 2147483649) : ∀ (m i : Nat) (acc : List ByteArray) (d : Bool), i + m = x.length → acc.length ≤ i → Ev (fun k => copseref16_At.l0 k x p acc d (i : Int)) (acc ++ atP p d (x.drop i), 0) := by
  intro m
  induction m with
  | zero =>
    intro i acc d hm ha
    rw [List.drop_eq_nil_of_le (by omega)]
    refine Ev.step (Ev.of (X := some (acc ++ [], 0)) rfl) (fun k => ?_)
    simp only [copseref16_At.l0]
    rw [if_neg (by omega), List.append_nil]
  | succ m ih =>
    intro i acc d hm ha
    have sc := hx _ (rdOf_mem x i (by omega))
    rw [drop_rdB x i (by omega)]
    have w1 : wrap64 ((i : Int) + 1) = ((i + 1 : Nat) : Int) := by rw [wrap_id (by omega) (by omega)]; omega
    have J1 : ¬ sp p <+: sp (rdB x i) → Ev (fun k => copseref16_At.j1 k x p acc d (i : Int) true) (acc ++ atP p d (rdB x i :: x.drop (i + 1)), 0) := by
      intro hn
      have IH := ih (i + 1) (acc ++ [rdB x i]) d (by omega) (by simp; omega)
      rw [List.append_assoc] at IH
      unfold atP
      rw [if_neg hn]
      refine Ev.step IH (fun k => ?_)
      simp only [copseref16_At.j1]
      rw [if_pos trivial, if_pos (by omega), if_pos (by omega), if_pos (by omega), w1]
    have J2 : sp p <+: sp (rdB x i) → Ev (fun k => copseref16_At.j1 k x p acc d (i : Int) false) (acc ++ atP p d (rdB x i :: x.drop (i + 1)), 0) := by
      intro hn
      unfold atP
      rw [if_pos hn]
      cases d with
      | true =>
        have IH := ih (i + 1) acc true (by omega) (by omega)
        rw [if_pos rfl]
        refine Ev.step IH (fun k => ?_)
        simp only [copseref16_At.j1]
        rw [if_neg (by decide), if_pos trivial, w1]
      | false =>
        have IH := ih (i + 1) (acc ++ [p]) true (by omega) (by simp; omega)
        rw [List.append_assoc] at IH
        rw [if_neg (by decide)]
        refine Ev.step IH (fun k => ?_)
        simp only [copseref16_At.j1]
        rw [if_neg (by decide), if_neg (by decide), if_pos (by omega), w1]
    by_cases he : (rdB x i).toList = p.toList
    · refine Ev.step (J2 ((block_eq p _).1 (.inl he))) (fun k => ?_)
      simp only [copseref16_At.l0]
      rw [if_pos (by omega), if_pos (by omega), if_pos he]
    · refine Ev.step (Y := fun k => (copseref02_Above.f k p (rdB x i)).bind fun t => copseref16_At.j1 k x p acc d (i : Int) (!t)) (Ev.bind (ref_Above_sp _ _ hp sc) ?_) (fun k => ?_)
      · cases ha : aboveP p (rdB x i) with
        | true => exact J2 ((block_eq p _).1 (.inr ha))
        | false => exact J1 (fun h => by rcases (block_eq p _).2 h with h | h; exact he h; rw [ha] at h; cases h)
      · simp only [copseref16_At.l0]
        rw [if_pos (by omega), if_pos (by omega), if_neg he]
def AtP (x : List ByteArray) (p : ByteArray) : List ByteArray × Int := if conesP x = true then (if validP p = true then (atP p false x, 0) else ([], 7)) else ([], 13)
theorem ref_At_sp (p : ByteArray) (hp : Short p) (x : List ByteArray) (hx : ∀ c ∈ x, Short c) (hl : x.length ≤ 2147483649) : Ev (fun k => copseref16_At.f k x p) (AtP x p) := by
  refine Ev.bind (ref_Cones_sp x hx hl) ?_
  unfold AtP
  cases conesP x with
  | false => exact Ev.of rfl
  | true =>
    simp only [if_true]
    refine Ev.bind (ref_Valid_sp p hp) ?_
    cases validP p with
    | false => exact Ev.of rfl
    | true => exact ref_at_l0 p hp x hx hl x.length 0 [] false (by omega) (by simp)
theorem merge_At_sp (p : ByteArray) (hp : Short p) (x : List ByteArray) (hx : ∀ c ∈ x, Short c) (hl : x.length ≤ 2147483649) : Ev (fun k => merge_At.f k x p) (AtP x p) := by
  refine Ev.bind (cone_Valid_sp x hx hl) ?_
  unfold AtP
  cases conesP x with
  | false => exact Ev.of rfl
  | true =>
    simp only [if_true]
    refine Ev.bind (path_Valid_sp p hp) ?_
    cases validP p with
    | false => exact Ev.of rfl
    | true => exact Ev.bind (F := fun _ t => some (t, 0)) (code_at p hp x hx hl) (Ev.of rfl)
theorem atP_mem (p : ByteArray) : ∀ (x : List ByteArray) (d : Bool) (c : ByteArray), c ∈ atP p d x → (c ∈ x ∧ ¬ sp p <+: sp c) ∨ (c = p ∧ d = false ∧ ∃ b ∈ x, sp p <+: sp b)
  | [], _, _, h => by simp [atP] at h
  | a :: x, d, c, h => by
    unfold atP at h
    by_cases hb : sp p <+: sp a
    · rw [if_pos hb] at h
      cases d with
      | true =>
        rw [if_pos rfl] at h
        rcases atP_mem p x true c h with h | ⟨_, h, _⟩
        · exact .inl ⟨by simp [h.1], h.2⟩
        · cases h
      | false =>
        rw [if_neg (by decide)] at h
        rcases List.mem_cons.1 h with rfl | h
        · exact .inr ⟨rfl, rfl, a, by simp, hb⟩
        · rcases atP_mem p x true c h with h | ⟨_, h, _⟩
          · exact .inl ⟨by simp [h.1], h.2⟩
          · cases h
    · rw [if_neg hb] at h
      rcases List.mem_cons.1 h with rfl | h
      · exact .inl ⟨by simp, hb⟩
      · rcases atP_mem p x d c h with h | ⟨h1, h2, b, h3, h4⟩
        · exact .inl ⟨by simp [h.1], h.2⟩
        · exact .inr ⟨h1, h2, b, by simp [h3], h4⟩
theorem atP_len (p : ByteArray) : ∀ (x : List ByteArray) (d : Bool), (atP p d x).length + (x.filter fun c => decide (sp p <+: sp c)).length ≤ x.length + (if d = true then 0 else 1)
  | [], d => by cases d <;> simp [atP]
  | a :: x, d => by
    unfold atP
    by_cases hb : sp p <+: sp a
    · rw [if_pos hb, List.filter_cons_of_pos (by simpa using hb)]
      have := atP_len p x true
      cases d with
      | true => rw [if_pos rfl] at this ⊢; simp only [List.length_cons] at *; simp at this ⊢; omega
      | false => rw [if_neg (by decide)]; simp only [List.length_cons] at *; simp at this ⊢; omega
    · rw [if_neg hb, List.filter_cons_of_neg (by simpa using hb)]
      have := atP_len p x d
      simp only [List.length_cons] at *
      omega
def Place (p : ByteArray) (x : List ByteArray) : Prop := ∀ c ∈ x, sp c <+: sp p → sp c = sp p
theorem atP_apart (p : ByteArray) : ∀ (x : List ByteArray) (d : Bool), Place p x → (x.Pairwise fun a b => Apart (sp a) (sp b)) → (atP p d x).Pairwise fun a b => Apart (sp a) (sp b)
  | [], _, _, _ => by simp [atP]
  | a :: x, d, hp, h => by
    rw [List.pairwise_cons] at h
    have hp' : Place p x := fun c hc => hp c (by simp [hc])
    have free : ∀ c ∈ x, ¬ sp p <+: sp c → ¬ sp c <+: sp p := fun c hc h1 h2 => h1 (by rw [hp' c hc h2]; exact List.prefix_refl _)
    unfold atP
    by_cases hb : sp p <+: sp a
    · rw [if_pos hb]
      cases d with
      | true => rw [if_pos rfl]; exact atP_apart p x true hp' h.2
      | false =>
        rw [if_neg (by decide), List.pairwise_cons]
        refine ⟨fun c hc => ?_, atP_apart p x true hp' h.2⟩
        rcases atP_mem p x true c hc with ⟨h1, h2⟩ | ⟨_, h2, _⟩
        · exact ⟨(ltL_block hb h2 (free c h1 h2)).2.1 (h.1 c h1).1, h2⟩
        · cases h2
    · rw [if_neg hb, List.pairwise_cons]
      refine ⟨fun c hc => ?_, atP_apart p x d hp' h.2⟩
      rcases atP_mem p x d c hc with ⟨h1, h2⟩ | ⟨h1, h2, b, h3, h4⟩
      · exact h.1 c h1
      · subst h1
        have hn : ¬ sp a <+: sp c := fun k => hb (by rw [hp a (by simp) k]; exact List.prefix_refl _)
        exact ⟨(ltL_block h4 hb hn).1.1 (h.1 b h3).1, hn⟩
theorem atP_cones (p : ByteArray) (x : List ByteArray) (hp : Place p x) (hv : validP p = true) (h : ConesG x) : ConesG (atP p false x) := by
  refine ⟨fun c hc => ?_, atP_apart p x false hp h.2⟩
  rcases atP_mem p x false c hc with ⟨h1, _⟩ | ⟨h1, _⟩
  · exact h.1 c h1
  · rw [h1]; exact hv
theorem place_common (x : List ByteArray) (h : ConesG x) (i : Nat) (hi : i + 1 < x.length) : Place (commonP (rdB x i) (rdB x (i + 1))) x := by
  intro c hc hpre
  rw [rdB_get x i (by omega), rdB_get x (i + 1) hi] at hpre ⊢
  have va := full_of_valid (h.1 _ (List.getElem_mem (show i < x.length by omega)))
  have l1 := common_left va (x[i + 1])
  have l2 := common_right va (x[i + 1])
  have hpw := List.pairwise_iff_getElem.1 h.2
  obtain ⟨j, hj, rfl⟩ := List.mem_iff_getElem.1 hc
  have key : ∀ k (hk : k < x.length), sp x[j] <+: sp x[k] → j = k := by
    intro k hk hh
    rcases Nat.lt_trichotomy j k with hlt | he | hgt
    · exact absurd hh (hpw j k hj hk hlt).2
    · exact he
    · exact absurd hh (hpw k j hk hj hgt).not_prefix
  have e1 := key i (by omega) (hpre.trans l1)
  have e2 := key (i + 1) hi (hpre.trans l2)
  omega
theorem at_shorter (x : List ByteArray) (h : ConesG x) (i : Nat) (hi : i + 1 < x.length) : (atP (commonP (rdB x i) (rdB x (i + 1))) false x).length < x.length := by
  have va := full_of_valid (h.1 _ (rdOf_mem x i (by omega)))
  have l1 := common_left va (rdB x (i + 1))
  have l2 := common_right va (rdB x (i + 1))
  have := atP_len (commonP (rdB x i) (rdB x (i + 1))) x false
  have two : 2 ≤ (x.filter fun c => decide (sp (commonP (rdB x i) (rdB x (i + 1))) <+: sp c)).length := by
    have e : x = x.take i ++ rdB x i :: rdB x (i + 1) :: x.drop (i + 2) := by
      rw [← drop_rdB x (i + 1) hi, ← drop_rdB x i (by omega), List.take_append_drop]
    generalize hq : (fun c : ByteArray => decide (sp (commonP (rdB x i) (rdB x (i + 1))) <+: sp c)) = q
    have q1 : q (rdB x i) = true := by rw [← hq]; exact decide_eq_true l1
    have q2 : q (rdB x (i + 1)) = true := by rw [← hq]; exact decide_eq_true l2
    rw [e, List.filter_append, List.filter_cons_of_pos q1, List.filter_cons_of_pos q2, List.length_append, List.length_cons, List.length_cons]
    omega
  simp at this
  omega
def shownB (x : List ByteArray) (d : Pc) : Bool := x.any (fun c => decide (sp c <+: d) || decide (d <+: sp c)) || decide (d = [])
def totalF (l : List File) (x : List ByteArray) : Nat := (l.map fun f => if shownB x (sp (dirP f.f0)) = true then f.f3.toNat else 0).sum
theorem ref_shown_l0 (x : List ByteArray) (hx : ∀ c ∈ x, Short c) (hl : x.length ≤ 2147483649) (d : ByteArray) (hd : Short d) : ∀ (m i : Nat), i + m = x.length → Ev (fun k => copseref16_shown.l0 k x d (i : Int)) (shownB (x.drop i) (sp d)) := by
  intro m
  induction m with
  | zero =>
    intro i hm
    rw [List.drop_eq_nil_of_le (by omega)]
    refine Ev.step (Ev.of (X := some (d.toList == ([] : List UInt8))) ?_) (fun k => ?_)
    · have := sp_nil (p := d)
      unfold shownB
      rw [List.any_nil, Bool.false_or, toList_eq_data]
      by_cases h : d.data.toList = []
      · rw [decide_eq_true (this.2 h), h]; rfl
      · rw [decide_eq_false (fun e => h (this.1 e))]; exact congrArg some (beq_eq_false_iff_ne.mpr h)
    · simp only [copseref16_shown.l0]
      rw [if_neg (by omega)]
  | succ m ih =>
    intro i hm
    have IH := ih (i + 1) (by omega)
    have sc := hx _ (rdOf_mem x i (by omega))
    rw [drop_rdB x i (by omega)]
    have w1 : wrap64 ((i : Int) + 1) = ((i + 1 : Nat) : Int) := by rw [wrap_id (by omega) (by omega)]; omega
    by_cases he : d.toList = (rdB x i).toList
    · have e : shownB (rdB x i :: x.drop (i + 1)) (sp d) = true := by
        have e2 : d = rdB x i := data_inj (by rw [← toList_eq_data, ← toList_eq_data]; exact he)
        unfold shownB
        rw [List.any_cons, e2, decide_eq_true (List.prefix_refl _)]; rfl
      rw [e]
      refine Ev.step (Ev.of (X := some true) rfl) (fun k => ?_)
      simp only [copseref16_shown.l0]
      rw [if_pos (by omega), if_pos (by omega), if_pos he]
    · refine Ev.step (Y := fun k => (copseref02_Above.f k (rdB x i) d).bind fun t => if t = true then some true else (copseref02_Above.f k d (rdB x i)).bind fun t2 => if t2 = true then some true else copseref16_shown.l0 k x d ((i + 1 : Nat) : Int)) (Ev.bind (ref_Above_sp _ _ sc hd) ?_) (fun k => ?_)
      · have hs : shownB (rdB x i :: x.drop (i + 1)) (sp d) = ((decide (sp (rdB x i) <+: sp d) || decide (sp d <+: sp (rdB x i))) || shownB (x.drop (i + 1)) (sp d)) := by
          unfold shownB
          rw [List.any_cons, Bool.or_assoc]
        rw [hs]
        cases h1 : aboveP (rdB x i) d with
        | true =>
          rw [decide_eq_true ((aboveP_iff _ _).1 h1).1]
          exact Ev.of rfl
        | false =>
          have hn : ¬ sp (rdB x i) <+: sp d := fun h => by
            by_cases e : sp (rdB x i) = sp d
            · exact he (by rw [sp_inj e])
            · rw [(aboveP_iff _ _).2 ⟨h, e⟩] at h1; cases h1
          rw [decide_eq_false hn, Bool.false_or]
          simp only [Bool.false_eq_true, if_false]
          refine Ev.bind (ref_Above_sp _ _ hd sc) ?_
          cases h2 : aboveP d (rdB x i) with
          | true =>
            rw [decide_eq_true ((aboveP_iff _ _).1 h2).1]
            exact Ev.of rfl
          | false =>
            have hn2 : ¬ sp d <+: sp (rdB x i) := fun h => by
              by_cases e : sp d = sp (rdB x i)
              · exact he (by rw [sp_inj e])
              · rw [(aboveP_iff _ _).2 ⟨h, e⟩] at h2; cases h2
            rw [decide_eq_false hn2, Bool.false_or]
            simp only [Bool.false_eq_true, if_false]
            exact IH
      · simp only [copseref16_shown.l0]
        rw [if_pos (by omega), if_pos (by omega), if_neg he, w1]
theorem ref_shown (x : List ByteArray) (hx : ∀ c ∈ x, Short c) (hl : x.length ≤ 2147483649) (p : ByteArray) (hp : Short p) : Ev (fun k => copseref16_shown.f k x p) (shownB x (sp (dirP p))) :=
  Ev.bind (ref_Dir_sp p hp) (ref_shown_l0 x hx hl (dirP p) (dir_short p hp) x.length 0 (by omega))
theorem ref_cost_l0 (l : List File) (hf : ShortF l) (hl : l.length ≤ 2147483649) (h3 : ∀ f ∈ l, 0 ≤ f.f3 ∧ f.f3 ≤ 4611686018427387904) (x : List ByteArray) (hx : ∀ c ∈ x, Short c) (hxl : x.length ≤ 2147483649) : ∀ (m i : Nat) (n : Nat), i + m = l.length → n ≤ 9223372036854775807 → Ev (fun k => copseref16_cost.l0 k l x (n : Int) (i : Int)) (toldN (n + totalF (l.drop i) x)) := by
  intro m
  induction m with
  | zero =>
    intro i n hm hn
    rw [List.drop_eq_nil_of_le (by omega)]
    refine Ev.step (Ev.of (X := some (n : Int)) ?_) (fun k => ?_)
    · unfold totalF toldN
      rw [List.map_nil, List.sum_nil, Nat.add_zero, if_pos hn]
    · simp only [copseref16_cost.l0]
      rw [if_neg (by omega)]
  | succ m ih =>
    intro i n hm hn
    have hmem := rdF_mem l i (by omega)
    have sc := (hf _ hmem).1
    have b3 := h3 _ hmem
    have hd : l.drop i = rdF l i :: l.drop (i + 1) := by rw [List.drop_eq_getElem_cons (by omega), rdF_get l i (by omega)]
    rw [hd]
    have w1 : wrap64 ((i : Int) + 1) = ((i + 1 : Nat) : Int) := by rw [wrap_id (by omega) (by omega)]; omega
    have ht : totalF (rdF l i :: l.drop (i + 1)) x = (if shownB x (sp (dirP (rdF l i).f0)) = true then (rdF l i).f3.toNat else 0) + totalF (l.drop (i + 1)) x := by unfold totalF; rw [List.map_cons, List.sum_cons]
    rw [ht]
    refine Ev.step (Y := fun k => (copseref16_shown.f k x (rdF l i).f0).bind fun t => if t = true then (if (n : Int) > 9223372036854775807 - (rdF l i).f3 then some 9223372036854775807 else copseref16_cost.l0 k l x (n + (rdF l i).f3) ((i + 1 : Nat) : Int)) else copseref16_cost.l0 k l x (n : Int) ((i + 1 : Nat) : Int)) (Ev.bind (ref_shown x hx hxl _ sc) ?_) (fun k => ?_)
    · cases shownB x (sp (dirP (rdF l i).f0)) with
      | false =>
        have IH := ih (i + 1) n (by omega) hn
        simp only [Bool.false_eq_true, if_false]
        rw [Nat.zero_add]
        exact IH
      | true =>
        simp only [if_true]
        by_cases hg : (n : Int) > 9223372036854775807 - (rdF l i).f3
        · refine Ev.congr (Ev.of (X := some 9223372036854775807) ?_) (fun k => by rw [if_pos hg])
          unfold toldN
          rw [if_neg (by omega)]
        · have IH := ih (i + 1) (n + (rdF l i).f3.toNat) (by omega) (by omega)
          rw [Nat.add_assoc] at IH
          refine Ev.congr IH (fun k => ?_)
          rw [if_neg hg]
          congr 1
          omega
    · simp only [copseref16_cost.l0]
      rw [if_pos (by omega), if_pos (by omega), w1, wrap_id (i := 9223372036854775807 - (rdF l i).f3) (by omega) (by omega)]
      congr 1
      funext t
      by_cases hg : (n : Int) > 9223372036854775807 - (rdF l i).f3
      · rw [if_pos hg, if_pos hg]
      · rw [if_neg hg, if_neg hg, wrap_id (i := (n : Int) + (rdF l i).f3) (by omega) (by omega)]
theorem ref_cost_sp (l : List File) (hf : ShortF l) (hl : l.length ≤ 2147483649) (h3 : ∀ f ∈ l, 0 ≤ f.f3 ∧ f.f3 ≤ 4611686018427387904) (x : List ByteArray) (hx : ∀ c ∈ x, Short c) (hxl : x.length ≤ 2147483649) : Ev (fun k => copseref16_cost.f k l x) (toldN (totalF l x)) := by
  have := ref_cost_l0 l hf hl h3 x hx hxl l.length 0 0 (by omega) (by omega)
  rw [Nat.zero_add, List.drop_zero] at this
  exact this
theorem toldN_range (n : Nat) : 0 ≤ toldN n ∧ toldN n ≤ 9223372036854775807 := by unfold toldN; split <;> omega
theorem sum_sp (a b : Nat) : merge_sum.f (toldN a) (toldN b) = some (toldN (a + b)) := by
  have hb := toldN_range b
  have ha := toldN_range a
  unfold merge_sum.f
  rw [wrap_id (i := 9223372036854775807 - toldN b) (by omega) (by omega)]
  by_cases h : toldN a > 9223372036854775807 - toldN b
  · rw [if_pos h]
    unfold toldN at h ⊢
    rw [if_neg (by split at h <;> split at h <;> omega)]
  · rw [if_neg h, wrap_id (by omega) (by omega)]
    unfold toldN at h ⊢
    by_cases h1 : a ≤ 9223372036854775807 <;> by_cases h2 : b ≤ 9223372036854775807 <;> simp only [h1, h2, if_true, if_false] at h ⊢
    · rw [if_pos (by omega)]; congr 1
    · have : a = 0 := by omega
      subst this
      rw [if_neg (by omega)]; rfl
    · have : b = 0 := by omega
      subst this
      rw [if_neg (by omega)]; rfl
    · omega
theorem Size_sp (l : List File) (c : ByteArray) (hc : Short c) : trie_Trie_Size.f (gh0 l) c = some (toldN (szOf Dsp l (sp c))) := by
  have h2 := sp_len c hc
  unfold Short at hc
  unfold trie_Trie_Size.f
  rw [path_Split_sp c (by omega), path_Depth_sp c (by omega)]
  simp only [Option.bind_some]
  rw [if_pos ⟨trivial, by omega⟩]
  rfl
theorem Own_sp (l : List File) (c : ByteArray) (hc : Short c) : trie_Trie_Own.f (gh0 l) c = some (toldN (ownOf Dsp l (sp c))) := by
  have h2 := sp_len c hc
  unfold Short at hc
  unfold trie_Trie_Own.f
  rw [path_Split_sp c (by omega), path_Depth_sp c (by omega)]
  simp only [Option.bind_some]
  rw [if_pos ⟨trivial, by omega⟩]
  rfl
def climbP : Nat → List ByteArray → ByteArray → List ByteArray
  | 0, acc, _ => acc
  | n + 1, acc, d => if ∃ a, a ∈ acc ∧ a = dirP d then acc else climbP n (acc ++ [dirP d]) (dirP d)
def aboveL (x : List ByteArray) (acc : List ByteArray) : List ByteArray := x.foldl (fun a c => climbP (sp c).length a c) acc
theorem climbP_len : ∀ (n : Nat) (acc : List ByteArray) (d : ByteArray), (climbP n acc d).length ≤ acc.length + n
  | 0, _, _ => by simp [climbP]
  | n + 1, acc, d => by
    unfold climbP
    split
    · omega
    · have := climbP_len n (acc ++ [dirP d]) (dirP d)
      simp only [List.length_append, List.length_singleton] at this
      omega
theorem contains_l0 (x : List ByteArray) (hl : x.length ≤ 9007199254740992) (c : ByteArray) : ∀ (m i : Nat), i + m = x.length → (∀ j, j < i → (rdB x j).toList ≠ c.toList) → Ev (fun k => (slices_Index_string_string.l0 k x c (x.length : Int) (i : Int)).bind fun t => some (decide (t ≥ 0))) (decide (∃ a, a ∈ x ∧ a = c)) := by
  intro m
  induction m with
  | zero =>
    intro i hm hno
    refine Ev.step (Ev.of (X := some (decide ((-1 : Int) ≥ 0))) ?_) (fun k => ?_)
    · rw [decide_eq_false (by omega), decide_eq_false]
      rintro ⟨a, ha, rfl⟩
      obtain ⟨j, hj, e⟩ := List.mem_iff_getElem.1 ha
      exact hno j (by omega) (by rw [rdB_get x j hj, e])
    · simp only [slices_Index_string_string.l0]
      rw [if_neg (by omega)]
      rfl
  | succ m ih =>
    intro i hm hno
    have w1 : wrap64 ((i : Int) + 1) = ((i + 1 : Nat) : Int) := by rw [wrap_id (by omega) (by omega)]; omega
    by_cases he : c.toList = (rdB x i).toList
    · refine Ev.step (Ev.of (X := some (decide ((i : Int) ≥ 0))) ?_) (fun k => ?_)
      · rw [decide_eq_true (by omega), decide_eq_true]
        exact ⟨rdB x i, rdOf_mem x i (by omega), data_inj (by rw [← toList_eq_data, ← toList_eq_data]; exact he.symm)⟩
      · simp only [slices_Index_string_string.l0]
        rw [if_pos (by omega), if_pos (by omega), if_pos (by omega), if_pos he]
        rfl
    · refine Ev.step (ih (i + 1) (by omega) (fun j hj => ?_)) (fun k => ?_)
      · by_cases e : j = i
        · rw [e]; exact fun k => he k.symm
        · exact hno j (by omega)
      · simp only [slices_Index_string_string.l0]
        rw [if_pos (by omega), if_pos (by omega), if_pos (by omega), if_neg he, w1]
theorem contains_sp (x : List ByteArray) (hl : x.length ≤ 9007199254740992) (c : ByteArray) : Ev (fun k => slices_Contains_string_string.f k x c) (decide (∃ a, a ∈ x ∧ a = c)) := contains_l0 x hl c x.length 0 (by omega) (fun j hj => by omega)
theorem cost_l2 (l : List File) (y : List ByteArray) (hy : ∀ c ∈ y, Short c) (hl : y.length ≤ 9007199254740992) : ∀ (m i n : Nat), i + m = y.length → Ev (fun k => merge_cost.l2 k (gh0 l) (toldN n) y (y.length : Int) (i : Int)) (toldN (n + ((y.drop i).map fun c => ownOf Dsp l (sp c)).sum)) := by
  intro m
  induction m with
  | zero =>
    intro i n hm
    rw [List.drop_eq_nil_of_le (by omega)]
    refine Ev.step (Ev.of (X := some (toldN n)) (by simp)) (fun k => ?_)
    simp only [merge_cost.l2]
    rw [if_neg (by omega)]
  | succ m ih =>
    intro i n hm
    have IH := ih (i + 1) (n + ownOf Dsp l (sp (rdB y i))) (by omega)
    have sc := hy _ (rdOf_mem y i (by omega))
    have w1 : wrap64 ((i : Int) + 1) = ((i + 1 : Nat) : Int) := by rw [wrap_id (by omega) (by omega)]; omega
    rw [drop_rdB y i (by omega), List.map_cons, List.sum_cons, ← Nat.add_assoc]
    refine Ev.step IH (fun k => ?_)
    simp only [merge_cost.l2]
    rw [if_pos (by omega), if_pos (by omega), if_pos (by omega), Own_sp l _ sc]
    simp only [Option.bind_some]
    rw [sum_sp]
    simp only [Option.bind_some]
    rw [w1]
theorem climb_valid : ∀ (n : Nat) (acc : List ByteArray) (d : ByteArray), (∀ a ∈ acc, Short a) → Short d → ∀ a ∈ climbP n acc d, Short a
  | 0, _, _, h, _ => h
  | n + 1, acc, d, h, hd => by
    unfold climbP
    split
    · exact h
    · refine climb_valid n _ _ (fun a ha => ?_) (dir_short d hd)
      rcases List.mem_append.1 ha with ha | ha
      · exact h a ha
      · rw [List.mem_singleton.1 ha]; exact dir_short d hd
theorem cost_l1 (l : List File) (x0 : List ByteArray) (n : Int) (x : List ByteArray) (i : Nat) (hx : x.length ≤ 2147483649) (hi : i < x.length) : ∀ (m : Nat) (acc : List ByteArray) (d : ByteArray), Full d → Short d → (sp d).length = m → acc.length + m ≤ 8589934592000 → (v : Int) →
    Ev (fun k => merge_cost.l0 k (gh0 l) x0 n (climbP m acc d) x (x.length : Int) ((i + 1 : Nat) : Int)) v → Ev (fun k => merge_cost.l1 k (gh0 l) x0 n acc d x (x.length : Int) (i : Int)) v := by
  have w1 : wrap64 ((i : Int) + 1) = ((i + 1 : Nat) : Int) := by rw [wrap_id (by omega) (by omega)]; omega
  intro m
  induction m with
  | zero =>
    intro acc d hf hs hm ha v h
    refine Ev.step h (fun k => ?_)
    simp only [merge_cost.l1]
    rw [if_pos (by rw [toList_eq_data]; exact sp_nil.1 (List.eq_nil_of_length_eq_zero hm)), w1]
    rfl
  | succ m ih =>
    intro acc d hf hs hm ha v h
    have hne : d.toList ≠ [] := by
      rw [toList_eq_data]
      intro e
      have := sp_nil.2 e
      rw [this] at hm
      simp at hm
    refine Ev.step (Y := fun k => (path_Dir.f k d).bind fun t => (slices_Contains_string_string.f k acc t).bind fun t2 => if t2 = true then merge_cost.l0 k (gh0 l) x0 n acc x (x.length : Int) ((i + 1 : Nat) : Int) else merge_cost.l1 k (gh0 l) x0 n (acc ++ [t]) t x (x.length : Int) (i : Int)) (Ev.bind (path_Dir_sp d hs) (Ev.bind (contains_sp acc (by omega) (dirP d)) ?_)) (fun k => ?_)
    · unfold climbP at h
      by_cases hc : ∃ a, a ∈ acc ∧ a = dirP d
      · rw [decide_eq_true hc]
        rw [if_pos hc] at h
        simp only [if_true]
        exact h
      · rw [decide_eq_false hc]
        rw [if_neg hc] at h
        simp only [Bool.false_eq_true, if_false]
        refine ih (acc ++ [dirP d]) (dirP d) (full_dir hf) (dir_short d hs) ?_ (by simp; omega) v h
        rw [sp_dir hf, List.length_dropLast, hm]
        rfl
    · simp only [merge_cost.l1]
      rw [if_neg hne, w1]
      congr 1
      funext t
      congr 1
      funext t2
      rw [if_pos (show acc.length < 8796093022208 by omega)]
def sumSz (l : List File) (x : List ByteArray) : Nat := (x.map fun c => szOf Dsp l (sp c)).sum
def sumOwn (l : List File) (x : List ByteArray) : Nat := (x.map fun c => ownOf Dsp l (sp c)).sum
theorem cost_l0 (l : List File) (x : List ByteArray) (hx : ∀ c ∈ x, Short c ∧ Full c ∧ (sp c).length ≤ 12) (hl : x.length ≤ 2147483649) : ∀ (m i : Nat) (acc : List ByteArray) (n : Nat), i + m = x.length → acc.length ≤ 12 * i → (∀ a ∈ acc, Short a) →
    Ev (fun k => merge_cost.l0 k (gh0 l) x (toldN n) acc x (x.length : Int) (i : Int)) (toldN (n + sumSz l (x.drop i) + sumOwn l (if x = [] then [⟨#[]⟩] else aboveL (x.drop i) acc))) := by
  intro m
  induction m with
  | zero =>
    intro i acc n hm ha hs
    rw [List.drop_eq_nil_of_le (by omega)]
    have e0 : n + sumSz l [] = n := by simp [sumSz]
    rw [e0]
    refine Ev.step (Y := fun k => if (x.length : Int) = 0 then merge_cost.j2 k (gh0 l) (toldN n) (acc ++ [(⟨#[]⟩ : ByteArray)]) else merge_cost.j2 k (gh0 l) (toldN n) acc) ?_ (fun k => ?_)
    · by_cases h : x = []
      · subst h
        have ha0 : acc = [] := List.eq_nil_of_length_eq_zero (by simp at hm; omega)
        subst ha0
        rw [if_pos rfl]
        refine Ev.congr (Ev.step (X := fun k => merge_cost.j2 k (gh0 l) (toldN n) [(⟨#[]⟩ : ByteArray)]) (cost_l2 l [(⟨#[]⟩ : ByteArray)] (by intro c hc; rw [List.mem_singleton.1 hc]; unfold Short; decide) (by simp) 1 0 n rfl) (fun k => ?_)) (fun k => rfl)
        simp only [merge_cost.j2]
        rfl
      · have hx0 : ¬ (x.length : Int) = 0 := by
          have := List.length_pos_iff.2 h
          omega
        rw [if_neg h]
        refine Ev.congr (Ev.step (X := fun k => merge_cost.j2 k (gh0 l) (toldN n) acc) (cost_l2 l acc hs (by omega) acc.length 0 n (by omega)) (fun k => ?_)) (fun k => by rw [if_neg hx0])
        simp only [merge_cost.j2]
        rfl
    · simp only [merge_cost.l0]
      rw [if_neg (by omega)]
      by_cases h : (x.length : Int) = 0
      · rw [if_pos h, if_pos h, if_pos (by omega)]
      · rw [if_neg h, if_neg h]
  | succ m ih =>
    intro i acc n hm ha hs
    obtain ⟨sc, fc, lc⟩ : Short (rdB x i) ∧ Full (rdB x i) ∧ (sp (rdB x i)).length ≤ 12 := hx _ (rdOf_mem x i (by omega))
    have cl := climbP_len (sp (rdB x i)).length acc (rdB x i)
    have IH := ih (i + 1) (climbP (sp (rdB x i)).length acc (rdB x i)) (n + szOf Dsp l (sp (rdB x i))) (by omega) (by omega) (climb_valid _ _ _ hs sc)
    have hd := drop_rdB x i (by omega)
    have e1 : n + sumSz l (x.drop i) = n + szOf Dsp l (sp (rdB x i)) + sumSz l (x.drop (i + 1)) := by rw [hd]; unfold sumSz; rw [List.map_cons, List.sum_cons]; omega
    have e2 : aboveL (x.drop i) acc = aboveL (x.drop (i + 1)) (climbP (sp (rdB x i)).length acc (rdB x i)) := by rw [hd]; rfl
    rw [e1, e2]
    refine Ev.step (cost_l1 l x _ x i hl (by omega) (sp (rdB x i)).length acc (rdB x i) fc sc rfl (by omega) _ IH) (fun k => ?_)
    simp only [merge_cost.l0]
    rw [if_pos (by omega), if_pos (by omega), if_pos (by omega), Size_sp l _ sc]
    simp only [Option.bind_some]
    rw [sum_sp]
    rfl
def Strict (x : List ByteArray) (D : Pc) : Prop := ∃ c ∈ x, D <+: sp c ∧ D ≠ sp c
theorem prefix_dropLast {D P : Pc} (h : D <+: P) (hn : D ≠ P) : D <+: P.dropLast := by
  rw [List.prefix_iff_eq_take] at h ⊢
  have : D.length < P.length := by
    have h1 : D.length ≤ P.length := by rw [h, List.length_take]; omega
    by_cases e : D.length = P.length
    · exact absurd (by rw [h, e, List.take_length]) hn
    · omega
  rw [List.dropLast_eq_take, List.take_take, Nat.min_eq_left (by omega)]
  exact h
theorem climb_inv (K : List ByteArray) (c : ByteArray) : ∀ (n : Nat) (acc : List ByteArray) (d : ByteArray), Full d → (sp d).length = n → sp d <+: sp c → (∀ a ∈ acc, Full a) → (acc.map sp).Nodup → (∀ D, D ∈ acc.map sp ↔ Strict K D ∨ (sp d <+: D ∧ D <+: sp c ∧ D ≠ sp c)) →
    (∀ a ∈ climbP n acc d, Full a) ∧ ((climbP n acc d).map sp).Nodup ∧ ∀ D, D ∈ (climbP n acc d).map sp ↔ Strict K D ∨ Strict [c] D := by
  have S1 : ∀ D, Strict [c] D ↔ (D <+: sp c ∧ D ≠ sp c) := fun D => by simp [Strict]
  intro n
  induction n with
  | zero =>
    intro acc d fd hl hd hf hn hm
    refine ⟨hf, hn, fun D => ?_⟩
    have e : sp d = [] := List.eq_nil_of_length_eq_zero hl
    show D ∈ acc.map sp ↔ _
    rw [hm D, S1, e]
    simp
  | succ n ih =>
    intro acc d fd hl hd hf hn hm
    have hdl := sp_dir fd
    have hll : (sp (dirP d)).length = n := by rw [hdl, List.length_dropLast, hl]; rfl
    have hpd : sp (dirP d) <+: sp d := by rw [hdl]; exact List.dropLast_prefix _
    have hne : sp (dirP d) ≠ sp d := fun e => by rw [e, hl] at hll; omega
    have hnc : sp (dirP d) ≠ sp c := fun e => by
      have h1 := hd.length_le
      rw [← e, hll, hl] at h1
      omega
    unfold climbP
    by_cases hc : ∃ a, a ∈ acc ∧ a = dirP d
    · rw [if_pos hc]
      refine ⟨hf, hn, fun D => ?_⟩
      obtain ⟨a, ha, rfl⟩ := hc
      have hin : sp (dirP d) ∈ acc.map sp := List.mem_map.2 ⟨_, ha, rfl⟩
      have hk : Strict K (sp (dirP d)) := by
        rcases (hm _).1 hin with h | h
        · exact h
        · exact absurd (List.IsPrefix.eq_of_length h.1 (by have := h.1.length_le; have := hpd.length_le; omega)) (fun e => hne e.symm)
      rw [hm D, S1]
      constructor
      · rintro (h | h)
        · exact .inl h
        · exact .inr h.2
      · rintro (h | ⟨h1, h2⟩)
        · exact .inl h
        · rcases List.prefix_or_prefix_of_prefix h1 hd with h | h
          · by_cases e : D = sp d
            · right; rw [e] at h2 ⊢; exact ⟨List.prefix_refl _, hd, h2⟩
            · left
              obtain ⟨b, hb, hb1, hb2⟩ := hk
              have hp : D <+: sp (dirP d) := by rw [hdl]; exact prefix_dropLast h e
              refine ⟨b, hb, hp.trans hb1, fun e2 => ?_⟩
              rw [e2] at hp
              exact hb2 (List.IsPrefix.eq_of_length hb1 (by have := hb1.length_le; have := hp.length_le; omega))
          · exact .inr ⟨h, h1, h2⟩
    · rw [if_neg hc]
      refine ih (acc ++ [dirP d]) (dirP d) (full_dir fd) hll (hpd.trans hd) ?_ ?_ ?_
      · intro a ha
        rcases List.mem_append.1 ha with ha | ha
        · exact hf a ha
        · rw [List.mem_singleton.1 ha]; exact full_dir fd
      · rw [List.map_append, List.map_cons, List.map_nil, List.nodup_append]
        refine ⟨hn, by simp, ?_⟩
        intro a ha b hb e
        rw [List.mem_singleton.1 hb] at e
        obtain ⟨z, hz, hz2⟩ := List.mem_map.1 ha
        exact hc ⟨z, hz, sp_inj (by rw [hz2, e])⟩
      · intro D
        rw [List.map_append, List.mem_append, hm D, List.map_cons, List.map_nil, List.mem_singleton]
        constructor
        · rintro ((h | ⟨h1, h2⟩) | h)
          · exact .inl h
          · exact .inr ⟨hpd.trans h1, h2⟩
          · rw [h]; exact .inr ⟨List.prefix_refl _, hpd.trans hd, hnc⟩
        · rintro (h | ⟨h1, h2, h3⟩)
          · exact .inl (.inl h)
          · rcases List.prefix_or_prefix_of_prefix h2 hd with h | h
            · by_cases e : D = sp d
              · left; right; rw [e] at h3 ⊢; exact ⟨List.prefix_refl _, hd, h3⟩
              · right
                have hp : D <+: sp (dirP d) := by rw [hdl]; exact prefix_dropLast h e
                exact List.IsPrefix.eq_of_length hp (by have := h1.length_le; have := hp.length_le; omega)
            · exact .inl (.inr ⟨h, h2, h3⟩)
theorem aboveL_inv : ∀ (x K acc : List ByteArray), (∀ c ∈ x, Full c) → (∀ a ∈ acc, Full a) → (acc.map sp).Nodup → (∀ D, D ∈ acc.map sp ↔ Strict K D) →
    (∀ a ∈ aboveL x acc, Full a) ∧ ((aboveL x acc).map sp).Nodup ∧ ∀ D, D ∈ (aboveL x acc).map sp ↔ Strict (x ++ K) D
  | [], K, acc, _, hf, hn, hm => ⟨hf, hn, hm⟩
  | c :: x, K, acc, hx, hf, hn, hm => by
    have fc := hx c (by simp)
    obtain ⟨h1, h2, h3⟩ := climb_inv K c (sp c).length acc c fc rfl (List.prefix_refl _) hf hn (fun D => by
      rw [hm D]
      constructor
      · exact .inl
      · rintro (h | ⟨h1, h2, h3⟩)
        · exact h
        · exact absurd (List.IsPrefix.eq_of_length h2 (by have := h1.length_le; have := h2.length_le; omega)) h3)
    have IH := aboveL_inv x (c :: K) (climbP (sp c).length acc c) (fun a ha => hx a (by simp [ha])) h1 h2 (fun D => by
      rw [h3 D]
      unfold Strict
      constructor
      · rintro (⟨b, hb, h⟩ | ⟨b, hb, h⟩)
        · exact ⟨b, by simp [hb], h⟩
        · exact ⟨b, by rw [List.mem_singleton.1 hb]; simp, h⟩
      · rintro ⟨b, hb, h⟩
        rcases List.mem_cons.1 hb with rfl | hb
        · exact .inr ⟨b, by simp, h⟩
        · exact .inl ⟨b, hb, h⟩)
    refine ⟨IH.1, IH.2.1, fun D => ?_⟩
    show D ∈ (aboveL x (climbP (sp c).length acc c)).map sp ↔ _
    rw [IH.2.2 D]
    unfold Strict
    simp only [List.mem_append, List.mem_cons, List.cons_append]
    constructor
    · rintro ⟨b, hb, h⟩; exact ⟨b, by rcases hb with hb | hb | hb <;> simp [hb], h⟩
    · rintro ⟨b, hb, h⟩; exact ⟨b, by rcases hb with hb | hb | hb <;> simp [hb], h⟩
theorem sum_none {α : Type} (P : α → Prop) [DecidablePred P] (s : Nat) : ∀ (L : List α), (∀ a ∈ L, ¬ P a) → (L.map fun a => if P a then s else 0).sum = 0
  | [], _ => rfl
  | a :: L, h => by rw [List.map_cons, List.sum_cons, if_neg (h a (by simp)), sum_none P s L (fun b hb => h b (by simp [hb]))]
theorem sum_one {α : Type} (P : α → Prop) [DecidablePred P] (s : Nat) : ∀ (L : List α), (L.Pairwise fun a b => ¬ (P a ∧ P b)) → (∃ a ∈ L, P a) → (L.map fun a => if P a then s else 0).sum = s
  | [], _, h => by obtain ⟨_, h, _⟩ := h; cases h
  | a :: L, hp, h => by
    rw [List.pairwise_cons] at hp
    rw [List.map_cons, List.sum_cons]
    by_cases ha : P a
    · rw [if_pos ha, sum_none P s L (fun b hb hPb => hp.1 b hb ⟨ha, hPb⟩)]; rfl
    · rw [if_neg ha, sum_one P s L hp.2, Nat.zero_add]
      obtain ⟨b, hb, h⟩ := h
      rcases List.mem_cons.1 hb with rfl | hb
      · exact absurd h ha
      · exact ⟨b, hb, h⟩
theorem sum_add {α : Type} (A B : α → Nat) : ∀ (L : List α), (L.map fun a => A a + B a).sum = (L.map A).sum + (L.map B).sum
  | [] => rfl
  | a :: L => by rw [List.map_cons, List.sum_cons, sum_add A B L, List.map_cons, List.sum_cons, List.map_cons, List.sum_cons]; omega
theorem shownB_iff (x : List ByteArray) (D : Pc) : shownB x D = true ↔ (∃ c ∈ x, sp c <+: D ∨ D <+: sp c) ∨ D = [] := by
  unfold shownB
  simp only [Bool.or_eq_true, List.any_eq_true, decide_eq_true_eq]
theorem count_one (x ab : List ByteArray) (hx : ConesG x) (hn : (ab.map sp).Nodup) (hm : ∀ D, D ∈ ab.map sp ↔ if x = [] then D = [] else Strict x D) (D : Pc) (s : Nat) :
    (x.map fun c => if sp c <+: D then s else 0).sum + (ab.map fun a => if sp a = D then s else 0).sum = if shownB x D = true then s else 0 := by
  have pw : x.Pairwise fun a b => ¬ (sp a <+: D ∧ sp b <+: D) := hx.2.imp (fun {a b} h k => by
    rcases List.prefix_or_prefix_of_prefix k.1 k.2 with g | g
    · exact h.2 g
    · exact h.not_prefix g)
  have pn : ab.Pairwise fun a b => ¬ (sp a = D ∧ sp b = D) := by
    have := List.pairwise_map.1 hn
    exact this.imp (fun {a b} h k => h (by rw [k.1, k.2]))
  have key : ∀ c ∈ x, ∀ c' ∈ x, sp c <+: sp c' → sp c = sp c' := by
    intro c hc c' hc' h
    obtain ⟨i, hi, rfl⟩ := List.mem_iff_getElem.1 hc
    obtain ⟨j, hj, rfl⟩ := List.mem_iff_getElem.1 hc'
    have hp := List.pairwise_iff_getElem.1 hx.2
    rcases Nat.lt_trichotomy i j with g | g | g
    · exact absurd h (hp i j hi hj g).2
    · subst g; rfl
    · exact absurd h (hp j i hj hi g).not_prefix
  by_cases h1 : ∃ c ∈ x, sp c <+: D
  · rw [sum_one (fun c => sp c <+: D) s x pw h1]
    obtain ⟨c, hc, hcD⟩ := h1
    have hne : x ≠ [] := fun e => by rw [e] at hc; cases hc
    rw [if_pos ((shownB_iff x D).2 (.inl ⟨c, hc, .inl hcD⟩))]
    rw [sum_none (fun a => sp a = D) s ab, Nat.add_zero]
    intro a ha e
    have := (hm (sp a)).1 (List.mem_map.2 ⟨a, ha, rfl⟩)
    rw [if_neg hne] at this
    obtain ⟨c', hc', g1, g2⟩ := this
    rw [e] at g1 g2
    have e2 := key c hc c' hc' (hcD.trans g1)
    rw [← e2] at g1 g2
    exact g2 (List.IsPrefix.eq_of_length g1 (by have := g1.length_le; have := hcD.length_le; omega))
  · rw [sum_none (fun c => sp c <+: D) s x (fun c hc h => h1 ⟨c, hc, h⟩), Nat.zero_add]
    by_cases h2 : shownB x D = true
    · rw [if_pos h2]
      have hD : D ∈ ab.map sp := by
        rw [hm D]
        rcases (shownB_iff x D).1 h2 with ⟨c, hc, h | h⟩ | h
        · exact absurd ⟨c, hc, h⟩ h1
        · have hne : x ≠ [] := fun e => by rw [e] at hc; cases hc
          rw [if_neg hne]
          exact ⟨c, hc, h, fun e => h1 ⟨c, hc, by rw [e]; exact List.prefix_refl _⟩⟩
        · by_cases hne : x = []
          · rw [if_pos hne]; exact h
          · rw [if_neg hne]
            obtain ⟨c, hc⟩ := List.exists_mem_of_ne_nil x hne
            subst h
            exact ⟨c, hc, List.nil_prefix, fun e => h1 ⟨c, hc, by rw [← e]; exact List.prefix_refl _⟩⟩
      obtain ⟨a, ha, e⟩ := List.mem_map.1 hD
      exact sum_one (fun a => sp a = D) s ab pn ⟨a, ha, e⟩
    · rw [if_neg h2]
      refine sum_none (fun a => sp a = D) s ab (fun a ha e => h2 ((shownB_iff x D).2 ?_))
      have := (hm (sp a)).1 (List.mem_map.2 ⟨a, ha, rfl⟩)
      rw [e] at this
      by_cases hne : x = []
      · rw [if_pos hne] at this; exact .inr this
      · rw [if_neg hne] at this
        obtain ⟨c, hc, g1, _⟩ := this
        exact .inl ⟨c, hc, .inr g1⟩
theorem total_sum (x ab : List ByteArray) (hx : ConesG x) (hn : (ab.map sp).Nodup) (hm : ∀ D, D ∈ ab.map sp ↔ if x = [] then D = [] else Strict x D) : ∀ (l : List File), (∀ f ∈ l, Short f.f0) → sumSz l x + sumOwn l ab = totalF l x
  | [], _ => by
    have z : ∀ y : List ByteArray, (y.map fun _ => 0).sum = 0 := fun y => by
      induction y with
      | nil => rfl
      | cons c y ih => rw [List.map_cons, List.sum_cons, ih]
    have e1 : sumSz [] x = 0 := z x
    have e2 : sumOwn [] ab = 0 := z ab
    rw [e1, e2]; rfl
  | f :: l, hl => by
    have IH := total_sum x ab hx hn hm l (fun g hg => hl g (by simp [hg]))
    have hD := Dsp_eq (hl f (by simp))
    have e1 : sumSz (f :: l) x = (x.map fun c => if sp c <+: Dsp f then f.f3.toNat else 0).sum + sumSz l x := by
      unfold sumSz szOf
      rw [← sum_add]
      simp only [List.map_cons, List.sum_cons]
    have e2 : sumOwn (f :: l) ab = (ab.map fun c => if sp c = Dsp f then f.f3.toNat else 0).sum + sumOwn l ab := by
      unfold sumOwn ownOf
      rw [← sum_add]
      simp only [List.map_cons, List.sum_cons]
    have e3 : totalF (f :: l) x = (if shownB x (Dsp f) = true then f.f3.toNat else 0) + totalF l x := by
      unfold totalF
      rw [List.map_cons, List.sum_cons, hD]
    have := count_one x ab hx hn hm (Dsp f) f.f3.toNat
    rw [e1, e2, e3]
    omega
theorem code_cost_sp (l : List File) (hf : ∀ f ∈ l, Short f.f0) (x : List ByteArray) (hx : ConesG x) (hl : x.length ≤ 2147483649) : Ev (fun k => merge_cost.f k (gh0 l) x) (toldN (totalF l x)) := by
  have hv : ∀ c ∈ x, Short c ∧ Full c ∧ (sp c).length ≤ 12 := fun c hc => ⟨Short.of_valid (hx.1 c hc), full_of_valid (hx.1 c hc), sp_of_valid (hx.1 c hc)⟩
  have A := cost_l0 l x hv hl x.length 0 [] 0 (by omega) (by simp) (by simp)
  rw [List.drop_zero, Nat.zero_add] at A
  have e : sumSz l x + sumOwn l (if x = [] then [⟨#[]⟩] else aboveL x []) = totalF l x := by
    by_cases h : x = []
    · rw [if_pos h]
      refine total_sum x _ hx (by simp) (fun D => ?_) l hf
      rw [if_pos h]
      simp [sp_empty]
    · rw [if_neg h]
      have I := aboveL_inv x [] [] (fun c hc => (hv c hc).2.1) (by simp) (by simp) (fun D => by simp [Strict])
      refine total_sum x _ hx I.2.1 (fun D => ?_) l hf
      rw [if_neg h, I.2.2 D, List.append_nil]
  rw [e] at A
  exact A
end Go.Proofs.YtnfolcefjkannaaDoor.G
