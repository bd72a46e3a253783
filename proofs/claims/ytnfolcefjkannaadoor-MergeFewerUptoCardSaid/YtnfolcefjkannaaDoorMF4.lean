/- This session's texts, joined by a program of this session's: contracts of functions, printed and typed, and plain laws; what nothing needs is left out. -/
import Derived.Test.YtnfolcefjkannaaDoorMF3
namespace Go.Proofs.YtnfolcefjkannaaDoor.G
open Go.RowKit Go.Proofs.YtnfolcefjkannaaDoorW.PrintWords Go.Proofs.YtnfolcefjkannaaDoorW.PrintLast Go.Proofs.YtnfolcefjkannaaDoorW.PrintMore
attribute [local go_sem] max2_int min2_int max_two min_two max_three min_three max_four min_four
set_option linter.unusedVariables false
set_option linter.unusedSimpArgs false
def copseref16_Cones.l0 : Nat → List ByteArray → Int → Option (Bool)
 | 0, _, _ => none
 | k + 1, x0, x3 => if x3 < (x0.length : Int) then (if 0 ≤ x3 then ((copseref02_Valid.f k (rdOf ByteArray.empty x0 x3)).bind fun t248 => (if t248 = true then (if x3 > 0 then (if 0 ≤ (wrap64 (x3 - 1)) then (if (wrap64 (x3 - 1)) < (x0.length : Int) then ((copseref02_Cmp.f k (rdOf ByteArray.empty x0 (wrap64 (x3 - 1))) (rdOf ByteArray.empty x0 x3)).bind fun t251 => (if t251 ≥ 0 then (some false) else ((copseref02_Above.f k (rdOf ByteArray.empty x0 (wrap64 (x3 - 1))) (rdOf ByteArray.empty x0 x3)).bind fun t254 => (if t254 = true then (some false) else (copseref16_Cones.l0 k x0 (wrap64 (x3 + 1))))))) else (none)) else (none)) else (copseref16_Cones.l0 k x0 (wrap64 (x3 + 1)))) else (some false))) else (none)) else (some true)
def copseref16_Cones.f (k : Nat) (l0 : List ByteArray) : Option (Bool) := copseref16_Cones.l0 k l0 0
def copseref16_Cones.T4 : Bool × List (List Nat × List Nat) := (true, [([], []), ([], []), ([0, 1], [0, 1]), ([2], [2]), ([3], [3]), ([4], [4]), ([5, 4], [5]), ([6], [6]), ([7, 6], [6, 7]), ([8, 6, 6], [6, 8]), ([9], [9]), ([9], [9]), ([11, 9], [9, 11]), ([10, 12, 9], [9, 10, 12]), ([13, 9], [9, 13]), ([9], [9]), ([9], [9]), ([15, 16, 9], [9, 15, 16]), ([17, 9], [9, 17]), ([14, 18, 9, 9], [9, 14, 18]), ([19, 9], [9, 19]), ([20, 19, 9], [9, 20]), ([21], [21]), ([21], [21]), ([23, 21], [21, 23]), ([22, 24, 21], [21, 22, 24]), ([25, 21], [21, 25]), ([21], [21]), ([21], [21]), ([27, 28, 21], [21, 27, 28]), ([29, 21], [21, 29]), ([26, 30, 21, 21], [21, 26, 30]), ([21, 31, 9], [9, 21, 31]), ([9, 32, 6], [6, 9, 32]), ([6, 33], [6, 33])])
def copseref16_Cones.B4 : List Nat := [0, 0, 3, 7, 15, 31, 63, 127, 255, 511, 1023, 1023, 3071, 8191, 16383, 1023, 1023, 99327, 230399, 524287, 1048575, 2097151, 4194303, 4194303, 12582911, 33554431, 67108863, 4194303, 4194303, 406847487, 943718399, 2147483647, 4294967295, 8589934591, 17179869183]
theorem copseref16_Cones.tab4 : rtab .any (opsOf Tryd.f17 4) = copseref16_Cones.T4 := by kernel_rfl
theorem copseref16_Cones.bits4 : waitsOk copseref16_Cones.T4.2 copseref16_Cones.B4 = true := by kernel_rfl
set_option maxHeartbeats 8000000 in
set_option maxRecDepth 100000 in
theorem copseref16_Cones.calls (k : Nat) (A0 : Option Addr) (c0 : Nat) (l0 : List ByteArray) (r : Bool) (w : World) (hr0 : Kd.C Kd.string w A0 l0.length l0) (hc0 : l0.length ≤ c0) (h : copseref16_Cones.f k l0 = some r) :
  Calls Tryd.prog 17 #[.slice A0 l0.length c0] w fun e w' => e = .returned (.bool r) ∧ Below w.heap.size w w' := by
 have HR0 := zA hr0; have HC0 := zA hc0; clear hr0 hc0
 have HB := zA (Below.refl w.heap.size w)
 have H : (copseref16_Cones.l0 k l0 0) = some r := h
 clear h
 have H' := zA H
 clear H
 go_enter Tryd.func17, Tryd.ntmps17
 go_wp2
 go_loopg [3] k (fun kq v3 w' => ∃ (x3_1 : Int), v3 = .int .i64 x3_1 ∧ Aside0 (copseref16_Cones.l0 kq l0 x3_1 = some r) ∧ Aside0 (kq ≤ k) ∧ Aside0 (Below w.heap.size w w'))
 case atStart => exact ⟨(0), (by first | rfl | (simp; done) | (simp [*]; done)), H', ⟨Nat.le_refl _⟩, ⟨by repeat (first | (with_reducible first | exact HB.out | apply zL | apply zN | apply zD) | exact HB.out)⟩⟩
 case round =>
  clear H'
  try clear c1
  obtain ⟨x3_1, rfl, HA, HK1, HB⟩ := hrel
  cases gk with
  | zero => exact absurd HA.out (by simp [copseref16_Cones.l0])
  | succ k1 =>
   have H := HA.out
   clear HA
   simp only [copseref16_Cones.l0] at H
   by_cases c2 : x3_1 < (l0.length : Int)
   rotate_left
   ·rw [if_neg c2] at H
    have c2b0 : decide (x3_1 < (l0.length : Int)) = false := decide_eq_false c2
    clear c2; obtain rfl := Option.some.inj H; go_wp2; go_ret
    exact ⟨by first | rfl | (simp [errW_none, errW_some] <;> rfl) | (simp [*, errW_none, errW_some] <;> rfl), by repeat (first | (with_reducible first | exact HB.out | apply zL | apply zN | apply zD) | exact HB.out)⟩
   rw [if_pos c2] at H
   have c2b0 : decide (x3_1 < (l0.length : Int)) = true := decide_eq_true c2
   clear c2
   by_cases c3 : 0 ≤ x3_1
   rotate_left
   ·rw [if_neg c3] at H
    exact absurd H (by simp)
   rw [if_pos c3] at H
   have c3b0 : decide (0 ≤ x3_1) = true := decide_eq_true c3
   clear c3; replace H := Option.bind_eq_some_iff.mp H; obtain ⟨t248, A40, H⟩ := H
   replace H : (if t248 = true then (if x3_1 > 0 then (if 0 ≤ (wrap64 (x3_1 - 1)) then (if (wrap64 (x3_1 - 1)) < (l0.length : Int) then ((copseref02_Cmp.f k1 (rdOf ByteArray.empty l0 (wrap64 (x3_1 - 1))) (rdOf ByteArray.empty l0 x3_1)).bind fun t251 => (if t251 ≥ 0 then (some false) else ((copseref02_Above.f k1 (rdOf ByteArray.empty l0 (wrap64 (x3_1 - 1))) (rdOf ByteArray.empty l0 x3_1)).bind fun t254 => (if t254 = true then (some false) else (copseref16_Cones.l0 k1 l0 (wrap64 (x3_1 + 1))))))) else (none)) else (none)) else (copseref16_Cones.l0 k1 l0 (wrap64 (x3_1 + 1)))) else (some false)) = some r := H
   have A4 := zA A40; clear A40
   by_cases c5 : t248 = true
   rotate_left
   ·replace c5 := Bool.eq_false_iff.mpr c5
    subst c5
    have H1 : (some false) = some r := by rw [if_neg (show ¬ (false = true) by decide)] at H; exact H
    clear H; have H := H1; clear H1; obtain rfl := Option.some.inj H
    try go_wp2
    have n0_ := zA (zD HB.out)
    clear HB; have HB := n0_; clear n0_
    have p247 : 0 ≤ (x3_1 : Int) := zO (by first | (with_reducible assumption) | assumption)
    have q247 : x3_1 < (l0.length : Int) := zO (by first | (with_reducible assumption) | assumption)
    obtain ⟨ad247, e247, hx247_0⟩ := Kd.at_string HR0.out x3_1 p247 q247
    have hw247_0 := hx247_0
    cases e247
    replace hx247_0 := (HB.out.cell (zB w _ hx247_0)).trans hx247_0
    replace p247 := eq_true p247
    replace q247 := eq_true q247
    refine start_ (n := 35) (S := fun w' => w'.cell? (ad247.add (x3_1).toNat) = some (.string (rdOf ByteArray.empty l0 x3_1))) (ds := []) #[F, F, F, F, F, F, F, F, F, F, F, F, F, F, F, F, F, F, F, F, F, F, F, F, F, F, F, F, F, F, F, F, F, F, F] (by kernel_rfl) rfl rfl (((HB.out.cell (zB w _ hw247_0)).trans hw247_0)) (fun hHeld => ?_); refine with_tabW copseref16_Cones.tab4 copseref16_Cones.bits4 (fun HT_ HW_ => ?_)
    generalize wr.drew = w27 at HB hx247_0 hHeld ⊢
    refine pure_ (i := 0) (N := some 10) (v := ?_) (a' := ?_) #[T, F, F, F, F, F, F, F, F, F, F, F, F, F, F, F, F, F, F, F, F, F, F, F, F, F, F, F, F, F, F, F, F, F, F] rfl rfl (any_of HT_.out (by kernel_rfl)) (fun _ _ _ h => h) (Or.inl ⟨by rfl, ?_⟩) ?_ ?_
    rotate_left
    ·intro w'; go_simp; with_reducible rfl
    rotate_left
    ·simp only [Act.put, zS, zZ, zC, i64_w, i32_w]
     rfl
    refine pure_ (i := 1) (N := some 11) (v := ?_) (a' := ?_) #[T, T, F, F, F, F, F, F, F, F, F, F, F, F, F, F, F, F, F, F, F, F, F, F, F, F, F, F, F, F, F, F, F, F, F] rfl rfl (any_of HT_.out (by kernel_rfl)) (fun _ _ _ h => h) (Or.inl ⟨by rfl, ?_⟩) ?_ ?_
    rotate_left
    ·intro w'; go_simp; with_reducible rfl
    rotate_left
    ·simp only [Act.put, zS, zZ, zC, i64_w, i32_w]
     rfl
    refine pure_ (i := 2) (N := some 12) (v := ?_) (a' := ?_) #[T, T, T, F, F, F, F, F, F, F, F, F, F, F, F, F, F, F, F, F, F, F, F, F, F, F, F, F, F, F, F, F, F, F, F] rfl rfl (any_of HT_.out (by kernel_rfl)) (fun _ _ _ h => h) (Or.inl ⟨by rfl, ?_⟩) ?_ ?_
    rotate_left
    ·intro w'; go_simp; with_reducible rfl
    rotate_left
    ·simp only [Act.put, zS, zZ, zC, i64_w, i32_w]
     rfl
    refine take_ (i := 3) (N := some 13) (v := ?_) (a' := ?_) #[T, T, T, T, F, F, F, F, F, F, F, F, F, F, F, F, F, F, F, F, F, F, F, F, F, F, F, F, F, F, F, F, F, F, F] rfl rfl (take_ofW HT_.out HW_.out (by kernel_rfl)) (fun _ _ _ h => h) (Or.inl ⟨by rfl, ?_⟩) hHeld ?_ ?_
    rotate_left
    ·intro w' s0; go_simp; with_reducible rfl
    rotate_left
    ·simp only [Act.put, zS, zZ, zC, i64_w, i32_w]
     rfl
    refine one_ (i := 4) (N := some 14) #[T, T, T, T, T, F, F, F, F, F, F, F, F, F, F, F, F, F, F, F, F, F, F, F, F, F, F, F, F, F, F, F, F, F, F] rfl rfl (one_of HT_.out (by kernel_rfl)) (by decide) (fun K hK => ?_)
    refine goes_ Tryd.func30 (by kernel_rfl) rfl #[.string (rdOf ByteArray.empty l0 x3_1)] (by rfl) rfl rfl (by (try simp only [List.map_toArray, List.map_cons, List.map_nil]); first | done | rfl | (simp only [List.length_drop, List.length_take]; rfl)) ?_
    with_reducible refine (copseref02_Valid.calls k1 (rdOf ByteArray.empty l0 x3_1) false _ A4.out).mono ?_
    rintro e w28 ⟨rfl, hb⟩
    refine ⟨_, rfl, ?_⟩
    have n0_ := zA (below_step (by repeat (first | (with_reducible first | exact HB.out | apply zL | apply zN | apply zD) | exact HB.out)) hb)
    clear HB; have HB := n0_; clear n0_
    (try clear hb)
    (try clear hb2)
    (try clear hk)
    (try clear hi)
    refine hK.out _ _ (((HB.out.cell (zB w _ hw247_0)).trans hw247_0)) (fun hHeld => ?_)
    clear hK K
    refine norm_ (a' := ?_) ?_ ?_
    rotate_left
    ·show Act.put _ (some 14) _ = _
     simp only [Act.put, zS, zZ, zC, i64_w, i32_w]
     rfl
    refine pure_ (i := 5) (N := some 15) (v := ?_) (a' := ?_) #[T, T, T, T, T, T, F, F, F, F, F, F, F, F, F, F, F, F, F, F, F, F, F, F, F, F, F, F, F, F, F, F, F, F, F] rfl rfl (any_of HT_.out (by kernel_rfl)) (fun _ _ _ h => h) (Or.inl ⟨by rfl, ?_⟩) ?_ ?_
    rotate_left
    ·intro w'; go_simp; with_reducible rfl
    rotate_left
    ·simp only [Act.put, zS, zZ, zC, i64_w, i32_w]
     rfl
    refine pure_ (i := 6) (N := some 16) (v := ?_) (a' := ?_) #[T, T, T, T, T, T, T, F, F, F, F, F, F, F, F, F, F, F, F, F, F, F, F, F, F, F, F, F, F, F, F, F, F, F, F] rfl rfl (any_of HT_.out (by kernel_rfl)) (fun _ _ _ h => h) (Or.inl ⟨by rfl, ?_⟩) ?_ ?_
    rotate_left
    ·intro w'; go_simp; with_reducible rfl
    rotate_left
    ·simp only [Act.put, zS, zZ, zC, i64_w, i32_w]
     rfl
    refine pure_ (i := 7) (N := some 17) (v := undef) (a' := ?_) #[T, T, T, T, T, T, T, T, F, F, F, F, F, F, F, F, F, F, F, F, F, F, F, F, F, F, F, F, F, F, F, F, F, F, F] rfl rfl (any_of HT_.out (by kernel_rfl)) (fun _ _ _ h => h) (Or.inr ⟨by rfl, rfl⟩) ?_ ?_
    rotate_left
    ·simp only [Act.put, zS, zZ, zC, i64_w, i32_w]
     rfl
    refine pure_ (i := 8) (N := some 18) (v := undef) (a' := ?_) #[T, T, T, T, T, T, T, T, T, F, F, F, F, F, F, F, F, F, F, F, F, F, F, F, F, F, F, F, F, F, F, F, F, F, F] rfl rfl (any_of HT_.out (by kernel_rfl)) (fun _ _ _ h => h) (Or.inr ⟨by rfl, rfl⟩) ?_ ?_
    rotate_left
    ·simp only [Act.put, zS, zZ, zC, i64_w, i32_w]
     rfl
    refine pure_ (i := 9) (N := some 19) (v := undef) (a' := ?_) #[T, T, T, T, T, T, T, T, T, T, F, F, F, F, F, F, F, F, F, F, F, F, F, F, F, F, F, F, F, F, F, F, F, F, F] rfl rfl (any_of HT_.out (by kernel_rfl)) (fun _ _ _ h => h) (Or.inr ⟨by rfl, rfl⟩) ?_ ?_
    rotate_left
    ·simp only [Act.put, zS, zZ, zC, i64_w, i32_w]
     rfl
    refine pure_ (i := 10) (N := some 20) (v := undef) (a' := ?_) #[T, T, T, T, T, T, T, T, T, T, T, F, F, F, F, F, F, F, F, F, F, F, F, F, F, F, F, F, F, F, F, F, F, F, F] rfl rfl (any_of HT_.out (by kernel_rfl)) (fun _ _ _ h => h) (Or.inr ⟨by rfl, rfl⟩) ?_ ?_
    rotate_left
    ·simp only [Act.put, zS, zZ, zC, i64_w, i32_w]
     rfl
    refine pure_ (i := 11) (N := some 21) (v := undef) (a' := ?_) #[T, T, T, T, T, T, T, T, T, T, T, T, F, F, F, F, F, F, F, F, F, F, F, F, F, F, F, F, F, F, F, F, F, F, F] rfl rfl (any_of HT_.out (by kernel_rfl)) (fun _ _ _ h => h) (Or.inr ⟨by rfl, rfl⟩) ?_ ?_
    rotate_left
    ·simp only [Act.put, zS, zZ, zC, i64_w, i32_w]
     rfl
    refine pure_ (i := 12) (N := some 22) (v := undef) (a' := ?_) #[T, T, T, T, T, T, T, T, T, T, T, T, T, F, F, F, F, F, F, F, F, F, F, F, F, F, F, F, F, F, F, F, F, F, F] rfl rfl (any_of HT_.out (by kernel_rfl)) (fun _ _ _ h => h) (Or.inr ⟨by rfl, rfl⟩) ?_ ?_
    rotate_left
    ·simp only [Act.put, zS, zZ, zC, i64_w, i32_w]
     rfl
    refine pure_ (i := 13) (N := some 23) (v := undef) (a' := ?_) #[T, T, T, T, T, T, T, T, T, T, T, T, T, T, F, F, F, F, F, F, F, F, F, F, F, F, F, F, F, F, F, F, F, F, F] rfl rfl (any_of HT_.out (by kernel_rfl)) (fun _ _ _ h => h) (Or.inr ⟨by rfl, rfl⟩) ?_ ?_
    rotate_left
    ·simp only [Act.put, zS, zZ, zC, i64_w, i32_w]
     rfl
    refine pure_ (i := 14) (N := some 24) (v := undef) (a' := ?_) #[T, T, T, T, T, T, T, T, T, T, T, T, T, T, T, F, F, F, F, F, F, F, F, F, F, F, F, F, F, F, F, F, F, F, F] rfl rfl (any_of HT_.out (by kernel_rfl)) (fun _ _ _ h => h) (Or.inr ⟨by rfl, rfl⟩) ?_ ?_
    rotate_left
    ·simp only [Act.put, zS, zZ, zC, i64_w, i32_w]
     rfl
    refine pure_ (i := 15) (N := some 25) (v := undef) (a' := ?_) #[T, T, T, T, T, T, T, T, T, T, T, T, T, T, T, T, F, F, F, F, F, F, F, F, F, F, F, F, F, F, F, F, F, F, F] rfl rfl (any_of HT_.out (by kernel_rfl)) (fun _ _ _ h => h) (Or.inr ⟨by rfl, rfl⟩) ?_ ?_
    rotate_left
    ·simp only [Act.put, zS, zZ, zC, i64_w, i32_w]
     rfl
    refine pure_ (i := 16) (N := some 26) (v := undef) (a' := ?_) #[T, T, T, T, T, T, T, T, T, T, T, T, T, T, T, T, T, F, F, F, F, F, F, F, F, F, F, F, F, F, F, F, F, F, F] rfl rfl (any_of HT_.out (by kernel_rfl)) (fun _ _ _ h => h) (Or.inr ⟨by rfl, rfl⟩) ?_ ?_
    rotate_left
    ·simp only [Act.put, zS, zZ, zC, i64_w, i32_w]
     rfl
    refine pure_ (i := 17) (N := some 27) (v := undef) (a' := ?_) #[T, T, T, T, T, T, T, T, T, T, T, T, T, T, T, T, T, T, F, F, F, F, F, F, F, F, F, F, F, F, F, F, F, F, F] rfl rfl (any_of HT_.out (by kernel_rfl)) (fun _ _ _ h => h) (Or.inr ⟨by rfl, rfl⟩) ?_ ?_
    rotate_left
    ·simp only [Act.put, zS, zZ, zC, i64_w, i32_w]
     rfl
    refine pure_ (i := 18) (N := some 28) (v := undef) (a' := ?_) #[T, T, T, T, T, T, T, T, T, T, T, T, T, T, T, T, T, T, T, F, F, F, F, F, F, F, F, F, F, F, F, F, F, F, F] rfl rfl (any_of HT_.out (by kernel_rfl)) (fun _ _ _ h => h) (Or.inr ⟨by rfl, rfl⟩) ?_ ?_
    rotate_left
    ·simp only [Act.put, zS, zZ, zC, i64_w, i32_w]
     rfl
    refine pure_ (i := 19) (N := some 29) (v := undef) (a' := ?_) #[T, T, T, T, T, T, T, T, T, T, T, T, T, T, T, T, T, T, T, T, F, F, F, F, F, F, F, F, F, F, F, F, F, F, F] rfl rfl (any_of HT_.out (by kernel_rfl)) (fun _ _ _ h => h) (Or.inr ⟨by rfl, rfl⟩) ?_ ?_
    rotate_left
    ·simp only [Act.put, zS, zZ, zC, i64_w, i32_w]
     rfl
    refine pure_ (i := 20) (N := some 30) (v := undef) (a' := ?_) #[T, T, T, T, T, T, T, T, T, T, T, T, T, T, T, T, T, T, T, T, T, F, F, F, F, F, F, F, F, F, F, F, F, F, F] rfl rfl (any_of HT_.out (by kernel_rfl)) (fun _ _ _ h => h) (Or.inr ⟨by rfl, rfl⟩) ?_ ?_
    rotate_left
    ·simp only [Act.put, zS, zZ, zC, i64_w, i32_w]
     rfl
    refine pure_ (i := 21) (N := some 31) (v := undef) (a' := ?_) #[T, T, T, T, T, T, T, T, T, T, T, T, T, T, T, T, T, T, T, T, T, T, F, F, F, F, F, F, F, F, F, F, F, F, F] rfl rfl (any_of HT_.out (by kernel_rfl)) (fun _ _ _ h => h) (Or.inr ⟨by rfl, rfl⟩) ?_ ?_
    rotate_left
    ·simp only [Act.put, zS, zZ, zC, i64_w, i32_w]
     rfl
    refine pure_ (i := 22) (N := some 32) (v := undef) (a' := ?_) #[T, T, T, T, T, T, T, T, T, T, T, T, T, T, T, T, T, T, T, T, T, T, T, F, F, F, F, F, F, F, F, F, F, F, F] rfl rfl (any_of HT_.out (by kernel_rfl)) (fun _ _ _ h => h) (Or.inr ⟨by rfl, rfl⟩) ?_ ?_
    rotate_left
    ·simp only [Act.put, zS, zZ, zC, i64_w, i32_w]
     rfl
    refine pure_ (i := 23) (N := some 33) (v := undef) (a' := ?_) #[T, T, T, T, T, T, T, T, T, T, T, T, T, T, T, T, T, T, T, T, T, T, T, T, F, F, F, F, F, F, F, F, F, F, F] rfl rfl (any_of HT_.out (by kernel_rfl)) (fun _ _ _ h => h) (Or.inr ⟨by rfl, rfl⟩) ?_ ?_
    rotate_left
    ·simp only [Act.put, zS, zZ, zC, i64_w, i32_w]
     rfl
    refine pure_ (i := 24) (N := some 34) (v := undef) (a' := ?_) #[T, T, T, T, T, T, T, T, T, T, T, T, T, T, T, T, T, T, T, T, T, T, T, T, T, F, F, F, F, F, F, F, F, F, F] rfl rfl (any_of HT_.out (by kernel_rfl)) (fun _ _ _ h => h) (Or.inr ⟨by rfl, rfl⟩) ?_ ?_
    rotate_left
    ·simp only [Act.put, zS, zZ, zC, i64_w, i32_w]
     rfl
    refine pure_ (i := 25) (N := some 35) (v := undef) (a' := ?_) #[T, T, T, T, T, T, T, T, T, T, T, T, T, T, T, T, T, T, T, T, T, T, T, T, T, T, F, F, F, F, F, F, F, F, F] rfl rfl (any_of HT_.out (by kernel_rfl)) (fun _ _ _ h => h) (Or.inr ⟨by rfl, rfl⟩) ?_ ?_
    rotate_left
    ·simp only [Act.put, zS, zZ, zC, i64_w, i32_w]
     rfl
    refine pure_ (i := 26) (N := some 36) (v := undef) (a' := ?_) #[T, T, T, T, T, T, T, T, T, T, T, T, T, T, T, T, T, T, T, T, T, T, T, T, T, T, T, F, F, F, F, F, F, F, F] rfl rfl (any_of HT_.out (by kernel_rfl)) (fun _ _ _ h => h) (Or.inr ⟨by rfl, rfl⟩) ?_ ?_
    rotate_left
    ·simp only [Act.put, zS, zZ, zC, i64_w, i32_w]
     rfl
    refine pure_ (i := 27) (N := some 37) (v := undef) (a' := ?_) #[T, T, T, T, T, T, T, T, T, T, T, T, T, T, T, T, T, T, T, T, T, T, T, T, T, T, T, T, F, F, F, F, F, F, F] rfl rfl (any_of HT_.out (by kernel_rfl)) (fun _ _ _ h => h) (Or.inr ⟨by rfl, rfl⟩) ?_ ?_
    rotate_left
    ·simp only [Act.put, zS, zZ, zC, i64_w, i32_w]
     rfl
    refine pure_ (i := 28) (N := some 38) (v := undef) (a' := ?_) #[T, T, T, T, T, T, T, T, T, T, T, T, T, T, T, T, T, T, T, T, T, T, T, T, T, T, T, T, T, F, F, F, F, F, F] rfl rfl (any_of HT_.out (by kernel_rfl)) (fun _ _ _ h => h) (Or.inr ⟨by rfl, rfl⟩) ?_ ?_
    rotate_left
    ·simp only [Act.put, zS, zZ, zC, i64_w, i32_w]
     rfl
    refine pure_ (i := 29) (N := some 39) (v := undef) (a' := ?_) #[T, T, T, T, T, T, T, T, T, T, T, T, T, T, T, T, T, T, T, T, T, T, T, T, T, T, T, T, T, T, F, F, F, F, F] rfl rfl (any_of HT_.out (by kernel_rfl)) (fun _ _ _ h => h) (Or.inr ⟨by rfl, rfl⟩) ?_ ?_
    rotate_left
    ·simp only [Act.put, zS, zZ, zC, i64_w, i32_w]
     rfl
    refine pure_ (i := 30) (N := some 40) (v := undef) (a' := ?_) #[T, T, T, T, T, T, T, T, T, T, T, T, T, T, T, T, T, T, T, T, T, T, T, T, T, T, T, T, T, T, T, F, F, F, F] rfl rfl (any_of HT_.out (by kernel_rfl)) (fun _ _ _ h => h) (Or.inr ⟨by rfl, rfl⟩) ?_ ?_
    rotate_left
    ·simp only [Act.put, zS, zZ, zC, i64_w, i32_w]
     rfl
    refine pure_ (i := 31) (N := some 41) (v := undef) (a' := ?_) #[T, T, T, T, T, T, T, T, T, T, T, T, T, T, T, T, T, T, T, T, T, T, T, T, T, T, T, T, T, T, T, T, F, F, F] rfl rfl (any_of HT_.out (by kernel_rfl)) (fun _ _ _ h => h) (Or.inr ⟨by rfl, rfl⟩) ?_ ?_
    rotate_left
    ·simp only [Act.put, zS, zZ, zC, i64_w, i32_w]
     rfl
    refine pure_ (i := 32) (N := some 42) (v := undef) (a' := ?_) #[T, T, T, T, T, T, T, T, T, T, T, T, T, T, T, T, T, T, T, T, T, T, T, T, T, T, T, T, T, T, T, T, T, F, F] rfl rfl (any_of HT_.out (by kernel_rfl)) (fun _ _ _ h => h) (Or.inr ⟨by rfl, rfl⟩) ?_ ?_
    rotate_left
    ·simp only [Act.put, zS, zZ, zC, i64_w, i32_w]
     rfl
    refine pure_ (i := 33) (N := some 43) (v := undef) (a' := ?_) #[T, T, T, T, T, T, T, T, T, T, T, T, T, T, T, T, T, T, T, T, T, T, T, T, T, T, T, T, T, T, T, T, T, T, F] rfl rfl (any_of HT_.out (by kernel_rfl)) (fun _ _ _ h => h) (Or.inr ⟨by rfl, rfl⟩) ?_ ?_
    rotate_left
    ·simp only [Act.put, zS, zZ, zC, i64_w, i32_w]
     rfl
    refine pure_ (i := 34) (N := some 44) (v := ?_) (a' := ?_) #[T, T, T, T, T, T, T, T, T, T, T, T, T, T, T, T, T, T, T, T, T, T, T, T, T, T, T, T, T, T, T, T, T, T, T] rfl rfl (any_of HT_.out (by kernel_rfl)) (fun _ _ _ h => h) (Or.inl ⟨by rfl, ?_⟩) ?_ ?_
    rotate_left
    ·intro w'; go_simp; with_reducible rfl
    rotate_left
    ·simp only [Act.put, zS, zZ, zC, i64_w, i32_w]
     rfl
    refine done_ (done_of HT_.out (by kernel_rfl)) ?_
    try go_wp2
    go_ret
    exact ⟨by first | rfl | (simp [errW_none, errW_some] <;> rfl) | (simp [*, errW_none, errW_some] <;> rfl), by repeat (first | (with_reducible first | exact HB.out | apply zL | apply zN | apply zD) | exact HB.out)⟩
   subst c5
   have H1 : (if x3_1 > 0 then (if 0 ≤ (wrap64 (x3_1 - 1)) then (if (wrap64 (x3_1 - 1)) < (l0.length : Int) then ((copseref02_Cmp.f k1 (rdOf ByteArray.empty l0 (wrap64 (x3_1 - 1))) (rdOf ByteArray.empty l0 x3_1)).bind fun t251 => (if t251 ≥ 0 then (some false) else ((copseref02_Above.f k1 (rdOf ByteArray.empty l0 (wrap64 (x3_1 - 1))) (rdOf ByteArray.empty l0 x3_1)).bind fun t254 => (if t254 = true then (some false) else (copseref16_Cones.l0 k1 l0 (wrap64 (x3_1 + 1))))))) else (none)) else (none)) else (copseref16_Cones.l0 k1 l0 (wrap64 (x3_1 + 1)))) = some r := by rw [if_pos rfl] at H; exact H
   clear H; have H := H1; clear H1
   by_cases c6 : x3_1 > 0
   rotate_left
   ·rw [if_neg c6] at H
    have c6b0 : decide (0 < x3_1) = false := decide_eq_false c6
    clear c6
    have H' := zA H
    clear H
    try go_wp2
    have n0_ := zA (zD HB.out)
    clear HB; have HB := n0_; clear n0_
    have p247 : 0 ≤ (x3_1 : Int) := zO (by first | (with_reducible assumption) | assumption)
    have q247 : x3_1 < (l0.length : Int) := zO (by first | (with_reducible assumption) | assumption)
    obtain ⟨ad247, e247, hx247_0⟩ := Kd.at_string HR0.out x3_1 p247 q247
    have hw247_0 := hx247_0
    cases e247
    replace hx247_0 := (HB.out.cell (zB w _ hx247_0)).trans hx247_0
    replace p247 := eq_true p247
    replace q247 := eq_true q247
    refine start_ (n := 35) (S := fun w' => w'.cell? (ad247.add (x3_1).toNat) = some (.string (rdOf ByteArray.empty l0 x3_1))) (ds := []) #[F, F, F, F, F, F, F, F, F, F, F, F, F, F, F, F, F, F, F, F, F, F, F, F, F, F, F, F, F, F, F, F, F, F, F] (by kernel_rfl) rfl rfl (((HB.out.cell (zB w _ hw247_0)).trans hw247_0)) (fun hHeld => ?_); refine with_tabW copseref16_Cones.tab4 copseref16_Cones.bits4 (fun HT_ HW_ => ?_)
    generalize wr.drew = w25 at HB hx247_0 hHeld ⊢
    refine pure_ (i := 0) (N := some 10) (v := ?_) (a' := ?_) #[T, F, F, F, F, F, F, F, F, F, F, F, F, F, F, F, F, F, F, F, F, F, F, F, F, F, F, F, F, F, F, F, F, F, F] rfl rfl (any_of HT_.out (by kernel_rfl)) (fun _ _ _ h => h) (Or.inl ⟨by rfl, ?_⟩) ?_ ?_
    rotate_left
    ·intro w'; go_simp; with_reducible rfl
    rotate_left
    ·simp only [Act.put, zS, zZ, zC, i64_w, i32_w]
     rfl
    refine pure_ (i := 1) (N := some 11) (v := ?_) (a' := ?_) #[T, T, F, F, F, F, F, F, F, F, F, F, F, F, F, F, F, F, F, F, F, F, F, F, F, F, F, F, F, F, F, F, F, F, F] rfl rfl (any_of HT_.out (by kernel_rfl)) (fun _ _ _ h => h) (Or.inl ⟨by rfl, ?_⟩) ?_ ?_
    rotate_left
    ·intro w'; go_simp; with_reducible rfl
    rotate_left
    ·simp only [Act.put, zS, zZ, zC, i64_w, i32_w]
     rfl
    refine pure_ (i := 2) (N := some 12) (v := ?_) (a' := ?_) #[T, T, T, F, F, F, F, F, F, F, F, F, F, F, F, F, F, F, F, F, F, F, F, F, F, F, F, F, F, F, F, F, F, F, F] rfl rfl (any_of HT_.out (by kernel_rfl)) (fun _ _ _ h => h) (Or.inl ⟨by rfl, ?_⟩) ?_ ?_
    rotate_left
    ·intro w'; go_simp; with_reducible rfl
    rotate_left
    ·simp only [Act.put, zS, zZ, zC, i64_w, i32_w]
     rfl
    refine take_ (i := 3) (N := some 13) (v := ?_) (a' := ?_) #[T, T, T, T, F, F, F, F, F, F, F, F, F, F, F, F, F, F, F, F, F, F, F, F, F, F, F, F, F, F, F, F, F, F, F] rfl rfl (take_ofW HT_.out HW_.out (by kernel_rfl)) (fun _ _ _ h => h) (Or.inl ⟨by rfl, ?_⟩) hHeld ?_ ?_
    rotate_left
    ·intro w' s0; go_simp; with_reducible rfl
    rotate_left
    ·simp only [Act.put, zS, zZ, zC, i64_w, i32_w]
     rfl
    refine one_ (i := 4) (N := some 14) #[T, T, T, T, T, F, F, F, F, F, F, F, F, F, F, F, F, F, F, F, F, F, F, F, F, F, F, F, F, F, F, F, F, F, F] rfl rfl (one_of HT_.out (by kernel_rfl)) (by decide) (fun K hK => ?_)
    refine goes_ Tryd.func30 (by kernel_rfl) rfl #[.string (rdOf ByteArray.empty l0 x3_1)] (by rfl) rfl rfl (by (try simp only [List.map_toArray, List.map_cons, List.map_nil]); first | done | rfl | (simp only [List.length_drop, List.length_take]; rfl)) ?_
    with_reducible refine (copseref02_Valid.calls k1 (rdOf ByteArray.empty l0 x3_1) true _ A4.out).mono ?_
    rintro e w26 ⟨rfl, hb⟩
    refine ⟨_, rfl, ?_⟩
    have n0_ := zA (below_step (by repeat (first | (with_reducible first | exact HB.out | apply zL | apply zN | apply zD) | exact HB.out)) hb)
    clear HB; have HB := n0_; clear n0_
    (try clear hb)
    (try clear hb2)
    (try clear hk)
    (try clear hi)
    refine hK.out _ _ (((HB.out.cell (zB w _ hw247_0)).trans hw247_0)) (fun hHeld => ?_)
    clear hK K
    refine norm_ (a' := ?_) ?_ ?_
    rotate_left
    ·show Act.put _ (some 14) _ = _
     simp only [Act.put, zS, zZ, zC, i64_w, i32_w]
     rfl
    refine pure_ (i := 5) (N := some 15) (v := ?_) (a' := ?_) #[T, T, T, T, T, T, F, F, F, F, F, F, F, F, F, F, F, F, F, F, F, F, F, F, F, F, F, F, F, F, F, F, F, F, F] rfl rfl (any_of HT_.out (by kernel_rfl)) (fun _ _ _ h => h) (Or.inl ⟨by rfl, ?_⟩) ?_ ?_
    rotate_left
    ·intro w'; go_simp; with_reducible rfl
    rotate_left
    ·simp only [Act.put, zS, zZ, zC, i64_w, i32_w]
     rfl
    refine pure_ (i := 6) (N := some 16) (v := ?_) (a' := ?_) #[T, T, T, T, T, T, T, F, F, F, F, F, F, F, F, F, F, F, F, F, F, F, F, F, F, F, F, F, F, F, F, F, F, F, F] rfl rfl (any_of HT_.out (by kernel_rfl)) (fun _ _ _ h => h) (Or.inl ⟨by rfl, ?_⟩) ?_ ?_
    rotate_left
    ·intro w'; go_simp; with_reducible rfl
    rotate_left
    ·simp only [Act.put, zS, zZ, zC, i64_w, i32_w]
     rfl
    refine pure_ (i := 7) (N := some 17) (v := ?_) (a' := ?_) #[T, T, T, T, T, T, T, T, F, F, F, F, F, F, F, F, F, F, F, F, F, F, F, F, F, F, F, F, F, F, F, F, F, F, F] rfl rfl (any_of HT_.out (by kernel_rfl)) (fun _ _ _ h => h) (Or.inl ⟨by rfl, ?_⟩) ?_ ?_
    rotate_left
    ·intro w'; go_simp; with_reducible rfl
    rotate_left
    ·simp only [Act.put, zS, zZ, zC, i64_w, i32_w]
     rfl
    refine pure_ (i := 8) (N := some 18) (v := ?_) (a' := ?_) #[T, T, T, T, T, T, T, T, T, F, F, F, F, F, F, F, F, F, F, F, F, F, F, F, F, F, F, F, F, F, F, F, F, F, F] rfl rfl (any_of HT_.out (by kernel_rfl)) (fun _ _ _ h => h) (Or.inl ⟨by rfl, ?_⟩) ?_ ?_
    rotate_left
    ·intro w'; go_simp; with_reducible rfl
    rotate_left
    ·simp only [Act.put, zS, zZ, zC, i64_w, i32_w]
     rfl
    refine pure_ (i := 9) (N := some 19) (v := ?_) (a' := ?_) #[T, T, T, T, T, T, T, T, T, T, F, F, F, F, F, F, F, F, F, F, F, F, F, F, F, F, F, F, F, F, F, F, F, F, F] rfl rfl (any_of HT_.out (by kernel_rfl)) (fun _ _ _ h => h) (Or.inl ⟨by rfl, ?_⟩) ?_ ?_
    rotate_left
    ·intro w'; go_simp; with_reducible rfl
    rotate_left
    ·simp only [Act.put, zS, zZ, zC, i64_w, i32_w]
     rfl
    refine pure_ (i := 10) (N := some 20) (v := undef) (a' := ?_) #[T, T, T, T, T, T, T, T, T, T, T, F, F, F, F, F, F, F, F, F, F, F, F, F, F, F, F, F, F, F, F, F, F, F, F] rfl rfl (any_of HT_.out (by kernel_rfl)) (fun _ _ _ h => h) (Or.inr ⟨by rfl, rfl⟩) ?_ ?_
    rotate_left
    ·simp only [Act.put, zS, zZ, zC, i64_w, i32_w]
     rfl
    refine pure_ (i := 11) (N := some 21) (v := undef) (a' := ?_) #[T, T, T, T, T, T, T, T, T, T, T, T, F, F, F, F, F, F, F, F, F, F, F, F, F, F, F, F, F, F, F, F, F, F, F] rfl rfl (any_of HT_.out (by kernel_rfl)) (fun _ _ _ h => h) (Or.inr ⟨by rfl, rfl⟩) ?_ ?_
    rotate_left
    ·simp only [Act.put, zS, zZ, zC, i64_w, i32_w]
     rfl
    refine pure_ (i := 12) (N := some 22) (v := undef) (a' := ?_) #[T, T, T, T, T, T, T, T, T, T, T, T, T, F, F, F, F, F, F, F, F, F, F, F, F, F, F, F, F, F, F, F, F, F, F] rfl rfl (any_of HT_.out (by kernel_rfl)) (fun _ _ _ h => h) (Or.inr ⟨by rfl, rfl⟩) ?_ ?_
    rotate_left
    ·simp only [Act.put, zS, zZ, zC, i64_w, i32_w]
     rfl
    refine pure_ (i := 13) (N := some 23) (v := undef) (a' := ?_) #[T, T, T, T, T, T, T, T, T, T, T, T, T, T, F, F, F, F, F, F, F, F, F, F, F, F, F, F, F, F, F, F, F, F, F] rfl rfl (any_of HT_.out (by kernel_rfl)) (fun _ _ _ h => h) (Or.inr ⟨by rfl, rfl⟩) ?_ ?_
    rotate_left
    ·simp only [Act.put, zS, zZ, zC, i64_w, i32_w]
     rfl
    refine pure_ (i := 14) (N := some 24) (v := undef) (a' := ?_) #[T, T, T, T, T, T, T, T, T, T, T, T, T, T, T, F, F, F, F, F, F, F, F, F, F, F, F, F, F, F, F, F, F, F, F] rfl rfl (any_of HT_.out (by kernel_rfl)) (fun _ _ _ h => h) (Or.inr ⟨by rfl, rfl⟩) ?_ ?_
    rotate_left
    ·simp only [Act.put, zS, zZ, zC, i64_w, i32_w]
     rfl
    refine pure_ (i := 15) (N := some 25) (v := undef) (a' := ?_) #[T, T, T, T, T, T, T, T, T, T, T, T, T, T, T, T, F, F, F, F, F, F, F, F, F, F, F, F, F, F, F, F, F, F, F] rfl rfl (any_of HT_.out (by kernel_rfl)) (fun _ _ _ h => h) (Or.inr ⟨by rfl, rfl⟩) ?_ ?_
    rotate_left
    ·simp only [Act.put, zS, zZ, zC, i64_w, i32_w]
     rfl
    refine pure_ (i := 16) (N := some 26) (v := undef) (a' := ?_) #[T, T, T, T, T, T, T, T, T, T, T, T, T, T, T, T, T, F, F, F, F, F, F, F, F, F, F, F, F, F, F, F, F, F, F] rfl rfl (any_of HT_.out (by kernel_rfl)) (fun _ _ _ h => h) (Or.inr ⟨by rfl, rfl⟩) ?_ ?_
    rotate_left
    ·simp only [Act.put, zS, zZ, zC, i64_w, i32_w]
     rfl
    refine pure_ (i := 17) (N := some 27) (v := undef) (a' := ?_) #[T, T, T, T, T, T, T, T, T, T, T, T, T, T, T, T, T, T, F, F, F, F, F, F, F, F, F, F, F, F, F, F, F, F, F] rfl rfl (any_of HT_.out (by kernel_rfl)) (fun _ _ _ h => h) (Or.inr ⟨by rfl, rfl⟩) ?_ ?_
    rotate_left
    ·simp only [Act.put, zS, zZ, zC, i64_w, i32_w]
     rfl
    refine pure_ (i := 18) (N := some 28) (v := undef) (a' := ?_) #[T, T, T, T, T, T, T, T, T, T, T, T, T, T, T, T, T, T, T, F, F, F, F, F, F, F, F, F, F, F, F, F, F, F, F] rfl rfl (any_of HT_.out (by kernel_rfl)) (fun _ _ _ h => h) (Or.inr ⟨by rfl, rfl⟩) ?_ ?_
    rotate_left
    ·simp only [Act.put, zS, zZ, zC, i64_w, i32_w]
     rfl
    refine pure_ (i := 19) (N := some 29) (v := undef) (a' := ?_) #[T, T, T, T, T, T, T, T, T, T, T, T, T, T, T, T, T, T, T, T, F, F, F, F, F, F, F, F, F, F, F, F, F, F, F] rfl rfl (any_of HT_.out (by kernel_rfl)) (fun _ _ _ h => h) (Or.inr ⟨by rfl, rfl⟩) ?_ ?_
    rotate_left
    ·simp only [Act.put, zS, zZ, zC, i64_w, i32_w]
     rfl
    refine pure_ (i := 20) (N := some 30) (v := undef) (a' := ?_) #[T, T, T, T, T, T, T, T, T, T, T, T, T, T, T, T, T, T, T, T, T, F, F, F, F, F, F, F, F, F, F, F, F, F, F] rfl rfl (any_of HT_.out (by kernel_rfl)) (fun _ _ _ h => h) (Or.inr ⟨by rfl, rfl⟩) ?_ ?_
    rotate_left
    ·simp only [Act.put, zS, zZ, zC, i64_w, i32_w]
     rfl
    refine pure_ (i := 21) (N := some 31) (v := undef) (a' := ?_) #[T, T, T, T, T, T, T, T, T, T, T, T, T, T, T, T, T, T, T, T, T, T, F, F, F, F, F, F, F, F, F, F, F, F, F] rfl rfl (any_of HT_.out (by kernel_rfl)) (fun _ _ _ h => h) (Or.inr ⟨by rfl, rfl⟩) ?_ ?_
    rotate_left
    ·simp only [Act.put, zS, zZ, zC, i64_w, i32_w]
     rfl
    refine pure_ (i := 22) (N := some 32) (v := undef) (a' := ?_) #[T, T, T, T, T, T, T, T, T, T, T, T, T, T, T, T, T, T, T, T, T, T, T, F, F, F, F, F, F, F, F, F, F, F, F] rfl rfl (any_of HT_.out (by kernel_rfl)) (fun _ _ _ h => h) (Or.inr ⟨by rfl, rfl⟩) ?_ ?_
    rotate_left
    ·simp only [Act.put, zS, zZ, zC, i64_w, i32_w]
     rfl
    refine pure_ (i := 23) (N := some 33) (v := undef) (a' := ?_) #[T, T, T, T, T, T, T, T, T, T, T, T, T, T, T, T, T, T, T, T, T, T, T, T, F, F, F, F, F, F, F, F, F, F, F] rfl rfl (any_of HT_.out (by kernel_rfl)) (fun _ _ _ h => h) (Or.inr ⟨by rfl, rfl⟩) ?_ ?_
    rotate_left
    ·simp only [Act.put, zS, zZ, zC, i64_w, i32_w]
     rfl
    refine pure_ (i := 24) (N := some 34) (v := undef) (a' := ?_) #[T, T, T, T, T, T, T, T, T, T, T, T, T, T, T, T, T, T, T, T, T, T, T, T, T, F, F, F, F, F, F, F, F, F, F] rfl rfl (any_of HT_.out (by kernel_rfl)) (fun _ _ _ h => h) (Or.inr ⟨by rfl, rfl⟩) ?_ ?_
    rotate_left
    ·simp only [Act.put, zS, zZ, zC, i64_w, i32_w]
     rfl
    refine pure_ (i := 25) (N := some 35) (v := undef) (a' := ?_) #[T, T, T, T, T, T, T, T, T, T, T, T, T, T, T, T, T, T, T, T, T, T, T, T, T, T, F, F, F, F, F, F, F, F, F] rfl rfl (any_of HT_.out (by kernel_rfl)) (fun _ _ _ h => h) (Or.inr ⟨by rfl, rfl⟩) ?_ ?_
    rotate_left
    ·simp only [Act.put, zS, zZ, zC, i64_w, i32_w]
     rfl
    refine pure_ (i := 26) (N := some 36) (v := undef) (a' := ?_) #[T, T, T, T, T, T, T, T, T, T, T, T, T, T, T, T, T, T, T, T, T, T, T, T, T, T, T, F, F, F, F, F, F, F, F] rfl rfl (any_of HT_.out (by kernel_rfl)) (fun _ _ _ h => h) (Or.inr ⟨by rfl, rfl⟩) ?_ ?_
    rotate_left
    ·simp only [Act.put, zS, zZ, zC, i64_w, i32_w]
     rfl
    refine pure_ (i := 27) (N := some 37) (v := undef) (a' := ?_) #[T, T, T, T, T, T, T, T, T, T, T, T, T, T, T, T, T, T, T, T, T, T, T, T, T, T, T, T, F, F, F, F, F, F, F] rfl rfl (any_of HT_.out (by kernel_rfl)) (fun _ _ _ h => h) (Or.inr ⟨by rfl, rfl⟩) ?_ ?_
    rotate_left
    ·simp only [Act.put, zS, zZ, zC, i64_w, i32_w]
     rfl
    refine pure_ (i := 28) (N := some 38) (v := undef) (a' := ?_) #[T, T, T, T, T, T, T, T, T, T, T, T, T, T, T, T, T, T, T, T, T, T, T, T, T, T, T, T, T, F, F, F, F, F, F] rfl rfl (any_of HT_.out (by kernel_rfl)) (fun _ _ _ h => h) (Or.inr ⟨by rfl, rfl⟩) ?_ ?_
    rotate_left
    ·simp only [Act.put, zS, zZ, zC, i64_w, i32_w]
     rfl
    refine pure_ (i := 29) (N := some 39) (v := undef) (a' := ?_) #[T, T, T, T, T, T, T, T, T, T, T, T, T, T, T, T, T, T, T, T, T, T, T, T, T, T, T, T, T, T, F, F, F, F, F] rfl rfl (any_of HT_.out (by kernel_rfl)) (fun _ _ _ h => h) (Or.inr ⟨by rfl, rfl⟩) ?_ ?_
    rotate_left
    ·simp only [Act.put, zS, zZ, zC, i64_w, i32_w]
     rfl
    refine pure_ (i := 30) (N := some 40) (v := undef) (a' := ?_) #[T, T, T, T, T, T, T, T, T, T, T, T, T, T, T, T, T, T, T, T, T, T, T, T, T, T, T, T, T, T, T, F, F, F, F] rfl rfl (any_of HT_.out (by kernel_rfl)) (fun _ _ _ h => h) (Or.inr ⟨by rfl, rfl⟩) ?_ ?_
    rotate_left
    ·simp only [Act.put, zS, zZ, zC, i64_w, i32_w]
     rfl
    refine pure_ (i := 31) (N := some 41) (v := undef) (a' := ?_) #[T, T, T, T, T, T, T, T, T, T, T, T, T, T, T, T, T, T, T, T, T, T, T, T, T, T, T, T, T, T, T, T, F, F, F] rfl rfl (any_of HT_.out (by kernel_rfl)) (fun _ _ _ h => h) (Or.inr ⟨by rfl, rfl⟩) ?_ ?_
    rotate_left
    ·simp only [Act.put, zS, zZ, zC, i64_w, i32_w]
     rfl
    refine pure_ (i := 32) (N := some 42) (v := undef) (a' := ?_) #[T, T, T, T, T, T, T, T, T, T, T, T, T, T, T, T, T, T, T, T, T, T, T, T, T, T, T, T, T, T, T, T, T, F, F] rfl rfl (any_of HT_.out (by kernel_rfl)) (fun _ _ _ h => h) (Or.inr ⟨by rfl, rfl⟩) ?_ ?_
    rotate_left
    ·simp only [Act.put, zS, zZ, zC, i64_w, i32_w]
     rfl
    refine pure_ (i := 33) (N := some 43) (v := ?_) (a' := ?_) #[T, T, T, T, T, T, T, T, T, T, T, T, T, T, T, T, T, T, T, T, T, T, T, T, T, T, T, T, T, T, T, T, T, T, F] rfl rfl (any_of HT_.out (by kernel_rfl)) (fun _ _ _ h => h) (Or.inl ⟨by rfl, ?_⟩) ?_ ?_
    rotate_left
    ·intro w'; go_simp; with_reducible rfl
    rotate_left
    ·simp only [Act.put, zS, zZ, zC, i64_w, i32_w]
     rfl
    refine pure_ (i := 34) (N := some 44) (v := ?_) (a' := ?_) #[T, T, T, T, T, T, T, T, T, T, T, T, T, T, T, T, T, T, T, T, T, T, T, T, T, T, T, T, T, T, T, T, T, T, T] rfl rfl (any_of HT_.out (by kernel_rfl)) (fun _ _ _ h => h) (Or.inl ⟨by rfl, ?_⟩) ?_ ?_
    rotate_left
    ·intro w'; go_simp; with_reducible rfl
    rotate_left
    ·simp only [Act.put, zS, zZ, zC, i64_w, i32_w]
     rfl
    refine done_ (done_of HT_.out (by kernel_rfl)) ?_
    try go_wp2
    go_roundg k1
    case measure => have := HK1.out; omega
    case rel => exact ⟨(wrap64 (x3_1 + 1)), (by first | rfl | (simp; done) | (simp [*]; done)), H', ⟨by have := HK1.out; omega⟩, ⟨by repeat (first | (with_reducible first | exact HB.out | apply zL | apply zN | apply zD) | exact HB.out)⟩⟩
   rw [if_pos c6] at H
   have c6b0 : decide (0 < x3_1) = true := decide_eq_true c6
   clear c6
   obtain ⟨ji7, hji7⟩ : ∃ j_ : Int, (wrap64 (x3_1 - 1)) = j_ := ⟨_, rfl⟩
   replace H : (if 0 ≤ (ji7) then (if (ji7) < (l0.length : Int) then ((copseref02_Cmp.f k1 (rdOf ByteArray.empty l0 (ji7)) (rdOf ByteArray.empty l0 x3_1)).bind fun t251 => (if t251 ≥ 0 then (some false) else ((copseref02_Above.f k1 (rdOf ByteArray.empty l0 (ji7)) (rdOf ByteArray.empty l0 x3_1)).bind fun t254 => (if t254 = true then (some false) else (copseref16_Cones.l0 k1 l0 (wrap64 (x3_1 + 1))))))) else (none)) else (none)) = some r := by first | (rw [hji7] at H; exact H) | (simp only [hji7] at H ⊢; exact H)
   (try rw [hji7] at A4)
   have hji7w : (IntKind.i64.wrap (x3_1 - 1)) = ji7 := (i64_w _).trans hji7
   by_cases c8 : 0 ≤ (ji7)
   rotate_left
   ·rw [if_neg c8] at H
    exact absurd H (by simp)
   rw [if_pos c8] at H
   have c8b0 : decide (0 ≤ (ji7)) = true := decide_eq_true c8
   clear c8
   by_cases c9 : (ji7) < (l0.length : Int)
   rotate_left
   ·rw [if_neg c9] at H
    exact absurd H (by simp)
   rw [if_pos c9] at H
   have c9b0 : decide ((ji7) < (l0.length : Int)) = true := decide_eq_true c9
   clear c9; replace H := Option.bind_eq_some_iff.mp H; obtain ⟨t251, A100, H⟩ := H
   replace H : (if t251 ≥ 0 then (some false) else ((copseref02_Above.f k1 (rdOf ByteArray.empty l0 (ji7)) (rdOf ByteArray.empty l0 x3_1)).bind fun t254 => (if t254 = true then (some false) else (copseref16_Cones.l0 k1 l0 (wrap64 (x3_1 + 1)))))) = some r := H
   have A10 := zA A100; clear A100
   by_cases c11 : t251 ≥ 0
   ·rw [if_pos c11] at H
    have c11b0 : decide (0 ≤ t251) = true := decide_eq_true c11
    clear c11; obtain rfl := Option.some.inj H
    try go_wp2
    have n0_ := zA (zD HB.out)
    clear HB; have HB := n0_; clear n0_
    have p247 : 0 ≤ (x3_1 : Int) := zO (by first | (with_reducible assumption) | assumption)
    have q247 : x3_1 < (l0.length : Int) := zO (by first | (with_reducible assumption) | assumption)
    obtain ⟨ad247, e247, hx247_0⟩ := Kd.at_string HR0.out x3_1 p247 q247
    have hw247_0 := hx247_0
    cases e247
    replace hx247_0 := (HB.out.cell (zB w _ hx247_0)).trans hx247_0
    replace p247 := eq_true p247
    replace q247 := eq_true q247
    have p249 : 0 ≤ ((ji7) : Int) := zO (by first | (with_reducible assumption) | assumption)
    have q249 : (ji7) < (l0.length : Int) := zO (by first | (with_reducible assumption) | assumption)
    obtain ⟨ad249, e249, hx249_0⟩ := Kd.at_string HR0.out (ji7) p249 q249
    have hw249_0 := hx249_0
    obtain rfl : ad247 = ad249 := (by injection e249)
    replace hx249_0 := (HB.out.cell (zB w _ hx249_0)).trans hx249_0
    replace p249 := eq_true p249
    replace q249 := eq_true q249
    have p250 : 0 ≤ (x3_1 : Int) := zO (by first | (with_reducible assumption) | assumption)
    have q250 : x3_1 < (l0.length : Int) := zO (by first | (with_reducible assumption) | assumption)
    obtain ⟨ad250, e250, hx250_0⟩ := Kd.at_string HR0.out x3_1 p250 q250
    have hw250_0 := hx250_0
    obtain rfl : ad247 = ad250 := (by injection e250)
    replace hx250_0 := (HB.out.cell (zB w _ hx250_0)).trans hx250_0
    replace p250 := eq_true p250
    replace q250 := eq_true q250
    refine start_ (n := 35) (S := fun w' => w'.cell? (ad247.add (x3_1).toNat) = some (.string (rdOf ByteArray.empty l0 x3_1)) ∧ w'.cell? (ad247.add ((ji7)).toNat) = some (.string (rdOf ByteArray.empty l0 (ji7))) ∧ w'.cell? (ad247.add (x3_1).toNat) = some (.string (rdOf ByteArray.empty l0 x3_1))) (ds := []) #[F, F, F, F, F, F, F, F, F, F, F, F, F, F, F, F, F, F, F, F, F, F, F, F, F, F, F, F, F, F, F, F, F, F, F] (by kernel_rfl) rfl rfl ⟨((HB.out.cell (zB w _ hw247_0)).trans hw247_0), ((HB.out.cell (zB w _ hw249_0)).trans hw249_0), ((HB.out.cell (zB w _ hw250_0)).trans hw250_0)⟩ (fun hHeld => ?_); refine with_tabW copseref16_Cones.tab4 copseref16_Cones.bits4 (fun HT_ HW_ => ?_)
    generalize wr.drew = w12 at HB hx247_0 hx249_0 hx250_0 hHeld ⊢
    refine pure_ (i := 0) (N := some 10) (v := ?_) (a' := ?_) #[T, F, F, F, F, F, F, F, F, F, F, F, F, F, F, F, F, F, F, F, F, F, F, F, F, F, F, F, F, F, F, F, F, F, F] rfl rfl (any_of HT_.out (by kernel_rfl)) (fun _ _ _ h => h) (Or.inl ⟨by rfl, ?_⟩) ?_ ?_
    rotate_left
    ·intro w'; go_simp; with_reducible rfl
    rotate_left
    ·simp only [Act.put, zS, zZ, zC, i64_w, i32_w]
     rfl
    refine pure_ (i := 1) (N := some 11) (v := ?_) (a' := ?_) #[T, T, F, F, F, F, F, F, F, F, F, F, F, F, F, F, F, F, F, F, F, F, F, F, F, F, F, F, F, F, F, F, F, F, F] rfl rfl (any_of HT_.out (by kernel_rfl)) (fun _ _ _ h => h) (Or.inl ⟨by rfl, ?_⟩) ?_ ?_
    rotate_left
    ·intro w'; go_simp; with_reducible rfl
    rotate_left
    ·simp only [Act.put, zS, zZ, zC, i64_w, i32_w]
     rfl
    refine pure_ (i := 2) (N := some 12) (v := ?_) (a' := ?_) #[T, T, T, F, F, F, F, F, F, F, F, F, F, F, F, F, F, F, F, F, F, F, F, F, F, F, F, F, F, F, F, F, F, F, F] rfl rfl (any_of HT_.out (by kernel_rfl)) (fun _ _ _ h => h) (Or.inl ⟨by rfl, ?_⟩) ?_ ?_
    rotate_left
    ·intro w'; go_simp; with_reducible rfl
    rotate_left
    ·simp only [Act.put, zS, zZ, zC, i64_w, i32_w]
     rfl
    refine take_ (i := 3) (N := some 13) (v := ?_) (a' := ?_) #[T, T, T, T, F, F, F, F, F, F, F, F, F, F, F, F, F, F, F, F, F, F, F, F, F, F, F, F, F, F, F, F, F, F, F] rfl rfl (take_ofW HT_.out HW_.out (by kernel_rfl)) (fun _ _ _ h => h) (Or.inl ⟨by rfl, ?_⟩) hHeld ?_ ?_
    rotate_left
    ·rintro w' ⟨s0, s1, s2⟩
     go_simp; with_reducible rfl
    rotate_left
    ·simp only [Act.put, zS, zZ, zC, i64_w, i32_w]
     rfl
    refine one_ (i := 4) (N := some 14) #[T, T, T, T, T, F, F, F, F, F, F, F, F, F, F, F, F, F, F, F, F, F, F, F, F, F, F, F, F, F, F, F, F, F, F] rfl rfl (one_of HT_.out (by kernel_rfl)) (by decide) (fun K hK => ?_)
    refine goes_ Tryd.func30 (by kernel_rfl) rfl #[.string (rdOf ByteArray.empty l0 x3_1)] (by rfl) rfl rfl (by (try simp only [List.map_toArray, List.map_cons, List.map_nil]); first | done | rfl | (simp only [List.length_drop, List.length_take]; rfl)) ?_
    with_reducible refine (copseref02_Valid.calls k1 (rdOf ByteArray.empty l0 x3_1) true _ A4.out).mono ?_
    rintro e w13 ⟨rfl, hb⟩
    refine ⟨_, rfl, ?_⟩
    have n0_ := zA (below_step (by repeat (first | (with_reducible first | exact HB.out | apply zL | apply zN | apply zD) | exact HB.out)) hb)
    clear HB; have HB := n0_; clear n0_
    (try clear hb)
    (try clear hb2)
    (try clear hk)
    (try clear hi)
    refine hK.out _ _ ⟨((HB.out.cell (zB w _ hw247_0)).trans hw247_0), ((HB.out.cell (zB w _ hw249_0)).trans hw249_0), ((HB.out.cell (zB w _ hw250_0)).trans hw250_0)⟩ (fun hHeld => ?_)
    clear hK K
    refine norm_ (a' := ?_) ?_ ?_
    rotate_left
    ·show Act.put _ (some 14) _ = _
     simp only [Act.put, zS, zZ, zC, i64_w, i32_w]
     rfl
    refine pure_ (i := 5) (N := some 15) (v := ?_) (a' := ?_) #[T, T, T, T, T, T, F, F, F, F, F, F, F, F, F, F, F, F, F, F, F, F, F, F, F, F, F, F, F, F, F, F, F, F, F] rfl rfl (any_of HT_.out (by kernel_rfl)) (fun _ _ _ h => h) (Or.inl ⟨by rfl, ?_⟩) ?_ ?_
    rotate_left
    ·intro w'; go_simp; with_reducible rfl
    rotate_left
    ·simp only [Act.put, zS, zZ, zC, i64_w, i32_w]
     rfl
    refine pure_ (i := 6) (N := some 16) (v := ?_) (a' := ?_) #[T, T, T, T, T, T, T, F, F, F, F, F, F, F, F, F, F, F, F, F, F, F, F, F, F, F, F, F, F, F, F, F, F, F, F] rfl rfl (any_of HT_.out (by kernel_rfl)) (fun _ _ _ h => h) (Or.inl ⟨by rfl, ?_⟩) ?_ ?_
    rotate_left
    ·intro w'; go_simp; with_reducible rfl
    rotate_left
    ·simp only [Act.put, zS, zZ, zC, i64_w, i32_w]
     rfl
    refine pure_ (i := 7) (N := some 17) (v := ?_) (a' := ?_) #[T, T, T, T, T, T, T, T, F, F, F, F, F, F, F, F, F, F, F, F, F, F, F, F, F, F, F, F, F, F, F, F, F, F, F] rfl rfl (any_of HT_.out (by kernel_rfl)) (fun _ _ _ h => h) (Or.inl ⟨by rfl, ?_⟩) ?_ ?_
    rotate_left
    ·intro w'; go_simp; with_reducible rfl
    rotate_left
    ·simp only [Act.put, zS, zZ, zC, i64_w, i32_w]
     rfl
    refine pure_ (i := 8) (N := some 18) (v := ?_) (a' := ?_) #[T, T, T, T, T, T, T, T, T, F, F, F, F, F, F, F, F, F, F, F, F, F, F, F, F, F, F, F, F, F, F, F, F, F, F] rfl rfl (any_of HT_.out (by kernel_rfl)) (fun _ _ _ h => h) (Or.inl ⟨by rfl, ?_⟩) ?_ ?_
    rotate_left
    ·intro w'; go_simp; with_reducible rfl
    rotate_left
    ·simp only [Act.put, zS, zZ, zC, i64_w, i32_w]
     rfl
    refine pure_ (i := 9) (N := some 19) (v := ?_) (a' := ?_) #[T, T, T, T, T, T, T, T, T, T, F, F, F, F, F, F, F, F, F, F, F, F, F, F, F, F, F, F, F, F, F, F, F, F, F] rfl rfl (any_of HT_.out (by kernel_rfl)) (fun _ _ _ h => h) (Or.inl ⟨by rfl, ?_⟩) ?_ ?_
    rotate_left
    ·intro w'; go_simp; with_reducible rfl
    rotate_left
    ·simp only [Act.put, zS, zZ, zC, i64_w, i32_w]
     rfl
    refine pure_ (i := 10) (N := some 20) (v := ?_) (a' := ?_) #[T, T, T, T, T, T, T, T, T, T, T, F, F, F, F, F, F, F, F, F, F, F, F, F, F, F, F, F, F, F, F, F, F, F, F] rfl rfl (any_of HT_.out (by kernel_rfl)) (fun _ _ _ h => h) (Or.inl ⟨by rfl, ?_⟩) ?_ ?_
    rotate_left
    ·intro w'; go_simp; with_reducible rfl
    rotate_left
    ·simp only [Act.put, zS, zZ, zC, i64_w, i32_w]
     rfl
    refine pure_ (i := 11) (N := some 21) (v := ?_) (a' := ?_) #[T, T, T, T, T, T, T, T, T, T, T, T, F, F, F, F, F, F, F, F, F, F, F, F, F, F, F, F, F, F, F, F, F, F, F] rfl rfl (any_of HT_.out (by kernel_rfl)) (fun _ _ _ h => h) (Or.inl ⟨by rfl, ?_⟩) ?_ ?_
    rotate_left
    ·intro w'; go_simp; with_reducible rfl
    rotate_left
    ·simp only [Act.put, zS, zZ, zC, i64_w, i32_w]
     rfl
    refine pure_ (i := 12) (N := some 22) (v := ?_) (a' := ?_) #[T, T, T, T, T, T, T, T, T, T, T, T, T, F, F, F, F, F, F, F, F, F, F, F, F, F, F, F, F, F, F, F, F, F, F] rfl rfl (any_of HT_.out (by kernel_rfl)) (fun _ _ _ h => h) (Or.inl ⟨by rfl, ?_⟩) ?_ ?_
    rotate_left
    ·intro w'; go_simp; with_reducible rfl
    rotate_left
    ·simp only [Act.put, zS, zZ, zC, i64_w, i32_w]
     rfl
    refine pure_ (i := 13) (N := some 23) (v := ?_) (a' := ?_) #[T, T, T, T, T, T, T, T, T, T, T, T, T, T, F, F, F, F, F, F, F, F, F, F, F, F, F, F, F, F, F, F, F, F, F] rfl rfl (any_of HT_.out (by kernel_rfl)) (fun _ _ _ h => h) (Or.inl ⟨by rfl, ?_⟩) ?_ ?_
    rotate_left
    ·intro w'; go_simp; with_reducible rfl
    rotate_left
    ·simp only [Act.put, zS, zZ, zC, i64_w, i32_w]
     rfl
    refine pure_ (i := 15) (N := some 25) (v := ?_) (a' := ?_) #[T, T, T, T, T, T, T, T, T, T, T, T, T, T, F, T, F, F, F, F, F, F, F, F, F, F, F, F, F, F, F, F, F, F, F] rfl rfl (any_of HT_.out (by kernel_rfl)) (fun _ _ _ h => h) (Or.inl ⟨by rfl, ?_⟩) ?_ ?_
    rotate_left
    ·intro w'; go_simp; with_reducible rfl
    rotate_left
    ·simp only [Act.put, zS, zZ, zC, i64_w, i32_w]
     rfl
    refine pure_ (i := 16) (N := some 26) (v := ?_) (a' := ?_) #[T, T, T, T, T, T, T, T, T, T, T, T, T, T, F, T, T, F, F, F, F, F, F, F, F, F, F, F, F, F, F, F, F, F, F] rfl rfl (any_of HT_.out (by kernel_rfl)) (fun _ _ _ h => h) (Or.inl ⟨by rfl, ?_⟩) ?_ ?_
    rotate_left
    ·intro w'; go_simp; with_reducible rfl
    rotate_left
    ·simp only [Act.put, zS, zZ, zC, i64_w, i32_w]
     rfl
    refine pure_ (i := 17) (N := some 27) (v := ?_) (a' := ?_) #[T, T, T, T, T, T, T, T, T, T, T, T, T, T, F, T, T, T, F, F, F, F, F, F, F, F, F, F, F, F, F, F, F, F, F] rfl rfl (any_of HT_.out (by kernel_rfl)) (fun _ _ _ h => h) (Or.inl ⟨by rfl, ?_⟩) ?_ ?_
    rotate_left
    ·intro w'; go_simp; with_reducible rfl
    rotate_left
    ·simp only [Act.put, zS, zZ, zC, i64_w, i32_w]
     rfl
    refine take_ (i := 14) (N := some 24) (v := ?_) (a' := ?_) #[T, T, T, T, T, T, T, T, T, T, T, T, T, T, T, T, T, T, F, F, F, F, F, F, F, F, F, F, F, F, F, F, F, F, F] rfl rfl (take_ofW HT_.out HW_.out (by kernel_rfl)) (fun _ _ _ h => h) (Or.inl ⟨by rfl, ?_⟩) hHeld ?_ ?_
    rotate_left
    ·rintro w' ⟨s0, s1, s2⟩
     go_simp; with_reducible rfl
    rotate_left
    ·simp only [Act.put, zS, zZ, zC, i64_w, i32_w]
     rfl
    refine take_ (i := 18) (N := some 28) (v := ?_) (a' := ?_) #[T, T, T, T, T, T, T, T, T, T, T, T, T, T, T, T, T, T, T, F, F, F, F, F, F, F, F, F, F, F, F, F, F, F, F] rfl rfl (take_ofW HT_.out HW_.out (by kernel_rfl)) (fun _ _ _ h => h) (Or.inl ⟨by rfl, ?_⟩) hHeld ?_ ?_
    rotate_left
    ·rintro w' ⟨s0, s1, s2⟩
     go_simp; with_reducible rfl
    rotate_left
    ·simp only [Act.put, zS, zZ, zC, i64_w, i32_w]
     rfl
    refine one_ (i := 19) (N := some 29) #[T, T, T, T, T, T, T, T, T, T, T, T, T, T, T, T, T, T, T, T, F, F, F, F, F, F, F, F, F, F, F, F, F, F, F] rfl rfl (one_of HT_.out (by kernel_rfl)) (by decide) (fun K hK => ?_)
    refine goes_ Tryd.func35 (by kernel_rfl) rfl #[.string (rdOf ByteArray.empty l0 (ji7)), .string (rdOf ByteArray.empty l0 x3_1)] (by rfl) rfl rfl (by (try simp only [List.map_toArray, List.map_cons, List.map_nil]); first | done | (simp only [hji7]; rfl) | rfl | (simp only [List.length_drop, List.length_take]; rfl)) ?_
    with_reducible refine (copseref02_Cmp.calls k1 (rdOf ByteArray.empty l0 (ji7)) (rdOf ByteArray.empty l0 x3_1) t251 _ A10.out).mono ?_
    rintro e w14 ⟨rfl, hb⟩
    refine ⟨_, rfl, ?_⟩
    have n0_ := zA (below_step (by repeat (first | (with_reducible first | exact HB.out | apply zL | apply zN | apply zD) | exact HB.out)) hb)
    clear HB; have HB := n0_; clear n0_
    (try clear hb)
    (try clear hb2)
    (try clear hk)
    (try clear hi)
    refine hK.out _ _ ⟨((HB.out.cell (zB w _ hw247_0)).trans hw247_0), ((HB.out.cell (zB w _ hw249_0)).trans hw249_0), ((HB.out.cell (zB w _ hw250_0)).trans hw250_0)⟩ (fun hHeld => ?_)
    clear hK K
    refine norm_ (a' := ?_) ?_ ?_
    rotate_left
    ·show Act.put _ (some 29) _ = _
     simp only [Act.put, zS, zZ, zC, i64_w, i32_w]
     rfl
    refine pure_ (i := 20) (N := some 30) (v := ?_) (a' := ?_) #[T, T, T, T, T, T, T, T, T, T, T, T, T, T, T, T, T, T, T, T, T, F, F, F, F, F, F, F, F, F, F, F, F, F, F] rfl rfl (any_of HT_.out (by kernel_rfl)) (fun _ _ _ h => h) (Or.inl ⟨by rfl, ?_⟩) ?_ ?_
    rotate_left
    ·intro w'; go_simp; with_reducible rfl
    rotate_left
    ·simp only [Act.put, zS, zZ, zC, i64_w, i32_w]
     rfl
    refine pure_ (i := 21) (N := some 31) (v := ?_) (a' := ?_) #[T, T, T, T, T, T, T, T, T, T, T, T, T, T, T, T, T, T, T, T, T, T, F, F, F, F, F, F, F, F, F, F, F, F, F] rfl rfl (any_of HT_.out (by kernel_rfl)) (fun _ _ _ h => h) (Or.inl ⟨by rfl, ?_⟩) ?_ ?_
    rotate_left
    ·intro w'; go_simp; with_reducible rfl
    rotate_left
    ·simp only [Act.put, zS, zZ, zC, i64_w, i32_w]
     rfl
    refine pure_ (i := 22) (N := some 32) (v := undef) (a' := ?_) #[T, T, T, T, T, T, T, T, T, T, T, T, T, T, T, T, T, T, T, T, T, T, T, F, F, F, F, F, F, F, F, F, F, F, F] rfl rfl (any_of HT_.out (by kernel_rfl)) (fun _ _ _ h => h) (Or.inr ⟨by rfl, rfl⟩) ?_ ?_
    rotate_left
    ·simp only [Act.put, zS, zZ, zC, i64_w, i32_w]
     rfl
    refine pure_ (i := 23) (N := some 33) (v := undef) (a' := ?_) #[T, T, T, T, T, T, T, T, T, T, T, T, T, T, T, T, T, T, T, T, T, T, T, T, F, F, F, F, F, F, F, F, F, F, F] rfl rfl (any_of HT_.out (by kernel_rfl)) (fun _ _ _ h => h) (Or.inr ⟨by rfl, rfl⟩) ?_ ?_
    rotate_left
    ·simp only [Act.put, zS, zZ, zC, i64_w, i32_w]
     rfl
    refine pure_ (i := 24) (N := some 34) (v := undef) (a' := ?_) #[T, T, T, T, T, T, T, T, T, T, T, T, T, T, T, T, T, T, T, T, T, T, T, T, T, F, F, F, F, F, F, F, F, F, F] rfl rfl (any_of HT_.out (by kernel_rfl)) (fun _ _ _ h => h) (Or.inr ⟨by rfl, rfl⟩) ?_ ?_
    rotate_left
    ·simp only [Act.put, zS, zZ, zC, i64_w, i32_w]
     rfl
    refine pure_ (i := 25) (N := some 35) (v := undef) (a' := ?_) #[T, T, T, T, T, T, T, T, T, T, T, T, T, T, T, T, T, T, T, T, T, T, T, T, T, T, F, F, F, F, F, F, F, F, F] rfl rfl (any_of HT_.out (by kernel_rfl)) (fun _ _ _ h => h) (Or.inr ⟨by rfl, rfl⟩) ?_ ?_
    rotate_left
    ·simp only [Act.put, zS, zZ, zC, i64_w, i32_w]
     rfl
    refine pure_ (i := 26) (N := some 36) (v := undef) (a' := ?_) #[T, T, T, T, T, T, T, T, T, T, T, T, T, T, T, T, T, T, T, T, T, T, T, T, T, T, T, F, F, F, F, F, F, F, F] rfl rfl (any_of HT_.out (by kernel_rfl)) (fun _ _ _ h => h) (Or.inr ⟨by rfl, rfl⟩) ?_ ?_
    rotate_left
    ·simp only [Act.put, zS, zZ, zC, i64_w, i32_w]
     rfl
    refine pure_ (i := 27) (N := some 37) (v := undef) (a' := ?_) #[T, T, T, T, T, T, T, T, T, T, T, T, T, T, T, T, T, T, T, T, T, T, T, T, T, T, T, T, F, F, F, F, F, F, F] rfl rfl (any_of HT_.out (by kernel_rfl)) (fun _ _ _ h => h) (Or.inr ⟨by rfl, rfl⟩) ?_ ?_
    rotate_left
    ·simp only [Act.put, zS, zZ, zC, i64_w, i32_w]
     rfl
    refine pure_ (i := 28) (N := some 38) (v := undef) (a' := ?_) #[T, T, T, T, T, T, T, T, T, T, T, T, T, T, T, T, T, T, T, T, T, T, T, T, T, T, T, T, T, F, F, F, F, F, F] rfl rfl (any_of HT_.out (by kernel_rfl)) (fun _ _ _ h => h) (Or.inr ⟨by rfl, rfl⟩) ?_ ?_
    rotate_left
    ·simp only [Act.put, zS, zZ, zC, i64_w, i32_w]
     rfl
    refine pure_ (i := 29) (N := some 39) (v := undef) (a' := ?_) #[T, T, T, T, T, T, T, T, T, T, T, T, T, T, T, T, T, T, T, T, T, T, T, T, T, T, T, T, T, T, F, F, F, F, F] rfl rfl (any_of HT_.out (by kernel_rfl)) (fun _ _ _ h => h) (Or.inr ⟨by rfl, rfl⟩) ?_ ?_
    rotate_left
    ·simp only [Act.put, zS, zZ, zC, i64_w, i32_w]
     rfl
    refine pure_ (i := 30) (N := some 40) (v := undef) (a' := ?_) #[T, T, T, T, T, T, T, T, T, T, T, T, T, T, T, T, T, T, T, T, T, T, T, T, T, T, T, T, T, T, T, F, F, F, F] rfl rfl (any_of HT_.out (by kernel_rfl)) (fun _ _ _ h => h) (Or.inr ⟨by rfl, rfl⟩) ?_ ?_
    rotate_left
    ·simp only [Act.put, zS, zZ, zC, i64_w, i32_w]
     rfl
    refine pure_ (i := 31) (N := some 41) (v := undef) (a' := ?_) #[T, T, T, T, T, T, T, T, T, T, T, T, T, T, T, T, T, T, T, T, T, T, T, T, T, T, T, T, T, T, T, T, F, F, F] rfl rfl (any_of HT_.out (by kernel_rfl)) (fun _ _ _ h => h) (Or.inr ⟨by rfl, rfl⟩) ?_ ?_
    rotate_left
    ·simp only [Act.put, zS, zZ, zC, i64_w, i32_w]
     rfl
    refine pure_ (i := 32) (N := some 42) (v := ?_) (a' := ?_) #[T, T, T, T, T, T, T, T, T, T, T, T, T, T, T, T, T, T, T, T, T, T, T, T, T, T, T, T, T, T, T, T, T, F, F] rfl rfl (any_of HT_.out (by kernel_rfl)) (fun _ _ _ h => h) (Or.inl ⟨by rfl, ?_⟩) ?_ ?_
    rotate_left
    ·intro w'; go_simp; with_reducible rfl
    rotate_left
    ·simp only [Act.put, zS, zZ, zC, i64_w, i32_w]
     rfl
    refine pure_ (i := 33) (N := some 43) (v := ?_) (a' := ?_) #[T, T, T, T, T, T, T, T, T, T, T, T, T, T, T, T, T, T, T, T, T, T, T, T, T, T, T, T, T, T, T, T, T, T, F] rfl rfl (any_of HT_.out (by kernel_rfl)) (fun _ _ _ h => h) (Or.inl ⟨by rfl, ?_⟩) ?_ ?_
    rotate_left
    ·intro w'; go_simp; with_reducible rfl
    rotate_left
    ·simp only [Act.put, zS, zZ, zC, i64_w, i32_w]
     rfl
    refine pure_ (i := 34) (N := some 44) (v := ?_) (a' := ?_) #[T, T, T, T, T, T, T, T, T, T, T, T, T, T, T, T, T, T, T, T, T, T, T, T, T, T, T, T, T, T, T, T, T, T, T] rfl rfl (any_of HT_.out (by kernel_rfl)) (fun _ _ _ h => h) (Or.inl ⟨by rfl, ?_⟩) ?_ ?_
    rotate_left
    ·intro w'; go_simp; with_reducible rfl
    rotate_left
    ·simp only [Act.put, zS, zZ, zC, i64_w, i32_w]
     rfl
    refine done_ (done_of HT_.out (by kernel_rfl)) ?_
    try go_wp2
    go_ret
    exact ⟨by first | rfl | (simp [errW_none, errW_some] <;> rfl) | (simp only [← hji7]; first | rfl | (simp [errW_none, errW_some] <;> rfl)) | (simp [*, errW_none, errW_some] <;> rfl), by repeat (first | (with_reducible first | exact HB.out | apply zL | apply zN | apply zD) | exact HB.out)⟩
   rw [if_neg c11] at H
   have c11b0 : decide (0 ≤ t251) = false := decide_eq_false c11
   clear c11; replace H := Option.bind_eq_some_iff.mp H; obtain ⟨t254, A150, H⟩ := H
   replace H : (if t254 = true then (some false) else (copseref16_Cones.l0 k1 l0 (wrap64 (x3_1 + 1)))) = some r := H
   have A15 := zA A150; clear A150
   by_cases c16 : t254 = true
   ·subst c16
    have H1 : (some false) = some r := by rw [if_pos rfl] at H; exact H
    clear H; have H := H1; clear H1; obtain rfl := Option.some.inj H
    try go_wp2
    have n0_ := zA (zD HB.out)
    clear HB; have HB := n0_; clear n0_
    have p247 : 0 ≤ (x3_1 : Int) := zO (by first | (with_reducible assumption) | assumption)
    have q247 : x3_1 < (l0.length : Int) := zO (by first | (with_reducible assumption) | assumption)
    obtain ⟨ad247, e247, hx247_0⟩ := Kd.at_string HR0.out x3_1 p247 q247
    have hw247_0 := hx247_0
    cases e247
    replace hx247_0 := (HB.out.cell (zB w _ hx247_0)).trans hx247_0
    replace p247 := eq_true p247
    replace q247 := eq_true q247
    have p249 : 0 ≤ ((ji7) : Int) := zO (by first | (with_reducible assumption) | assumption)
    have q249 : (ji7) < (l0.length : Int) := zO (by first | (with_reducible assumption) | assumption)
    obtain ⟨ad249, e249, hx249_0⟩ := Kd.at_string HR0.out (ji7) p249 q249
    have hw249_0 := hx249_0
    obtain rfl : ad247 = ad249 := (by injection e249)
    replace hx249_0 := (HB.out.cell (zB w _ hx249_0)).trans hx249_0
    replace p249 := eq_true p249
    replace q249 := eq_true q249
    have p250 : 0 ≤ (x3_1 : Int) := zO (by first | (with_reducible assumption) | assumption)
    have q250 : x3_1 < (l0.length : Int) := zO (by first | (with_reducible assumption) | assumption)
    obtain ⟨ad250, e250, hx250_0⟩ := Kd.at_string HR0.out x3_1 p250 q250
    have hw250_0 := hx250_0
    obtain rfl : ad247 = ad250 := (by injection e250)
    replace hx250_0 := (HB.out.cell (zB w _ hx250_0)).trans hx250_0
    replace p250 := eq_true p250
    replace q250 := eq_true q250
    have p252 : 0 ≤ ((ji7) : Int) := zO (by first | (with_reducible assumption) | assumption)
    have q252 : (ji7) < (l0.length : Int) := zO (by first | (with_reducible assumption) | assumption)
    obtain ⟨ad252, e252, hx252_0⟩ := Kd.at_string HR0.out (ji7) p252 q252
    have hw252_0 := hx252_0
    obtain rfl : ad247 = ad252 := (by injection e252)
    replace hx252_0 := (HB.out.cell (zB w _ hx252_0)).trans hx252_0
    replace p252 := eq_true p252
    replace q252 := eq_true q252
    have p253 : 0 ≤ (x3_1 : Int) := zO (by first | (with_reducible assumption) | assumption)
    have q253 : x3_1 < (l0.length : Int) := zO (by first | (with_reducible assumption) | assumption)
    obtain ⟨ad253, e253, hx253_0⟩ := Kd.at_string HR0.out x3_1 p253 q253
    have hw253_0 := hx253_0
    obtain rfl : ad247 = ad253 := (by injection e253)
    replace hx253_0 := (HB.out.cell (zB w _ hx253_0)).trans hx253_0
    replace p253 := eq_true p253
    replace q253 := eq_true q253
    refine start_ (n := 35) (S := fun w' => w'.cell? (ad247.add (x3_1).toNat) = some (.string (rdOf ByteArray.empty l0 x3_1)) ∧ w'.cell? (ad247.add ((ji7)).toNat) = some (.string (rdOf ByteArray.empty l0 (ji7))) ∧ w'.cell? (ad247.add (x3_1).toNat) = some (.string (rdOf ByteArray.empty l0 x3_1)) ∧ w'.cell? (ad247.add ((ji7)).toNat) = some (.string (rdOf ByteArray.empty l0 (ji7))) ∧ w'.cell? (ad247.add (x3_1).toNat) = some (.string (rdOf ByteArray.empty l0 x3_1))) (ds := []) #[F, F, F, F, F, F, F, F, F, F, F, F, F, F, F, F, F, F, F, F, F, F, F, F, F, F, F, F, F, F, F, F, F, F, F] (by kernel_rfl) rfl rfl ⟨((HB.out.cell (zB w _ hw247_0)).trans hw247_0), ((HB.out.cell (zB w _ hw249_0)).trans hw249_0), ((HB.out.cell (zB w _ hw250_0)).trans hw250_0), ((HB.out.cell (zB w _ hw252_0)).trans hw252_0), ((HB.out.cell (zB w _ hw253_0)).trans hw253_0)⟩ (fun hHeld => ?_); refine with_tabW copseref16_Cones.tab4 copseref16_Cones.bits4 (fun HT_ HW_ => ?_)
    generalize wr.drew = w17 at HB hx247_0 hx249_0 hx250_0 hx252_0 hx253_0 hHeld ⊢
    refine pure_ (i := 0) (N := some 10) (v := ?_) (a' := ?_) #[T, F, F, F, F, F, F, F, F, F, F, F, F, F, F, F, F, F, F, F, F, F, F, F, F, F, F, F, F, F, F, F, F, F, F] rfl rfl (any_of HT_.out (by kernel_rfl)) (fun _ _ _ h => h) (Or.inl ⟨by rfl, ?_⟩) ?_ ?_
    rotate_left
    ·intro w'; go_simp; with_reducible rfl
    rotate_left
    ·simp only [Act.put, zS, zZ, zC, i64_w, i32_w]
     rfl
    refine pure_ (i := 1) (N := some 11) (v := ?_) (a' := ?_) #[T, T, F, F, F, F, F, F, F, F, F, F, F, F, F, F, F, F, F, F, F, F, F, F, F, F, F, F, F, F, F, F, F, F, F] rfl rfl (any_of HT_.out (by kernel_rfl)) (fun _ _ _ h => h) (Or.inl ⟨by rfl, ?_⟩) ?_ ?_
    rotate_left
    ·intro w'; go_simp; with_reducible rfl
    rotate_left
    ·simp only [Act.put, zS, zZ, zC, i64_w, i32_w]
     rfl
    refine pure_ (i := 2) (N := some 12) (v := ?_) (a' := ?_) #[T, T, T, F, F, F, F, F, F, F, F, F, F, F, F, F, F, F, F, F, F, F, F, F, F, F, F, F, F, F, F, F, F, F, F] rfl rfl (any_of HT_.out (by kernel_rfl)) (fun _ _ _ h => h) (Or.inl ⟨by rfl, ?_⟩) ?_ ?_
    rotate_left
    ·intro w'; go_simp; with_reducible rfl
    rotate_left
    ·simp only [Act.put, zS, zZ, zC, i64_w, i32_w]
     rfl
    refine take_ (i := 3) (N := some 13) (v := ?_) (a' := ?_) #[T, T, T, T, F, F, F, F, F, F, F, F, F, F, F, F, F, F, F, F, F, F, F, F, F, F, F, F, F, F, F, F, F, F, F] rfl rfl (take_ofW HT_.out HW_.out (by kernel_rfl)) (fun _ _ _ h => h) (Or.inl ⟨by rfl, ?_⟩) hHeld ?_ ?_
    rotate_left
    ·rintro w' ⟨s0, s1, s2, s3, s4⟩
     go_simp; with_reducible rfl
    rotate_left
    ·simp only [Act.put, zS, zZ, zC, i64_w, i32_w]
     rfl
    refine one_ (i := 4) (N := some 14) #[T, T, T, T, T, F, F, F, F, F, F, F, F, F, F, F, F, F, F, F, F, F, F, F, F, F, F, F, F, F, F, F, F, F, F] rfl rfl (one_of HT_.out (by kernel_rfl)) (by decide) (fun K hK => ?_)
    refine goes_ Tryd.func30 (by kernel_rfl) rfl #[.string (rdOf ByteArray.empty l0 x3_1)] (by rfl) rfl rfl (by (try simp only [List.map_toArray, List.map_cons, List.map_nil]); first | done | rfl | (simp only [List.length_drop, List.length_take]; rfl)) ?_
    with_reducible refine (copseref02_Valid.calls k1 (rdOf ByteArray.empty l0 x3_1) true _ A4.out).mono ?_
    rintro e w18 ⟨rfl, hb⟩
    refine ⟨_, rfl, ?_⟩
    have n0_ := zA (below_step (by repeat (first | (with_reducible first | exact HB.out | apply zL | apply zN | apply zD) | exact HB.out)) hb)
    clear HB; have HB := n0_; clear n0_
    (try clear hb)
    (try clear hb2)
    (try clear hk)
    (try clear hi)
    refine hK.out _ _ ⟨((HB.out.cell (zB w _ hw247_0)).trans hw247_0), ((HB.out.cell (zB w _ hw249_0)).trans hw249_0), ((HB.out.cell (zB w _ hw250_0)).trans hw250_0), ((HB.out.cell (zB w _ hw252_0)).trans hw252_0), ((HB.out.cell (zB w _ hw253_0)).trans hw253_0)⟩ (fun hHeld => ?_)
    clear hK K
    refine norm_ (a' := ?_) ?_ ?_
    rotate_left
    ·show Act.put _ (some 14) _ = _
     simp only [Act.put, zS, zZ, zC, i64_w, i32_w]
     rfl
    refine pure_ (i := 5) (N := some 15) (v := ?_) (a' := ?_) #[T, T, T, T, T, T, F, F, F, F, F, F, F, F, F, F, F, F, F, F, F, F, F, F, F, F, F, F, F, F, F, F, F, F, F] rfl rfl (any_of HT_.out (by kernel_rfl)) (fun _ _ _ h => h) (Or.inl ⟨by rfl, ?_⟩) ?_ ?_
    rotate_left
    ·intro w'; go_simp; with_reducible rfl
    rotate_left
    ·simp only [Act.put, zS, zZ, zC, i64_w, i32_w]
     rfl
    refine pure_ (i := 6) (N := some 16) (v := ?_) (a' := ?_) #[T, T, T, T, T, T, T, F, F, F, F, F, F, F, F, F, F, F, F, F, F, F, F, F, F, F, F, F, F, F, F, F, F, F, F] rfl rfl (any_of HT_.out (by kernel_rfl)) (fun _ _ _ h => h) (Or.inl ⟨by rfl, ?_⟩) ?_ ?_
    rotate_left
    ·intro w'; go_simp; with_reducible rfl
    rotate_left
    ·simp only [Act.put, zS, zZ, zC, i64_w, i32_w]
     rfl
    refine pure_ (i := 7) (N := some 17) (v := ?_) (a' := ?_) #[T, T, T, T, T, T, T, T, F, F, F, F, F, F, F, F, F, F, F, F, F, F, F, F, F, F, F, F, F, F, F, F, F, F, F] rfl rfl (any_of HT_.out (by kernel_rfl)) (fun _ _ _ h => h) (Or.inl ⟨by rfl, ?_⟩) ?_ ?_
    rotate_left
    ·intro w'; go_simp; with_reducible rfl
    rotate_left
    ·simp only [Act.put, zS, zZ, zC, i64_w, i32_w]
     rfl
    refine pure_ (i := 8) (N := some 18) (v := ?_) (a' := ?_) #[T, T, T, T, T, T, T, T, T, F, F, F, F, F, F, F, F, F, F, F, F, F, F, F, F, F, F, F, F, F, F, F, F, F, F] rfl rfl (any_of HT_.out (by kernel_rfl)) (fun _ _ _ h => h) (Or.inl ⟨by rfl, ?_⟩) ?_ ?_
    rotate_left
    ·intro w'; go_simp; with_reducible rfl
    rotate_left
    ·simp only [Act.put, zS, zZ, zC, i64_w, i32_w]
     rfl
    refine pure_ (i := 9) (N := some 19) (v := ?_) (a' := ?_) #[T, T, T, T, T, T, T, T, T, T, F, F, F, F, F, F, F, F, F, F, F, F, F, F, F, F, F, F, F, F, F, F, F, F, F] rfl rfl (any_of HT_.out (by kernel_rfl)) (fun _ _ _ h => h) (Or.inl ⟨by rfl, ?_⟩) ?_ ?_
    rotate_left
    ·intro w'; go_simp; with_reducible rfl
    rotate_left
    ·simp only [Act.put, zS, zZ, zC, i64_w, i32_w]
     rfl
    refine pure_ (i := 10) (N := some 20) (v := ?_) (a' := ?_) #[T, T, T, T, T, T, T, T, T, T, T, F, F, F, F, F, F, F, F, F, F, F, F, F, F, F, F, F, F, F, F, F, F, F, F] rfl rfl (any_of HT_.out (by kernel_rfl)) (fun _ _ _ h => h) (Or.inl ⟨by rfl, ?_⟩) ?_ ?_
    rotate_left
    ·intro w'; go_simp; with_reducible rfl
    rotate_left
    ·simp only [Act.put, zS, zZ, zC, i64_w, i32_w]
     rfl
    refine pure_ (i := 11) (N := some 21) (v := ?_) (a' := ?_) #[T, T, T, T, T, T, T, T, T, T, T, T, F, F, F, F, F, F, F, F, F, F, F, F, F, F, F, F, F, F, F, F, F, F, F] rfl rfl (any_of HT_.out (by kernel_rfl)) (fun _ _ _ h => h) (Or.inl ⟨by rfl, ?_⟩) ?_ ?_
    rotate_left
    ·intro w'; go_simp; with_reducible rfl
    rotate_left
    ·simp only [Act.put, zS, zZ, zC, i64_w, i32_w]
     rfl
    refine pure_ (i := 12) (N := some 22) (v := ?_) (a' := ?_) #[T, T, T, T, T, T, T, T, T, T, T, T, T, F, F, F, F, F, F, F, F, F, F, F, F, F, F, F, F, F, F, F, F, F, F] rfl rfl (any_of HT_.out (by kernel_rfl)) (fun _ _ _ h => h) (Or.inl ⟨by rfl, ?_⟩) ?_ ?_
    rotate_left
    ·intro w'; go_simp; with_reducible rfl
    rotate_left
    ·simp only [Act.put, zS, zZ, zC, i64_w, i32_w]
     rfl
    refine pure_ (i := 13) (N := some 23) (v := ?_) (a' := ?_) #[T, T, T, T, T, T, T, T, T, T, T, T, T, T, F, F, F, F, F, F, F, F, F, F, F, F, F, F, F, F, F, F, F, F, F] rfl rfl (any_of HT_.out (by kernel_rfl)) (fun _ _ _ h => h) (Or.inl ⟨by rfl, ?_⟩) ?_ ?_
    rotate_left
    ·intro w'; go_simp; with_reducible rfl
    rotate_left
    ·simp only [Act.put, zS, zZ, zC, i64_w, i32_w]
     rfl
    refine pure_ (i := 15) (N := some 25) (v := ?_) (a' := ?_) #[T, T, T, T, T, T, T, T, T, T, T, T, T, T, F, T, F, F, F, F, F, F, F, F, F, F, F, F, F, F, F, F, F, F, F] rfl rfl (any_of HT_.out (by kernel_rfl)) (fun _ _ _ h => h) (Or.inl ⟨by rfl, ?_⟩) ?_ ?_
    rotate_left
    ·intro w'; go_simp; with_reducible rfl
    rotate_left
    ·simp only [Act.put, zS, zZ, zC, i64_w, i32_w]
     rfl
    refine pure_ (i := 16) (N := some 26) (v := ?_) (a' := ?_) #[T, T, T, T, T, T, T, T, T, T, T, T, T, T, F, T, T, F, F, F, F, F, F, F, F, F, F, F, F, F, F, F, F, F, F] rfl rfl (any_of HT_.out (by kernel_rfl)) (fun _ _ _ h => h) (Or.inl ⟨by rfl, ?_⟩) ?_ ?_
    rotate_left
    ·intro w'; go_simp; with_reducible rfl
    rotate_left
    ·simp only [Act.put, zS, zZ, zC, i64_w, i32_w]
     rfl
    refine pure_ (i := 17) (N := some 27) (v := ?_) (a' := ?_) #[T, T, T, T, T, T, T, T, T, T, T, T, T, T, F, T, T, T, F, F, F, F, F, F, F, F, F, F, F, F, F, F, F, F, F] rfl rfl (any_of HT_.out (by kernel_rfl)) (fun _ _ _ h => h) (Or.inl ⟨by rfl, ?_⟩) ?_ ?_
    rotate_left
    ·intro w'; go_simp; with_reducible rfl
    rotate_left
    ·simp only [Act.put, zS, zZ, zC, i64_w, i32_w]
     rfl
    refine take_ (i := 14) (N := some 24) (v := ?_) (a' := ?_) #[T, T, T, T, T, T, T, T, T, T, T, T, T, T, T, T, T, T, F, F, F, F, F, F, F, F, F, F, F, F, F, F, F, F, F] rfl rfl (take_ofW HT_.out HW_.out (by kernel_rfl)) (fun _ _ _ h => h) (Or.inl ⟨by rfl, ?_⟩) hHeld ?_ ?_
    rotate_left
    ·rintro w' ⟨s0, s1, s2, s3, s4⟩
     go_simp; with_reducible rfl
    rotate_left
    ·simp only [Act.put, zS, zZ, zC, i64_w, i32_w]
     rfl
    refine take_ (i := 18) (N := some 28) (v := ?_) (a' := ?_) #[T, T, T, T, T, T, T, T, T, T, T, T, T, T, T, T, T, T, T, F, F, F, F, F, F, F, F, F, F, F, F, F, F, F, F] rfl rfl (take_ofW HT_.out HW_.out (by kernel_rfl)) (fun _ _ _ h => h) (Or.inl ⟨by rfl, ?_⟩) hHeld ?_ ?_
    rotate_left
    ·rintro w' ⟨s0, s1, s2, s3, s4⟩
     go_simp; with_reducible rfl
    rotate_left
    ·simp only [Act.put, zS, zZ, zC, i64_w, i32_w]
     rfl
    refine one_ (i := 19) (N := some 29) #[T, T, T, T, T, T, T, T, T, T, T, T, T, T, T, T, T, T, T, T, F, F, F, F, F, F, F, F, F, F, F, F, F, F, F] rfl rfl (one_of HT_.out (by kernel_rfl)) (by decide) (fun K hK => ?_)
    refine goes_ Tryd.func35 (by kernel_rfl) rfl #[.string (rdOf ByteArray.empty l0 (ji7)), .string (rdOf ByteArray.empty l0 x3_1)] (by rfl) rfl rfl (by (try simp only [List.map_toArray, List.map_cons, List.map_nil]); first | done | (simp only [hji7]; rfl) | rfl | (simp only [List.length_drop, List.length_take]; rfl)) ?_
    with_reducible refine (copseref02_Cmp.calls k1 (rdOf ByteArray.empty l0 (ji7)) (rdOf ByteArray.empty l0 x3_1) t251 _ A10.out).mono ?_
    rintro e w19 ⟨rfl, hb⟩
    refine ⟨_, rfl, ?_⟩
    have n0_ := zA (below_step (by repeat (first | (with_reducible first | exact HB.out | apply zL | apply zN | apply zD) | exact HB.out)) hb)
    clear HB; have HB := n0_; clear n0_
    (try clear hb)
    (try clear hb2)
    (try clear hk)
    (try clear hi)
    refine hK.out _ _ ⟨((HB.out.cell (zB w _ hw247_0)).trans hw247_0), ((HB.out.cell (zB w _ hw249_0)).trans hw249_0), ((HB.out.cell (zB w _ hw250_0)).trans hw250_0), ((HB.out.cell (zB w _ hw252_0)).trans hw252_0), ((HB.out.cell (zB w _ hw253_0)).trans hw253_0)⟩ (fun hHeld => ?_)
    clear hK K
    refine norm_ (a' := ?_) ?_ ?_
    rotate_left
    ·show Act.put _ (some 29) _ = _
     simp only [Act.put, zS, zZ, zC, i64_w, i32_w]
     rfl
    refine pure_ (i := 20) (N := some 30) (v := ?_) (a' := ?_) #[T, T, T, T, T, T, T, T, T, T, T, T, T, T, T, T, T, T, T, T, T, F, F, F, F, F, F, F, F, F, F, F, F, F, F] rfl rfl (any_of HT_.out (by kernel_rfl)) (fun _ _ _ h => h) (Or.inl ⟨by rfl, ?_⟩) ?_ ?_
    rotate_left
    ·intro w'; go_simp; with_reducible rfl
    rotate_left
    ·simp only [Act.put, zS, zZ, zC, i64_w, i32_w]
     rfl
    refine pure_ (i := 21) (N := some 31) (v := ?_) (a' := ?_) #[T, T, T, T, T, T, T, T, T, T, T, T, T, T, T, T, T, T, T, T, T, T, F, F, F, F, F, F, F, F, F, F, F, F, F] rfl rfl (any_of HT_.out (by kernel_rfl)) (fun _ _ _ h => h) (Or.inl ⟨by rfl, ?_⟩) ?_ ?_
    rotate_left
    ·intro w'; go_simp; with_reducible rfl
    rotate_left
    ·simp only [Act.put, zS, zZ, zC, i64_w, i32_w]
     rfl
    refine pure_ (i := 22) (N := some 32) (v := ?_) (a' := ?_) #[T, T, T, T, T, T, T, T, T, T, T, T, T, T, T, T, T, T, T, T, T, T, T, F, F, F, F, F, F, F, F, F, F, F, F] rfl rfl (any_of HT_.out (by kernel_rfl)) (fun _ _ _ h => h) (Or.inl ⟨by rfl, ?_⟩) ?_ ?_
    rotate_left
    ·intro w'; go_simp; with_reducible rfl
    rotate_left
    ·simp only [Act.put, zS, zZ, zC, i64_w, i32_w]
     rfl
    refine pure_ (i := 23) (N := some 33) (v := ?_) (a' := ?_) #[T, T, T, T, T, T, T, T, T, T, T, T, T, T, T, T, T, T, T, T, T, T, T, T, F, F, F, F, F, F, F, F, F, F, F] rfl rfl (any_of HT_.out (by kernel_rfl)) (fun _ _ _ h => h) (Or.inl ⟨by rfl, ?_⟩) ?_ ?_
    rotate_left
    ·intro w'; go_simp; with_reducible rfl
    rotate_left
    ·simp only [Act.put, zS, zZ, zC, i64_w, i32_w]
     rfl
    refine pure_ (i := 24) (N := some 34) (v := ?_) (a' := ?_) #[T, T, T, T, T, T, T, T, T, T, T, T, T, T, T, T, T, T, T, T, T, T, T, T, T, F, F, F, F, F, F, F, F, F, F] rfl rfl (any_of HT_.out (by kernel_rfl)) (fun _ _ _ h => h) (Or.inl ⟨by rfl, ?_⟩) ?_ ?_
    rotate_left
    ·intro w'; go_simp; with_reducible rfl
    rotate_left
    ·simp only [Act.put, zS, zZ, zC, i64_w, i32_w]
     rfl
    refine pure_ (i := 25) (N := some 35) (v := ?_) (a' := ?_) #[T, T, T, T, T, T, T, T, T, T, T, T, T, T, T, T, T, T, T, T, T, T, T, T, T, T, F, F, F, F, F, F, F, F, F] rfl rfl (any_of HT_.out (by kernel_rfl)) (fun _ _ _ h => h) (Or.inl ⟨by rfl, ?_⟩) ?_ ?_
    rotate_left
    ·intro w'; go_simp; with_reducible rfl
    rotate_left
    ·simp only [Act.put, zS, zZ, zC, i64_w, i32_w]
     rfl
    refine pure_ (i := 27) (N := some 37) (v := ?_) (a' := ?_) #[T, T, T, T, T, T, T, T, T, T, T, T, T, T, T, T, T, T, T, T, T, T, T, T, T, T, F, T, F, F, F, F, F, F, F] rfl rfl (any_of HT_.out (by kernel_rfl)) (fun _ _ _ h => h) (Or.inl ⟨by rfl, ?_⟩) ?_ ?_
    rotate_left
    ·intro w'; go_simp; with_reducible rfl
    rotate_left
    ·simp only [Act.put, zS, zZ, zC, i64_w, i32_w]
     rfl
    refine pure_ (i := 28) (N := some 38) (v := ?_) (a' := ?_) #[T, T, T, T, T, T, T, T, T, T, T, T, T, T, T, T, T, T, T, T, T, T, T, T, T, T, F, T, T, F, F, F, F, F, F] rfl rfl (any_of HT_.out (by kernel_rfl)) (fun _ _ _ h => h) (Or.inl ⟨by rfl, ?_⟩) ?_ ?_
    rotate_left
    ·intro w'; go_simp; with_reducible rfl
    rotate_left
    ·simp only [Act.put, zS, zZ, zC, i64_w, i32_w]
     rfl
    refine pure_ (i := 29) (N := some 39) (v := ?_) (a' := ?_) #[T, T, T, T, T, T, T, T, T, T, T, T, T, T, T, T, T, T, T, T, T, T, T, T, T, T, F, T, T, T, F, F, F, F, F] rfl rfl (any_of HT_.out (by kernel_rfl)) (fun _ _ _ h => h) (Or.inl ⟨by rfl, ?_⟩) ?_ ?_
    rotate_left
    ·intro w'; go_simp; with_reducible rfl
    rotate_left
    ·simp only [Act.put, zS, zZ, zC, i64_w, i32_w]
     rfl
    refine take_ (i := 26) (N := some 36) (v := ?_) (a' := ?_) #[T, T, T, T, T, T, T, T, T, T, T, T, T, T, T, T, T, T, T, T, T, T, T, T, T, T, T, T, T, T, F, F, F, F, F] rfl rfl (take_ofW HT_.out HW_.out (by kernel_rfl)) (fun _ _ _ h => h) (Or.inl ⟨by rfl, ?_⟩) hHeld ?_ ?_
    rotate_left
    ·rintro w' ⟨s0, s1, s2, s3, s4⟩
     go_simp; with_reducible rfl
    rotate_left
    ·simp only [Act.put, zS, zZ, zC, i64_w, i32_w]
     rfl
    refine take_ (i := 30) (N := some 40) (v := ?_) (a' := ?_) #[T, T, T, T, T, T, T, T, T, T, T, T, T, T, T, T, T, T, T, T, T, T, T, T, T, T, T, T, T, T, T, F, F, F, F] rfl rfl (take_ofW HT_.out HW_.out (by kernel_rfl)) (fun _ _ _ h => h) (Or.inl ⟨by rfl, ?_⟩) hHeld ?_ ?_
    rotate_left
    ·rintro w' ⟨s0, s1, s2, s3, s4⟩
     go_simp; with_reducible rfl
    rotate_left
    ·simp only [Act.put, zS, zZ, zC, i64_w, i32_w]
     rfl
    refine one_ (i := 31) (N := some 41) #[T, T, T, T, T, T, T, T, T, T, T, T, T, T, T, T, T, T, T, T, T, T, T, T, T, T, T, T, T, T, T, T, F, F, F] rfl rfl (one_of HT_.out (by kernel_rfl)) (by decide) (fun K hK => ?_)
    refine goes_ Tryd.func31 (by kernel_rfl) rfl #[.string (rdOf ByteArray.empty l0 (ji7)), .string (rdOf ByteArray.empty l0 x3_1)] (by rfl) rfl rfl (by (try simp only [List.map_toArray, List.map_cons, List.map_nil]); first | done | (simp only [hji7]; rfl) | rfl | (simp only [List.length_drop, List.length_take]; rfl)) ?_
    with_reducible refine (copseref02_Above.calls k1 (rdOf ByteArray.empty l0 (ji7)) (rdOf ByteArray.empty l0 x3_1) true _ A15.out).mono ?_
    rintro e w20 ⟨rfl, hb⟩
    refine ⟨_, rfl, ?_⟩
    have n0_ := zA (below_step (by repeat (first | (with_reducible first | exact HB.out | apply zL | apply zN | apply zD) | exact HB.out)) hb)
    clear HB; have HB := n0_; clear n0_
    (try clear hb)
    (try clear hb2)
    (try clear hk)
    (try clear hi)
    refine hK.out _ _ ⟨((HB.out.cell (zB w _ hw247_0)).trans hw247_0), ((HB.out.cell (zB w _ hw249_0)).trans hw249_0), ((HB.out.cell (zB w _ hw250_0)).trans hw250_0), ((HB.out.cell (zB w _ hw252_0)).trans hw252_0), ((HB.out.cell (zB w _ hw253_0)).trans hw253_0)⟩ (fun hHeld => ?_)
    clear hK K
    refine norm_ (a' := ?_) ?_ ?_
    rotate_left
    ·show Act.put _ (some 41) _ = _
     simp only [Act.put, zS, zZ, zC, i64_w, i32_w]
     rfl
    refine pure_ (i := 32) (N := some 42) (v := ?_) (a' := ?_) #[T, T, T, T, T, T, T, T, T, T, T, T, T, T, T, T, T, T, T, T, T, T, T, T, T, T, T, T, T, T, T, T, T, F, F] rfl rfl (any_of HT_.out (by kernel_rfl)) (fun _ _ _ h => h) (Or.inl ⟨by rfl, ?_⟩) ?_ ?_
    rotate_left
    ·intro w'; go_simp; with_reducible rfl
    rotate_left
    ·simp only [Act.put, zS, zZ, zC, i64_w, i32_w]
     rfl
    refine pure_ (i := 33) (N := some 43) (v := ?_) (a' := ?_) #[T, T, T, T, T, T, T, T, T, T, T, T, T, T, T, T, T, T, T, T, T, T, T, T, T, T, T, T, T, T, T, T, T, T, F] rfl rfl (any_of HT_.out (by kernel_rfl)) (fun _ _ _ h => h) (Or.inl ⟨by rfl, ?_⟩) ?_ ?_
    rotate_left
    ·intro w'; go_simp; with_reducible rfl
    rotate_left
    ·simp only [Act.put, zS, zZ, zC, i64_w, i32_w]
     rfl
    refine pure_ (i := 34) (N := some 44) (v := ?_) (a' := ?_) #[T, T, T, T, T, T, T, T, T, T, T, T, T, T, T, T, T, T, T, T, T, T, T, T, T, T, T, T, T, T, T, T, T, T, T] rfl rfl (any_of HT_.out (by kernel_rfl)) (fun _ _ _ h => h) (Or.inl ⟨by rfl, ?_⟩) ?_ ?_
    rotate_left
    ·intro w'; go_simp; with_reducible rfl
    rotate_left
    ·simp only [Act.put, zS, zZ, zC, i64_w, i32_w]
     rfl
    refine done_ (done_of HT_.out (by kernel_rfl)) ?_
    try go_wp2
    go_ret
    exact ⟨by first | rfl | (simp [errW_none, errW_some] <;> rfl) | (simp only [← hji7]; first | rfl | (simp [errW_none, errW_some] <;> rfl)) | (simp [*, errW_none, errW_some] <;> rfl), by repeat (first | (with_reducible first | exact HB.out | apply zL | apply zN | apply zD) | exact HB.out)⟩
   replace c16 := Bool.eq_false_iff.mpr c16
   subst c16
   have H1 : (copseref16_Cones.l0 k1 l0 (wrap64 (x3_1 + 1))) = some r := by rw [if_neg (show ¬ (false = true) by decide)] at H; exact H
   clear H; have H := H1; clear H1
   have H' := zA H
   clear H
   try go_wp2
   have n0_ := zA (zD HB.out)
   clear HB; have HB := n0_; clear n0_
   have p247 : 0 ≤ (x3_1 : Int) := zO (by first | (with_reducible assumption) | assumption)
   have q247 : x3_1 < (l0.length : Int) := zO (by first | (with_reducible assumption) | assumption)
   obtain ⟨ad247, e247, hx247_0⟩ := Kd.at_string HR0.out x3_1 p247 q247
   have hw247_0 := hx247_0
   cases e247
   replace hx247_0 := (HB.out.cell (zB w _ hx247_0)).trans hx247_0
   replace p247 := eq_true p247
   replace q247 := eq_true q247
   have p249 : 0 ≤ ((ji7) : Int) := zO (by first | (with_reducible assumption) | assumption)
   have q249 : (ji7) < (l0.length : Int) := zO (by first | (with_reducible assumption) | assumption)
   obtain ⟨ad249, e249, hx249_0⟩ := Kd.at_string HR0.out (ji7) p249 q249
   have hw249_0 := hx249_0
   obtain rfl : ad247 = ad249 := (by injection e249)
   replace hx249_0 := (HB.out.cell (zB w _ hx249_0)).trans hx249_0
   replace p249 := eq_true p249
   replace q249 := eq_true q249
   have p250 : 0 ≤ (x3_1 : Int) := zO (by first | (with_reducible assumption) | assumption)
   have q250 : x3_1 < (l0.length : Int) := zO (by first | (with_reducible assumption) | assumption)
   obtain ⟨ad250, e250, hx250_0⟩ := Kd.at_string HR0.out x3_1 p250 q250
   have hw250_0 := hx250_0
   obtain rfl : ad247 = ad250 := (by injection e250)
   replace hx250_0 := (HB.out.cell (zB w _ hx250_0)).trans hx250_0
   replace p250 := eq_true p250
   replace q250 := eq_true q250
   have p252 : 0 ≤ ((ji7) : Int) := zO (by first | (with_reducible assumption) | assumption)
   have q252 : (ji7) < (l0.length : Int) := zO (by first | (with_reducible assumption) | assumption)
   obtain ⟨ad252, e252, hx252_0⟩ := Kd.at_string HR0.out (ji7) p252 q252
   have hw252_0 := hx252_0
   obtain rfl : ad247 = ad252 := (by injection e252)
   replace hx252_0 := (HB.out.cell (zB w _ hx252_0)).trans hx252_0
   replace p252 := eq_true p252
   replace q252 := eq_true q252
   have p253 : 0 ≤ (x3_1 : Int) := zO (by first | (with_reducible assumption) | assumption)
   have q253 : x3_1 < (l0.length : Int) := zO (by first | (with_reducible assumption) | assumption)
   obtain ⟨ad253, e253, hx253_0⟩ := Kd.at_string HR0.out x3_1 p253 q253
   have hw253_0 := hx253_0
   obtain rfl : ad247 = ad253 := (by injection e253)
   replace hx253_0 := (HB.out.cell (zB w _ hx253_0)).trans hx253_0
   replace p253 := eq_true p253
   replace q253 := eq_true q253
   refine start_ (n := 35) (S := fun w' => w'.cell? (ad247.add (x3_1).toNat) = some (.string (rdOf ByteArray.empty l0 x3_1)) ∧ w'.cell? (ad247.add ((ji7)).toNat) = some (.string (rdOf ByteArray.empty l0 (ji7))) ∧ w'.cell? (ad247.add (x3_1).toNat) = some (.string (rdOf ByteArray.empty l0 x3_1)) ∧ w'.cell? (ad247.add ((ji7)).toNat) = some (.string (rdOf ByteArray.empty l0 (ji7))) ∧ w'.cell? (ad247.add (x3_1).toNat) = some (.string (rdOf ByteArray.empty l0 x3_1))) (ds := []) #[F, F, F, F, F, F, F, F, F, F, F, F, F, F, F, F, F, F, F, F, F, F, F, F, F, F, F, F, F, F, F, F, F, F, F] (by kernel_rfl) rfl rfl ⟨((HB.out.cell (zB w _ hw247_0)).trans hw247_0), ((HB.out.cell (zB w _ hw249_0)).trans hw249_0), ((HB.out.cell (zB w _ hw250_0)).trans hw250_0), ((HB.out.cell (zB w _ hw252_0)).trans hw252_0), ((HB.out.cell (zB w _ hw253_0)).trans hw253_0)⟩ (fun hHeld => ?_); refine with_tabW copseref16_Cones.tab4 copseref16_Cones.bits4 (fun HT_ HW_ => ?_)
   generalize wr.drew = w21 at HB hx247_0 hx249_0 hx250_0 hx252_0 hx253_0 hHeld ⊢
   refine pure_ (i := 0) (N := some 10) (v := ?_) (a' := ?_) #[T, F, F, F, F, F, F, F, F, F, F, F, F, F, F, F, F, F, F, F, F, F, F, F, F, F, F, F, F, F, F, F, F, F, F] rfl rfl (any_of HT_.out (by kernel_rfl)) (fun _ _ _ h => h) (Or.inl ⟨by rfl, ?_⟩) ?_ ?_
   rotate_left
   ·intro w'; go_simp; with_reducible rfl
   rotate_left
   ·simp only [Act.put, zS, zZ, zC, i64_w, i32_w]
    rfl
   refine pure_ (i := 1) (N := some 11) (v := ?_) (a' := ?_) #[T, T, F, F, F, F, F, F, F, F, F, F, F, F, F, F, F, F, F, F, F, F, F, F, F, F, F, F, F, F, F, F, F, F, F] rfl rfl (any_of HT_.out (by kernel_rfl)) (fun _ _ _ h => h) (Or.inl ⟨by rfl, ?_⟩) ?_ ?_
   rotate_left
   ·intro w'; go_simp; with_reducible rfl
   rotate_left
   ·simp only [Act.put, zS, zZ, zC, i64_w, i32_w]
    rfl
   refine pure_ (i := 2) (N := some 12) (v := ?_) (a' := ?_) #[T, T, T, F, F, F, F, F, F, F, F, F, F, F, F, F, F, F, F, F, F, F, F, F, F, F, F, F, F, F, F, F, F, F, F] rfl rfl (any_of HT_.out (by kernel_rfl)) (fun _ _ _ h => h) (Or.inl ⟨by rfl, ?_⟩) ?_ ?_
   rotate_left
   ·intro w'; go_simp; with_reducible rfl
   rotate_left
   ·simp only [Act.put, zS, zZ, zC, i64_w, i32_w]
    rfl
   refine take_ (i := 3) (N := some 13) (v := ?_) (a' := ?_) #[T, T, T, T, F, F, F, F, F, F, F, F, F, F, F, F, F, F, F, F, F, F, F, F, F, F, F, F, F, F, F, F, F, F, F] rfl rfl (take_ofW HT_.out HW_.out (by kernel_rfl)) (fun _ _ _ h => h) (Or.inl ⟨by rfl, ?_⟩) hHeld ?_ ?_
   rotate_left
   ·rintro w' ⟨s0, s1, s2, s3, s4⟩
    go_simp; with_reducible rfl
   rotate_left
   ·simp only [Act.put, zS, zZ, zC, i64_w, i32_w]
    rfl
   refine one_ (i := 4) (N := some 14) #[T, T, T, T, T, F, F, F, F, F, F, F, F, F, F, F, F, F, F, F, F, F, F, F, F, F, F, F, F, F, F, F, F, F, F] rfl rfl (one_of HT_.out (by kernel_rfl)) (by decide) (fun K hK => ?_)
   refine goes_ Tryd.func30 (by kernel_rfl) rfl #[.string (rdOf ByteArray.empty l0 x3_1)] (by rfl) rfl rfl (by (try simp only [List.map_toArray, List.map_cons, List.map_nil]); first | done | rfl | (simp only [List.length_drop, List.length_take]; rfl)) ?_
   with_reducible refine (copseref02_Valid.calls k1 (rdOf ByteArray.empty l0 x3_1) true _ A4.out).mono ?_
   rintro e w22 ⟨rfl, hb⟩
   refine ⟨_, rfl, ?_⟩
   have n0_ := zA (below_step (by repeat (first | (with_reducible first | exact HB.out | apply zL | apply zN | apply zD) | exact HB.out)) hb)
   clear HB; have HB := n0_; clear n0_
   (try clear hb)
   (try clear hb2)
   (try clear hk)
   (try clear hi)
   refine hK.out _ _ ⟨((HB.out.cell (zB w _ hw247_0)).trans hw247_0), ((HB.out.cell (zB w _ hw249_0)).trans hw249_0), ((HB.out.cell (zB w _ hw250_0)).trans hw250_0), ((HB.out.cell (zB w _ hw252_0)).trans hw252_0), ((HB.out.cell (zB w _ hw253_0)).trans hw253_0)⟩ (fun hHeld => ?_)
   clear hK K
   refine norm_ (a' := ?_) ?_ ?_
   rotate_left
   ·show Act.put _ (some 14) _ = _
    simp only [Act.put, zS, zZ, zC, i64_w, i32_w]
    rfl
   refine pure_ (i := 5) (N := some 15) (v := ?_) (a' := ?_) #[T, T, T, T, T, T, F, F, F, F, F, F, F, F, F, F, F, F, F, F, F, F, F, F, F, F, F, F, F, F, F, F, F, F, F] rfl rfl (any_of HT_.out (by kernel_rfl)) (fun _ _ _ h => h) (Or.inl ⟨by rfl, ?_⟩) ?_ ?_
   rotate_left
   ·intro w'; go_simp; with_reducible rfl
   rotate_left
   ·simp only [Act.put, zS, zZ, zC, i64_w, i32_w]
    rfl
   refine pure_ (i := 6) (N := some 16) (v := ?_) (a' := ?_) #[T, T, T, T, T, T, T, F, F, F, F, F, F, F, F, F, F, F, F, F, F, F, F, F, F, F, F, F, F, F, F, F, F, F, F] rfl rfl (any_of HT_.out (by kernel_rfl)) (fun _ _ _ h => h) (Or.inl ⟨by rfl, ?_⟩) ?_ ?_
   rotate_left
   ·intro w'; go_simp; with_reducible rfl
   rotate_left
   ·simp only [Act.put, zS, zZ, zC, i64_w, i32_w]
    rfl
   refine pure_ (i := 7) (N := some 17) (v := ?_) (a' := ?_) #[T, T, T, T, T, T, T, T, F, F, F, F, F, F, F, F, F, F, F, F, F, F, F, F, F, F, F, F, F, F, F, F, F, F, F] rfl rfl (any_of HT_.out (by kernel_rfl)) (fun _ _ _ h => h) (Or.inl ⟨by rfl, ?_⟩) ?_ ?_
   rotate_left
   ·intro w'; go_simp; with_reducible rfl
   rotate_left
   ·simp only [Act.put, zS, zZ, zC, i64_w, i32_w]
    rfl
   refine pure_ (i := 8) (N := some 18) (v := ?_) (a' := ?_) #[T, T, T, T, T, T, T, T, T, F, F, F, F, F, F, F, F, F, F, F, F, F, F, F, F, F, F, F, F, F, F, F, F, F, F] rfl rfl (any_of HT_.out (by kernel_rfl)) (fun _ _ _ h => h) (Or.inl ⟨by rfl, ?_⟩) ?_ ?_
   rotate_left
   ·intro w'; go_simp; with_reducible rfl
   rotate_left
   ·simp only [Act.put, zS, zZ, zC, i64_w, i32_w]
    rfl
   refine pure_ (i := 9) (N := some 19) (v := ?_) (a' := ?_) #[T, T, T, T, T, T, T, T, T, T, F, F, F, F, F, F, F, F, F, F, F, F, F, F, F, F, F, F, F, F, F, F, F, F, F] rfl rfl (any_of HT_.out (by kernel_rfl)) (fun _ _ _ h => h) (Or.inl ⟨by rfl, ?_⟩) ?_ ?_
   rotate_left
   ·intro w'; go_simp; with_reducible rfl
   rotate_left
   ·simp only [Act.put, zS, zZ, zC, i64_w, i32_w]
    rfl
   refine pure_ (i := 10) (N := some 20) (v := ?_) (a' := ?_) #[T, T, T, T, T, T, T, T, T, T, T, F, F, F, F, F, F, F, F, F, F, F, F, F, F, F, F, F, F, F, F, F, F, F, F] rfl rfl (any_of HT_.out (by kernel_rfl)) (fun _ _ _ h => h) (Or.inl ⟨by rfl, ?_⟩) ?_ ?_
   rotate_left
   ·intro w'; go_simp; with_reducible rfl
   rotate_left
   ·simp only [Act.put, zS, zZ, zC, i64_w, i32_w]
    rfl
   refine pure_ (i := 11) (N := some 21) (v := ?_) (a' := ?_) #[T, T, T, T, T, T, T, T, T, T, T, T, F, F, F, F, F, F, F, F, F, F, F, F, F, F, F, F, F, F, F, F, F, F, F] rfl rfl (any_of HT_.out (by kernel_rfl)) (fun _ _ _ h => h) (Or.inl ⟨by rfl, ?_⟩) ?_ ?_
   rotate_left
   ·intro w'; go_simp; with_reducible rfl
   rotate_left
   ·simp only [Act.put, zS, zZ, zC, i64_w, i32_w]
    rfl
   refine pure_ (i := 12) (N := some 22) (v := ?_) (a' := ?_) #[T, T, T, T, T, T, T, T, T, T, T, T, T, F, F, F, F, F, F, F, F, F, F, F, F, F, F, F, F, F, F, F, F, F, F] rfl rfl (any_of HT_.out (by kernel_rfl)) (fun _ _ _ h => h) (Or.inl ⟨by rfl, ?_⟩) ?_ ?_
   rotate_left
   ·intro w'; go_simp; with_reducible rfl
   rotate_left
   ·simp only [Act.put, zS, zZ, zC, i64_w, i32_w]
    rfl
   refine pure_ (i := 13) (N := some 23) (v := ?_) (a' := ?_) #[T, T, T, T, T, T, T, T, T, T, T, T, T, T, F, F, F, F, F, F, F, F, F, F, F, F, F, F, F, F, F, F, F, F, F] rfl rfl (any_of HT_.out (by kernel_rfl)) (fun _ _ _ h => h) (Or.inl ⟨by rfl, ?_⟩) ?_ ?_
   rotate_left
   ·intro w'; go_simp; with_reducible rfl
   rotate_left
   ·simp only [Act.put, zS, zZ, zC, i64_w, i32_w]
    rfl
   refine pure_ (i := 15) (N := some 25) (v := ?_) (a' := ?_) #[T, T, T, T, T, T, T, T, T, T, T, T, T, T, F, T, F, F, F, F, F, F, F, F, F, F, F, F, F, F, F, F, F, F, F] rfl rfl (any_of HT_.out (by kernel_rfl)) (fun _ _ _ h => h) (Or.inl ⟨by rfl, ?_⟩) ?_ ?_
   rotate_left
   ·intro w'; go_simp; with_reducible rfl
   rotate_left
   ·simp only [Act.put, zS, zZ, zC, i64_w, i32_w]
    rfl
   refine pure_ (i := 16) (N := some 26) (v := ?_) (a' := ?_) #[T, T, T, T, T, T, T, T, T, T, T, T, T, T, F, T, T, F, F, F, F, F, F, F, F, F, F, F, F, F, F, F, F, F, F] rfl rfl (any_of HT_.out (by kernel_rfl)) (fun _ _ _ h => h) (Or.inl ⟨by rfl, ?_⟩) ?_ ?_
   rotate_left
   ·intro w'; go_simp; with_reducible rfl
   rotate_left
   ·simp only [Act.put, zS, zZ, zC, i64_w, i32_w]
    rfl
   refine pure_ (i := 17) (N := some 27) (v := ?_) (a' := ?_) #[T, T, T, T, T, T, T, T, T, T, T, T, T, T, F, T, T, T, F, F, F, F, F, F, F, F, F, F, F, F, F, F, F, F, F] rfl rfl (any_of HT_.out (by kernel_rfl)) (fun _ _ _ h => h) (Or.inl ⟨by rfl, ?_⟩) ?_ ?_
   rotate_left
   ·intro w'; go_simp; with_reducible rfl
   rotate_left
   ·simp only [Act.put, zS, zZ, zC, i64_w, i32_w]
    rfl
   refine take_ (i := 14) (N := some 24) (v := ?_) (a' := ?_) #[T, T, T, T, T, T, T, T, T, T, T, T, T, T, T, T, T, T, F, F, F, F, F, F, F, F, F, F, F, F, F, F, F, F, F] rfl rfl (take_ofW HT_.out HW_.out (by kernel_rfl)) (fun _ _ _ h => h) (Or.inl ⟨by rfl, ?_⟩) hHeld ?_ ?_
   rotate_left
   ·rintro w' ⟨s0, s1, s2, s3, s4⟩
    go_simp; with_reducible rfl
   rotate_left
   ·simp only [Act.put, zS, zZ, zC, i64_w, i32_w]
    rfl
   refine take_ (i := 18) (N := some 28) (v := ?_) (a' := ?_) #[T, T, T, T, T, T, T, T, T, T, T, T, T, T, T, T, T, T, T, F, F, F, F, F, F, F, F, F, F, F, F, F, F, F, F] rfl rfl (take_ofW HT_.out HW_.out (by kernel_rfl)) (fun _ _ _ h => h) (Or.inl ⟨by rfl, ?_⟩) hHeld ?_ ?_
   rotate_left
   ·rintro w' ⟨s0, s1, s2, s3, s4⟩
    go_simp; with_reducible rfl
   rotate_left
   ·simp only [Act.put, zS, zZ, zC, i64_w, i32_w]
    rfl
   refine one_ (i := 19) (N := some 29) #[T, T, T, T, T, T, T, T, T, T, T, T, T, T, T, T, T, T, T, T, F, F, F, F, F, F, F, F, F, F, F, F, F, F, F] rfl rfl (one_of HT_.out (by kernel_rfl)) (by decide) (fun K hK => ?_)
   refine goes_ Tryd.func35 (by kernel_rfl) rfl #[.string (rdOf ByteArray.empty l0 (ji7)), .string (rdOf ByteArray.empty l0 x3_1)] (by rfl) rfl rfl (by (try simp only [List.map_toArray, List.map_cons, List.map_nil]); first | done | (simp only [hji7]; rfl) | rfl | (simp only [List.length_drop, List.length_take]; rfl)) ?_
   with_reducible refine (copseref02_Cmp.calls k1 (rdOf ByteArray.empty l0 (ji7)) (rdOf ByteArray.empty l0 x3_1) t251 _ A10.out).mono ?_
   rintro e w23 ⟨rfl, hb⟩
   refine ⟨_, rfl, ?_⟩
   have n0_ := zA (below_step (by repeat (first | (with_reducible first | exact HB.out | apply zL | apply zN | apply zD) | exact HB.out)) hb)
   clear HB; have HB := n0_; clear n0_
   (try clear hb)
   (try clear hb2)
   (try clear hk)
   (try clear hi)
   refine hK.out _ _ ⟨((HB.out.cell (zB w _ hw247_0)).trans hw247_0), ((HB.out.cell (zB w _ hw249_0)).trans hw249_0), ((HB.out.cell (zB w _ hw250_0)).trans hw250_0), ((HB.out.cell (zB w _ hw252_0)).trans hw252_0), ((HB.out.cell (zB w _ hw253_0)).trans hw253_0)⟩ (fun hHeld => ?_)
   clear hK K
   refine norm_ (a' := ?_) ?_ ?_
   rotate_left
   ·show Act.put _ (some 29) _ = _
    simp only [Act.put, zS, zZ, zC, i64_w, i32_w]
    rfl
   refine pure_ (i := 20) (N := some 30) (v := ?_) (a' := ?_) #[T, T, T, T, T, T, T, T, T, T, T, T, T, T, T, T, T, T, T, T, T, F, F, F, F, F, F, F, F, F, F, F, F, F, F] rfl rfl (any_of HT_.out (by kernel_rfl)) (fun _ _ _ h => h) (Or.inl ⟨by rfl, ?_⟩) ?_ ?_
   rotate_left
   ·intro w'; go_simp; with_reducible rfl
   rotate_left
   ·simp only [Act.put, zS, zZ, zC, i64_w, i32_w]
    rfl
   refine pure_ (i := 21) (N := some 31) (v := ?_) (a' := ?_) #[T, T, T, T, T, T, T, T, T, T, T, T, T, T, T, T, T, T, T, T, T, T, F, F, F, F, F, F, F, F, F, F, F, F, F] rfl rfl (any_of HT_.out (by kernel_rfl)) (fun _ _ _ h => h) (Or.inl ⟨by rfl, ?_⟩) ?_ ?_
   rotate_left
   ·intro w'; go_simp; with_reducible rfl
   rotate_left
   ·simp only [Act.put, zS, zZ, zC, i64_w, i32_w]
    rfl
   refine pure_ (i := 22) (N := some 32) (v := ?_) (a' := ?_) #[T, T, T, T, T, T, T, T, T, T, T, T, T, T, T, T, T, T, T, T, T, T, T, F, F, F, F, F, F, F, F, F, F, F, F] rfl rfl (any_of HT_.out (by kernel_rfl)) (fun _ _ _ h => h) (Or.inl ⟨by rfl, ?_⟩) ?_ ?_
   rotate_left
   ·intro w'; go_simp; with_reducible rfl
   rotate_left
   ·simp only [Act.put, zS, zZ, zC, i64_w, i32_w]
    rfl
   refine pure_ (i := 23) (N := some 33) (v := ?_) (a' := ?_) #[T, T, T, T, T, T, T, T, T, T, T, T, T, T, T, T, T, T, T, T, T, T, T, T, F, F, F, F, F, F, F, F, F, F, F] rfl rfl (any_of HT_.out (by kernel_rfl)) (fun _ _ _ h => h) (Or.inl ⟨by rfl, ?_⟩) ?_ ?_
   rotate_left
   ·intro w'; go_simp; with_reducible rfl
   rotate_left
   ·simp only [Act.put, zS, zZ, zC, i64_w, i32_w]
    rfl
   refine pure_ (i := 24) (N := some 34) (v := ?_) (a' := ?_) #[T, T, T, T, T, T, T, T, T, T, T, T, T, T, T, T, T, T, T, T, T, T, T, T, T, F, F, F, F, F, F, F, F, F, F] rfl rfl (any_of HT_.out (by kernel_rfl)) (fun _ _ _ h => h) (Or.inl ⟨by rfl, ?_⟩) ?_ ?_
   rotate_left
   ·intro w'; go_simp; with_reducible rfl
   rotate_left
   ·simp only [Act.put, zS, zZ, zC, i64_w, i32_w]
    rfl
   refine pure_ (i := 25) (N := some 35) (v := ?_) (a' := ?_) #[T, T, T, T, T, T, T, T, T, T, T, T, T, T, T, T, T, T, T, T, T, T, T, T, T, T, F, F, F, F, F, F, F, F, F] rfl rfl (any_of HT_.out (by kernel_rfl)) (fun _ _ _ h => h) (Or.inl ⟨by rfl, ?_⟩) ?_ ?_
   rotate_left
   ·intro w'; go_simp; with_reducible rfl
   rotate_left
   ·simp only [Act.put, zS, zZ, zC, i64_w, i32_w]
    rfl
   refine pure_ (i := 27) (N := some 37) (v := ?_) (a' := ?_) #[T, T, T, T, T, T, T, T, T, T, T, T, T, T, T, T, T, T, T, T, T, T, T, T, T, T, F, T, F, F, F, F, F, F, F] rfl rfl (any_of HT_.out (by kernel_rfl)) (fun _ _ _ h => h) (Or.inl ⟨by rfl, ?_⟩) ?_ ?_
   rotate_left
   ·intro w'; go_simp; with_reducible rfl
   rotate_left
   ·simp only [Act.put, zS, zZ, zC, i64_w, i32_w]
    rfl
   refine pure_ (i := 28) (N := some 38) (v := ?_) (a' := ?_) #[T, T, T, T, T, T, T, T, T, T, T, T, T, T, T, T, T, T, T, T, T, T, T, T, T, T, F, T, T, F, F, F, F, F, F] rfl rfl (any_of HT_.out (by kernel_rfl)) (fun _ _ _ h => h) (Or.inl ⟨by rfl, ?_⟩) ?_ ?_
   rotate_left
   ·intro w'; go_simp; with_reducible rfl
   rotate_left
   ·simp only [Act.put, zS, zZ, zC, i64_w, i32_w]
    rfl
   refine pure_ (i := 29) (N := some 39) (v := ?_) (a' := ?_) #[T, T, T, T, T, T, T, T, T, T, T, T, T, T, T, T, T, T, T, T, T, T, T, T, T, T, F, T, T, T, F, F, F, F, F] rfl rfl (any_of HT_.out (by kernel_rfl)) (fun _ _ _ h => h) (Or.inl ⟨by rfl, ?_⟩) ?_ ?_
   rotate_left
   ·intro w'; go_simp; with_reducible rfl
   rotate_left
   ·simp only [Act.put, zS, zZ, zC, i64_w, i32_w]
    rfl
   refine take_ (i := 26) (N := some 36) (v := ?_) (a' := ?_) #[T, T, T, T, T, T, T, T, T, T, T, T, T, T, T, T, T, T, T, T, T, T, T, T, T, T, T, T, T, T, F, F, F, F, F] rfl rfl (take_ofW HT_.out HW_.out (by kernel_rfl)) (fun _ _ _ h => h) (Or.inl ⟨by rfl, ?_⟩) hHeld ?_ ?_
   rotate_left
   ·rintro w' ⟨s0, s1, s2, s3, s4⟩
    go_simp; with_reducible rfl
   rotate_left
   ·simp only [Act.put, zS, zZ, zC, i64_w, i32_w]
    rfl
   refine take_ (i := 30) (N := some 40) (v := ?_) (a' := ?_) #[T, T, T, T, T, T, T, T, T, T, T, T, T, T, T, T, T, T, T, T, T, T, T, T, T, T, T, T, T, T, T, F, F, F, F] rfl rfl (take_ofW HT_.out HW_.out (by kernel_rfl)) (fun _ _ _ h => h) (Or.inl ⟨by rfl, ?_⟩) hHeld ?_ ?_
   rotate_left
   ·rintro w' ⟨s0, s1, s2, s3, s4⟩
    go_simp; with_reducible rfl
   rotate_left
   ·simp only [Act.put, zS, zZ, zC, i64_w, i32_w]
    rfl
   refine one_ (i := 31) (N := some 41) #[T, T, T, T, T, T, T, T, T, T, T, T, T, T, T, T, T, T, T, T, T, T, T, T, T, T, T, T, T, T, T, T, F, F, F] rfl rfl (one_of HT_.out (by kernel_rfl)) (by decide) (fun K hK => ?_)
   refine goes_ Tryd.func31 (by kernel_rfl) rfl #[.string (rdOf ByteArray.empty l0 (ji7)), .string (rdOf ByteArray.empty l0 x3_1)] (by rfl) rfl rfl (by (try simp only [List.map_toArray, List.map_cons, List.map_nil]); first | done | (simp only [hji7]; rfl) | rfl | (simp only [List.length_drop, List.length_take]; rfl)) ?_
   with_reducible refine (copseref02_Above.calls k1 (rdOf ByteArray.empty l0 (ji7)) (rdOf ByteArray.empty l0 x3_1) false _ A15.out).mono ?_
   rintro e w24 ⟨rfl, hb⟩
   refine ⟨_, rfl, ?_⟩
   have n0_ := zA (below_step (by repeat (first | (with_reducible first | exact HB.out | apply zL | apply zN | apply zD) | exact HB.out)) hb)
   clear HB; have HB := n0_; clear n0_
   (try clear hb)
   (try clear hb2)
   (try clear hk)
   (try clear hi)
   refine hK.out _ _ ⟨((HB.out.cell (zB w _ hw247_0)).trans hw247_0), ((HB.out.cell (zB w _ hw249_0)).trans hw249_0), ((HB.out.cell (zB w _ hw250_0)).trans hw250_0), ((HB.out.cell (zB w _ hw252_0)).trans hw252_0), ((HB.out.cell (zB w _ hw253_0)).trans hw253_0)⟩ (fun hHeld => ?_)
   clear hK K
   refine norm_ (a' := ?_) ?_ ?_
   rotate_left
   ·show Act.put _ (some 41) _ = _
    simp only [Act.put, zS, zZ, zC, i64_w, i32_w]
    rfl
   refine pure_ (i := 32) (N := some 42) (v := ?_) (a' := ?_) #[T, T, T, T, T, T, T, T, T, T, T, T, T, T, T, T, T, T, T, T, T, T, T, T, T, T, T, T, T, T, T, T, T, F, F] rfl rfl (any_of HT_.out (by kernel_rfl)) (fun _ _ _ h => h) (Or.inl ⟨by rfl, ?_⟩) ?_ ?_
   rotate_left
   ·intro w'; go_simp; with_reducible rfl
   rotate_left
   ·simp only [Act.put, zS, zZ, zC, i64_w, i32_w]
    rfl
   refine pure_ (i := 33) (N := some 43) (v := ?_) (a' := ?_) #[T, T, T, T, T, T, T, T, T, T, T, T, T, T, T, T, T, T, T, T, T, T, T, T, T, T, T, T, T, T, T, T, T, T, F] rfl rfl (any_of HT_.out (by kernel_rfl)) (fun _ _ _ h => h) (Or.inl ⟨by rfl, ?_⟩) ?_ ?_
   rotate_left
   ·intro w'; go_simp; with_reducible rfl
   rotate_left
   ·simp only [Act.put, zS, zZ, zC, i64_w, i32_w]
    rfl
   refine pure_ (i := 34) (N := some 44) (v := ?_) (a' := ?_) #[T, T, T, T, T, T, T, T, T, T, T, T, T, T, T, T, T, T, T, T, T, T, T, T, T, T, T, T, T, T, T, T, T, T, T] rfl rfl (any_of HT_.out (by kernel_rfl)) (fun _ _ _ h => h) (Or.inl ⟨by rfl, ?_⟩) ?_ ?_
   rotate_left
   ·intro w'; go_simp; with_reducible rfl
   rotate_left
   ·simp only [Act.put, zS, zZ, zC, i64_w, i32_w]
    rfl
   refine done_ (done_of HT_.out (by kernel_rfl)) ?_
   try go_wp2
   go_roundg k1
   case measure => have := HK1.out; omega
   case rel => exact ⟨(wrap64 (x3_1 + 1)), (by first | rfl | (simp; done) | (simp [*]; done)), H', ⟨by have := HK1.out; omega⟩, ⟨by repeat (first | (with_reducible first | exact HB.out | apply zL | apply zN | apply zD) | exact HB.out)⟩⟩
def copseref02_last.l0 : Nat → ByteArray → Int → Int → Option (Int)
 | 0, _, _, _ => none
 | k + 1, x0, x3, x4 => if x4 < (x0.size : Int) then (if 0 ≤ x4 then (if (bt x0 x4) = 47 then (copseref02_last.l0 k x0 x4 (wrap64 (x4 + 1))) else (copseref02_last.l0 k x0 x3 (wrap64 (x4 + 1)))) else (none)) else (some x3)
def copseref02_last.f (k : Nat) (a0 : ByteArray) : Option (Int) := copseref02_last.l0 k a0 (-1) 0
def copseref02_Base.f (k : Nat) (a0 : ByteArray) : Option (ByteArray) := (copseref02_last.f k a0).bind fun t255 => (if 0 ≤ (wrap64 (t255 + 1)) then (if (wrap64 (t255 + 1)) ≤ (a0.size : Int) then (some (a0.extract ((wrap64 (t255 + 1)) : Int).toNat a0.size)) else (none)) else (none))
mutual
def copseref04_File.j0 : Nat → Bool → ByteArray → ByteArray → Int → Int → Option (Int)
 | 0, _, _, _, _, _ => none
 | k + 1, x11, x257000, x257001, x257002, x257003 => if x11 = true then (some 7) else ((copseref02_Base.f k x257000).bind fun t258 => (if t258.toList = ([84, 65, 82, 71, 69, 84, 83] : List UInt8) then (if x257002 = 0 then (copseref04_File.j1 k (x257003 != (x257001.size : Int))) else (copseref04_File.j1 k true)) else (if x257001.toList = ([] : List UInt8) then (if x257002 < 0 then (some 8) else (if x257002 > 1152921504606846976 then (some 8) else (if x257003 < 0 then (some 8) else (if x257003 > 4611686018427387904 then (some 8) else (some 0))))) else (some 8))))
def copseref04_File.j1 : Nat → Bool → Option (Int)
 | 0, _ => none
 | k + 1, x26 => if x26 = true then (some 8) else (some 0)
end
def copseref04_File.f (k : Nat) (a0_0 : ByteArray) (a0_1 : ByteArray) (a0_2 : Int) (a0_3 : Int) : Option (Int) := (copseref02_Valid.f k a0_0).bind fun t257 => (if t257 = true then (copseref04_File.j0 k (a0_0.toList == ([] : List UInt8)) a0_0 a0_1 a0_2 a0_3) else (copseref04_File.j0 k true a0_0 a0_1 a0_2 a0_3))
mutual
def copseref04_Valid.l0 : Nat → List (S45) → Int → Option (Int)
 | 0, _, _ => none
 | k + 1, x0, x3 => if x3 < (x0.length : Int) then (if 0 ≤ x3 then ((copseref04_File.f k ((rd_T45 x0 x3).f0) ((rd_T45 x0 x3).f1) ((rd_T45 x0 x3).f2) ((rd_T45 x0 x3).f3)).bind fun t260 => (if t260 = 7 then (some 7) else (copseref04_Valid.l0 k x0 (wrap64 (x3 + 1))))) else (none)) else (if (x0.length : Int) > 512 then (some 8) else (copseref04_Valid.l1 k x0 0))
def copseref04_Valid.l1 : Nat → List (S45) → Int → Option (Int)
 | 0, _, _ => none
 | k + 1, x0, x4 => if x4 < (x0.length : Int) then (if 0 ≤ x4 then ((copseref04_File.f k ((rd_T45 x0 x4).f0) ((rd_T45 x0 x4).f1) ((rd_T45 x0 x4).f2) ((rd_T45 x0 x4).f3)).bind fun t262 => (if t262 = 0 then (if x4 > 0 then (if 0 ≤ (wrap64 (x4 - 1)) then (if (wrap64 (x4 - 1)) < (x0.length : Int) then ((copseref02_Cmp.f k ((rd_T45 x0 (wrap64 (x4 - 1))).f0) ((rd_T45 x0 x4).f0)).bind fun t265 => (if t265 ≥ 0 then (some 8) else (copseref04_Valid.l1 k x0 (wrap64 (x4 + 1))))) else (none)) else (none)) else (copseref04_Valid.l1 k x0 (wrap64 (x4 + 1)))) else (some 8))) else (none)) else (copseref04_Valid.l2 k x0 0)
def copseref04_Valid.l2 : Nat → List (S45) → Int → Option (Int)
 | 0, _, _ => none
 | k + 1, x0, x5 => if (wrap64 (x5 + 1)) < (x0.length : Int) then (if 0 ≤ x5 then (if x5 < (x0.length : Int) then (if 0 ≤ (wrap64 (x5 + 1)) then ((copseref02_Above.f k ((rd_T45 x0 x5).f0) ((rd_T45 x0 (wrap64 (x5 + 1))).f0)).bind fun t268 => (if t268 = true then (some 8) else (copseref04_Valid.l2 k x0 (wrap64 (x5 + 1))))) else (none)) else (none)) else (none)) else (some 0)
end
def copseref04_Valid.f (k : Nat) (l0 : List (S45)) : Option (Int) := copseref04_Valid.l0 k l0 0
def copseref16_looked.f (k : Nat) (l0 : List (S45)) (l1 : List ByteArray) : Option (Int) := (copseref04_Valid.f k l0).bind fun t269 => (if t269 = 0 then ((copseref16_Cones.f k l1).bind fun t270 => (if t270 = true then (some t269) else (some 13))) else (some t269))
def copseref02_Dir.f (k : Nat) (a0 : ByteArray) : Option (ByteArray) := (copseref02_last.f k a0).bind fun t271 => (if t271 < 0 then (some (⟨#[]⟩ : ByteArray)) else (if 0 ≤ t271 then (if t271 ≤ (a0.size : Int) then (some (a0.extract 0 (t271 : Int).toNat)) else (none)) else (none)))
def copseref16_shown.l0 : Nat → List ByteArray → ByteArray → Int → Option (Bool)
 | 0, _, _, _ => none
 | k + 1, x0, x5, x6 => if x6 < (x0.length : Int) then (if 0 ≤ x6 then (if x5.toList = (rdOf ByteArray.empty x0 x6).toList then (some true) else ((copseref02_Above.f k (rdOf ByteArray.empty x0 x6) x5).bind fun t275 => (if t275 = true then (some true) else ((copseref02_Above.f k x5 (rdOf ByteArray.empty x0 x6)).bind fun t277 => (if t277 = true then (some true) else (copseref16_shown.l0 k x0 x5 (wrap64 (x6 + 1)))))))) else (none)) else (some (x5.toList == ([] : List UInt8)))
def copseref16_shown.f (k : Nat) (l0 : List ByteArray) (a1 : ByteArray) : Option (Bool) := (copseref02_Dir.f k a1).bind fun t272 => (copseref16_shown.l0 k l0 t272 0)
def copseref16_cost.l0 : Nat → List (S45) → List ByteArray → Int → Int → Option (Int)
 | 0, _, _, _, _ => none
 | k + 1, x0, x1, x5, x6 => if x6 < (x0.length : Int) then (if 0 ≤ x6 then ((copseref16_shown.f k x1 ((rd_T45 x0 x6).f0)).bind fun t279 => (if t279 = true then (if x5 > (wrap64 (9223372036854775807 - ((rd_T45 x0 x6).f3))) then (some 9223372036854775807) else (copseref16_cost.l0 k x0 x1 (wrap64 (x5 + ((rd_T45 x0 x6).f3))) (wrap64 (x6 + 1)))) else (copseref16_cost.l0 k x0 x1 x5 (wrap64 (x6 + 1))))) else (none)) else (some x5)
def copseref16_cost.f (k : Nat) (l0 : List (S45)) (l1 : List ByteArray) : Option (Int) := copseref16_cost.l0 k l0 l1 0 0
def copseref16_Cost.f (k : Nat) (l0 : List (S45)) (l1 : List ByteArray) : Option (Int × Int) := (copseref16_looked.f k l0 l1).bind fun t282 => (if t282 = 0 then ((copseref16_cost.f k l0 l1).bind fun t283 => (some (t283, 0))) else (some (0, t282)))
mutual
def copseref16_At.l0 : Nat → List ByteArray → ByteArray → List ByteArray → Bool → Int → Option (List ByteArray × Int)
 | 0, _, _, _, _, _ => none
 | k + 1, x0, x1, x6, x7, x8 => if x8 < (x0.length : Int) then (if 0 ≤ x8 then (if (rdOf ByteArray.empty x0 x8).toList = x1.toList then (copseref16_At.j1 k x0 x1 x6 x7 x8 false) else ((copseref02_Above.f k x1 (rdOf ByteArray.empty x0 x8)).bind fun t288 => (copseref16_At.j1 k x0 x1 x6 x7 x8 (!t288)))) else (none)) else (some (x6, 0))
def copseref16_At.j1 : Nat → List ByteArray → ByteArray → List ByteArray → Bool → Int → Bool → Option (List ByteArray × Int)
 | 0, _, _, _, _, _, _ => none
 | k + 1, x0, x1, x6, x7, x8, x35 => if x35 = true then (if 0 ≤ x8 then (if x8 < (x0.length : Int) then (if x6.length < 8796093022208 then (copseref16_At.l0 k x0 x1 (x6 ++ [rdOf ByteArray.empty x0 x8]) x7 (wrap64 (x8 + 1))) else (none)) else (none)) else (none)) else (if x7 = true then (copseref16_At.l0 k x0 x1 x6 true (wrap64 (x8 + 1))) else (if x6.length < 8796093022208 then (copseref16_At.l0 k x0 x1 (x6 ++ [x1]) true (wrap64 (x8 + 1))) else (none)))
end
def copseref16_At.f (k : Nat) (l0 : List ByteArray) (a1 : ByteArray) : Option (List ByteArray × Int) := (copseref16_Cones.f k l0).bind fun t284 => (if t284 = true then ((copseref02_Valid.f k a1).bind fun t285 => (if t285 = true then (copseref16_At.l0 k l0 a1 ([] : List ByteArray) false 0) else (some (([] : List ByteArray), 7)))) else (some (([] : List ByteArray), 13)))
def copseref02_text.l0 : Nat → List ByteArray → ByteArray → Int → Option (ByteArray)
 | 0, _, _, _ => none
 | k + 1, x0, x3, x4 => if x4 < (x0.length : Int) then (if x4 > 0 then (if x3.size + 1 ≤ 9223372036854775807 then (if 0 ≤ x4 then (if (x3 ++ (⟨#[47]⟩ : ByteArray)).size + (rdOf ByteArray.empty x0 x4).size ≤ 9223372036854775807 then (copseref02_text.l0 k x0 ((x3 ++ (⟨#[47]⟩ : ByteArray)) ++ (rdOf ByteArray.empty x0 x4)) (wrap64 (x4 + 1))) else (none)) else (none)) else (none)) else (if 0 ≤ x4 then (if x3.size + (rdOf ByteArray.empty x0 x4).size ≤ 9223372036854775807 then (copseref02_text.l0 k x0 (x3 ++ (rdOf ByteArray.empty x0 x4)) (wrap64 (x4 + 1))) else (none)) else (none))) else (some x3)
def copseref02_text.f (k : Nat) (l0 : List ByteArray) : Option (ByteArray) := copseref02_text.l0 k l0 (⟨#[]⟩ : ByteArray) 0
set_option maxHeartbeats 8000000 in
set_option maxRecDepth 100000 in
theorem copseref02_text.calls (k : Nat) (A0 : Option Addr) (c0 : Nat) (l0 : List ByteArray) (r : ByteArray) (w : World) (hr0 : Kd.C Kd.string w A0 l0.length l0) (hc0 : l0.length ≤ c0) (h : copseref02_text.f k l0 = some r) :
  Calls Tryd.prog 41 #[.slice A0 l0.length c0] w fun e w' => e = .returned (.string r) ∧ Drawn0 w w' := by
 have HR0 := zA hr0; have HC0 := zA hc0; clear hr0 hc0
 have H : (copseref02_text.l0 k l0 (⟨#[]⟩ : ByteArray) 0) = some r := h
 clear h
 have H' := zA H
 clear H
 go_enter Tryd.func41, Tryd.ntmps41
 go_wp2
 go_loopg [3, 4] k (fun kq v3 v4 w' => ∃ (x3_1 : ByteArray) (x4_1 : Int), v3 = .string x3_1 ∧ v4 = .int .i64 x4_1 ∧ Aside0 (copseref02_text.l0 kq l0 x3_1 x4_1 = some r) ∧ Aside0 (kq ≤ k) ∧ Drawn0 w w')
 case atStart => exact ⟨((⟨#[]⟩ : ByteArray)), (0), (by first | rfl | (simp; done) | (simp [*]; done)), (by first | rfl | (simp; done) | (simp [*]; done)), H', ⟨Nat.le_refl _⟩, by repeat (first | exact Drawn0.refl _ | apply Drawn0.step)⟩
 case round =>
  clear H'; obtain ⟨x3_1, x4_1, rfl, rfl, HA, HK1, ⟨m1, rfl⟩⟩ := hrel
  cases gk with
  | zero => exact absurd HA.out (by simp [copseref02_text.l0])
  | succ k1 =>
   have H := HA.out
   clear HA
   simp only [copseref02_text.l0] at H
   by_cases c2 : x4_1 < (l0.length : Int)
   rotate_left
   ·rw [if_neg c2] at H
    have c2b0 : decide (x4_1 < (l0.length : Int)) = false := decide_eq_false c2
    clear c2; obtain rfl := Option.some.inj H; go_wp2; go_ret
    exact ⟨by first | rfl | (simp; done) | (simp [*]; done), by repeat (first | exact Drawn0.refl _ | apply Drawn0.step)⟩
   rw [if_pos c2] at H
   have c2b0 : decide (x4_1 < (l0.length : Int)) = true := decide_eq_true c2
   clear c2
   by_cases c3 : x4_1 > 0
   rotate_left
   ·rw [if_neg c3] at H
    have c3b0 : decide (0 < x4_1) = false := decide_eq_false c3
    clear c3
    by_cases c7 : 0 ≤ x4_1
    rotate_left
    ·rw [if_neg c7] at H
     exact absurd H (by simp)
    rw [if_pos c7] at H
    have c7b0 : decide (0 ≤ x4_1) = true := decide_eq_true c7
    clear c7
    by_cases c8 : x3_1.size + (rdOf ByteArray.empty l0 x4_1).size ≤ 9223372036854775807
    rotate_left
    ·rw [if_neg c8] at H
     exact absurd H (by simp)
    rw [if_pos c8] at H
    have c8b0 := eq_true c8
    have c8b1 : decide (x3_1.size + (rdOf ByteArray.empty l0 x4_1).size ≤ 9223372036854775807) = true := decide_eq_true c8
    try have c8b2 : (9223372036854775807 < x3_1.size + (rdOf ByteArray.empty l0 x4_1).size) = False := eq_false (Nat.not_lt.2 c8)
    have H' := zA H
    clear H
    have p297 : 0 ≤ (x4_1 : Int) := zO (by first | (with_reducible assumption) | assumption)
    have q297 : x4_1 < (l0.length : Int) := zO (by first | (with_reducible assumption) | assumption)
    obtain ⟨ad297, e297, hx297_0⟩ := Kd.at_string HR0.out x4_1 p297 q297
    cases e297
    replace p297 := eq_true p297
    replace q297 := eq_true q297
    go_wp2
    go_roundg k1
    case measure => have := HK1.out; omega
    case rel => exact ⟨(x3_1 ++ (rdOf ByteArray.empty l0 x4_1)), (wrap64 (x4_1 + 1)), (by first | rfl | (simp; done) | (simp [*]; done)), (by first | rfl | (simp; done) | (simp [*]; done)), H', ⟨by have := HK1.out; omega⟩, by repeat (first | exact Drawn0.refl _ | apply Drawn0.step)⟩
   rw [if_pos c3] at H
   have c3b0 : decide (0 < x4_1) = true := decide_eq_true c3
   clear c3
   by_cases c4 : x3_1.size + 1 ≤ 9223372036854775807
   rotate_left
   ·rw [if_neg c4] at H
    exact absurd H (by simp)
   rw [if_pos c4] at H
   have c4b0 := eq_true c4
   have c4b1 : decide (x3_1.size + 1 ≤ 9223372036854775807) = true := decide_eq_true c4
   try have c4b2 : (9223372036854775807 < x3_1.size + 1) = False := eq_false (Nat.not_lt.2 c4)
   by_cases c5 : 0 ≤ x4_1
   rotate_left
   ·rw [if_neg c5] at H
    exact absurd H (by simp)
   rw [if_pos c5] at H
   have c5b0 : decide (0 ≤ x4_1) = true := decide_eq_true c5
   clear c5
   by_cases c6 : (x3_1 ++ (⟨#[47]⟩ : ByteArray)).size + (rdOf ByteArray.empty l0 x4_1).size ≤ 9223372036854775807
   rotate_left
   ·rw [if_neg c6] at H
    exact absurd H (by simp)
   rw [if_pos c6] at H
   have c6b0 := eq_true c6
   have c6b1 : decide ((x3_1 ++ (⟨#[47]⟩ : ByteArray)).size + (rdOf ByteArray.empty l0 x4_1).size ≤ 9223372036854775807) = true := decide_eq_true c6
   try have c6b2 : (9223372036854775807 < (x3_1 ++ (⟨#[47]⟩ : ByteArray)).size + (rdOf ByteArray.empty l0 x4_1).size) = False := eq_false (Nat.not_lt.2 c6)
   have H' := zA H
   clear H
   have p296 : 0 ≤ (x4_1 : Int) := zO (by first | (with_reducible assumption) | assumption)
   have q296 : x4_1 < (l0.length : Int) := zO (by first | (with_reducible assumption) | assumption)
   obtain ⟨ad296, e296, hx296_0⟩ := Kd.at_string HR0.out x4_1 p296 q296
   cases e296
   replace p296 := eq_true p296
   replace q296 := eq_true q296
   go_wp2
   go_roundg k1
   case measure => have := HK1.out; omega
   case rel => exact ⟨((x3_1 ++ (⟨#[47]⟩ : ByteArray)) ++ (rdOf ByteArray.empty l0 x4_1)), (wrap64 (x4_1 + 1)), (by first | rfl | (simp; done) | (simp [*]; done)), (by first | rfl | (simp; done) | (simp [*]; done)), H', ⟨by have := HK1.out; omega⟩, by repeat (first | exact Drawn0.refl _ | apply Drawn0.step)⟩
def copseref02_Common.f (k : Nat) (a0 : ByteArray) (a1 : ByteArray) : Option (ByteArray) := (copseref02_Split.f k a0).bind fun t298 => ((copseref02_Split.f k a1).bind fun t301 => ((copseref02_shared.f k t298 t301).bind fun t304 => (if 0 ≤ t304 then (if t304 ≤ (t298.length : Int) then ((copseref02_text.f k (t298.take (t304 : Int).toNat)).bind fun t309 => (some t309)) else (none)) else (none))))
set_option maxHeartbeats 8000000 in
set_option maxRecDepth 100000 in
theorem copseref02_Common.calls (k : Nat) (a0 : ByteArray) (a1 : ByteArray) (r : ByteArray) (w : World) (h : copseref02_Common.f k a0 a1 = some r) :
  Calls Tryd.prog 22 #[.string a0, .string a1] w fun e w' => e = .returned (.string r) ∧ Below w.heap.size w w' := by
 have HB := zA (Below.refl w.heap.size w)
 have H : ((copseref02_Split.f k a0).bind fun t298 => ((copseref02_Split.f k a1).bind fun t301 => ((copseref02_shared.f k t298 t301).bind fun t304 => (if 0 ≤ t304 then (if t304 ≤ (t298.length : Int) then ((copseref02_text.f k (t298.take (t304 : Int).toNat)).bind fun t309 => (some t309)) else (none)) else (none))))) = some r := h
 clear h; replace H := Option.bind_eq_some_iff.mp H; obtain ⟨t298, A30, H⟩ := H
 replace H : ((copseref02_Split.f k a1).bind fun t301 => ((copseref02_shared.f k t298 t301).bind fun t304 => (if 0 ≤ t304 then (if t304 ≤ (t298.length : Int) then ((copseref02_text.f k (t298.take (t304 : Int).toNat)).bind fun t309 => (some t309)) else (none)) else (none)))) = some r := H
 have A3 := zA A30; clear A30; replace H := Option.bind_eq_some_iff.mp H; obtain ⟨t301, A40, H⟩ := H
 replace H : ((copseref02_shared.f k t298 t301).bind fun t304 => (if 0 ≤ t304 then (if t304 ≤ (t298.length : Int) then ((copseref02_text.f k (t298.take (t304 : Int).toNat)).bind fun t309 => (some t309)) else (none)) else (none))) = some r := H
 have A4 := zA A40; clear A40; replace H := Option.bind_eq_some_iff.mp H; obtain ⟨t304, A50, H⟩ := H
 replace H : (if 0 ≤ t304 then (if t304 ≤ (t298.length : Int) then ((copseref02_text.f k (t298.take (t304 : Int).toNat)).bind fun t309 => (some t309)) else (none)) else (none)) = some r := H
 have A5 := zA A50; clear A50
 by_cases c6 : 0 ≤ t304
 rotate_left
 ·rw [if_neg c6] at H
  exact absurd H (by simp)
 rw [if_pos c6] at H
 have c6b0 := eq_true c6
 have c6b1 : decide (0 ≤ t304) = true := decide_eq_true c6
 clear c6
 by_cases c7 : t304 ≤ (t298.length : Int)
 rotate_left
 ·rw [if_neg c7] at H
  exact absurd H (by simp)
 rw [if_pos c7] at H
 have c7b0 := eq_true c7
 have c7b1 : decide (t304 ≤ (t298.length : Int)) = true := decide_eq_true c7
 clear c7
 obtain ⟨y305, hy305⟩ : ∃ y_ : List ByteArray, y_ = (t298.take (t304 : Int).toNat) := ⟨_, rfl⟩
 replace H : ((copseref02_text.f k y305).bind fun t309 => (some t309)) = some r := by first | (rw [hy305]; with_reducible exact H) | (have H2_ := (Option.bind_some _ _).symm.trans H; rw [hy305]; with_reducible exact H2_) | (have H2_ := (Option.bind_some _ _).symm.trans H; with_reducible exact H2_) | with_reducible exact H | (rw [hy305]; exact H) | exact H
 have Ny305 := zA hy305; clear hy305; replace H := Option.bind_eq_some_iff.mp H; obtain ⟨t309, A80, H⟩ := H
 replace H : (some t309) = some r := H
 have A8 := zA A80; clear A80; obtain rfl := Option.some.inj H
 go_enter Tryd.func22, Tryd.ntmps22
 go_wp2_with (first | ((with_reducible refine gate_callee (f := 40) rfl ?_); refine goesL_ (some 7) rfl rfl Tryd.func40 (by kernel_rfl) rfl #[.string a0] rfl (by (try simp only [List.map_toArray, List.map_cons, List.map_nil]); first | done | rfl | (simp only [List.length_drop, List.length_take]; rfl)) ?_; (with_reducible refine (copseref02_Split.calls k a0 t298 _ A3.out).mono ?_); rintro e w9 ⟨v299, rfl, ho0, hb⟩; refine ⟨_, rfl, ?_⟩; have n0_ := zA (Kd.R_lower ho0 (below_size (by repeat (first | (with_reducible first | exact HB.out | apply zL | apply zN | apply zD) | exact HB.out)))); have n1_ := zA (below_step (by repeat (first | (with_reducible first | exact HB.out | apply zL | apply zN | apply zD) | exact HB.out)) hb); clear HB; have HO300 := n0_; have HB := n1_; clear n0_ n1_; (try clear hb); (try clear hb2); (try clear hk); (try clear hi); (try clear ho0)) | ((with_reducible refine gate_callee (f := 40) rfl ?_); refine goesL_ (some 11) rfl rfl Tryd.func40 (by kernel_rfl) rfl #[.string a1] rfl (by (try simp only [List.map_toArray, List.map_cons, List.map_nil]); first | done | rfl | (simp only [List.length_drop, List.length_take]; rfl)) ?_; (with_reducible refine (copseref02_Split.calls k a1 t301 _ A4.out).mono ?_); rintro e w10 ⟨v302, rfl, ho0, hb⟩; refine ⟨_, rfl, ?_⟩; have n0_ := zA (Kd.R_elder' (by (with_reducible repeat (first | apply Kd.R_alloc | apply Kd.R_drewN | apply Kd.R_drew)); exact HO300.out) (Kd.R_base ho0) hb); have n1_ := zA (Kd.R_lower (Kd.R_new' ho0 (Kd.R_lt (by (with_reducible repeat (first | apply Kd.R_alloc | apply Kd.R_drewN | apply Kd.R_drew)); exact HO300.out))) (below_size (by repeat (first | (with_reducible first | exact HB.out | apply zL | apply zN | apply zD) | exact HB.out)))); have n2_ := zA (below_step (by repeat (first | (with_reducible first | exact HB.out | apply zL | apply zN | apply zD) | exact HB.out)) hb); clear HO300; clear HB; have HO300 := n0_; have HO303 := n1_; have HB := n2_; clear n0_ n1_ n2_; (try clear hb); (try clear hb2); (try clear hk); (try clear hi); (try clear ho0); obtain ⟨Ao11, co11, eo11⟩ := Kd.R_slice HO300.out; subst eo11; obtain ⟨Ao12, co12, eo12⟩ := Kd.R_slice HO303.out; subst eo12) | ((with_reducible refine gate_callee (f := 42) rfl ?_); refine goesL_ (some 12) rfl rfl Tryd.func42 (by kernel_rfl) rfl #[.slice Ao11 t298.length co11, .slice Ao12 t301.length co12] rfl (by (try simp only [List.map_toArray, List.map_cons, List.map_nil]); first | done | rfl | (simp only [List.length_drop, List.length_take]; rfl)) ?_; (with_reducible refine (copseref02_shared.calls k _ _ t298 _ _ t301 t304 _ ?side1 ?side2 ?side3 ?side4 A5.out).mono ?_); (case side1 => repeat (first | exact (Kd.R_reads' HO300.out).2.2 | (with_reducible refine Kd.C_alloc ?_ _) | (with_reducible refine Kd.C_drewN ?_ _) | (with_reducible refine Kd.C_drew ?_))); (case side2 => exact (Kd.R_reads' HO300.out).2.1); (case side3 => repeat (first | exact (Kd.R_reads' HO303.out).2.2 | (with_reducible refine Kd.C_alloc ?_ _) | (with_reducible refine Kd.C_drewN ?_ _) | (with_reducible refine Kd.C_drew ?_))); (case side4 => exact (Kd.R_reads' HO303.out).2.1); rintro e w' ⟨rfl, ⟨nd, rfl⟩⟩; refine ⟨_, rfl, ?_⟩; have q13 : (t304 : Int) ≤ ((t298.length : Int) : Int) := zO (by first | (with_reducible assumption) | assumption); obtain ⟨i013, hi013, _, hsz13, _⟩ := info_parts info9; have hroom13 : t298.length ≤ co11 := (Kd.R_reads' HO300.out).2.1; have hC13 : Kd.C Kd.string _ Ao11 t298.length t298 := (Kd.R_reads' HO300.out).2.2; have hcut13 := cut_to (P := Tryd.prog) 23 9 .i64 Tryd.underlying23 hi013 Ao11 t298.length co11 t304 (zO (by first | (with_reducible assumption) | assumption)) q13 hroom13; have hr13 := Kd.C_take (m := (t304 : Int).toNat) hC13 (by omega); have hy13 : y305.length = (t304 : Int).toNat := (by rw [Ny305.out, List.length_take]; omega); rw [← Ny305.out] at hr13; rw [← hy13] at hcut13; have HR308 := zA hr13; have HC308 := zA (show y305.length ≤ co11 from by omega); clear hr13 hC13 hroom13 hi013 hsz13; have KY13 := zA hy13; clear hy13; have KL13 := zA (show (t304 : Int).toNat ≤ t298.length from by omega); replace q13 := eq_true q13) | ((with_reducible refine gate_callee (f := 41) rfl ?_); refine goesL_ (some 14) rfl rfl Tryd.func41 (by kernel_rfl) rfl #[.slice Ao11 y305.length co11] rfl (by (try simp only [List.map_toArray, List.map_cons, List.map_nil]); first | done | rfl | (simp only [List.length_drop, List.length_take]; rfl)) ?_; (with_reducible refine (copseref02_text.calls k _ _ y305 t309 _ ?side1 ?side2 A8.out).mono ?_); (case side1 => repeat (first | exact (by repeat (first | (with_reducible exact HR308.out) | (with_reducible refine Kd.C_alloc ?_ _) | (with_reducible refine Kd.C_drewN ?_ _) | (with_reducible refine Kd.C_drew ?_) | exact HR308.out)) | (with_reducible refine Kd.C_alloc ?_ _) | (with_reducible refine Kd.C_drewN ?_ _) | (with_reducible refine Kd.C_drew ?_))); (case side2 => exact HC308.out); rintro e w' ⟨rfl, ⟨nd, rfl⟩⟩; refine ⟨_, rfl, ?_⟩))
 go_ret
 exact ⟨by first | rfl | (simp [errW_none, errW_some] <;> rfl) | (simp [*, errW_none, errW_some] <;> rfl), by repeat (first | (with_reducible first | exact HB.out | apply zL | apply zN | apply zD) | exact HB.out)⟩
def copseref16_step.l0 : Nat → List (S45) → List ByteArray → ByteArray → Int → Int → Option (List ByteArray)
 | 0, _, _, _, _, _ => none
 | k + 1, x0, x1, x5, x6, x7 => if (wrap64 (x7 + 1)) < (x1.length : Int) then (if 0 ≤ x7 then (if x7 < (x1.length : Int) then (if 0 ≤ (wrap64 (x7 + 1)) then ((copseref02_Common.f k (rdOf ByteArray.empty x1 x7) (rdOf ByteArray.empty x1 (wrap64 (x7 + 1)))).bind fun t316 => ((copseref16_At.f k x1 t316).bind fun bt317 => ((copseref16_cost.f k x0 bt317.1).bind fun t321 => ((copseref02_Split.f k t316).bind fun t322 => ((copseref02_Split.f k x5).bind fun t325 => (if x7 = 0 then (copseref16_step.l0 k x0 x1 t316 t321 (wrap64 (x7 + 1))) else (if t321 < x6 then (copseref16_step.l0 k x0 x1 t316 t321 (wrap64 (x7 + 1))) else (if t321 = x6 then (if (t322.length : Int) > (t325.length : Int) then (copseref16_step.l0 k x0 x1 t316 t321 (wrap64 (x7 + 1))) else (if (t322.length : Int) = (t325.length : Int) then ((copseref02_Cmp.f k t316 x5).bind fun t328 => (if t328 < 0 then (copseref16_step.l0 k x0 x1 t316 t321 (wrap64 (x7 + 1))) else (copseref16_step.l0 k x0 x1 x5 x6 (wrap64 (x7 + 1))))) else (copseref16_step.l0 k x0 x1 x5 x6 (wrap64 (x7 + 1))))) else (copseref16_step.l0 k x0 x1 x5 x6 (wrap64 (x7 + 1))))))))))) else (none)) else (none)) else (none)) else ((copseref16_At.f k x1 x5).bind fun bt310 => (some bt310.1))
def copseref16_step.f (k : Nat) (l0 : List (S45)) (l1 : List ByteArray) : Option (List ByteArray) := copseref16_step.l0 k l0 l1 (⟨#[]⟩ : ByteArray) 0 0
def RowC (w : World) (v : Value) (xs : List ByteArray) : Prop := ∃ A c, v = .slice A xs.length c ∧ xs.length ≤ c ∧ Kd.C Kd.string w A xs.length xs
theorem RowC.of_R {w : World} {base : Nat} {ok : Nat → Prop} {v : Value} {xs : List ByteArray} (h : Kd.R Kd.string 9 w base ok v xs) : RowC w v xs := Kd.R_reads h
theorem RowC.nil (w : World) : RowC w (.slice none 0 0) [] := RowC.of_R (Kd.R_nil _ _ _ w.heap.size (fun _ => True))
def copseref16_Step.f (k : Nat) (l0 : List S45) (l1 : List ByteArray) : Option (List ByteArray × Int) :=
 (copseref16_looked.f k l0 l1).bind fun e => if e = 0 then (if l1.length < 2 then some (l1, 0) else (copseref16_step.f k l0 l1).bind fun c => some (c, 0)) else some ([], e)
def copseref16_Down.go : Nat → List S45 → List ByteArray → Int → Option (List ByteArray)
 | 0, _, _, _ => none
 | k + 1, l0, x, b => if b < (x.length : Int) then (copseref16_step.f k l0 x).bind fun y => copseref16_Down.go k l0 y b else some x
def copseref16_Down.f (k : Nat) (l0 : List S45) (l1 : List ByteArray) (a2 : Int) : Option (List ByteArray × Int) :=
 (copseref16_looked.f k l0 l1).bind fun e => if e = 0 then (if a2 < 1 then some ([], 6) else (copseref16_Down.go k l0 l1 a2).bind fun c => some (c, 0)) else some ([], e)
def copselaw16_same.l0 : Nat → List ByteArray → List ByteArray → Int → Option (Bool)
 | 0, _, _, _ => none
 | k + 1, x0, x1, x5 => if x5 < (x0.length : Int) then (if 0 ≤ x5 then (if x5 < (x1.length : Int) then (if (rdOf ByteArray.empty x0 x5).toList = (rdOf ByteArray.empty x1 x5).toList then (copselaw16_same.l0 k x0 x1 (wrap64 (x5 + 1))) else (some false)) else (none)) else (none)) else (some true)
def copselaw16_same.f (k : Nat) (l0 : List ByteArray) (l1 : List ByteArray) : Option (Bool) := if (l0.length : Int) = (l1.length : Int) then (copselaw16_same.l0 k l0 l1 0) else (some false)
set_option maxHeartbeats 8000000 in
set_option maxRecDepth 100000 in
theorem copselaw16_same.calls (k : Nat) (A0 : Option Addr) (c0 : Nat) (l0 : List ByteArray) (A1 : Option Addr) (c1 : Nat) (l1 : List ByteArray) (r : Bool) (w : World) (hr0 : Kd.C Kd.string w A0 l0.length l0) (hc0 : l0.length ≤ c0) (hr1 : Kd.C Kd.string w A1 l1.length l1) (hc1 : l1.length ≤ c1) (h : copselaw16_same.f k l0 l1 = some r) :
  Calls Tryd.prog 12 #[.slice A0 l0.length c0, .slice A1 l1.length c1] w fun e w' => e = .returned (.bool r) ∧ Drawn0 w w' := by
 have HR0 := zA hr0; have HC0 := zA hc0; clear hr0 hc0; have HR1 := zA hr1; have HC1 := zA hc1; clear hr1 hc1
 have H : (if (l0.length : Int) = (l1.length : Int) then (copselaw16_same.l0 k l0 l1 0) else (some false)) = some r := h
 clear h
 by_cases c3 : (l0.length : Int) = (l1.length : Int)
 rotate_left
 ·rw [if_neg c3] at H
  have c3b0 : ((l0.length : Int) == (l1.length : Int)) = false := beq_eq_false_iff_ne.mpr c3
  have c3b1 : ((l0.length : Int) != (l1.length : Int)) = true := bne_iff_ne.mpr c3
  have c3b2 : (l0.length == l1.length) = false := by first | simpa using c3 | (simp at c3 ⊢; omega)
  obtain rfl := Option.some.inj H
  go_enter Tryd.func12, Tryd.ntmps12
  go_wp2
  repeat (go_quiet (fail); try go_wp2)
  go_ret
  exact ⟨by first | rfl | (simp; done) | (simp [*]; done), by repeat (first | exact Drawn0.refl _ | apply Drawn0.step)⟩
 rw [if_pos c3] at H
 have c3b0 : ((l0.length : Int) == (l1.length : Int)) = true := beq_iff_eq.mpr c3
 have c3b1 : ((l0.length : Int) != (l1.length : Int)) = false := bne_eq_false_iff_eq.mpr c3
 have c3b2 : (l0.length == l1.length) = true := by first | simpa using c3 | (simp at c3 ⊢; omega)
 clear c3
 have H' := zA H
 clear H
 go_enter Tryd.func12, Tryd.ntmps12
 go_wp2
 repeat (go_quiet (fail); try go_wp2)
 go_loopg [5] k (fun kq v5 w' => ∃ (x5_1 : Int), v5 = .int .i64 x5_1 ∧ Aside0 (copselaw16_same.l0 kq l0 l1 x5_1 = some r) ∧ Aside0 (kq ≤ k) ∧ Drawn0 w w')
 case atStart => exact ⟨(0), (by first | rfl | (simp; done) | (simp [*]; done)), H', ⟨Nat.le_refl _⟩, by repeat (first | exact Drawn0.refl _ | apply Drawn0.step)⟩
 case round =>
  clear H'
  try clear c1
  try clear p2
  try clear c3
  try clear c3b0
  try clear c3b1
  try clear c3b2
  obtain ⟨x5_1, rfl, HA, HK1, ⟨m1, rfl⟩⟩ := hrel
  cases gk with
  | zero => exact absurd HA.out (by simp [copselaw16_same.l0])
  | succ k1 =>
   have H := HA.out
   clear HA
   simp only [copselaw16_same.l0] at H
   by_cases c4 : x5_1 < (l0.length : Int)
   rotate_left
   ·rw [if_neg c4] at H
    have c4b0 : decide (x5_1 < (l0.length : Int)) = false := decide_eq_false c4
    clear c4; obtain rfl := Option.some.inj H; go_wp2
    repeat (go_quiet (fail); try go_wp2)
    go_ret
    exact ⟨by first | rfl | (simp; done) | (simp [*]; done), by repeat (first | exact Drawn0.refl _ | apply Drawn0.step)⟩
   rw [if_pos c4] at H
   have c4b0 : decide (x5_1 < (l0.length : Int)) = true := decide_eq_true c4
   clear c4
   by_cases c5 : 0 ≤ x5_1
   rotate_left
   ·rw [if_neg c5] at H
    exact absurd H (by simp)
   rw [if_pos c5] at H
   have c5b0 : decide (0 ≤ x5_1) = true := decide_eq_true c5
   clear c5
   by_cases c6 : x5_1 < (l1.length : Int)
   rotate_left
   ·rw [if_neg c6] at H
    exact absurd H (by simp)
   rw [if_pos c6] at H
   have c6b0 : decide (x5_1 < (l1.length : Int)) = true := decide_eq_true c6
   clear c6
   by_cases c7 : (rdOf ByteArray.empty l0 x5_1).toList = (rdOf ByteArray.empty l1 x5_1).toList
   rotate_left
   ·rw [if_neg c7] at H
    have c7b0 : ((rdOf ByteArray.empty l0 x5_1).toList == (rdOf ByteArray.empty l1 x5_1).toList) = false := beq_eq_false_iff_ne.mpr c7
    have c7b1 : ((rdOf ByteArray.empty l0 x5_1).toList != (rdOf ByteArray.empty l1 x5_1).toList) = true := bne_iff_ne.mpr c7
    obtain rfl := Option.some.inj H
    have p330 : 0 ≤ (x5_1 : Int) := zO (by first | (with_reducible assumption) | assumption)
    have q330 : x5_1 < (l0.length : Int) := zO (by first | (with_reducible assumption) | assumption)
    obtain ⟨ad330, e330, hx330_0⟩ := Kd.at_string HR0.out x5_1 p330 q330
    cases e330
    replace p330 := eq_true p330
    replace q330 := eq_true q330
    have p331 : 0 ≤ (x5_1 : Int) := zO (by first | (with_reducible assumption) | assumption)
    have q331 : x5_1 < (l1.length : Int) := zO (by first | (with_reducible assumption) | assumption)
    obtain ⟨ad331, e331, hx331_0⟩ := Kd.at_string HR1.out x5_1 p331 q331
    cases e331
    replace p331 := eq_true p331
    replace q331 := eq_true q331
    go_wp2
    repeat (go_quiet (fail); try go_wp2)
    go_ret
    exact ⟨by first | rfl | (simp; done) | (simp [*]; done), by repeat (first | exact Drawn0.refl _ | apply Drawn0.step)⟩
   rw [if_pos c7] at H
   have c7b0 : ((rdOf ByteArray.empty l0 x5_1).toList == (rdOf ByteArray.empty l1 x5_1).toList) = true := beq_iff_eq.mpr c7
   have c7b1 : ((rdOf ByteArray.empty l0 x5_1).toList != (rdOf ByteArray.empty l1 x5_1).toList) = false := bne_eq_false_iff_eq.mpr c7
   clear c7
   have H' := zA H
   clear H
   have p330 : 0 ≤ (x5_1 : Int) := zO (by first | (with_reducible assumption) | assumption)
   have q330 : x5_1 < (l0.length : Int) := zO (by first | (with_reducible assumption) | assumption)
   obtain ⟨ad330, e330, hx330_0⟩ := Kd.at_string HR0.out x5_1 p330 q330
   cases e330
   replace p330 := eq_true p330
   replace q330 := eq_true q330
   have p331 : 0 ≤ (x5_1 : Int) := zO (by first | (with_reducible assumption) | assumption)
   have q331 : x5_1 < (l1.length : Int) := zO (by first | (with_reducible assumption) | assumption)
   obtain ⟨ad331, e331, hx331_0⟩ := Kd.at_string HR1.out x5_1 p331 q331
   cases e331
   replace p331 := eq_true p331
   replace q331 := eq_true q331
   go_wp2
   repeat (go_quiet (fail); try go_wp2)
   go_roundg k1
   case measure => have := HK1.out; omega
   case rel => exact ⟨(wrap64 (x5_1 + 1)), (by first | rfl | (simp; done) | (simp [*]; done)), H', ⟨by have := HK1.out; omega⟩, by repeat (first | exact Drawn0.refl _ | apply Drawn0.step)⟩
mutual
def copselaw16_covered.l0 : Nat → List ByteArray → List ByteArray → Int → Option (Bool)
 | 0, _, _, _ => none
 | k + 1, x0, x1, x5 => if x5 < (x0.length : Int) then (copselaw16_covered.l1 k x0 x1 x5 false 0) else (some true)
def copselaw16_covered.l1 : Nat → List ByteArray → List ByteArray → Int → Bool → Int → Option (Bool)
 | 0, _, _, _, _, _ => none
 | k + 1, x0, x1, x5, x6, x7 => if x7 < (x1.length : Int) then (if x6 = true then (copselaw16_covered.l1 k x0 x1 x5 true (wrap64 (x7 + 1))) else (if 0 ≤ x7 then (if 0 ≤ x5 then (if x5 < (x0.length : Int) then (if (rdOf ByteArray.empty x1 x7).toList = (rdOf ByteArray.empty x0 x5).toList then (copselaw16_covered.l1 k x0 x1 x5 true (wrap64 (x7 + 1))) else ((copseref02_Above.f k (rdOf ByteArray.empty x1 x7) (rdOf ByteArray.empty x0 x5)).bind fun t336 => (copselaw16_covered.l1 k x0 x1 x5 t336 (wrap64 (x7 + 1))))) else (none)) else (none)) else (none))) else (if x6 = true then (copselaw16_covered.l0 k x0 x1 (wrap64 (x5 + 1))) else (some false))
end
def copselaw16_covered.f (k : Nat) (l0 : List ByteArray) (l1 : List ByteArray) : Option (Bool) := copselaw16_covered.l0 k l0 l1 0
def copselaw16_covered.T8 : Bool × List (List Nat × List Nat) := (true, [([], []), ([0], [0]), ([1], [1]), ([1], [1]), ([2, 3, 1], [1, 2, 3]), ([4, 1], [1, 4]), ([1], [1]), ([1], [1]), ([6, 7, 1], [1, 6, 7]), ([8, 1], [1, 8]), ([5, 9, 1], [1, 5, 9]), ([1, 10], [1, 10]), ([11, 1], [11]), ([12], [12]), ([12], [12]), ([13, 14, 12], [12, 13, 14]), ([15, 12], [12, 15]), ([12], [12]), ([12], [12]), ([17, 18, 12], [12, 17, 18]), ([19, 12], [12, 19]), ([16, 20, 12, 12], [12, 16, 20]), ([12, 21], [12, 21]), ([22, 21, 0, 1, 2, 3, 4, 5, 6, 7, 8, 9, 10, 11, 12, 13, 14, 15, 16, 17, 18, 19, 20, 21, 22], [0, 22])])
def copselaw16_covered.B8 : List Nat := [0, 1, 3, 3, 15, 31, 3, 3, 195, 451, 1023, 2047, 4095, 8191, 8191, 32767, 65535, 8191, 8191, 401407, 925695, 2097151, 4194303, 8388607]
theorem copselaw16_covered.tab8 : rtab .any (opsOf Tryd.f19 8) = copselaw16_covered.T8 := by kernel_rfl
theorem copselaw16_covered.bits8 : waitsOk copselaw16_covered.T8.2 copselaw16_covered.B8 = true := by kernel_rfl
set_option maxHeartbeats 8000000 in
set_option maxRecDepth 100000 in
theorem copselaw16_covered.calls (k : Nat) (A0 : Option Addr) (c0 : Nat) (l0 : List ByteArray) (A1 : Option Addr) (c1 : Nat) (l1 : List ByteArray) (r : Bool) (w : World) (hr0 : Kd.C Kd.string w A0 l0.length l0) (hc0 : l0.length ≤ c0) (hr1 : Kd.C Kd.string w A1 l1.length l1) (hc1 : l1.length ≤ c1) (h : copselaw16_covered.f k l0 l1 = some r) :
  Calls Tryd.prog 19 #[.slice A0 l0.length c0, .slice A1 l1.length c1] w fun e w' => e = .returned (.bool r) ∧ Below w.heap.size w w' := by
 have HR0 := zA hr0; have HC0 := zA hc0; clear hr0 hc0; have HR1 := zA hr1; have HC1 := zA hc1; clear hr1 hc1
 have HB := zA (Below.refl w.heap.size w)
 have H : (copselaw16_covered.l0 k l0 l1 0) = some r := h
 clear h
 have H' := zA H
 clear H
 go_enter Tryd.func19, Tryd.ntmps19
 go_wp2
 go_loopg [5] k (fun kq v5 w' => ∃ (x5_1 : Int), v5 = .int .i64 x5_1 ∧ Aside0 (copselaw16_covered.l0 kq l0 l1 x5_1 = some r) ∧ Aside0 (kq ≤ k) ∧ Aside0 (Below w.heap.size w w'))
 case atStart => exact ⟨(0), (by first | rfl | (simp; done) | (simp [*]; done)), H', ⟨Nat.le_refl _⟩, ⟨by repeat (first | (with_reducible first | exact HB.out | apply zL | apply zN | apply zD) | exact HB.out)⟩⟩
 case round =>
  clear H'
  try clear c1
  try clear p2
  obtain ⟨x5_1, rfl, HA, HK1, HB⟩ := hrel
  cases gk with
  | zero => exact absurd HA.out (by simp [copselaw16_covered.l0])
  | succ k1 =>
   have H := HA.out
   clear HA
   simp only [copselaw16_covered.l0] at H
   by_cases c3 : x5_1 < (l0.length : Int)
   rotate_left
   ·rw [if_neg c3] at H
    have c3b0 : decide (x5_1 < (l0.length : Int)) = false := decide_eq_false c3
    clear c3; obtain rfl := Option.some.inj H; go_wp2; go_ret
    exact ⟨by first | rfl | (simp [errW_none, errW_some] <;> rfl) | (simp [*, errW_none, errW_some] <;> rfl), by repeat (first | (with_reducible first | exact HB.out | apply zL | apply zN | apply zD) | exact HB.out)⟩
   rw [if_pos c3] at H
   have c3b0 : decide (x5_1 < (l0.length : Int)) = true := decide_eq_true c3
   clear c3
   have H' := zA H
   clear H; go_wp2
   go_loopg [6, 7] k1 (fun kq v6 v7 w' => ∃ (x6_2 : Bool) (x7_2 : Int), v6 = .bool x6_2 ∧ v7 = .int .i64 x7_2 ∧ Aside0 (copselaw16_covered.l1 kq l0 l1 x5_1 x6_2 x7_2 = some r) ∧ Aside0 (kq ≤ k1) ∧ Aside0 (Below w.heap.size w w'))
   case atStart => exact ⟨(false), (0), (by first | rfl | (simp; done) | (simp [*]; done)), (by first | rfl | (simp; done) | (simp [*]; done)), H', ⟨Nat.le_refl _⟩, ⟨by repeat (first | (with_reducible first | exact HB.out | apply zL | apply zN | apply zD) | exact HB.out)⟩⟩
   case round =>
    clear H'
    try clear c1
    try clear p2
    try clear c3
    try clear c3b0
    try clear p2
    obtain ⟨x6_2, x7_2, rfl, rfl, HA, HK2, HB⟩ := hrel
    cases gk with
    | zero => exact absurd HA.out (by simp [copselaw16_covered.l1])
    | succ k2 =>
     have H := HA.out
     clear HA
     simp only [copselaw16_covered.l1] at H
     by_cases c4 : x7_2 < (l1.length : Int)
     rotate_left
     ·rw [if_neg c4] at H
      have c4b0 : decide (x7_2 < (l1.length : Int)) = false := decide_eq_false c4
      clear c4
      by_cases c15 : x6_2 = true
      rotate_left
      ·replace c15 := Bool.eq_false_iff.mpr c15
       subst c15
       have H1 : (some false) = some r := by rw [if_neg (show ¬ (false = true) by decide)] at H; exact H
       clear H; have H := H1; clear H1; obtain rfl := Option.some.inj H; go_wp2; go_ret
       exact ⟨by first | rfl | (simp [errW_none, errW_some] <;> rfl) | (simp [*, errW_none, errW_some] <;> rfl), by repeat (first | (with_reducible first | exact HB.out | apply zL | apply zN | apply zD) | exact HB.out)⟩
      subst c15
      have H1 : (copselaw16_covered.l0 k2 l0 l1 (wrap64 (x5_1 + 1))) = some r := by rw [if_pos rfl] at H; exact H
      clear H; have H := H1; clear H1
      have H' := zA H
      clear H; go_wp2
      go_roundg k2
      case measure => have := HK1.out; have := HK2.out; omega
      case rel => exact ⟨(wrap64 (x5_1 + 1)), (by first | rfl | (simp; done) | (simp [*]; done)), H', ⟨by have := HK1.out; have := HK2.out; omega⟩, ⟨by repeat (first | (with_reducible first | exact HB.out | apply zL | apply zN | apply zD) | exact HB.out)⟩⟩
     rw [if_pos c4] at H
     have c4b0 : decide (x7_2 < (l1.length : Int)) = true := decide_eq_true c4
     clear c4
     by_cases c5 : x6_2 = true
     ·subst c5
      have H1 : (copselaw16_covered.l1 k2 l0 l1 x5_1 true (wrap64 (x7_2 + 1))) = some r := by rw [if_pos rfl] at H; exact H
      clear H; have H := H1; clear H1
      have H' := zA H
      clear H
      try go_wp2
      have n0_ := zA (zD HB.out)
      clear HB; have HB := n0_; clear n0_
      refine start_ (n := 24) (S := fun w' => True) (ds := []) #[F, F, F, F, F, F, F, F, F, F, F, F, F, F, F, F, F, F, F, F, F, F, F, F] (by kernel_rfl) rfl rfl trivial (fun hHeld => ?_); refine with_tabW copselaw16_covered.tab8 copselaw16_covered.bits8 (fun HT_ HW_ => ?_)
      generalize wr.drew = w6 at HB hHeld ⊢
      refine pure_ (i := 0) (N := some 20) (v := ?_) (a' := ?_) #[T, F, F, F, F, F, F, F, F, F, F, F, F, F, F, F, F, F, F, F, F, F, F, F] rfl rfl (any_of HT_.out (by kernel_rfl)) (fun _ _ _ h => h) (Or.inl ⟨by rfl, ?_⟩) ?_ ?_
      rotate_left
      ·intro w'; go_simp; with_reducible rfl
      rotate_left
      ·simp only [Act.put, zS, zZ, zC, i64_w, i32_w]
       rfl
      refine pure_ (i := 1) (N := some 21) (v := ?_) (a' := ?_) #[T, T, F, F, F, F, F, F, F, F, F, F, F, F, F, F, F, F, F, F, F, F, F, F] rfl rfl (any_of HT_.out (by kernel_rfl)) (fun _ _ _ h => h) (Or.inl ⟨by rfl, ?_⟩) ?_ ?_
      rotate_left
      ·intro w'; go_simp; with_reducible rfl
      rotate_left
      ·simp only [Act.put, zS, zZ, zC, i64_w, i32_w]
       rfl
      refine pure_ (i := 2) (N := some 22) (v := undef) (a' := ?_) #[T, T, T, F, F, F, F, F, F, F, F, F, F, F, F, F, F, F, F, F, F, F, F, F] rfl rfl (any_of HT_.out (by kernel_rfl)) (fun _ _ _ h => h) (Or.inr ⟨by rfl, rfl⟩) ?_ ?_
      rotate_left
      ·simp only [Act.put, zS, zZ, zC, i64_w, i32_w]
       rfl
      refine pure_ (i := 3) (N := some 23) (v := undef) (a' := ?_) #[T, T, T, T, F, F, F, F, F, F, F, F, F, F, F, F, F, F, F, F, F, F, F, F] rfl rfl (any_of HT_.out (by kernel_rfl)) (fun _ _ _ h => h) (Or.inr ⟨by rfl, rfl⟩) ?_ ?_
      rotate_left
      ·simp only [Act.put, zS, zZ, zC, i64_w, i32_w]
       rfl
      refine pure_ (i := 4) (N := some 24) (v := undef) (a' := ?_) #[T, T, T, T, T, F, F, F, F, F, F, F, F, F, F, F, F, F, F, F, F, F, F, F] rfl rfl (any_of HT_.out (by kernel_rfl)) (fun _ _ _ h => h) (Or.inr ⟨by rfl, rfl⟩) ?_ ?_
      rotate_left
      ·simp only [Act.put, zS, zZ, zC, i64_w, i32_w]
       rfl
      refine pure_ (i := 5) (N := some 25) (v := undef) (a' := ?_) #[T, T, T, T, T, T, F, F, F, F, F, F, F, F, F, F, F, F, F, F, F, F, F, F] rfl rfl (any_of HT_.out (by kernel_rfl)) (fun _ _ _ h => h) (Or.inr ⟨by rfl, rfl⟩) ?_ ?_
      rotate_left
      ·simp only [Act.put, zS, zZ, zC, i64_w, i32_w]
       rfl
      refine pure_ (i := 6) (N := some 26) (v := undef) (a' := ?_) #[T, T, T, T, T, T, T, F, F, F, F, F, F, F, F, F, F, F, F, F, F, F, F, F] rfl rfl (any_of HT_.out (by kernel_rfl)) (fun _ _ _ h => h) (Or.inr ⟨by rfl, rfl⟩) ?_ ?_
      rotate_left
      ·simp only [Act.put, zS, zZ, zC, i64_w, i32_w]
       rfl
      refine pure_ (i := 7) (N := some 27) (v := undef) (a' := ?_) #[T, T, T, T, T, T, T, T, F, F, F, F, F, F, F, F, F, F, F, F, F, F, F, F] rfl rfl (any_of HT_.out (by kernel_rfl)) (fun _ _ _ h => h) (Or.inr ⟨by rfl, rfl⟩) ?_ ?_
      rotate_left
      ·simp only [Act.put, zS, zZ, zC, i64_w, i32_w]
       rfl
      refine pure_ (i := 8) (N := some 28) (v := undef) (a' := ?_) #[T, T, T, T, T, T, T, T, T, F, F, F, F, F, F, F, F, F, F, F, F, F, F, F] rfl rfl (any_of HT_.out (by kernel_rfl)) (fun _ _ _ h => h) (Or.inr ⟨by rfl, rfl⟩) ?_ ?_
      rotate_left
      ·simp only [Act.put, zS, zZ, zC, i64_w, i32_w]
       rfl
      refine pure_ (i := 9) (N := some 29) (v := undef) (a' := ?_) #[T, T, T, T, T, T, T, T, T, T, F, F, F, F, F, F, F, F, F, F, F, F, F, F] rfl rfl (any_of HT_.out (by kernel_rfl)) (fun _ _ _ h => h) (Or.inr ⟨by rfl, rfl⟩) ?_ ?_
      rotate_left
      ·simp only [Act.put, zS, zZ, zC, i64_w, i32_w]
       rfl
      refine pure_ (i := 10) (N := some 30) (v := undef) (a' := ?_) #[T, T, T, T, T, T, T, T, T, T, T, F, F, F, F, F, F, F, F, F, F, F, F, F] rfl rfl (any_of HT_.out (by kernel_rfl)) (fun _ _ _ h => h) (Or.inr ⟨by rfl, rfl⟩) ?_ ?_
      rotate_left
      ·simp only [Act.put, zS, zZ, zC, i64_w, i32_w]
       rfl
      refine pure_ (i := 11) (N := some 31) (v := ?_) (a' := ?_) #[T, T, T, T, T, T, T, T, T, T, T, T, F, F, F, F, F, F, F, F, F, F, F, F] rfl rfl (any_of HT_.out (by kernel_rfl)) (fun _ _ _ h => h) (Or.inl ⟨by rfl, ?_⟩) ?_ ?_
      rotate_left
      ·intro w'; go_simp; with_reducible rfl
      rotate_left
      ·simp only [Act.put, zS, zZ, zC, i64_w, i32_w]
       rfl
      refine pure_ (i := 12) (N := some 32) (v := ?_) (a' := ?_) #[T, T, T, T, T, T, T, T, T, T, T, T, T, F, F, F, F, F, F, F, F, F, F, F] rfl rfl (any_of HT_.out (by kernel_rfl)) (fun _ _ _ h => h) (Or.inl ⟨by rfl, ?_⟩) ?_ ?_
      rotate_left
      ·intro w'; go_simp; with_reducible rfl
      rotate_left
      ·simp only [Act.put, zS, zZ, zC, i64_w, i32_w]
       rfl
      refine pure_ (i := 13) (N := some 33) (v := undef) (a' := ?_) #[T, T, T, T, T, T, T, T, T, T, T, T, T, T, F, F, F, F, F, F, F, F, F, F] rfl rfl (any_of HT_.out (by kernel_rfl)) (fun _ _ _ h => h) (Or.inr ⟨by rfl, rfl⟩) ?_ ?_
      rotate_left
      ·simp only [Act.put, zS, zZ, zC, i64_w, i32_w]
       rfl
      refine pure_ (i := 14) (N := some 34) (v := undef) (a' := ?_) #[T, T, T, T, T, T, T, T, T, T, T, T, T, T, T, F, F, F, F, F, F, F, F, F] rfl rfl (any_of HT_.out (by kernel_rfl)) (fun _ _ _ h => h) (Or.inr ⟨by rfl, rfl⟩) ?_ ?_
      rotate_left
      ·simp only [Act.put, zS, zZ, zC, i64_w, i32_w]
       rfl
      refine pure_ (i := 15) (N := some 35) (v := undef) (a' := ?_) #[T, T, T, T, T, T, T, T, T, T, T, T, T, T, T, T, F, F, F, F, F, F, F, F] rfl rfl (any_of HT_.out (by kernel_rfl)) (fun _ _ _ h => h) (Or.inr ⟨by rfl, rfl⟩) ?_ ?_
      rotate_left
      ·simp only [Act.put, zS, zZ, zC, i64_w, i32_w]
       rfl
      refine pure_ (i := 16) (N := some 36) (v := undef) (a' := ?_) #[T, T, T, T, T, T, T, T, T, T, T, T, T, T, T, T, T, F, F, F, F, F, F, F] rfl rfl (any_of HT_.out (by kernel_rfl)) (fun _ _ _ h => h) (Or.inr ⟨by rfl, rfl⟩) ?_ ?_
      rotate_left
      ·simp only [Act.put, zS, zZ, zC, i64_w, i32_w]
       rfl
      refine pure_ (i := 17) (N := some 37) (v := undef) (a' := ?_) #[T, T, T, T, T, T, T, T, T, T, T, T, T, T, T, T, T, T, F, F, F, F, F, F] rfl rfl (any_of HT_.out (by kernel_rfl)) (fun _ _ _ h => h) (Or.inr ⟨by rfl, rfl⟩) ?_ ?_
      rotate_left
      ·simp only [Act.put, zS, zZ, zC, i64_w, i32_w]
       rfl
      refine pure_ (i := 18) (N := some 38) (v := undef) (a' := ?_) #[T, T, T, T, T, T, T, T, T, T, T, T, T, T, T, T, T, T, T, F, F, F, F, F] rfl rfl (any_of HT_.out (by kernel_rfl)) (fun _ _ _ h => h) (Or.inr ⟨by rfl, rfl⟩) ?_ ?_
      rotate_left
      ·simp only [Act.put, zS, zZ, zC, i64_w, i32_w]
       rfl
      refine pure_ (i := 19) (N := some 39) (v := undef) (a' := ?_) #[T, T, T, T, T, T, T, T, T, T, T, T, T, T, T, T, T, T, T, T, F, F, F, F] rfl rfl (any_of HT_.out (by kernel_rfl)) (fun _ _ _ h => h) (Or.inr ⟨by rfl, rfl⟩) ?_ ?_
      rotate_left
      ·simp only [Act.put, zS, zZ, zC, i64_w, i32_w]
       rfl
      refine pure_ (i := 20) (N := some 40) (v := undef) (a' := ?_) #[T, T, T, T, T, T, T, T, T, T, T, T, T, T, T, T, T, T, T, T, T, F, F, F] rfl rfl (any_of HT_.out (by kernel_rfl)) (fun _ _ _ h => h) (Or.inr ⟨by rfl, rfl⟩) ?_ ?_
      rotate_left
      ·simp only [Act.put, zS, zZ, zC, i64_w, i32_w]
       rfl
      refine pure_ (i := 21) (N := some 41) (v := undef) (a' := ?_) #[T, T, T, T, T, T, T, T, T, T, T, T, T, T, T, T, T, T, T, T, T, T, F, F] rfl rfl (any_of HT_.out (by kernel_rfl)) (fun _ _ _ h => h) (Or.inr ⟨by rfl, rfl⟩) ?_ ?_
      rotate_left
      ·simp only [Act.put, zS, zZ, zC, i64_w, i32_w]
       rfl
      refine pure_ (i := 22) (N := some 42) (v := ?_) (a' := ?_) #[T, T, T, T, T, T, T, T, T, T, T, T, T, T, T, T, T, T, T, T, T, T, T, F] rfl rfl (any_of HT_.out (by kernel_rfl)) (fun _ _ _ h => h) (Or.inl ⟨by rfl, ?_⟩) ?_ ?_
      rotate_left
      ·intro w'; go_simp; with_reducible rfl
      rotate_left
      ·simp only [Act.put, zS, zZ, zC, i64_w, i32_w]
       rfl
      refine pure_ (i := 23) (N := some 6) (v := ?_) (a' := ?_) #[T, T, T, T, T, T, T, T, T, T, T, T, T, T, T, T, T, T, T, T, T, T, T, T] rfl rfl (any_of HT_.out (by kernel_rfl)) (fun _ _ _ h => h) (Or.inl ⟨by rfl, ?_⟩) ?_ ?_
      rotate_left
      ·intro w'; go_simp; with_reducible rfl
      rotate_left
      ·simp only [Act.put, zS, zZ, zC, i64_w, i32_w]
       rfl
      refine done_ (done_of HT_.out (by kernel_rfl)) ?_
      try go_wp2
      go_roundg k2
      case measure => have := HK1.out; have := HK2.out; omega
      case rel => exact ⟨(true), (wrap64 (x7_2 + 1)), (by first | rfl | (simp; done) | (simp [*]; done)), (by first | rfl | (simp; done) | (simp [*]; done)), H', ⟨by have := HK1.out; have := HK2.out; omega⟩, ⟨by repeat (first | (with_reducible first | exact HB.out | apply zL | apply zN | apply zD) | exact HB.out)⟩⟩
     replace c5 := Bool.eq_false_iff.mpr c5
     subst c5
     have H1 : (if 0 ≤ x7_2 then (if 0 ≤ x5_1 then (if x5_1 < (l0.length : Int) then (if (rdOf ByteArray.empty l1 x7_2).toList = (rdOf ByteArray.empty l0 x5_1).toList then (copselaw16_covered.l1 k2 l0 l1 x5_1 true (wrap64 (x7_2 + 1))) else ((copseref02_Above.f k2 (rdOf ByteArray.empty l1 x7_2) (rdOf ByteArray.empty l0 x5_1)).bind fun t336 => (copselaw16_covered.l1 k2 l0 l1 x5_1 t336 (wrap64 (x7_2 + 1))))) else (none)) else (none)) else (none)) = some r := by rw [if_neg (show ¬ (false = true) by decide)] at H; exact H
     clear H; have H := H1; clear H1
     by_cases c7 : 0 ≤ x7_2
     rotate_left
     ·rw [if_neg c7] at H
      exact absurd H (by simp)
     rw [if_pos c7] at H
     have c7b0 : decide (0 ≤ x7_2) = true := decide_eq_true c7
     clear c7
     by_cases c8 : 0 ≤ x5_1
     rotate_left
     ·rw [if_neg c8] at H
      exact absurd H (by simp)
     rw [if_pos c8] at H
     have c8b0 : decide (0 ≤ x5_1) = true := decide_eq_true c8
     clear c8
     by_cases c9 : x5_1 < (l0.length : Int)
     rotate_left
     ·rw [if_neg c9] at H
      exact absurd H (by simp)
     rw [if_pos c9] at H
     have c9b0 : decide (x5_1 < (l0.length : Int)) = true := decide_eq_true c9
     clear c9
     by_cases c10 : (rdOf ByteArray.empty l1 x7_2).toList = (rdOf ByteArray.empty l0 x5_1).toList
     ·rw [if_pos c10] at H
      have c10b0 : ((rdOf ByteArray.empty l1 x7_2).toList == (rdOf ByteArray.empty l0 x5_1).toList) = true := beq_iff_eq.mpr c10
      have c10b1 : ((rdOf ByteArray.empty l1 x7_2).toList != (rdOf ByteArray.empty l0 x5_1).toList) = false := bne_eq_false_iff_eq.mpr c10
      clear c10
      have H' := zA H
      clear H
      try go_wp2
      have n0_ := zA (zD HB.out)
      clear HB; have HB := n0_; clear n0_
      have p332 : 0 ≤ (x7_2 : Int) := zO (by first | (with_reducible assumption) | assumption)
      have q332 : x7_2 < (l1.length : Int) := zO (by first | (with_reducible assumption) | assumption)
      obtain ⟨ad332, e332, hx332_0⟩ := Kd.at_string HR1.out x7_2 p332 q332
      have hw332_0 := hx332_0
      cases e332
      replace hx332_0 := (HB.out.cell (zB w _ hx332_0)).trans hx332_0
      replace p332 := eq_true p332
      replace q332 := eq_true q332
      have p333 : 0 ≤ (x5_1 : Int) := zO (by first | (with_reducible assumption) | assumption)
      have q333 : x5_1 < (l0.length : Int) := zO (by first | (with_reducible assumption) | assumption)
      obtain ⟨ad333, e333, hx333_0⟩ := Kd.at_string HR0.out x5_1 p333 q333
      have hw333_0 := hx333_0
      cases e333
      replace hx333_0 := (HB.out.cell (zB w _ hx333_0)).trans hx333_0
      replace p333 := eq_true p333
      replace q333 := eq_true q333
      refine start_ (n := 24) (S := fun w' => w'.cell? (ad332.add (x7_2).toNat) = some (.string (rdOf ByteArray.empty l1 x7_2)) ∧ w'.cell? (ad333.add (x5_1).toNat) = some (.string (rdOf ByteArray.empty l0 x5_1))) (ds := []) #[F, F, F, F, F, F, F, F, F, F, F, F, F, F, F, F, F, F, F, F, F, F, F, F] (by kernel_rfl) rfl rfl ⟨((HB.out.cell (zB w _ hw332_0)).trans hw332_0), ((HB.out.cell (zB w _ hw333_0)).trans hw333_0)⟩ (fun hHeld => ?_); refine with_tabW copselaw16_covered.tab8 copselaw16_covered.bits8 (fun HT_ HW_ => ?_)
      generalize wr.drew = w11 at HB hx332_0 hx333_0 hHeld ⊢
      refine pure_ (i := 0) (N := some 20) (v := ?_) (a' := ?_) #[T, F, F, F, F, F, F, F, F, F, F, F, F, F, F, F, F, F, F, F, F, F, F, F] rfl rfl (any_of HT_.out (by kernel_rfl)) (fun _ _ _ h => h) (Or.inl ⟨by rfl, ?_⟩) ?_ ?_
      rotate_left
      ·intro w'; go_simp; with_reducible rfl
      rotate_left
      ·simp only [Act.put, zS, zZ, zC, i64_w, i32_w]
       rfl
      refine pure_ (i := 1) (N := some 21) (v := ?_) (a' := ?_) #[T, T, F, F, F, F, F, F, F, F, F, F, F, F, F, F, F, F, F, F, F, F, F, F] rfl rfl (any_of HT_.out (by kernel_rfl)) (fun _ _ _ h => h) (Or.inl ⟨by rfl, ?_⟩) ?_ ?_
      rotate_left
      ·intro w'; go_simp; with_reducible rfl
      rotate_left
      ·simp only [Act.put, zS, zZ, zC, i64_w, i32_w]
       rfl
      refine pure_ (i := 2) (N := some 22) (v := ?_) (a' := ?_) #[T, T, T, F, F, F, F, F, F, F, F, F, F, F, F, F, F, F, F, F, F, F, F, F] rfl rfl (any_of HT_.out (by kernel_rfl)) (fun _ _ _ h => h) (Or.inl ⟨by rfl, ?_⟩) ?_ ?_
      rotate_left
      ·intro w'; go_simp; with_reducible rfl
      rotate_left
      ·simp only [Act.put, zS, zZ, zC, i64_w, i32_w]
       rfl
      refine pure_ (i := 3) (N := some 23) (v := ?_) (a' := ?_) #[T, T, T, T, F, F, F, F, F, F, F, F, F, F, F, F, F, F, F, F, F, F, F, F] rfl rfl (any_of HT_.out (by kernel_rfl)) (fun _ _ _ h => h) (Or.inl ⟨by rfl, ?_⟩) ?_ ?_
      rotate_left
      ·intro w'; go_simp; with_reducible rfl
      rotate_left
      ·simp only [Act.put, zS, zZ, zC, i64_w, i32_w]
       rfl
      refine pure_ (i := 4) (N := some 24) (v := ?_) (a' := ?_) #[T, T, T, T, T, F, F, F, F, F, F, F, F, F, F, F, F, F, F, F, F, F, F, F] rfl rfl (any_of HT_.out (by kernel_rfl)) (fun _ _ _ h => h) (Or.inl ⟨by rfl, ?_⟩) ?_ ?_
      rotate_left
      ·intro w'; go_simp; with_reducible rfl
      rotate_left
      ·simp only [Act.put, zS, zZ, zC, i64_w, i32_w]
       rfl
      refine pure_ (i := 6) (N := some 26) (v := ?_) (a' := ?_) #[T, T, T, T, T, F, T, F, F, F, F, F, F, F, F, F, F, F, F, F, F, F, F, F] rfl rfl (any_of HT_.out (by kernel_rfl)) (fun _ _ _ h => h) (Or.inl ⟨by rfl, ?_⟩) ?_ ?_
      rotate_left
      ·intro w'; go_simp; with_reducible rfl
      rotate_left
      ·simp only [Act.put, zS, zZ, zC, i64_w, i32_w]
       rfl
      refine pure_ (i := 7) (N := some 27) (v := ?_) (a' := ?_) #[T, T, T, T, T, F, T, T, F, F, F, F, F, F, F, F, F, F, F, F, F, F, F, F] rfl rfl (any_of HT_.out (by kernel_rfl)) (fun _ _ _ h => h) (Or.inl ⟨by rfl, ?_⟩) ?_ ?_
      rotate_left
      ·intro w'; go_simp; with_reducible rfl
      rotate_left
      ·simp only [Act.put, zS, zZ, zC, i64_w, i32_w]
       rfl
      refine pure_ (i := 8) (N := some 28) (v := ?_) (a' := ?_) #[T, T, T, T, T, F, T, T, T, F, F, F, F, F, F, F, F, F, F, F, F, F, F, F] rfl rfl (any_of HT_.out (by kernel_rfl)) (fun _ _ _ h => h) (Or.inl ⟨by rfl, ?_⟩) ?_ ?_
      rotate_left
      ·intro w'; go_simp; with_reducible rfl
      rotate_left
      ·simp only [Act.put, zS, zZ, zC, i64_w, i32_w]
       rfl
      refine take_ (i := 5) (N := some 25) (v := ?_) (a' := ?_) #[T, T, T, T, T, T, T, T, T, F, F, F, F, F, F, F, F, F, F, F, F, F, F, F] rfl rfl (take_ofW HT_.out HW_.out (by kernel_rfl)) (fun _ _ _ h => h) (Or.inl ⟨by rfl, ?_⟩) hHeld ?_ ?_
      rotate_left
      ·rintro w' ⟨s0, s1⟩
       go_simp; with_reducible rfl
      rotate_left
      ·simp only [Act.put, zS, zZ, zC, i64_w, i32_w]
       rfl
      refine take_ (i := 9) (N := some 29) (v := ?_) (a' := ?_) #[T, T, T, T, T, T, T, T, T, T, F, F, F, F, F, F, F, F, F, F, F, F, F, F] rfl rfl (take_ofW HT_.out HW_.out (by kernel_rfl)) (fun _ _ _ h => h) (Or.inl ⟨by rfl, ?_⟩) hHeld ?_ ?_
      rotate_left
      ·rintro w' ⟨s0, s1⟩
       go_simp; with_reducible rfl
      rotate_left
      ·simp only [Act.put, zS, zZ, zC, i64_w, i32_w]
       rfl
      refine pure_ (i := 10) (N := some 30) (v := ?_) (a' := ?_) #[T, T, T, T, T, T, T, T, T, T, T, F, F, F, F, F, F, F, F, F, F, F, F, F] rfl rfl (any_of HT_.out (by kernel_rfl)) (fun _ _ _ h => h) (Or.inl ⟨by rfl, ?_⟩) ?_ ?_
      rotate_left
      ·intro w'; go_simp; with_reducible rfl
      rotate_left
      ·simp only [Act.put, zS, zZ, zC, i64_w, i32_w]
       rfl
      refine pure_ (i := 11) (N := some 31) (v := ?_) (a' := ?_) #[T, T, T, T, T, T, T, T, T, T, T, T, F, F, F, F, F, F, F, F, F, F, F, F] rfl rfl (any_of HT_.out (by kernel_rfl)) (fun _ _ _ h => h) (Or.inl ⟨by rfl, ?_⟩) ?_ ?_
      rotate_left
      ·intro w'; go_simp; with_reducible rfl
      rotate_left
      ·simp only [Act.put, zS, zZ, zC, i64_w, i32_w]
       rfl
      refine pure_ (i := 12) (N := some 32) (v := ?_) (a' := ?_) #[T, T, T, T, T, T, T, T, T, T, T, T, T, F, F, F, F, F, F, F, F, F, F, F] rfl rfl (any_of HT_.out (by kernel_rfl)) (fun _ _ _ h => h) (Or.inl ⟨by rfl, ?_⟩) ?_ ?_
      rotate_left
      ·intro w'; go_simp; with_reducible rfl
      rotate_left
      ·simp only [Act.put, zS, zZ, zC, i64_w, i32_w]
       rfl
      refine pure_ (i := 13) (N := some 33) (v := undef) (a' := ?_) #[T, T, T, T, T, T, T, T, T, T, T, T, T, T, F, F, F, F, F, F, F, F, F, F] rfl rfl (any_of HT_.out (by kernel_rfl)) (fun _ _ _ h => h) (Or.inr ⟨by rfl, rfl⟩) ?_ ?_
      rotate_left
      ·simp only [Act.put, zS, zZ, zC, i64_w, i32_w]
       rfl
      refine pure_ (i := 14) (N := some 34) (v := undef) (a' := ?_) #[T, T, T, T, T, T, T, T, T, T, T, T, T, T, T, F, F, F, F, F, F, F, F, F] rfl rfl (any_of HT_.out (by kernel_rfl)) (fun _ _ _ h => h) (Or.inr ⟨by rfl, rfl⟩) ?_ ?_
      rotate_left
      ·simp only [Act.put, zS, zZ, zC, i64_w, i32_w]
       rfl
      refine pure_ (i := 15) (N := some 35) (v := undef) (a' := ?_) #[T, T, T, T, T, T, T, T, T, T, T, T, T, T, T, T, F, F, F, F, F, F, F, F] rfl rfl (any_of HT_.out (by kernel_rfl)) (fun _ _ _ h => h) (Or.inr ⟨by rfl, rfl⟩) ?_ ?_
      rotate_left
      ·simp only [Act.put, zS, zZ, zC, i64_w, i32_w]
       rfl
      refine pure_ (i := 16) (N := some 36) (v := undef) (a' := ?_) #[T, T, T, T, T, T, T, T, T, T, T, T, T, T, T, T, T, F, F, F, F, F, F, F] rfl rfl (any_of HT_.out (by kernel_rfl)) (fun _ _ _ h => h) (Or.inr ⟨by rfl, rfl⟩) ?_ ?_
      rotate_left
      ·simp only [Act.put, zS, zZ, zC, i64_w, i32_w]
       rfl
      refine pure_ (i := 17) (N := some 37) (v := undef) (a' := ?_) #[T, T, T, T, T, T, T, T, T, T, T, T, T, T, T, T, T, T, F, F, F, F, F, F] rfl rfl (any_of HT_.out (by kernel_rfl)) (fun _ _ _ h => h) (Or.inr ⟨by rfl, rfl⟩) ?_ ?_
      rotate_left
      ·simp only [Act.put, zS, zZ, zC, i64_w, i32_w]
       rfl
      refine pure_ (i := 18) (N := some 38) (v := undef) (a' := ?_) #[T, T, T, T, T, T, T, T, T, T, T, T, T, T, T, T, T, T, T, F, F, F, F, F] rfl rfl (any_of HT_.out (by kernel_rfl)) (fun _ _ _ h => h) (Or.inr ⟨by rfl, rfl⟩) ?_ ?_
      rotate_left
      ·simp only [Act.put, zS, zZ, zC, i64_w, i32_w]
       rfl
      refine pure_ (i := 19) (N := some 39) (v := undef) (a' := ?_) #[T, T, T, T, T, T, T, T, T, T, T, T, T, T, T, T, T, T, T, T, F, F, F, F] rfl rfl (any_of HT_.out (by kernel_rfl)) (fun _ _ _ h => h) (Or.inr ⟨by rfl, rfl⟩) ?_ ?_
      rotate_left
      ·simp only [Act.put, zS, zZ, zC, i64_w, i32_w]
       rfl
      refine pure_ (i := 20) (N := some 40) (v := undef) (a' := ?_) #[T, T, T, T, T, T, T, T, T, T, T, T, T, T, T, T, T, T, T, T, T, F, F, F] rfl rfl (any_of HT_.out (by kernel_rfl)) (fun _ _ _ h => h) (Or.inr ⟨by rfl, rfl⟩) ?_ ?_
      rotate_left
      ·simp only [Act.put, zS, zZ, zC, i64_w, i32_w]
       rfl
      refine pure_ (i := 21) (N := some 41) (v := undef) (a' := ?_) #[T, T, T, T, T, T, T, T, T, T, T, T, T, T, T, T, T, T, T, T, T, T, F, F] rfl rfl (any_of HT_.out (by kernel_rfl)) (fun _ _ _ h => h) (Or.inr ⟨by rfl, rfl⟩) ?_ ?_
      rotate_left
      ·simp only [Act.put, zS, zZ, zC, i64_w, i32_w]
       rfl
      refine pure_ (i := 22) (N := some 42) (v := ?_) (a' := ?_) #[T, T, T, T, T, T, T, T, T, T, T, T, T, T, T, T, T, T, T, T, T, T, T, F] rfl rfl (any_of HT_.out (by kernel_rfl)) (fun _ _ _ h => h) (Or.inl ⟨by rfl, ?_⟩) ?_ ?_
      rotate_left
      ·intro w'; go_simp; with_reducible rfl
      rotate_left
      ·simp only [Act.put, zS, zZ, zC, i64_w, i32_w]
       rfl
      refine pure_ (i := 23) (N := some 6) (v := ?_) (a' := ?_) #[T, T, T, T, T, T, T, T, T, T, T, T, T, T, T, T, T, T, T, T, T, T, T, T] rfl rfl (any_of HT_.out (by kernel_rfl)) (fun _ _ _ h => h) (Or.inl ⟨by rfl, ?_⟩) ?_ ?_
      rotate_left
      ·intro w'; go_simp; with_reducible rfl
      rotate_left
      ·simp only [Act.put, zS, zZ, zC, i64_w, i32_w]
       rfl
      refine done_ (done_of HT_.out (by kernel_rfl)) ?_
      try go_wp2
      go_roundg k2
      case measure => have := HK1.out; have := HK2.out; omega
      case rel => exact ⟨(true), (wrap64 (x7_2 + 1)), (by first | rfl | (simp; done) | (simp [*]; done)), (by first | rfl | (simp; done) | (simp [*]; done)), H', ⟨by have := HK1.out; have := HK2.out; omega⟩, ⟨by repeat (first | (with_reducible first | exact HB.out | apply zL | apply zN | apply zD) | exact HB.out)⟩⟩
     rw [if_neg c10] at H
     have c10b0 : ((rdOf ByteArray.empty l1 x7_2).toList == (rdOf ByteArray.empty l0 x5_1).toList) = false := beq_eq_false_iff_ne.mpr c10
     have c10b1 : ((rdOf ByteArray.empty l1 x7_2).toList != (rdOf ByteArray.empty l0 x5_1).toList) = true := bne_iff_ne.mpr c10
     replace H := Option.bind_eq_some_iff.mp H; obtain ⟨t336, A120, H⟩ := H
     replace H : (copselaw16_covered.l1 k2 l0 l1 x5_1 t336 (wrap64 (x7_2 + 1))) = some r := H
     have A12 := zA A120; clear A120
     have H' := zA H
     clear H
     try go_wp2
     have n0_ := zA (zD HB.out)
     clear HB; have HB := n0_; clear n0_
     have p332 : 0 ≤ (x7_2 : Int) := zO (by first | (with_reducible assumption) | assumption)
     have q332 : x7_2 < (l1.length : Int) := zO (by first | (with_reducible assumption) | assumption)
     obtain ⟨ad332, e332, hx332_0⟩ := Kd.at_string HR1.out x7_2 p332 q332
     have hw332_0 := hx332_0
     cases e332
     replace hx332_0 := (HB.out.cell (zB w _ hx332_0)).trans hx332_0
     replace p332 := eq_true p332
     replace q332 := eq_true q332
     have p333 : 0 ≤ (x5_1 : Int) := zO (by first | (with_reducible assumption) | assumption)
     have q333 : x5_1 < (l0.length : Int) := zO (by first | (with_reducible assumption) | assumption)
     obtain ⟨ad333, e333, hx333_0⟩ := Kd.at_string HR0.out x5_1 p333 q333
     have hw333_0 := hx333_0
     cases e333
     replace hx333_0 := (HB.out.cell (zB w _ hx333_0)).trans hx333_0
     replace p333 := eq_true p333
     replace q333 := eq_true q333
     have p334 : 0 ≤ (x7_2 : Int) := zO (by first | (with_reducible assumption) | assumption)
     have q334 : x7_2 < (l1.length : Int) := zO (by first | (with_reducible assumption) | assumption)
     obtain ⟨ad334, e334, hx334_0⟩ := Kd.at_string HR1.out x7_2 p334 q334
     have hw334_0 := hx334_0
     obtain rfl : ad332 = ad334 := (by injection e334)
     replace hx334_0 := (HB.out.cell (zB w _ hx334_0)).trans hx334_0
     replace p334 := eq_true p334
     replace q334 := eq_true q334
     have p335 : 0 ≤ (x5_1 : Int) := zO (by first | (with_reducible assumption) | assumption)
     have q335 : x5_1 < (l0.length : Int) := zO (by first | (with_reducible assumption) | assumption)
     obtain ⟨ad335, e335, hx335_0⟩ := Kd.at_string HR0.out x5_1 p335 q335
     have hw335_0 := hx335_0
     obtain rfl : ad333 = ad335 := (by injection e335)
     replace hx335_0 := (HB.out.cell (zB w _ hx335_0)).trans hx335_0
     replace p335 := eq_true p335
     replace q335 := eq_true q335
     refine start_ (n := 24) (S := fun w' => w'.cell? (ad332.add (x7_2).toNat) = some (.string (rdOf ByteArray.empty l1 x7_2)) ∧ w'.cell? (ad333.add (x5_1).toNat) = some (.string (rdOf ByteArray.empty l0 x5_1)) ∧ w'.cell? (ad332.add (x7_2).toNat) = some (.string (rdOf ByteArray.empty l1 x7_2)) ∧ w'.cell? (ad333.add (x5_1).toNat) = some (.string (rdOf ByteArray.empty l0 x5_1))) (ds := []) #[F, F, F, F, F, F, F, F, F, F, F, F, F, F, F, F, F, F, F, F, F, F, F, F] (by kernel_rfl) rfl rfl ⟨((HB.out.cell (zB w _ hw332_0)).trans hw332_0), ((HB.out.cell (zB w _ hw333_0)).trans hw333_0), ((HB.out.cell (zB w _ hw334_0)).trans hw334_0), ((HB.out.cell (zB w _ hw335_0)).trans hw335_0)⟩ (fun hHeld => ?_); refine with_tabW copselaw16_covered.tab8 copselaw16_covered.bits8 (fun HT_ HW_ => ?_)
     generalize wr.drew = w13 at HB hx332_0 hx333_0 hx334_0 hx335_0 hHeld ⊢
     refine pure_ (i := 0) (N := some 20) (v := ?_) (a' := ?_) #[T, F, F, F, F, F, F, F, F, F, F, F, F, F, F, F, F, F, F, F, F, F, F, F] rfl rfl (any_of HT_.out (by kernel_rfl)) (fun _ _ _ h => h) (Or.inl ⟨by rfl, ?_⟩) ?_ ?_
     rotate_left
     ·intro w'; go_simp; with_reducible rfl
     rotate_left
     ·simp only [Act.put, zS, zZ, zC, i64_w, i32_w]
      rfl
     refine pure_ (i := 1) (N := some 21) (v := ?_) (a' := ?_) #[T, T, F, F, F, F, F, F, F, F, F, F, F, F, F, F, F, F, F, F, F, F, F, F] rfl rfl (any_of HT_.out (by kernel_rfl)) (fun _ _ _ h => h) (Or.inl ⟨by rfl, ?_⟩) ?_ ?_
     rotate_left
     ·intro w'; go_simp; with_reducible rfl
     rotate_left
     ·simp only [Act.put, zS, zZ, zC, i64_w, i32_w]
      rfl
     refine pure_ (i := 2) (N := some 22) (v := ?_) (a' := ?_) #[T, T, T, F, F, F, F, F, F, F, F, F, F, F, F, F, F, F, F, F, F, F, F, F] rfl rfl (any_of HT_.out (by kernel_rfl)) (fun _ _ _ h => h) (Or.inl ⟨by rfl, ?_⟩) ?_ ?_
     rotate_left
     ·intro w'; go_simp; with_reducible rfl
     rotate_left
     ·simp only [Act.put, zS, zZ, zC, i64_w, i32_w]
      rfl
     refine pure_ (i := 3) (N := some 23) (v := ?_) (a' := ?_) #[T, T, T, T, F, F, F, F, F, F, F, F, F, F, F, F, F, F, F, F, F, F, F, F] rfl rfl (any_of HT_.out (by kernel_rfl)) (fun _ _ _ h => h) (Or.inl ⟨by rfl, ?_⟩) ?_ ?_
     rotate_left
     ·intro w'; go_simp; with_reducible rfl
     rotate_left
     ·simp only [Act.put, zS, zZ, zC, i64_w, i32_w]
      rfl
     refine pure_ (i := 4) (N := some 24) (v := ?_) (a' := ?_) #[T, T, T, T, T, F, F, F, F, F, F, F, F, F, F, F, F, F, F, F, F, F, F, F] rfl rfl (any_of HT_.out (by kernel_rfl)) (fun _ _ _ h => h) (Or.inl ⟨by rfl, ?_⟩) ?_ ?_
     rotate_left
     ·intro w'; go_simp; with_reducible rfl
     rotate_left
     ·simp only [Act.put, zS, zZ, zC, i64_w, i32_w]
      rfl
     refine pure_ (i := 6) (N := some 26) (v := ?_) (a' := ?_) #[T, T, T, T, T, F, T, F, F, F, F, F, F, F, F, F, F, F, F, F, F, F, F, F] rfl rfl (any_of HT_.out (by kernel_rfl)) (fun _ _ _ h => h) (Or.inl ⟨by rfl, ?_⟩) ?_ ?_
     rotate_left
     ·intro w'; go_simp; with_reducible rfl
     rotate_left
     ·simp only [Act.put, zS, zZ, zC, i64_w, i32_w]
      rfl
     refine pure_ (i := 7) (N := some 27) (v := ?_) (a' := ?_) #[T, T, T, T, T, F, T, T, F, F, F, F, F, F, F, F, F, F, F, F, F, F, F, F] rfl rfl (any_of HT_.out (by kernel_rfl)) (fun _ _ _ h => h) (Or.inl ⟨by rfl, ?_⟩) ?_ ?_
     rotate_left
     ·intro w'; go_simp; with_reducible rfl
     rotate_left
     ·simp only [Act.put, zS, zZ, zC, i64_w, i32_w]
      rfl
     refine pure_ (i := 8) (N := some 28) (v := ?_) (a' := ?_) #[T, T, T, T, T, F, T, T, T, F, F, F, F, F, F, F, F, F, F, F, F, F, F, F] rfl rfl (any_of HT_.out (by kernel_rfl)) (fun _ _ _ h => h) (Or.inl ⟨by rfl, ?_⟩) ?_ ?_
     rotate_left
     ·intro w'; go_simp; with_reducible rfl
     rotate_left
     ·simp only [Act.put, zS, zZ, zC, i64_w, i32_w]
      rfl
     refine take_ (i := 5) (N := some 25) (v := ?_) (a' := ?_) #[T, T, T, T, T, T, T, T, T, F, F, F, F, F, F, F, F, F, F, F, F, F, F, F] rfl rfl (take_ofW HT_.out HW_.out (by kernel_rfl)) (fun _ _ _ h => h) (Or.inl ⟨by rfl, ?_⟩) hHeld ?_ ?_
     rotate_left
     ·rintro w' ⟨s0, s1, s2, s3⟩
      go_simp; with_reducible rfl
     rotate_left
     ·simp only [Act.put, zS, zZ, zC, i64_w, i32_w]
      rfl
     refine take_ (i := 9) (N := some 29) (v := ?_) (a' := ?_) #[T, T, T, T, T, T, T, T, T, T, F, F, F, F, F, F, F, F, F, F, F, F, F, F] rfl rfl (take_ofW HT_.out HW_.out (by kernel_rfl)) (fun _ _ _ h => h) (Or.inl ⟨by rfl, ?_⟩) hHeld ?_ ?_
     rotate_left
     ·rintro w' ⟨s0, s1, s2, s3⟩
      go_simp; with_reducible rfl
     rotate_left
     ·simp only [Act.put, zS, zZ, zC, i64_w, i32_w]
      rfl
     refine pure_ (i := 10) (N := some 30) (v := ?_) (a' := ?_) #[T, T, T, T, T, T, T, T, T, T, T, F, F, F, F, F, F, F, F, F, F, F, F, F] rfl rfl (any_of HT_.out (by kernel_rfl)) (fun _ _ _ h => h) (Or.inl ⟨by rfl, ?_⟩) ?_ ?_
     rotate_left
     ·intro w'; go_simp; with_reducible rfl
     rotate_left
     ·simp only [Act.put, zS, zZ, zC, i64_w, i32_w]
      rfl
     refine pure_ (i := 11) (N := some 31) (v := ?_) (a' := ?_) #[T, T, T, T, T, T, T, T, T, T, T, T, F, F, F, F, F, F, F, F, F, F, F, F] rfl rfl (any_of HT_.out (by kernel_rfl)) (fun _ _ _ h => h) (Or.inl ⟨by rfl, ?_⟩) ?_ ?_
     rotate_left
     ·intro w'; go_simp; with_reducible rfl
     rotate_left
     ·simp only [Act.put, zS, zZ, zC, i64_w, i32_w]
      rfl
     refine pure_ (i := 12) (N := some 32) (v := ?_) (a' := ?_) #[T, T, T, T, T, T, T, T, T, T, T, T, T, F, F, F, F, F, F, F, F, F, F, F] rfl rfl (any_of HT_.out (by kernel_rfl)) (fun _ _ _ h => h) (Or.inl ⟨by rfl, ?_⟩) ?_ ?_
     rotate_left
     ·intro w'; go_simp; with_reducible rfl
     rotate_left
     ·simp only [Act.put, zS, zZ, zC, i64_w, i32_w]
      rfl
     refine pure_ (i := 13) (N := some 33) (v := ?_) (a' := ?_) #[T, T, T, T, T, T, T, T, T, T, T, T, T, T, F, F, F, F, F, F, F, F, F, F] rfl rfl (any_of HT_.out (by kernel_rfl)) (fun _ _ _ h => h) (Or.inl ⟨by rfl, ?_⟩) ?_ ?_
     rotate_left
     ·intro w'; go_simp; with_reducible rfl
     rotate_left
     ·simp only [Act.put, zS, zZ, zC, i64_w, i32_w]
      rfl
     refine pure_ (i := 14) (N := some 34) (v := ?_) (a' := ?_) #[T, T, T, T, T, T, T, T, T, T, T, T, T, T, T, F, F, F, F, F, F, F, F, F] rfl rfl (any_of HT_.out (by kernel_rfl)) (fun _ _ _ h => h) (Or.inl ⟨by rfl, ?_⟩) ?_ ?_
     rotate_left
     ·intro w'; go_simp; with_reducible rfl
     rotate_left
     ·simp only [Act.put, zS, zZ, zC, i64_w, i32_w]
      rfl
     refine pure_ (i := 15) (N := some 35) (v := ?_) (a' := ?_) #[T, T, T, T, T, T, T, T, T, T, T, T, T, T, T, T, F, F, F, F, F, F, F, F] rfl rfl (any_of HT_.out (by kernel_rfl)) (fun _ _ _ h => h) (Or.inl ⟨by rfl, ?_⟩) ?_ ?_
     rotate_left
     ·intro w'; go_simp; with_reducible rfl
     rotate_left
     ·simp only [Act.put, zS, zZ, zC, i64_w, i32_w]
      rfl
     refine pure_ (i := 17) (N := some 37) (v := ?_) (a' := ?_) #[T, T, T, T, T, T, T, T, T, T, T, T, T, T, T, T, F, T, F, F, F, F, F, F] rfl rfl (any_of HT_.out (by kernel_rfl)) (fun _ _ _ h => h) (Or.inl ⟨by rfl, ?_⟩) ?_ ?_
     rotate_left
     ·intro w'; go_simp; with_reducible rfl
     rotate_left
     ·simp only [Act.put, zS, zZ, zC, i64_w, i32_w]
      rfl
     refine pure_ (i := 18) (N := some 38) (v := ?_) (a' := ?_) #[T, T, T, T, T, T, T, T, T, T, T, T, T, T, T, T, F, T, T, F, F, F, F, F] rfl rfl (any_of HT_.out (by kernel_rfl)) (fun _ _ _ h => h) (Or.inl ⟨by rfl, ?_⟩) ?_ ?_
     rotate_left
     ·intro w'; go_simp; with_reducible rfl
     rotate_left
     ·simp only [Act.put, zS, zZ, zC, i64_w, i32_w]
      rfl
     refine pure_ (i := 19) (N := some 39) (v := ?_) (a' := ?_) #[T, T, T, T, T, T, T, T, T, T, T, T, T, T, T, T, F, T, T, T, F, F, F, F] rfl rfl (any_of HT_.out (by kernel_rfl)) (fun _ _ _ h => h) (Or.inl ⟨by rfl, ?_⟩) ?_ ?_
     rotate_left
     ·intro w'; go_simp; with_reducible rfl
     rotate_left
     ·simp only [Act.put, zS, zZ, zC, i64_w, i32_w]
      rfl
     refine take_ (i := 16) (N := some 36) (v := ?_) (a' := ?_) #[T, T, T, T, T, T, T, T, T, T, T, T, T, T, T, T, T, T, T, T, F, F, F, F] rfl rfl (take_ofW HT_.out HW_.out (by kernel_rfl)) (fun _ _ _ h => h) (Or.inl ⟨by rfl, ?_⟩) hHeld ?_ ?_
     rotate_left
     ·rintro w' ⟨s0, s1, s2, s3⟩
      go_simp; with_reducible rfl
     rotate_left
     ·simp only [Act.put, zS, zZ, zC, i64_w, i32_w]
      rfl
     refine take_ (i := 20) (N := some 40) (v := ?_) (a' := ?_) #[T, T, T, T, T, T, T, T, T, T, T, T, T, T, T, T, T, T, T, T, T, F, F, F] rfl rfl (take_ofW HT_.out HW_.out (by kernel_rfl)) (fun _ _ _ h => h) (Or.inl ⟨by rfl, ?_⟩) hHeld ?_ ?_
     rotate_left
     ·rintro w' ⟨s0, s1, s2, s3⟩
      go_simp; with_reducible rfl
     rotate_left
     ·simp only [Act.put, zS, zZ, zC, i64_w, i32_w]
      rfl
     refine one_ (i := 21) (N := some 41) #[T, T, T, T, T, T, T, T, T, T, T, T, T, T, T, T, T, T, T, T, T, T, F, F] rfl rfl (one_of HT_.out (by kernel_rfl)) (by decide) (fun K hK => ?_)
     refine goes_ Tryd.func31 (by kernel_rfl) rfl #[.string (rdOf ByteArray.empty l1 x7_2), .string (rdOf ByteArray.empty l0 x5_1)] (by rfl) rfl rfl (by (try simp only [List.map_toArray, List.map_cons, List.map_nil]); first | done | rfl | (simp only [List.length_drop, List.length_take]; rfl)) ?_
     with_reducible refine (copseref02_Above.calls k2 (rdOf ByteArray.empty l1 x7_2) (rdOf ByteArray.empty l0 x5_1) t336 _ A12.out).mono ?_
     rintro e w14 ⟨rfl, hb⟩
     refine ⟨_, rfl, ?_⟩
     have n0_ := zA (below_step (by repeat (first | (with_reducible first | exact HB.out | apply zL | apply zN | apply zD) | exact HB.out)) hb)
     clear HB; have HB := n0_; clear n0_
     (try clear hb)
     (try clear hb2)
     (try clear hk)
     (try clear hi)
     refine hK.out _ _ ⟨((HB.out.cell (zB w _ hw332_0)).trans hw332_0), ((HB.out.cell (zB w _ hw333_0)).trans hw333_0), ((HB.out.cell (zB w _ hw334_0)).trans hw334_0), ((HB.out.cell (zB w _ hw335_0)).trans hw335_0)⟩ (fun hHeld => ?_)
     clear hK K
     refine norm_ (a' := ?_) ?_ ?_
     rotate_left
     ·show Act.put _ (some 41) _ = _
      simp only [Act.put, zS, zZ, zC, i64_w, i32_w]
      rfl
     refine pure_ (i := 22) (N := some 42) (v := ?_) (a' := ?_) #[T, T, T, T, T, T, T, T, T, T, T, T, T, T, T, T, T, T, T, T, T, T, T, F] rfl rfl (any_of HT_.out (by kernel_rfl)) (fun _ _ _ h => h) (Or.inl ⟨by rfl, ?_⟩) ?_ ?_
     rotate_left
     ·intro w'; go_simp; with_reducible rfl
     rotate_left
     ·simp only [Act.put, zS, zZ, zC, i64_w, i32_w]
      rfl
     refine pure_ (i := 23) (N := some 6) (v := ?_) (a' := ?_) #[T, T, T, T, T, T, T, T, T, T, T, T, T, T, T, T, T, T, T, T, T, T, T, T] rfl rfl (any_of HT_.out (by kernel_rfl)) (fun _ _ _ h => h) (Or.inl ⟨by rfl, ?_⟩) ?_ ?_
     rotate_left
     ·intro w'; go_simp; with_reducible rfl
     rotate_left
     ·simp only [Act.put, zS, zZ, zC, i64_w, i32_w]
      rfl
     refine done_ (done_of HT_.out (by kernel_rfl)) ?_
     try go_wp2
     go_roundg k2
     case measure => have := HK1.out; have := HK2.out; omega
     case rel => exact ⟨(t336), (wrap64 (x7_2 + 1)), (by first | rfl | (simp; done) | (simp [*]; done)), (by first | rfl | (simp; done) | (simp [*]; done)), H', ⟨by have := HK1.out; have := HK2.out; omega⟩, ⟨by repeat (first | (with_reducible first | exact HB.out | apply zL | apply zN | apply zD) | exact HB.out)⟩⟩
attribute [local go_sem high] eqA45
mutual
def copselaw16_within.l0 : Nat → List (S45) → List (S45) → Int → Int → Option (Bool)
 | 0, _, _, _, _ => none
 | k + 1, x0, x1, x5, x6 => if x6 < (x0.length : Int) then (copselaw16_within.l1 k x0 x1 x5 x6) else (some true)
def copselaw16_within.l1 : Nat → List (S45) → List (S45) → Int → Int → Option (Bool)
 | 0, _, _, _, _ => none
 | k + 1, x0, x1, x5, x6 => if x5 < (x1.length : Int) then (if 0 ≤ x5 then (if 0 ≤ x6 then (if x6 < (x0.length : Int) then (if (!((((rd_T45 x1 x5).f0).toList) == (((rd_T45 x0 x6).f0).toList)) || (!((((rd_T45 x1 x5).f1).toList) == (((rd_T45 x0 x6).f1).toList)) || (!(((rd_T45 x1 x5).f2) == ((rd_T45 x0 x6).f2)) || (!(((rd_T45 x1 x5).f3) == ((rd_T45 x0 x6).f3)))))) = true then (copselaw16_within.l1 k x0 x1 (wrap64 (x5 + 1)) x6) else (if x5 = (x1.length : Int) then (some false) else (copselaw16_within.l0 k x0 x1 x5 (wrap64 (x6 + 1))))) else (none)) else (none)) else (none)) else (if x5 = (x1.length : Int) then (some false) else (copselaw16_within.l0 k x0 x1 x5 (wrap64 (x6 + 1))))
end
def copselaw16_within.f (k : Nat) (l0 : List (S45)) (l1 : List (S45)) : Option (Bool) := copselaw16_within.l0 k l0 l1 0 0
set_option maxHeartbeats 8000000 in
set_option maxRecDepth 100000 in
theorem copselaw16_within.calls (k : Nat) (A0 : Option Addr) (c0 : Nat) (l0 : List (S45)) (A1 : Option Addr) (c1 : Nat) (l1 : List (S45)) (r : Bool) (w : World) (hr0 : Kd.C k45 w A0 l0.length l0) (hc0 : l0.length ≤ c0) (hr1 : Kd.C k45 w A1 l1.length l1) (hc1 : l1.length ≤ c1) (h : copselaw16_within.f k l0 l1 = some r) :
  Calls Tryd.prog 21 #[.slice A0 l0.length c0, .slice A1 l1.length c1] w fun e w' => e = .returned (.bool r) ∧ Drawn0 w w' := by
 have hu45 := Tryd.underlying45
 have HR0 := zA hr0; have HC0 := zA hc0; clear hr0 hc0; have HR1 := zA hr1; have HC1 := zA hc1; clear hr1 hc1
 have H : (copselaw16_within.l0 k l0 l1 0 0) = some r := h
 clear h
 have H' := zA H
 clear H
 go_enter Tryd.func21, Tryd.ntmps21
 go_wp2
 repeat (go_quiet (fail); try go_wp2)
 go_loopg [5, 6] k (fun kq v5 v6 w' => ∃ (x5_1 : Int) (x6_1 : Int), v5 = .int .i64 x5_1 ∧ v6 = .int .i64 x6_1 ∧ Aside0 (copselaw16_within.l0 kq l0 l1 x5_1 x6_1 = some r) ∧ Aside0 (kq ≤ k) ∧ Drawn0 w w')
 case atStart => exact ⟨(0), (0), (by first | rfl | (simp; done) | (simp [*]; done)), (by first | rfl | (simp; done) | (simp [*]; done)), H', ⟨Nat.le_refl _⟩, by repeat (first | exact Drawn0.refl _ | apply Drawn0.step)⟩
 case round =>
  clear H'
  try clear c1
  try clear c2
  try clear p2
  obtain ⟨x5_1, x6_1, rfl, rfl, HA, HK1, ⟨m1, rfl⟩⟩ := hrel
  cases gk with
  | zero => exact absurd HA.out (by simp [copselaw16_within.l0])
  | succ k1 =>
   have H := HA.out
   clear HA
   simp only [copselaw16_within.l0] at H
   by_cases c3 : x6_1 < (l0.length : Int)
   rotate_left
   ·rw [if_neg c3] at H
    have c3b0 : decide (x6_1 < (l0.length : Int)) = false := decide_eq_false c3
    clear c3; obtain rfl := Option.some.inj H; go_wp2
    repeat (go_quiet (fail); try go_wp2)
    go_ret
    exact ⟨by first | rfl | (simp; done) | (simp [*]; done), by repeat (first | exact Drawn0.refl _ | apply Drawn0.step)⟩
   rw [if_pos c3] at H
   have c3b0 : decide (x6_1 < (l0.length : Int)) = true := decide_eq_true c3
   clear c3
   have H' := zA H
   clear H; go_wp2
   repeat (go_quiet (fail); try go_wp2)
   go_loopg [5] k1 (fun kq v5 w' => ∃ (x5_2 : Int), v5 = .int .i64 x5_2 ∧ Aside0 (copselaw16_within.l1 kq l0 l1 x5_2 x6_1 = some r) ∧ Aside0 (kq ≤ k1) ∧ Drawn0 w w')
   case atStart => exact ⟨(x5_1), (by first | rfl | (simp; done) | (simp [*]; done)), H', ⟨Nat.le_refl _⟩, by repeat (first | exact Drawn0.refl _ | apply Drawn0.step)⟩
   case round =>
    clear H'
    try clear c1
    try clear c2
    try clear p2
    try clear c3
    try clear c3b0
    try clear p2
    obtain ⟨x5_2, rfl, HA, HK2, ⟨m2, rfl⟩⟩ := hrel
    cases gk with
    | zero => exact absurd HA.out (by simp [copselaw16_within.l1])
    | succ k2 =>
     have H := HA.out
     clear HA
     simp only [copselaw16_within.l1] at H
     by_cases c4 : x5_2 < (l1.length : Int)
     rotate_left
     ·rw [if_neg c4] at H
      have c4b0 : decide (x5_2 < (l1.length : Int)) = false := decide_eq_false c4
      clear c4
      by_cases c10 : x5_2 = (l1.length : Int)
      ·rw [if_pos c10] at H
       have c10b0 : (x5_2 == (l1.length : Int)) = true := beq_iff_eq.mpr c10
       have c10b1 : (x5_2 != (l1.length : Int)) = false := bne_eq_false_iff_eq.mpr c10
       clear c10; obtain rfl := Option.some.inj H; go_wp2
       repeat (go_quiet (fail); try go_wp2)
       go_ret
       exact ⟨by first | rfl | (simp; done) | (simp [*]; done), by repeat (first | exact Drawn0.refl _ | apply Drawn0.step)⟩
      rw [if_neg c10] at H
      have c10b0 : (x5_2 == (l1.length : Int)) = false := beq_eq_false_iff_ne.mpr c10
      have c10b1 : (x5_2 != (l1.length : Int)) = true := bne_iff_ne.mpr c10
      have H' := zA H
      clear H; go_wp2
      repeat (go_quiet (fail); try go_wp2)
      go_roundg k2
      case measure => have := HK1.out; have := HK2.out; omega
      case rel => exact ⟨(x5_2), (wrap64 (x6_1 + 1)), (by first | rfl | (simp; done) | (simp [*]; done)), (by first | rfl | (simp; done) | (simp [*]; done)), H', ⟨by have := HK1.out; have := HK2.out; omega⟩, by repeat (first | exact Drawn0.refl _ | apply Drawn0.step)⟩
     rw [if_pos c4] at H
     have c4b0 : decide (x5_2 < (l1.length : Int)) = true := decide_eq_true c4
     clear c4
     by_cases c5 : 0 ≤ x5_2
     rotate_left
     ·rw [if_neg c5] at H
      exact absurd H (by simp)
     rw [if_pos c5] at H
     have c5b0 : decide (0 ≤ x5_2) = true := decide_eq_true c5
     clear c5
     by_cases c6 : 0 ≤ x6_1
     rotate_left
     ·rw [if_neg c6] at H
      exact absurd H (by simp)
     rw [if_pos c6] at H
     have c6b0 : decide (0 ≤ x6_1) = true := decide_eq_true c6
     clear c6
     by_cases c7 : x6_1 < (l0.length : Int)
     rotate_left
     ·rw [if_neg c7] at H
      exact absurd H (by simp)
     rw [if_pos c7] at H
     have c7b0 : decide (x6_1 < (l0.length : Int)) = true := decide_eq_true c7
     clear c7
     by_cases c8 : (!((((rd_T45 l1 x5_2).f0).toList) == (((rd_T45 l0 x6_1).f0).toList)) || (!((((rd_T45 l1 x5_2).f1).toList) == (((rd_T45 l0 x6_1).f1).toList)) || (!(((rd_T45 l1 x5_2).f2) == ((rd_T45 l0 x6_1).f2)) || (!(((rd_T45 l1 x5_2).f3) == ((rd_T45 l0 x6_1).f3)))))) = true
     ·rw [if_pos c8] at H
      have c8b0 : (!((((rd_T45 l1 x5_2).f0).toList) == (((rd_T45 l0 x6_1).f0).toList)) || (!((((rd_T45 l1 x5_2).f1).toList) == (((rd_T45 l0 x6_1).f1).toList)) || (!(((rd_T45 l1 x5_2).f2) == ((rd_T45 l0 x6_1).f2)) || (!(((rd_T45 l1 x5_2).f3) == ((rd_T45 l0 x6_1).f3)))))) = true := c8
      clear c8
      have H' := zA H
      clear H
      have p337 : 0 ≤ (x5_2 : Int) := zO (by first | (with_reducible assumption) | assumption)
      have q337 : x5_2 < (l1.length : Int) := zO (by first | (with_reducible assumption) | assumption)
      obtain ⟨ad337, e337, hx337_0, hx337_1, hx337_2, hx337_3⟩ := at_T45 HR1.out x5_2 p337 q337
      cases e337
      replace p337 := eq_true p337
      replace q337 := eq_true q337
      have p338 : 0 ≤ (x6_1 : Int) := zO (by first | (with_reducible assumption) | assumption)
      have q338 : x6_1 < (l0.length : Int) := zO (by first | (with_reducible assumption) | assumption)
      obtain ⟨ad338, e338, hx338_0, hx338_1, hx338_2, hx338_3⟩ := at_T45 HR0.out x6_1 p338 q338
      cases e338
      replace p338 := eq_true p338
      replace q338 := eq_true q338
      go_wp2
      repeat (go_quiet (fail); try go_wp2)
      go_roundg k2
      case measure => have := HK1.out; have := HK2.out; omega
      case rel => exact ⟨(wrap64 (x5_2 + 1)), (by first | rfl | (simp; done) | (simp [*]; done)), H', ⟨by have := HK1.out; have := HK2.out; omega⟩, by repeat (first | exact Drawn0.refl _ | apply Drawn0.step)⟩
     rw [if_neg c8] at H
     have c8b0 : (!((((rd_T45 l1 x5_2).f0).toList) == (((rd_T45 l0 x6_1).f0).toList)) || (!((((rd_T45 l1 x5_2).f1).toList) == (((rd_T45 l0 x6_1).f1).toList)) || (!(((rd_T45 l1 x5_2).f2) == ((rd_T45 l0 x6_1).f2)) || (!(((rd_T45 l1 x5_2).f3) == ((rd_T45 l0 x6_1).f3)))))) = false := by simpa using c8
     clear c8
     by_cases c9 : x5_2 = (l1.length : Int)
     ·rw [if_pos c9] at H
      have c9b0 : (x5_2 == (l1.length : Int)) = true := beq_iff_eq.mpr c9
      have c9b1 : (x5_2 != (l1.length : Int)) = false := bne_eq_false_iff_eq.mpr c9
      clear c9; obtain rfl := Option.some.inj H
      have p337 : 0 ≤ (x5_2 : Int) := zO (by first | (with_reducible assumption) | assumption)
      have q337 : x5_2 < (l1.length : Int) := zO (by first | (with_reducible assumption) | assumption)
      obtain ⟨ad337, e337, hx337_0, hx337_1, hx337_2, hx337_3⟩ := at_T45 HR1.out x5_2 p337 q337
      cases e337
      replace p337 := eq_true p337
      replace q337 := eq_true q337
      have p338 : 0 ≤ (x6_1 : Int) := zO (by first | (with_reducible assumption) | assumption)
      have q338 : x6_1 < (l0.length : Int) := zO (by first | (with_reducible assumption) | assumption)
      obtain ⟨ad338, e338, hx338_0, hx338_1, hx338_2, hx338_3⟩ := at_T45 HR0.out x6_1 p338 q338
      cases e338
      replace p338 := eq_true p338
      replace q338 := eq_true q338
      go_wp2
      repeat (go_quiet (fail); try go_wp2)
      go_ret
      exact ⟨by first | rfl | (simp; done) | (simp [*]; done), by repeat (first | exact Drawn0.refl _ | apply Drawn0.step)⟩
     rw [if_neg c9] at H
     have c9b0 : (x5_2 == (l1.length : Int)) = false := beq_eq_false_iff_ne.mpr c9
     have c9b1 : (x5_2 != (l1.length : Int)) = true := bne_iff_ne.mpr c9
     have H' := zA H
     clear H
     have p337 : 0 ≤ (x5_2 : Int) := zO (by first | (with_reducible assumption) | assumption)
     have q337 : x5_2 < (l1.length : Int) := zO (by first | (with_reducible assumption) | assumption)
     obtain ⟨ad337, e337, hx337_0, hx337_1, hx337_2, hx337_3⟩ := at_T45 HR1.out x5_2 p337 q337
     cases e337
     replace p337 := eq_true p337
     replace q337 := eq_true q337
     have p338 : 0 ≤ (x6_1 : Int) := zO (by first | (with_reducible assumption) | assumption)
     have q338 : x6_1 < (l0.length : Int) := zO (by first | (with_reducible assumption) | assumption)
     obtain ⟨ad338, e338, hx338_0, hx338_1, hx338_2, hx338_3⟩ := at_T45 HR0.out x6_1 p338 q338
     cases e338
     replace p338 := eq_true p338
     replace q338 := eq_true q338
     go_wp2
     repeat (go_quiet (fail); try go_wp2)
     go_roundg k2
     case measure => have := HK1.out; have := HK2.out; omega
     case rel => exact ⟨(x5_2), (wrap64 (x6_1 + 1)), (by first | rfl | (simp; done) | (simp [*]; done)), (by first | rfl | (simp; done) | (simp [*]; done)), H', ⟨by have := HK1.out; have := HK2.out; omega⟩, by repeat (first | exact Drawn0.refl _ | apply Drawn0.step)⟩
end Go.Proofs.YtnfolcefjkannaaDoor.G
namespace Go.Proofs.YtnfolcefjkannaaDoor.G
open Go.RowKit Go.Proofs.YtnfolcefjkannaaDoorW.PrintWords Go.Proofs.YtnfolcefjkannaaDoorW.PrintLast Go.Proofs.YtnfolcefjkannaaDoorW.PrintMore
attribute [local go_sem] max2_int min2_int max_two min_two max_three min_three max_four min_four
set_option linter.unusedVariables false
set_option linter.unusedSimpArgs false
open Go.Proofs.YtnfolcefjkannaaDoor.Wl
def cone_Shows.near (c d : ByteArray) : Option Bool := if c.toList = d.toList then some true else (path_Above.f c d).bind fun a => if a = true then some true else path_Above.f d c
def cone_Shows.go (d : ByteArray) : List ByteArray → Option Bool
 | [] => some false
 | c :: r => (cone_Shows.near c d).bind fun a => if a = true then some true else cone_Shows.go d r
def cone_Shows.f (k : Nat) (l0 : List ByteArray) (a1 : ByteArray) : Option Bool := (path_Dir.f k a1).bind fun d => if d.toList = [] then some true else if l0.length < 8796093022208 then cone_Shows.go d l0 else none
theorem cone_Shows.drop (l : List ByteArray) (i : Nat) (h : i < l.length) : l.drop i = rdOf ByteArray.empty l (i : Int) :: l.drop (i + 1) := by
 rw [List.drop_eq_getElem_cons h]
 simp [rdOf, List.getD_eq_getElem?_getD, List.getElem?_eq_getElem h]
set_option maxHeartbeats 2000000 in
theorem cone_Shows.near_calls (c d : ByteArray) (ad : Addr) (r : Bool) (w : World) (hc : w.cell? ad = some (.string d)) (h : cone_Shows.near c d = some r) :
  Calls Tryd.prog 64 #[.string c, .pointer (some ad)] w fun e w' => e = .returned (.bool r) ∧ Below w.heap.size w w' := by
 unfold cone_Shows.near at h
 by_cases h1 : c.toList = d.toList
 ·rw [if_pos h1] at h; obtain rfl := Option.some.inj h
  go_enter Tryd.func64, Tryd.ntmps64
  go_wp2; go_ret
  exact ⟨rfl, Below.refl _ _⟩
 rw [if_neg h1] at h
 have e1 : (c.toList == d.toList) = false := beq_eq_false_iff_ne.mpr h1
 obtain ⟨a, ha, h⟩ := Option.bind_eq_some_iff.mp h
 have HA := zA ha; clear ha
 cases a with
 | true =>
  obtain rfl := Option.some.inj h
  go_enter Tryd.func64, Tryd.ntmps64
  go_wp2_with (first
   | (go_at_call 37; (with_reducible refine (path_Above.calls c d true _ HA.out).mono ?_); rintro e w1 ⟨rfl, hb⟩; have HB := zA hb; clear hb))
  go_ret
  exact ⟨rfl, HB.out⟩
 | false =>
  rw [if_neg (by decide)] at h; have HB2 := zA h; clear h
  go_enter Tryd.func64, Tryd.ntmps64
  go_wp2_with (first
   | (go_at_call 37; (with_reducible refine (path_Above.calls c d false _ HA.out).mono ?_); rintro e w1 ⟨rfl, hb⟩; have hc2 := (hb.cell (zB w _ hc)).trans hc; have HB := zA hb; clear hb)
   | (go_at_call 37; (with_reducible refine (path_Above.calls d c r _ HB2.out).mono ?_); rintro e w1 ⟨rfl, hb⟩; have HB3 := zA (below_step HB.out hb); clear hb))
  go_ret
  exact ⟨rfl, HB3.out⟩
set_option maxHeartbeats 2000000 in
theorem cone_Shows.index_calls (A0 : Option Addr) (c0 : Nat) (l0 : List ByteArray) (d : ByteArray) (ad : Addr) (r : Bool) (w : World) (hr0 : Kd.C Kd.string w A0 l0.length l0) (hlen : l0.length < 8796093022208) (hc : w.cell? ad = some (.string d)) (h : cone_Shows.go d l0 = some r) :
  Calls Tryd.prog 81 #[.slice A0 l0.length c0, .func (.func 64) #[] #[.pointer (some ad)]] w fun e w' => (∃ i : Int, e = .returned (.int .i64 i) ∧ Aside0 (decide (i ≥ 0) = r)) ∧ Below w.heap.size w w' := by
 have HR := zA hr0; have HL := zA hlen; have HC := zA hc; have H := zA h
 have hab : ad.block < w.heap.size := zB w _ hc
 clear hr0 hlen h hc; have HAB := zA hab; clear hab
 go_enter Tryd.func81, Tryd.ntmps81
 go_wp2
 go_loopw [8, 5] (fun v8 v5 wr => ∃ i : Nat, v8 = .int .i64 (i : Int) ∧ i ≤ l0.length ∧ Aside0 (cone_Shows.go d (l0.drop i) = some r) ∧ Aside0 (Below w.heap.size w wr)) (fun v8 _ _ => l0.length - (intOf v8).toNat)
 case atStart => exact ⟨0, rfl, Nat.zero_le _, H, ⟨Below.refl _ _⟩⟩
 case round =>
  obtain ⟨i, rfl, hi, HG, HB⟩ := hrel; clear H
  have hw1 : wrap64 ((i : Int) + 1) = (i : Int) + 1 := by unfold wrap64; have := HL.out; omega
  have hi0 : (0 : Int) ≤ (i : Int) := by omega
  by_cases hlt : i < l0.length
  rotate_left
  ·have hlt' : ¬ (i : Int) < (l0.length : Int) := by omega
   go_wp2; go_ret
   have e : r = false := by
    have := HG.out
    rw [List.drop_eq_nil_of_le (by omega)] at this
    exact (Option.some.inj this).symm
   exact ⟨⟨_, rfl, ⟨by rw [e]; rfl⟩⟩, HB.out⟩
  have hlt' : (i : Int) < (l0.length : Int) := by omega
  obtain ⟨a0, rfl, q0⟩ := Kd.at_string HR.out (i : Int) (by omega) hlt'
  replace q0 := (HB.out.cell (zB w _ q0)).trans q0
  rw [Int.toNat_natCast] at q0
  have hcr : wr.cell? ad = some (.string d) := (HB.out.cell HAB.out).trans HC.out
  have HG2 := HG.out
  rw [cone_Shows.drop l0 i hlt] at HG2
  unfold cone_Shows.go at HG2
  obtain ⟨y, hy, HG3⟩ := Option.bind_eq_some_iff.mp HG2
  have HY := zA hy; have HG4 := zA HG3; clear HG2 hy HG3 HG; have HCR := zA hcr; clear hcr
  cases y with
  | true =>
   go_wp2_with (first
    | (go_at_call 64; (with_reducible refine (cone_Shows.near_calls _ d ad true _ HCR.out HY.out).mono ?_); rintro e w1 ⟨rfl, hb⟩; have HB2 := zA (below_step HB.out hb); clear hb))
   go_ret
   have e : r = true := by have := HG4.out; simpa using this.symm
   exact ⟨⟨_, rfl, ⟨by rw [e]; exact decide_eq_true (by omega)⟩⟩, HB2.out⟩
  | false =>
   go_wp2_with (first
    | (go_at_call 64; (with_reducible refine (cone_Shows.near_calls _ d ad false _ HCR.out HY.out).mono ?_); rintro e w1 ⟨rfl, hb⟩; have HB2 := zA (below_step HB.out hb); clear hb))
   go_roundw
   case rel => exact ⟨i + 1, by rw [hw1]; rfl, by omega, ⟨by have := HG4.out; simpa using this⟩, HB2⟩
   case measure => rw [hw1]; simp [intOf]; omega
theorem cone_Shows.contains_calls (A0 : Option Addr) (c0 : Nat) (l0 : List ByteArray) (d : ByteArray) (ad : Addr) (r : Bool) (w : World) (hr0 : Kd.C Kd.string w A0 l0.length l0) (hlen : l0.length < 8796093022208) (hc : w.cell? ad = some (.string d)) (h : cone_Shows.go d l0 = some r) :
  Calls Tryd.prog 65 #[.slice A0 l0.length c0, .func (.func 64) #[] #[.pointer (some ad)]] w fun e w' => e = .returned (.bool r) ∧ Below w.heap.size w w' := by
 have HI := zA (cone_Shows.index_calls A0 c0 l0 d ad r w hr0 hlen hc h)
 clear hr0 hlen hc h
 go_enter Tryd.func65, Tryd.ntmps65
 go_wp2_with (first
  | (go_at_call 81; (refine (HI.out).mono ?_); rintro e w1 ⟨⟨i, rfl, hi⟩, hb⟩; have HB := zA hb; clear hb))
 have e : decide ((0 : Int) ≤ i) = r := by have := hi.out; simpa using this
 go_ret
 exact ⟨by rw [← e]; rfl, HB.out⟩
set_option maxHeartbeats 2000000 in
theorem cone_Shows.calls (k : Nat) (A0 : Option Addr) (c0 : Nat) (l0 : List ByteArray) (a1 : ByteArray) (r : Bool) (w : World) (hr0 : Kd.C Kd.string w A0 l0.length l0) (hc0 : l0.length ≤ c0) (h : cone_Shows.f k l0 a1 = some r) :
  Calls Tryd.prog 39 #[.slice A0 l0.length c0, .string a1] w fun e w' => e = .returned (.bool r) ∧ Below w.heap.size w w' := by
 unfold cone_Shows.f at h
 obtain ⟨d, hd, h⟩ := Option.bind_eq_some_iff.mp h
 have HR := zA hr0; have HD := zA hd; clear hr0 hd hc0
 by_cases h1 : d.toList = []
 ·rw [if_pos h1] at h; obtain rfl := Option.some.inj h
  have e1 : (d.toList == []) = true := beq_iff_eq.mpr h1
  have e2 : d.toList.isEmpty = true := by simp [h1]
  clear h1 h
  go_enter Tryd.func39, Tryd.ntmps39
  go_wp2_with (first
   | (go_at_call 46; (with_reducible refine (path_Dir.calls k a1 d _ HD.out).mono ?_); rintro e w1 ⟨rfl, hb⟩; have HB := zA hb; clear hb))
  go_ret
  exact ⟨rfl, zL HB.out _⟩
 rw [if_neg h1] at h
 by_cases h2 : l0.length < 8796093022208
 rotate_left
 ·rw [if_neg h2] at h; cases h
 rw [if_pos h2] at h; have H := zA h; have HL := zA h2
 have e1 : (d.toList == []) = false := beq_eq_false_iff_ne.mpr h1
 have e2 : d.toList.isEmpty = false := by simpa using h1
 clear h1 h h2
 go_enter Tryd.func39, Tryd.ntmps39
 go_wp2_with (first
  | (go_at_call 46; (with_reducible refine (path_Dir.calls k a1 d _ HD.out).mono ?_); rintro e w1 ⟨rfl, hb⟩; have HB := zA hb; have HRR := zA (Kd.C_alloc (Kd.C_below HR.out hb) (Obj.cells #[Value.string d] 9)); have hcell := (blkCells (cs := [Value.string d]) (heap_alloc_new w1 (Obj.cells #[Value.string d] 9)) 0 _ rfl).1; clear hb)
  | (go_at_call 65; (refine (cone_Shows.contains_calls A0 c0 l0 d _ r _ HRR.out HL.out hcell H.out).mono ?_); rintro e w2 ⟨rfl, hb⟩; have HB2 := zA (below_step (zL HB.out _) hb); clear hb))
 go_ret
 exact ⟨rfl, HB2.out⟩
end Go.Proofs.YtnfolcefjkannaaDoor.G
namespace Go.Proofs.YtnfolcefjkannaaDoor.G
open Go.RowKit Go.Proofs.YtnfolcefjkannaaDoorW.PrintWords Go.Proofs.YtnfolcefjkannaaDoorW.PrintLast Go.Proofs.YtnfolcefjkannaaDoorW.PrintMore
attribute [local go_sem] max2_int min2_int max_two min_two max_three min_three max_four min_four
set_option linter.unusedVariables false
set_option linter.unusedSimpArgs false
def cone_View.l0 : Nat → List ByteArray → List (S45) → List (S45) → Int → Int → Option ((List (S45)) × Int)
 | 0, _, _, _, _, _ => none
 | k + 1, x1, x8, x21, x22, x23 => if x23 < x22 then (if 0 ≤ x23 then (if x23 < (x21.length : Int) then ((cone_Shows.f k x1 ((rd_T45 x21 x23).f0)).bind fun t343 => (if t343 = true then (if x8.length < 2932031007402 then (cone_View.l0 k x1 (x8 ++ [(⟨(rd_T45 x21 x23).f0, (rd_T45 x21 x23).f1, (rd_T45 x21 x23).f2, (rd_T45 x21 x23).f3⟩ : S45)]) x21 x22 (wrap64 (x23 + 1))) else (none)) else (cone_View.l0 k x1 x8 x21 x22 (wrap64 (x23 + 1))))) else (none)) else (none)) else (some (x8, 0))
def cone_View.f (k : Nat) (l0 : List (S45)) (l1 : List ByteArray) : Option ((List (S45)) × Int) := (snap_Valid.f k l0).bind fun t339 => (if t339 = 0 then ((cone_Valid.f k l1).bind fun t340 => (if t340 = 0 then (cone_View.l0 k l1 ([] : List (S45)) l0 (l0.length : Int) 0) else (some (([] : List (S45)), t340)))) else (some (([] : List (S45)), t339)))
set_option maxHeartbeats 8000000 in
set_option maxRecDepth 100000 in
theorem cone_View.calls (k : Nat) (A0 : Option Addr) (c0 : Nat) (l0 : List (S45)) (A1 : Option Addr) (c1 : Nat) (l1 : List ByteArray) (r1 : List (S45)) (r2 : Int) (w : World) (hr0 : Kd.C k45 w A0 l0.length l0) (hc0 : l0.length ≤ c0) (hr1 : Kd.C Kd.string w A1 l1.length l1) (hc1 : l1.length ≤ c1) (h : cone_View.f k l0 l1 = some (r1, r2)) :
  Calls Tryd.prog 20 #[.slice A0 l0.length c0, .slice A1 l1.length c1] w fun e w' => ∃ v0_ : Value, e = .returned (.tuple #[v0_, .int .i64 r2]) ∧ Kd.R k45 45 w' w.heap.size (fun _ => True) v0_ r1 ∧ Below w.heap.size w w' := by
 have hu45 := Tryd.underlying45
 have HR0 := zA hr0; have HC0 := zA hc0; clear hr0 hc0; have HR1 := zA hr1; have HC1 := zA hc1; clear hr1 hc1
 have HB := zA (Below.refl w.heap.size w)
 have H : ((snap_Valid.f k l0).bind fun t339 => (if t339 = 0 then ((cone_Valid.f k l1).bind fun t340 => (if t340 = 0 then (cone_View.l0 k l1 ([] : List (S45)) l0 (l0.length : Int) 0) else (some (([] : List (S45)), t340)))) else (some (([] : List (S45)), t339)))) = some (r1, r2) := h
 clear h; replace H := Option.bind_eq_some_iff.mp H; obtain ⟨t339, A30, H⟩ := H
 replace H : (if t339 = 0 then ((cone_Valid.f k l1).bind fun t340 => (if t340 = 0 then (cone_View.l0 k l1 ([] : List (S45)) l0 (l0.length : Int) 0) else (some (([] : List (S45)), t340)))) else (some (([] : List (S45)), t339))) = some (r1, r2) := H
 have A3 := zA A30; clear A30
 by_cases c4 : t339 = 0
 rotate_left
 ·rw [if_neg c4] at H
  have c4b0 : (t339 == 0) = false := beq_eq_false_iff_ne.mpr c4
  have c4b1 : (t339 != 0) = true := bne_iff_ne.mpr c4
  simp only [Option.some.injEq, Prod.mk.injEq] at H
  obtain ⟨rfl, rfl⟩ := H
  go_enter Tryd.func20, Tryd.ntmps20
  go_wp2_with (first | ((with_reducible refine gate_callee (f := 38) rfl ?_); refine goesL_ (some 12) rfl rfl Tryd.func38 (by kernel_rfl) rfl #[.slice A0 l0.length c0] rfl (by (try simp only [List.map_toArray, List.map_cons, List.map_nil]); first | done | rfl | (simp only [List.length_drop, List.length_take]; rfl)) ?_; (with_reducible refine (snap_Valid.calls k _ _ l0 t339 _ ?side1 ?side2 A3.out).mono ?_); (case side1 => repeat (first | exact HR0.out | (with_reducible refine Kd.C_alloc ?_ _) | (with_reducible refine Kd.C_drewN ?_ _) | (with_reducible refine Kd.C_drew ?_))); (case side2 => exact HC0.out); rintro e w25 ⟨rfl, hb⟩; refine ⟨_, rfl, ?_⟩; have n0_ := zA (below_step (by repeat (first | (with_reducible first | exact HB.out | apply zL | apply zN | apply zD) | exact HB.out)) hb); clear HB; have HB := n0_; clear n0_; (try clear hb); (try clear hb2); (try clear hk); (try clear hi)))
  go_ret2
  exact ⟨_, by first | rfl | (simp [errW_none, errW_some] <;> rfl) | (simp [*, errW_none, errW_some] <;> rfl), by first | exact Kd.R_nil _ _ _ _ _ | exact Kd.N_nil _ _ _ _ _ | exact Kd.V_nil _ _ _ _ _ | exact Kd.Q_nil _ _ _ _ _ | exact Kd.S_nil _ _ _ _ _, by repeat (first | (with_reducible first | exact HB.out | apply zL | apply zN | apply zD) | exact HB.out)⟩
 rw [if_pos c4] at H
 have c4b0 : (t339 == 0) = true := beq_iff_eq.mpr c4
 have c4b1 : (t339 != 0) = false := bne_eq_false_iff_eq.mpr c4
 clear c4; replace H := Option.bind_eq_some_iff.mp H; obtain ⟨t340, A50, H⟩ := H
 replace H : (if t340 = 0 then (cone_View.l0 k l1 ([] : List (S45)) l0 (l0.length : Int) 0) else (some (([] : List (S45)), t340))) = some (r1, r2) := H
 have A5 := zA A50; clear A50
 by_cases c6 : t340 = 0
 rotate_left
 ·rw [if_neg c6] at H
  have c6b0 : (t340 == 0) = false := beq_eq_false_iff_ne.mpr c6
  have c6b1 : (t340 != 0) = true := bne_iff_ne.mpr c6
  simp only [Option.some.injEq, Prod.mk.injEq] at H
  obtain ⟨rfl, rfl⟩ := H
  go_enter Tryd.func20, Tryd.ntmps20
  go_wp2_with (first | ((with_reducible refine gate_callee (f := 38) rfl ?_); refine goesL_ (some 12) rfl rfl Tryd.func38 (by kernel_rfl) rfl #[.slice A0 l0.length c0] rfl (by (try simp only [List.map_toArray, List.map_cons, List.map_nil]); first | done | rfl | (simp only [List.length_drop, List.length_take]; rfl)) ?_; (with_reducible refine (snap_Valid.calls k _ _ l0 t339 _ ?side1 ?side2 A3.out).mono ?_); (case side1 => repeat (first | exact HR0.out | (with_reducible refine Kd.C_alloc ?_ _) | (with_reducible refine Kd.C_drewN ?_ _) | (with_reducible refine Kd.C_drew ?_))); (case side2 => exact HC0.out); rintro e w23 ⟨rfl, hb⟩; refine ⟨_, rfl, ?_⟩; have n0_ := zA (below_step (by repeat (first | (with_reducible first | exact HB.out | apply zL | apply zN | apply zD) | exact HB.out)) hb); clear HB; have HB := n0_; clear n0_; (try clear hb); (try clear hb2); (try clear hk); (try clear hi)) | ((with_reducible refine gate_callee (f := 18) rfl ?_); refine goesL_ (some 17) rfl rfl Tryd.func18 (by kernel_rfl) rfl #[.slice A1 l1.length c1] rfl (by (try simp only [List.map_toArray, List.map_cons, List.map_nil]); first | done | rfl | (simp only [List.length_drop, List.length_take]; rfl)) ?_; (with_reducible refine (cone_Valid.calls k _ _ l1 t340 _ ?side1 ?side2 A5.out).mono ?_); (case side1 => repeat (first | exact (Kd.C_below HR1.out HB.out) | (with_reducible refine Kd.C_alloc ?_ _) | (with_reducible refine Kd.C_drewN ?_ _) | (with_reducible refine Kd.C_drew ?_))); (case side2 => exact HC1.out); rintro e w24 ⟨rfl, hb⟩; refine ⟨_, rfl, ?_⟩; have n0_ := zA (below_step (by repeat (first | (with_reducible first | exact HB.out | apply zL | apply zN | apply zD) | exact HB.out)) hb); clear HB; have HB := n0_; clear n0_; (try clear hb); (try clear hb2); (try clear hk); (try clear hi)))
  go_ret2
  exact ⟨_, by first | rfl | (simp [errW_none, errW_some] <;> rfl) | (simp [*, errW_none, errW_some] <;> rfl), by first | exact Kd.R_nil _ _ _ _ _ | exact Kd.N_nil _ _ _ _ _ | exact Kd.V_nil _ _ _ _ _ | exact Kd.Q_nil _ _ _ _ _ | exact Kd.S_nil _ _ _ _ _, by repeat (first | (with_reducible first | exact HB.out | apply zL | apply zN | apply zD) | exact HB.out)⟩
 rw [if_pos c6] at H
 have c6b0 : (t340 == 0) = true := beq_iff_eq.mpr c6
 have c6b1 : (t340 != 0) = false := bne_eq_false_iff_eq.mpr c6
 clear c6
 have H' := zA H
 clear H
 go_enter Tryd.func20, Tryd.ntmps20
 go_wp2_with (first | ((with_reducible refine gate_callee (f := 38) rfl ?_); refine goesL_ (some 12) rfl rfl Tryd.func38 (by kernel_rfl) rfl #[.slice A0 l0.length c0] rfl (by (try simp only [List.map_toArray, List.map_cons, List.map_nil]); first | done | rfl | (simp only [List.length_drop, List.length_take]; rfl)) ?_; (with_reducible refine (snap_Valid.calls k _ _ l0 t339 _ ?side1 ?side2 A3.out).mono ?_); (case side1 => repeat (first | exact HR0.out | (with_reducible refine Kd.C_alloc ?_ _) | (with_reducible refine Kd.C_drewN ?_ _) | (with_reducible refine Kd.C_drew ?_))); (case side2 => exact HC0.out); rintro e w7 ⟨rfl, hb⟩; refine ⟨_, rfl, ?_⟩; have n0_ := zA (below_step (by repeat (first | (with_reducible first | exact HB.out | apply zL | apply zN | apply zD) | exact HB.out)) hb); clear HB; have HB := n0_; clear n0_; (try clear hb); (try clear hb2); (try clear hk); (try clear hi)) | ((with_reducible refine gate_callee (f := 18) rfl ?_); refine goesL_ (some 17) rfl rfl Tryd.func18 (by kernel_rfl) rfl #[.slice A1 l1.length c1] rfl (by (try simp only [List.map_toArray, List.map_cons, List.map_nil]); first | done | rfl | (simp only [List.length_drop, List.length_take]; rfl)) ?_; (with_reducible refine (cone_Valid.calls k _ _ l1 t340 _ ?side1 ?side2 A5.out).mono ?_); (case side1 => repeat (first | exact (Kd.C_below HR1.out HB.out) | (with_reducible refine Kd.C_alloc ?_ _) | (with_reducible refine Kd.C_drewN ?_ _) | (with_reducible refine Kd.C_drew ?_))); (case side2 => exact HC1.out); rintro e w8 ⟨rfl, hb⟩; refine ⟨_, rfl, ?_⟩; have n0_ := zA (below_step (by repeat (first | (with_reducible first | exact HB.out | apply zL | apply zN | apply zD) | exact HB.out)) hb); clear HB; have HB := n0_; clear n0_; (try clear hb); (try clear hb2); (try clear hk); (try clear hi)))
 go_loopg [8, 23] k (fun kq v8 v23 w' => ∃ (x8_1 : List (S45)) (x23_1 : Int), v23 = .int .i64 x23_1 ∧ Aside0 (cone_View.l0 kq l1 x8_1 l0 (l0.length : Int) x23_1 = some (r1, r2)) ∧ Aside0 (kq ≤ k) ∧ Aside0 (Kd.R k45 45 w' w.heap.size (fun _ => True) v8 x8_1) ∧ Aside0 (Below w.heap.size w w'))
 case atStart => exact ⟨(([] : List (S45))), (0), (by first | rfl | (simp; done) | (simp [*]; done)), H', ⟨Nat.le_refl _⟩, ⟨by first | exact Kd.R_nil _ _ _ _ _ | exact Kd.N_nil _ _ _ _ _ | exact Kd.V_nil _ _ _ _ _ | exact Kd.Q_nil _ _ _ _ _ | exact Kd.S_nil _ _ _ _ _⟩, ⟨by repeat (first | (with_reducible first | exact HB.out | apply zL | apply zN | apply zD) | exact HB.out)⟩⟩
 case round =>
  clear H'
  try clear c1
  try clear c2
  try clear p2
  try clear c3
  try clear c4
  try clear c4b0
  try clear c4b1
  try clear c6
  try clear c6b0
  try clear c6b1
  obtain ⟨x8_1, x23_1, rfl, HA, HK1, HO_8, HB⟩ := hrel
  cases gk with
  | zero => exact absurd HA.out (by simp [cone_View.l0])
  | succ k1 =>
   have H := HA.out
   clear HA
   simp only [cone_View.l0] at H
   by_cases c9 : x23_1 < (l0.length : Int)
   rotate_left
   ·rw [if_neg c9] at H
    have c9b0 : decide (x23_1 < (l0.length : Int)) = false := decide_eq_false c9
    clear c9
    simp only [Option.some.injEq, Prod.mk.injEq] at H
    obtain ⟨rfl, rfl⟩ := H; go_wp2; go_ret2
    exact ⟨_, by first | rfl | (simp [errW_none, errW_some] <;> rfl) | (simp [*, errW_none, errW_some] <;> rfl), by (with_reducible repeat (first | apply Kd.R_alloc | apply Kd.R_drewN | apply Kd.R_drew)); exact HO_8.out, by repeat (first | (with_reducible first | exact HB.out | apply zL | apply zN | apply zD) | exact HB.out)⟩
   rw [if_pos c9] at H
   have c9b0 : decide (x23_1 < (l0.length : Int)) = true := decide_eq_true c9
   clear c9
   by_cases c10 : 0 ≤ x23_1
   rotate_left
   ·rw [if_neg c10] at H
    exact absurd H (by simp)
   rw [if_pos c10] at H
   have c10b0 : decide (0 ≤ x23_1) = true := decide_eq_true c10
   clear c10
   by_cases c11 : x23_1 < (l0.length : Int)
   rotate_left
   ·rw [if_neg c11] at H
    exact absurd H (by simp)
   rw [if_pos c11] at H
   have c11b0 : decide (x23_1 < (l0.length : Int)) = true := decide_eq_true c11
   clear c11; replace H := Option.bind_eq_some_iff.mp H; obtain ⟨t343, A120, H⟩ := H
   replace H : (if t343 = true then (if x8_1.length < 2932031007402 then (cone_View.l0 k1 l1 (x8_1 ++ [(⟨(rd_T45 l0 x23_1).f0, (rd_T45 l0 x23_1).f1, (rd_T45 l0 x23_1).f2, (rd_T45 l0 x23_1).f3⟩ : S45)]) l0 (l0.length : Int) (wrap64 (x23_1 + 1))) else (none)) else (cone_View.l0 k1 l1 x8_1 l0 (l0.length : Int) (wrap64 (x23_1 + 1)))) = some (r1, r2) := H
   have A12 := zA A120; clear A120
   by_cases c13 : t343 = true
   rotate_left
   ·replace c13 := Bool.eq_false_iff.mpr c13
    subst c13
    have H1 : (cone_View.l0 k1 l1 x8_1 l0 (l0.length : Int) (wrap64 (x23_1 + 1))) = some (r1, r2) := by rw [if_neg (show ¬ (false = true) by decide)] at H; exact H
    clear H; have H := H1; clear H1
    have H' := zA H
    clear H
    have p341 : 0 ≤ (x23_1 : Int) := zO (by first | (with_reducible assumption) | assumption)
    have q341 : x23_1 < (l0.length : Int) := zO (by first | (with_reducible assumption) | assumption)
    obtain ⟨ad341, e341, hx341_0, hx341_1, hx341_2, hx341_3⟩ := at_T45 HR0.out x23_1 p341 q341
    cases e341
    replace hx341_0 := (HB.out.cell (zB w _ hx341_0)).trans hx341_0
    replace hx341_1 := (HB.out.cell (zB w _ hx341_1)).trans hx341_1
    replace hx341_2 := (HB.out.cell (zB w _ hx341_2)).trans hx341_2
    replace hx341_3 := (HB.out.cell (zB w _ hx341_3)).trans hx341_3
    replace p341 := eq_true p341
    replace q341 := eq_true q341
    go_wp2_with (first | ((with_reducible refine gate_dst (N := 10) rfl ?_); refine box_event ?hg (N := 10) ?hd (cs := #[.string (⟨#[]⟩ : ByteArray), .string (⟨#[]⟩ : ByteArray), .int .i64 0, .int .i64 0]) (t := 45) ?hr ?_; (case hd => rfl); (case hg => rfl); (case hr => first | (go_simp; done) | (go_simp; rfl)); intro gb342 hg w20 hbox hb; have n0_ := zA (Kd.R_below (Kd.R_elderB (by (with_reducible repeat (first | apply Kd.R_alloc | apply Kd.R_drewN | apply Kd.R_drew)); exact HO_8.out) gb342 (Nat.le_of_eq hg.symm)) hb); have n1_ := zA (below_step (by repeat (first | (with_reducible first | exact HB.out | apply zL | apply zN | apply zD) | exact HB.out)) hb); have n2_ := zA (hbox); have n3_ := zA ((by rw [hg]; exact (below_size (by repeat (first | (with_reducible first | exact HB.out | apply zL | apply zN | apply zD) | exact HB.out))) : w.heap.size ≤ gb342)); have n4_ := zA ((by rw [hg]; exact (below_size (by repeat (first | (with_reducible first | exact HB.out | apply zL | apply zN | apply zD) | exact HB.out))) : w.heap.size ≤ gb342)); clear HO_8; clear HB; have HO_8 := n0_; have HB := n1_; have BK342 := n2_; have GW342 := n3_; have GE342 := n4_; clear n0_ n1_ n2_ n3_ n4_; clear hb hbox hg; have hcz21_0 : w20.cell? ⟨gb342, 0, none⟩ = some (.string (⟨#[]⟩ : ByteArray)) := (blk_cell BK342.out 0).trans rfl; have hcz21_1 : w20.cell? ⟨gb342, 1, none⟩ = some (.string (⟨#[]⟩ : ByteArray)) := (blk_cell BK342.out 1).trans rfl; have hcz21_2 : w20.cell? ⟨gb342, 2, none⟩ = some (.int .i64 0) := (blk_cell BK342.out 2).trans rfl; have hcz21_3 : w20.cell? ⟨gb342, 3, none⟩ = some (.int .i64 0) := (blk_cell BK342.out 3).trans rfl; have hfz21_0 := blk_frozen BK342.out 0; have hfz21_1 := blk_frozen BK342.out 1; have hfz21_2 := blk_frozen BK342.out 2; have hfz21_3 := blk_frozen BK342.out 3) | ((with_reducible refine gate_callee (f := 39) rfl ?_); refine goesL_ (some 30) rfl rfl Tryd.func39 (by kernel_rfl) rfl #[.slice A1 l1.length c1, .string ((rd_T45 l0 x23_1).f0)] rfl (by (try simp only [List.map_toArray, List.map_cons, List.map_nil]); first | done | rfl | (simp only [List.length_drop, List.length_take]; rfl)) ?_; (with_reducible refine (cone_Shows.calls k1 _ _ l1 ((rd_T45 l0 x23_1).f0) false _ ?side1 ?side2 A12.out).mono ?_); (case side1 => exact Kd.C_below HR1.out (by repeat (first | (with_reducible first | exact HB.out | apply zL | apply zN | apply zD | refine below_set ?_ GE342.out) | exact HB.out))); (case side2 => exact HC1.out); rintro e w22 ⟨rfl, hb⟩; refine ⟨_, rfl, ?_⟩; have n0_ := zA (Kd.R_below (by (with_reducible repeat (first | apply Kd.R_alloc | apply Kd.R_drewN | apply Kd.R_drew)); exact (Kd.R_mono (Kd.R_far (p := ⟨gb342, 3, none⟩) (Kd.R_far (p := ⟨gb342, 2, none⟩) (Kd.R_far (p := ⟨gb342, 1, none⟩) (Kd.R_far (p := ⟨gb342, 0, none⟩) (Kd.R_mono HO_8.out (fun k_ hk => (⟨hk, hk.2⟩ : _ ∧ k_ ≠ gb342))) (fun _ hk => hk.2) (.string ((rd_T45 l0 x23_1).f0))) (fun _ hk => hk.2) (.string ((rd_T45 l0 x23_1).f1))) (fun _ hk => hk.2) (.int .i64 ((rd_T45 l0 x23_1).f2))) (fun _ hk => hk.2) (.int .i64 ((rd_T45 l0 x23_1).f3))) (fun _ h_ => h_.1))) hb); have n1_ := zA (blk_below (g := gb342) (o := .cells #[.string ((rd_T45 l0 x23_1).f0), .string ((rd_T45 l0 x23_1).f1), .int .i64 ((rd_T45 l0 x23_1).f2), .int .i64 ((rd_T45 l0 x23_1).f3)] 45 (0, 0)) (by (with_reducible repeat (first | refine blk_drewN ?_ _ | refine blk_drew ?_ | refine blk_alloc ?_ _)); refine blk_put (cs := #[.string ((rd_T45 l0 x23_1).f0), .string ((rd_T45 l0 x23_1).f1), .int .i64 ((rd_T45 l0 x23_1).f2), .int .i64 0]) ?_ 3 _ rfl; (with_reducible repeat (first | refine blk_drewN ?_ _ | refine blk_drew ?_ | refine blk_alloc ?_ _)); refine blk_put (cs := #[.string ((rd_T45 l0 x23_1).f0), .string ((rd_T45 l0 x23_1).f1), .int .i64 0, .int .i64 0]) ?_ 2 _ rfl; (with_reducible repeat (first | refine blk_drewN ?_ _ | refine blk_drew ?_ | refine blk_alloc ?_ _)); refine blk_put (cs := #[.string ((rd_T45 l0 x23_1).f0), .string (⟨#[]⟩ : ByteArray), .int .i64 0, .int .i64 0]) ?_ 1 _ rfl; (with_reducible repeat (first | refine blk_drewN ?_ _ | refine blk_drew ?_ | refine blk_alloc ?_ _)); refine blk_put (cs := #[.string (⟨#[]⟩ : ByteArray), .string (⟨#[]⟩ : ByteArray), .int .i64 0, .int .i64 0]) ?_ 0 _ rfl; (with_reducible repeat (first | refine blk_drewN ?_ _ | refine blk_drew ?_ | refine blk_alloc ?_ _)); exact BK342.out) hb); have n2_ := zA (below_step (by repeat (first | (with_reducible first | exact HB.out | apply zL | apply zN | apply zD | refine below_set ?_ GE342.out) | exact HB.out)) hb); clear HO_8; clear BK342; clear HB; have HO_8 := n0_; have BK342 := n1_; have HB := n2_; clear n0_ n1_ n2_; (try clear hb); (try clear hb2); (try clear hk); (try clear hi)))
    go_roundg k1
    case measure => have := HK1.out; omega
    case rel => exact ⟨(x8_1), (wrap64 (x23_1 + 1)), (by first | rfl | (simp; done) | (simp [*]; done)), H', ⟨by have := HK1.out; omega⟩, ⟨by (with_reducible repeat (first | apply Kd.R_alloc | apply Kd.R_drewN | apply Kd.R_drew)); exact Kd.R_mono HO_8.out (fun _ hk => trivial)⟩, ⟨by repeat (first | (with_reducible first | exact HB.out | apply zL | apply zN | apply zD | refine below_set ?_ GE342.out) | exact HB.out)⟩⟩
   subst c13
   have H1 : (if x8_1.length < 2932031007402 then (cone_View.l0 k1 l1 (x8_1 ++ [(⟨(rd_T45 l0 x23_1).f0, (rd_T45 l0 x23_1).f1, (rd_T45 l0 x23_1).f2, (rd_T45 l0 x23_1).f3⟩ : S45)]) l0 (l0.length : Int) (wrap64 (x23_1 + 1))) else (none)) = some (r1, r2) := by rw [if_pos rfl] at H; exact H
   clear H; have H := H1; clear H1
   by_cases c14 : x8_1.length < 2932031007402
   rotate_left
   ·rw [if_neg c14] at H
    exact absurd H (by simp)
   rw [if_pos c14] at H; have LMc14 := zA c14; clear c14
   obtain ⟨y344, hy344⟩ : ∃ y_ : List (S45), y_ = (x8_1 ++ [(⟨(rd_T45 l0 x23_1).f0, (rd_T45 l0 x23_1).f1, (rd_T45 l0 x23_1).f2, (rd_T45 l0 x23_1).f3⟩ : S45)]) := ⟨_, rfl⟩
   replace H : (cone_View.l0 k1 l1 y344 l0 (l0.length : Int) (wrap64 (x23_1 + 1))) = some (r1, r2) := by first | (rw [hy344]; with_reducible exact H) | (have H2_ := (Option.bind_some _ _).symm.trans H; rw [hy344]; with_reducible exact H2_) | (have H2_ := (Option.bind_some _ _).symm.trans H; with_reducible exact H2_) | with_reducible exact H | (rw [hy344]; exact H) | exact H
   have Ny344 := zA hy344; clear hy344
   have H' := zA H
   clear H
   have p341 : 0 ≤ (x23_1 : Int) := zO (by first | (with_reducible assumption) | assumption)
   have q341 : x23_1 < (l0.length : Int) := zO (by first | (with_reducible assumption) | assumption)
   obtain ⟨ad341, e341, hx341_0, hx341_1, hx341_2, hx341_3⟩ := at_T45 HR0.out x23_1 p341 q341
   cases e341
   replace hx341_0 := (HB.out.cell (zB w _ hx341_0)).trans hx341_0
   replace hx341_1 := (HB.out.cell (zB w _ hx341_1)).trans hx341_1
   replace hx341_2 := (HB.out.cell (zB w _ hx341_2)).trans hx341_2
   replace hx341_3 := (HB.out.cell (zB w _ hx341_3)).trans hx341_3
   replace p341 := eq_true p341
   replace q341 := eq_true q341
   go_wp2_with (first | ((with_reducible refine gate_dst (N := 10) rfl ?_); refine box_event ?hg (N := 10) ?hd (cs := #[.string (⟨#[]⟩ : ByteArray), .string (⟨#[]⟩ : ByteArray), .int .i64 0, .int .i64 0]) (t := 45) ?hr ?_; (case hd => rfl); (case hg => rfl); (case hr => first | (go_simp; done) | (go_simp; rfl)); intro gb342 hg w15 hbox hb; have n0_ := zA (Kd.R_below (Kd.R_elderB (by (with_reducible repeat (first | apply Kd.R_alloc | apply Kd.R_drewN | apply Kd.R_drew)); exact HO_8.out) gb342 (Nat.le_of_eq hg.symm)) hb); have n1_ := zA (below_step (by repeat (first | (with_reducible first | exact HB.out | apply zL | apply zN | apply zD) | exact HB.out)) hb); have n2_ := zA (hbox); have n3_ := zA ((by rw [hg]; exact (below_size (by repeat (first | (with_reducible first | exact HB.out | apply zL | apply zN | apply zD) | exact HB.out))) : w.heap.size ≤ gb342)); have n4_ := zA ((by rw [hg]; exact (below_size (by repeat (first | (with_reducible first | exact HB.out | apply zL | apply zN | apply zD) | exact HB.out))) : w.heap.size ≤ gb342)); clear HO_8; clear HB; have HO_8 := n0_; have HB := n1_; have BK342 := n2_; have GW342 := n3_; have GE342 := n4_; clear n0_ n1_ n2_ n3_ n4_; clear hb hbox hg; have hcz16_0 : w15.cell? ⟨gb342, 0, none⟩ = some (.string (⟨#[]⟩ : ByteArray)) := (blk_cell BK342.out 0).trans rfl; have hcz16_1 : w15.cell? ⟨gb342, 1, none⟩ = some (.string (⟨#[]⟩ : ByteArray)) := (blk_cell BK342.out 1).trans rfl; have hcz16_2 : w15.cell? ⟨gb342, 2, none⟩ = some (.int .i64 0) := (blk_cell BK342.out 2).trans rfl; have hcz16_3 : w15.cell? ⟨gb342, 3, none⟩ = some (.int .i64 0) := (blk_cell BK342.out 3).trans rfl; have hfz16_0 := blk_frozen BK342.out 0; have hfz16_1 := blk_frozen BK342.out 1; have hfz16_2 := blk_frozen BK342.out 2; have hfz16_3 := blk_frozen BK342.out 3) | ((with_reducible refine gate_callee (f := 39) rfl ?_); refine goesL_ (some 30) rfl rfl Tryd.func39 (by kernel_rfl) rfl #[.slice A1 l1.length c1, .string ((rd_T45 l0 x23_1).f0)] rfl (by (try simp only [List.map_toArray, List.map_cons, List.map_nil]); first | done | rfl | (simp only [List.length_drop, List.length_take]; rfl)) ?_; (with_reducible refine (cone_Shows.calls k1 _ _ l1 ((rd_T45 l0 x23_1).f0) true _ ?side1 ?side2 A12.out).mono ?_); (case side1 => exact Kd.C_below HR1.out (by repeat (first | (with_reducible first | exact HB.out | apply zL | apply zN | apply zD | refine below_set ?_ GE342.out) | exact HB.out))); (case side2 => exact HC1.out); rintro e w17 ⟨rfl, hb⟩; refine ⟨_, rfl, ?_⟩; have n0_ := zA (Kd.R_below (by (with_reducible repeat (first | apply Kd.R_alloc | apply Kd.R_drewN | apply Kd.R_drew)); exact (Kd.R_mono (Kd.R_far (p := ⟨gb342, 3, none⟩) (Kd.R_far (p := ⟨gb342, 2, none⟩) (Kd.R_far (p := ⟨gb342, 1, none⟩) (Kd.R_far (p := ⟨gb342, 0, none⟩) (Kd.R_mono HO_8.out (fun k_ hk => (⟨hk, hk.2⟩ : _ ∧ k_ ≠ gb342))) (fun _ hk => hk.2) (.string ((rd_T45 l0 x23_1).f0))) (fun _ hk => hk.2) (.string ((rd_T45 l0 x23_1).f1))) (fun _ hk => hk.2) (.int .i64 ((rd_T45 l0 x23_1).f2))) (fun _ hk => hk.2) (.int .i64 ((rd_T45 l0 x23_1).f3))) (fun _ h_ => h_.1))) hb); have n1_ := zA (blk_below (g := gb342) (o := .cells #[.string ((rd_T45 l0 x23_1).f0), .string ((rd_T45 l0 x23_1).f1), .int .i64 ((rd_T45 l0 x23_1).f2), .int .i64 ((rd_T45 l0 x23_1).f3)] 45 (0, 0)) (by (with_reducible repeat (first | refine blk_drewN ?_ _ | refine blk_drew ?_ | refine blk_alloc ?_ _)); refine blk_put (cs := #[.string ((rd_T45 l0 x23_1).f0), .string ((rd_T45 l0 x23_1).f1), .int .i64 ((rd_T45 l0 x23_1).f2), .int .i64 0]) ?_ 3 _ rfl; (with_reducible repeat (first | refine blk_drewN ?_ _ | refine blk_drew ?_ | refine blk_alloc ?_ _)); refine blk_put (cs := #[.string ((rd_T45 l0 x23_1).f0), .string ((rd_T45 l0 x23_1).f1), .int .i64 0, .int .i64 0]) ?_ 2 _ rfl; (with_reducible repeat (first | refine blk_drewN ?_ _ | refine blk_drew ?_ | refine blk_alloc ?_ _)); refine blk_put (cs := #[.string ((rd_T45 l0 x23_1).f0), .string (⟨#[]⟩ : ByteArray), .int .i64 0, .int .i64 0]) ?_ 1 _ rfl; (with_reducible repeat (first | refine blk_drewN ?_ _ | refine blk_drew ?_ | refine blk_alloc ?_ _)); refine blk_put (cs := #[.string (⟨#[]⟩ : ByteArray), .string (⟨#[]⟩ : ByteArray), .int .i64 0, .int .i64 0]) ?_ 0 _ rfl; (with_reducible repeat (first | refine blk_drewN ?_ _ | refine blk_drew ?_ | refine blk_alloc ?_ _)); exact BK342.out) hb); have n2_ := zA (below_step (by repeat (first | (with_reducible first | exact HB.out | apply zL | apply zN | apply zD | refine below_set ?_ GE342.out) | exact HB.out)) hb); clear HO_8; clear BK342; clear HB; have HO_8 := n0_; have BK342 := n1_; have HB := n2_; clear n0_ n1_ n2_; (try clear hb); (try clear hb2); (try clear hk); (try clear hi); have hcz18_0 : w17.cell? ⟨gb342, 0, none⟩ = some (.string ((rd_T45 l0 x23_1).f0)) := (blk_cell BK342.out 0).trans rfl; have hcz18_1 : w17.cell? ⟨gb342, 1, none⟩ = some (.string ((rd_T45 l0 x23_1).f1)) := (blk_cell BK342.out 1).trans rfl; have hcz18_2 : w17.cell? ⟨gb342, 2, none⟩ = some (.int .i64 ((rd_T45 l0 x23_1).f2)) := (blk_cell BK342.out 2).trans rfl; have hcz18_3 : w17.cell? ⟨gb342, 3, none⟩ = some (.int .i64 ((rd_T45 l0 x23_1).f3)) := (blk_cell BK342.out 3).trans rfl; have hfz18_0 := blk_frozen BK342.out 0; have hfz18_1 := blk_frozen BK342.out 1; have hfz18_2 := blk_frozen BK342.out 2; have hfz18_3 := blk_frozen BK342.out 3) | ((with_reducible refine gate_builtin (b := .append) (xs := #[.tmp 31, .tmp 33]) rfl ?_); at_builtin; refine Kd.R_append k45 (w0 := w) w.heap.size rfl (.tmp 31) (.tmp 33) 22 45 (.agg #[(.string ⟨#[]⟩), (.string ⟨#[]⟩), (.int .i64 0), (.int .i64 0)]) 48 rfl Tryd.underlying22 info45 rfl (by decide) (by omega) u8 x8_1 (⟨(rd_T45 l0 x23_1).f0, (rd_T45 l0 x23_1).f1, (rd_T45 l0 x23_1).f2, (rd_T45 l0 x23_1).f3⟩ : S45) [.string ((rd_T45 l0 x23_1).f0), .string ((rd_T45 l0 x23_1).f1), .int .i64 ((rd_T45 l0 x23_1).f2), .int .i64 ((rd_T45 l0 x23_1).f3)] (fun k_ => k_ ≠ gb342) (fun _ => False) rfl rfl ?aP (fun _ hk => hk.elim) ?aF ?aO ?aB ?aS ?aL ?_; (case aP => exact k45_mkM _ _ _ (⟨(rd_T45 l0 x23_1).f0, (rd_T45 l0 x23_1).f1, (rd_T45 l0 x23_1).f2, (rd_T45 l0 x23_1).f3⟩ : S45)); (case aB => exact (by repeat (first | (with_reducible first | exact HB.out | apply zL | apply zN | apply zD | refine below_set ?_ GE342.out) | exact HB.out))); (case aF => exact (fun k_ hk => Kd.freshB (g := gb342) (o := .cells #[.string ((rd_T45 l0 x23_1).f0), .string ((rd_T45 l0 x23_1).f1), .int .i64 ((rd_T45 l0 x23_1).f2), .int .i64 ((rd_T45 l0 x23_1).f3)] 45 (0, 0)) (by (with_reducible repeat (first | refine blk_drewN ?_ _ | refine blk_drew ?_ | refine blk_alloc ?_ _)); exact BK342.out) k_ hk)); (case aO => exact (by (with_reducible repeat (first | apply Kd.R_alloc | apply Kd.R_drewN | apply Kd.R_drew)); exact Kd.R_mono HO_8.out (fun _ hk => hk.2))); (case aS => exact (below_size (by repeat (first | (with_reducible first | exact HB.out | apply zL | apply zN | apply zD | refine below_set ?_ GE342.out) | exact HB.out)))); (case aL => have := LMc14.out; omega); intro v345 w19 ho hb hg hat; rw [← Ny344.out] at ho; have n0_ := zA (blk_grown (g := gb342) (o := .cells #[.string ((rd_T45 l0 x23_1).f0), .string ((rd_T45 l0 x23_1).f1), .int .i64 ((rd_T45 l0 x23_1).f2), .int .i64 ((rd_T45 l0 x23_1).f3)] 45 (0, 0)) (by (with_reducible repeat (first | refine blk_drewN ?_ _ | refine blk_drew ?_ | refine blk_alloc ?_ _)); exact BK342.out) hg (Kd.R_away HO_8.out (fun _ hk => hk.2))); have n1_ := zA (hb); have n2_ := zA (ho); clear BK342; clear HB; clear HO_8; have BK342 := n0_; have HB := n1_; have HO346 := n2_; clear n0_ n1_ n2_; clear ho hb hg hat))
   go_roundg k1
   case measure => have := HK1.out; omega
   case rel => exact ⟨(y344), (wrap64 (x23_1 + 1)), (by first | rfl | (simp; done) | (simp [*]; done)), H', ⟨by have := HK1.out; omega⟩, ⟨by (with_reducible repeat (first | apply Kd.R_alloc | apply Kd.R_drewN | apply Kd.R_drew)); exact Kd.R_mono HO346.out (fun _ hk => trivial)⟩, ⟨by repeat (first | (with_reducible first | exact HB.out | apply zL | apply zN | apply zD | refine below_set ?_ GE342.out) | exact HB.out)⟩⟩
def copselaw16_example.f  : Option ((List (S45))) := some (([(⟨(⟨#[97, 47, 120, 47, 49]⟩ : ByteArray), (⟨#[]⟩ : ByteArray), 0, 5⟩ : S45), (⟨(⟨#[97, 47, 121, 47, 50]⟩ : ByteArray), (⟨#[]⟩ : ByteArray), 0, 7⟩ : S45), (⟨(⟨#[97, 47, 122, 47, 51]⟩ : ByteArray), (⟨#[]⟩ : ByteArray), 0, 100⟩ : S45), (⟨(⟨#[98, 47, 52]⟩ : ByteArray), (⟨#[]⟩ : ByteArray), 0, 1⟩ : S45), (⟨(⟨#[114]⟩ : ByteArray), (⟨#[]⟩ : ByteArray), 0, 3⟩ : S45)] : List (S45)))
set_option maxHeartbeats 8000000 in
set_option maxRecDepth 100000 in
theorem copselaw16_example.calls  (r : List (S45)) (w : World) (h : copselaw16_example.f  = some r) :
  Calls Tryd.prog 23 #[] w fun e w' => ∃ v0_ : Value, e = .returned (v0_) ∧ Kd.R k45 45 w' w.heap.size (fun _ => True) v0_ r ∧ Below w.heap.size w w' := by
 have hu45 := Tryd.underlying45
 have HB := zA (Below.refl w.heap.size w)
 have H : (some (([(⟨(⟨#[97, 47, 120, 47, 49]⟩ : ByteArray), (⟨#[]⟩ : ByteArray), 0, 5⟩ : S45), (⟨(⟨#[97, 47, 121, 47, 50]⟩ : ByteArray), (⟨#[]⟩ : ByteArray), 0, 7⟩ : S45), (⟨(⟨#[97, 47, 122, 47, 51]⟩ : ByteArray), (⟨#[]⟩ : ByteArray), 0, 100⟩ : S45), (⟨(⟨#[98, 47, 52]⟩ : ByteArray), (⟨#[]⟩ : ByteArray), 0, 1⟩ : S45), (⟨(⟨#[114]⟩ : ByteArray), (⟨#[]⟩ : ByteArray), 0, 3⟩ : S45)] : List (S45)))) = some r := h
 clear h
 obtain ⟨y347, hy347⟩ : ∃ y_ : List (S45), y_ = (([(⟨(⟨#[97, 47, 120, 47, 49]⟩ : ByteArray), (⟨#[]⟩ : ByteArray), 0, 5⟩ : S45), (⟨(⟨#[97, 47, 121, 47, 50]⟩ : ByteArray), (⟨#[]⟩ : ByteArray), 0, 7⟩ : S45), (⟨(⟨#[97, 47, 122, 47, 51]⟩ : ByteArray), (⟨#[]⟩ : ByteArray), 0, 100⟩ : S45), (⟨(⟨#[98, 47, 52]⟩ : ByteArray), (⟨#[]⟩ : ByteArray), 0, 1⟩ : S45), (⟨(⟨#[114]⟩ : ByteArray), (⟨#[]⟩ : ByteArray), 0, 3⟩ : S45)] : List (S45))) := ⟨_, rfl⟩
 replace H : (some y347) = some r := by first | (rw [hy347]; with_reducible exact H) | (have H2_ := (Option.bind_some _ _).symm.trans H; rw [hy347]; with_reducible exact H2_) | (have H2_ := (Option.bind_some _ _).symm.trans H; with_reducible exact H2_) | with_reducible exact H | (rw [hy347]; exact H) | exact H
 have Ny347 := zA hy347; clear hy347; obtain rfl := Option.some.inj H
 go_enter Tryd.func23, Tryd.ntmps23
 go_wp2_with (first | ((with_reducible refine gate_dst (N := 6) rfl ?_); refine Kd.R_lit k45 _ 45 ?hg (N := 6) ?hd (xs := ([(⟨(⟨#[97, 47, 120, 47, 49]⟩ : ByteArray), (⟨#[]⟩ : ByteArray), 0, 5⟩ : S45), (⟨(⟨#[97, 47, 121, 47, 50]⟩ : ByteArray), (⟨#[]⟩ : ByteArray), 0, 7⟩ : S45), (⟨(⟨#[97, 47, 122, 47, 51]⟩ : ByteArray), (⟨#[]⟩ : ByteArray), 0, 100⟩ : S45), (⟨(⟨#[98, 47, 52]⟩ : ByteArray), (⟨#[]⟩ : ByteArray), 0, 1⟩ : S45), (⟨(⟨#[114]⟩ : ByteArray), (⟨#[]⟩ : ByteArray), 0, 3⟩ : S45)] : List (S45))) (inner := [.string (⟨#[97, 47, 120, 47, 49]⟩ : ByteArray), .string (⟨#[]⟩ : ByteArray), .int .i64 0, .int .i64 5, .string (⟨#[97, 47, 121, 47, 50]⟩ : ByteArray), .string (⟨#[]⟩ : ByteArray), .int .i64 0, .int .i64 7, .string (⟨#[97, 47, 122, 47, 51]⟩ : ByteArray), .string (⟨#[]⟩ : ByteArray), .int .i64 0, .int .i64 100, .string (⟨#[98, 47, 52]⟩ : ByteArray), .string (⟨#[]⟩ : ByteArray), .int .i64 0, .int .i64 1, .string (⟨#[114]⟩ : ByteArray), .string (⟨#[]⟩ : ByteArray), .int .i64 0, .int .i64 3]) (ok := fun _ => True) (okp := fun _ => True) ?hr ?hp (fun _ hk => hk) trivial (Below.refl _ _) (Nat.le_refl _) (by simp) ?_; (case hd => rfl); (case hg => rfl); (case hr => first | (go_simp; done) | (go_simp; rfl)); (case hp => exact (Reps.c4 (show Kd.M k45 _ _ _ (⟨(⟨#[97, 47, 120, 47, 49]⟩ : ByteArray), (⟨#[]⟩ : ByteArray), 0, 5⟩ : S45) [.string (⟨#[97, 47, 120, 47, 49]⟩ : ByteArray), .string (⟨#[]⟩ : ByteArray), .int .i64 0, .int .i64 5] from (k45_mkM _ _ _ (⟨(⟨#[97, 47, 120, 47, 49]⟩ : ByteArray), (⟨#[]⟩ : ByteArray), 0, 5⟩ : S45) )) (Reps.c4 (show Kd.M k45 _ _ _ (⟨(⟨#[97, 47, 121, 47, 50]⟩ : ByteArray), (⟨#[]⟩ : ByteArray), 0, 7⟩ : S45) [.string (⟨#[97, 47, 121, 47, 50]⟩ : ByteArray), .string (⟨#[]⟩ : ByteArray), .int .i64 0, .int .i64 7] from (k45_mkM _ _ _ (⟨(⟨#[97, 47, 121, 47, 50]⟩ : ByteArray), (⟨#[]⟩ : ByteArray), 0, 7⟩ : S45) )) (Reps.c4 (show Kd.M k45 _ _ _ (⟨(⟨#[97, 47, 122, 47, 51]⟩ : ByteArray), (⟨#[]⟩ : ByteArray), 0, 100⟩ : S45) [.string (⟨#[97, 47, 122, 47, 51]⟩ : ByteArray), .string (⟨#[]⟩ : ByteArray), .int .i64 0, .int .i64 100] from (k45_mkM _ _ _ (⟨(⟨#[97, 47, 122, 47, 51]⟩ : ByteArray), (⟨#[]⟩ : ByteArray), 0, 100⟩ : S45) )) (Reps.c4 (show Kd.M k45 _ _ _ (⟨(⟨#[98, 47, 52]⟩ : ByteArray), (⟨#[]⟩ : ByteArray), 0, 1⟩ : S45) [.string (⟨#[98, 47, 52]⟩ : ByteArray), .string (⟨#[]⟩ : ByteArray), .int .i64 0, .int .i64 1] from (k45_mkM _ _ _ (⟨(⟨#[98, 47, 52]⟩ : ByteArray), (⟨#[]⟩ : ByteArray), 0, 1⟩ : S45) )) (Reps.c4 (show Kd.M k45 _ _ _ (⟨(⟨#[114]⟩ : ByteArray), (⟨#[]⟩ : ByteArray), 0, 3⟩ : S45) [.string (⟨#[114]⟩ : ByteArray), .string (⟨#[]⟩ : ByteArray), .int .i64 0, .int .i64 3] from (k45_mkM _ _ _ (⟨(⟨#[114]⟩ : ByteArray), (⟨#[]⟩ : ByteArray), 0, 3⟩ : S45) )) (Reps.none _ _))))))); intro v348 w1 ho2 hb hg_ hnew_; clear hg_ hnew_; (first | rw [← Ny347.out] at ho2 | (simp only [Int.reduceToNat] at ho2; rw [← Ny347.out] at ho2)); have n0_ := zA (Kd.R_lower ho2 (below_size (by repeat (first | (with_reducible first | exact HB.out | apply zL | apply zN | apply zD) | exact HB.out)))); have n1_ := zA (below_step (by repeat (first | (with_reducible first | exact HB.out | apply zL | apply zN | apply zD) | exact HB.out)) hb); clear HB; have HO349 := n0_; have HB := n1_; clear n0_ n1_; clear hb ho2))
 go_ret
 exact ⟨_, by first | rfl | (simp [errW_none, errW_some] <;> rfl) | (simp [*, errW_none, errW_some] <;> rfl), by (with_reducible repeat (first | apply Kd.R_alloc | apply Kd.R_drewN | apply Kd.R_drew)); exact HO349.out, by repeat (first | (with_reducible first | exact HB.out | apply zL | apply zN | apply zD) | exact HB.out)⟩
end Go.Proofs.YtnfolcefjkannaaDoor.G
namespace Go.Proofs.YtnfolcefjkannaaDoor.G
set_option linter.unusedSectionVars false
set_option linter.unusedVariables false
set_option linter.unusedSimpArgs false
open Go Go.RowKit Go.Proofs.YtnfolcefjkannaaDoorW.PrintWords Go.Proofs.YtnfolcefjkannaaDoorW.PrintLast Go.Proofs.YtnfolcefjkannaaDoorW.PrintMore Go.Proofs.YtnfolcefjkannaaDoor.Base
def Ev {α : Type} (X : Nat → Option α) (v : α) : Prop := ∃ K, ∀ k, K ≤ k → X k = some v
theorem Ev.of {α : Type} {X : Option α} {v : α} (h : X = some v) : Ev (fun _ => X) v := ⟨0, fun _ _ => h⟩
theorem Ev.bind {α β : Type} {X : Nat → Option α} {F : Nat → α → Option β} {a : α} {b : β} (h1 : Ev X a) (h2 : Ev (fun k => F k a) b) : Ev (fun k => (X k).bind (F k)) b := by
  obtain ⟨K1, h1⟩ := h1
  obtain ⟨K2, h2⟩ := h2
  exact ⟨max K1 K2, fun k hk => by show (X k).bind (F k) = some b; rw [h1 k (by omega)]; exact h2 k (by omega)⟩
theorem Ev.step {α : Type} {X Y : Nat → Option α} {v : α} (h : Ev Y v) (e : ∀ k, X (k + 1) = Y k) : Ev X v := by
  obtain ⟨K, h⟩ := h
  refine ⟨K + 1, fun k hk => ?_⟩
  cases k with
  | zero => omega
  | succ k => rw [e]; exact h k (by omega)
theorem Ev.congr {α : Type} {X Y : Nat → Option α} {v : α} (h : Ev Y v) (e : ∀ k, X k = Y k) : Ev X v := by
  obtain ⟨K, h⟩ := h
  exact ⟨K, fun k hk => by rw [e]; exact h k hk⟩
theorem Ev.two {α β : Type} {X : Nat → Option α} {Y : Nat → Option β} {a : α} {b : β} (h1 : Ev X a) (h2 : Ev Y b) : ∃ K, ∀ k, K ≤ k → X k = some a ∧ Y k = some b := by
  obtain ⟨K1, h1⟩ := h1
  obtain ⟨K2, h2⟩ := h2
  exact ⟨max K1 K2, fun k hk => ⟨h1 k (by omega), h2 k (by omega)⟩⟩
theorem wrap_id {i : Int} (h0 : -9223372036854775808 ≤ i) (h : i ≤ 9223372036854775807) : wrap64 i = i := by unfold wrap64; omega
theorem bt_data (s : ByteArray) (i : Nat) (h : i < s.data.toList.length) : bt s (i : Int) = ((s.data.toList[i]'h).toNat : Int) := by
  have h2 : i < s.size := by rw [size_data]; exact h
  simp only [bt, Int.toNat_natCast, dif_pos h2]
  rfl
theorem bt_is (s : ByteArray) (i : Nat) (h : i < s.data.toList.length) : bt s (i : Int) = 47 ↔ s.data.toList[i]? = some 47 := by
  rw [bt_data s i h, List.getElem?_eq_getElem h]
  constructor
  · intro e
    have e2 : (s.data.toList[i]'h).toNat = 47 := by omega
    exact congrArg some (UInt8.toNat_inj.1 e2)
  · intro e
    injection e with e
    rw [e]; rfl
theorem extract_mkB (s : ByteArray) (a b : Nat) : s.extract a b = mkB ((s.data.toList.take b).drop a) := by
  apply data_inj
  rw [mkB_data]
  simp [ByteArray.data_extract, List.drop_take]
def sp (p : ByteArray) : List ByteArray := if p.data.toList = [] then [] else (pieces 47 p.data.toList).map mkB
theorem path_Split_sp (p : ByteArray) (h : p.size < 4294967281) : path_Split.f p = some (sp p) := by
  unfold path_Split.f sp
  rw [toList_eq_data]
  split
  · rfl
  · have e : sep1 (⟨#[47]⟩ : ByteArray) = some 47 := rfl
    simp [strings_Split.f, e, h]
theorem path_Depth_sp (p : ByteArray) (h : p.size < 4294967281) : path_Depth.f p = some ((sp p).length : Int) := by
  unfold path_Depth.f sp
  rw [toList_eq_data]
  split
  · rfl
  · have e : sep1 (⟨#[47]⟩ : ByteArray) = some 47 := rfl
    have hc : p.data.toList.count 47 ≤ p.size := by rw [size_data]; exact List.count_le_length
    simp only [strings_Count.f, e, Option.bind_some, List.length_map, pieces_length]
    rw [wrap_id (by omega) (by omega)]
    simp
theorem ref_Split_l0 (a : ByteArray) (hs : a.size < 4294967281) : ∀ (m i s : Nat) (acc : List ByteArray), a.size - i = m → s ≤ i → i ≤ a.size → acc.length ≤ i → (∀ j, s ≤ j → j < i → a.data.toList[j]? ≠ some 47) →
    Ev (fun k => copseref02_Split.l0 k a acc (s : Int) (i : Int)) (acc ++ (pieces 47 (a.data.toList.drop s)).map mkB) := by
  have hl : a.size = a.data.toList.length := size_data a
  intro m
  induction m with
  | zero =>
    intro i s acc hm hsi hi hacc hno
    have he : i = a.size := by omega
    subst he
    have hp : pieces 47 (a.data.toList.drop s) = [a.data.toList.drop s] := by
      refine pieces_none _ _ (fun hmem => ?_)
      obtain ⟨k, hk, e⟩ := List.mem_iff_getElem.1 hmem
      rw [List.length_drop] at hk
      rw [List.getElem_drop] at e
      exact hno (s + k) (by omega) (by omega) (by rw [List.getElem?_eq_getElem (by omega), e])
    rw [hp]
    refine Ev.step (Y := fun k => copseref02_Split.l0 k a (acc ++ [mkB (a.data.toList.drop s)]) (a.size + 1 : Int) (a.size + 1 : Int)) ?_ (fun k => ?_)
    · refine Ev.step (Y := fun _ => some (acc ++ [mkB (a.data.toList.drop s)])) (Ev.of rfl) (fun k => ?_)
      simp only [copseref02_Split.l0]
      rw [if_neg (by omega)]
    · simp only [copseref02_Split.l0]
      rw [if_pos (by omega), if_pos trivial, if_pos (by omega), if_pos (by omega), if_pos (by omega), wrap_id (by omega) (by omega)]
      rw [extract_mkB, Int.toNat_natCast, Int.toNat_natCast, List.take_of_length_le (by omega)]
  | succ m ih =>
    intro i s acc hm hsi hi hacc hno
    have hlt : i < a.size := by omega
    by_cases h47 : a.data.toList[i]? = some 47
    · have hp : pieces 47 (a.data.toList.drop s) = (a.data.toList.drop s).take (i - s) :: pieces 47 (a.data.toList.drop (i + 1)) := by
        have := pieces_first 47 (a.data.toList.drop s) (i - s) (by rw [List.getElem?_drop, show s + (i - s) = i by omega]; exact h47) (fun k hk => by rw [List.getElem?_drop]; exact hno (s + k) (by omega) (by omega))
        rw [this, List.drop_drop, show s + (i - s + 1) = i + 1 by omega]
      rw [hp]
      have IH := ih (i + 1) (i + 1) (acc ++ [mkB ((a.data.toList.drop s).take (i - s))]) (by omega) (by omega) (by omega) (by simp; omega) (fun j h1 h2 => by omega)
      rw [List.append_assoc] at IH
      refine Ev.step IH (fun k => ?_)
      have hb : bt a (i : Int) = 47 := (bt_is a i (by omega)).2 h47
      simp only [copseref02_Split.l0]
      rw [if_pos (by omega), if_neg (by omega), if_pos (by omega), if_pos (by omega), if_pos hb, if_pos (by omega), if_pos (by omega), if_pos (by omega), wrap_id (by omega) (by omega)]
      rw [extract_mkB, Int.toNat_natCast, Int.toNat_natCast, List.drop_take]
      rfl
    · have IH := ih (i + 1) s acc (by omega) (by omega) (by omega) (by omega) (fun j h1 h2 => by
        by_cases e : j = i
        · rw [e]; exact h47
        · exact hno j h1 (by omega))
      refine Ev.step IH (fun k => ?_)
      have hb : ¬ bt a (i : Int) = 47 := fun h => h47 ((bt_is a i (by omega)).1 h)
      simp only [copseref02_Split.l0]
      rw [if_pos (by omega), if_neg (by omega), if_pos (by omega), if_pos (by omega), if_neg hb, wrap_id (by omega) (by omega)]
      rfl
theorem ref_Split_sp (a : ByteArray) (hs : a.size < 4294967281) : Ev (fun k => copseref02_Split.f k a) (sp a) := by
  unfold sp
  by_cases h : a.data.toList = []
  · rw [if_pos h]
    refine Ev.congr (Ev.of rfl) (fun k => ?_)
    unfold copseref02_Split.f
    rw [toList_eq_data, if_pos h]
  · rw [if_neg h]
    refine Ev.congr (ref_Split_l0 a hs a.size 0 0 [] (by omega) (by omega) (by omega) (by simp) (fun j h1 h2 => by omega)) (fun k => ?_)
    unfold copseref02_Split.f
    rw [toList_eq_data, if_neg h]
    rfl
def Short (p : ByteArray) : Prop := p.size ≤ 2147483648
theorem sp_len (p : ByteArray) (h : Short p) : (sp p).length ≤ 2147483649 := by
  unfold sp
  split
  · simp
  · rw [List.length_map, pieces_length]
    have : p.data.toList.count 47 ≤ p.size := by rw [size_data]; exact List.count_le_length
    unfold Short at h
    omega
theorem ref_shared_l0 (x y : List ByteArray) (hx : x.length ≤ 9223372036854775806) : ∀ (m i : Nat), x.length - i = m → i ≤ x.length → i ≤ y.length →
    Ev (fun k => copseref02_shared.l0 k x y (i : Int)) ((i + SumA.comLen (x.drop i) (y.drop i) : Nat) : Int) := by
  intro m
  induction m with
  | zero =>
    intro i hm hi hy
    refine Ev.step (Y := fun _ => some ((i + SumA.comLen (x.drop i) (y.drop i) : Nat) : Int)) (Ev.of rfl) (fun k => ?_)
    have he : x.drop i = [] := List.drop_eq_nil_of_le (by omega)
    simp only [copseref02_shared.l0]
    rw [if_neg (by omega), he]
    simp [SumA.comLen]
  | succ m ih =>
    intro i hm hi hy
    by_cases hyl : i < y.length
    · rw [SumA.comLen_drop x y i (by omega) hyl]
      by_cases h : (rdOf ByteArray.empty x (i : Int)).toList = (rdOf ByteArray.empty y (i : Int)).toList
      · have IH := ih (i + 1) (by omega) (by omega) (by omega)
        rw [if_pos h, show i + (SumA.comLen (x.drop (i + 1)) (y.drop (i + 1)) + 1) = i + 1 + SumA.comLen (x.drop (i + 1)) (y.drop (i + 1)) by omega]
        refine Ev.step IH (fun k => ?_)
        simp only [copseref02_shared.l0]
        rw [if_pos (by omega), if_pos (by omega), if_pos (by omega), if_pos h, wrap_id (by omega) (by omega)]
        rfl
      · rw [if_neg h]
        refine Ev.step (Y := fun _ => some ((i + 0 : Nat) : Int)) (Ev.of rfl) (fun k => ?_)
        simp only [copseref02_shared.l0]
        rw [if_pos (by omega), if_pos (by omega), if_pos (by omega), if_neg h]
        rfl
    · refine Ev.step (Y := fun _ => some ((i + SumA.comLen (x.drop i) (y.drop i) : Nat) : Int)) (Ev.of rfl) (fun k => ?_)
      have he : y.drop i = [] := List.drop_eq_nil_of_le (by omega)
      have e0 : SumA.comLen (x.drop i) [] = 0 := by cases x.drop i <;> rfl
      simp only [copseref02_shared.l0]
      rw [if_pos (by omega), if_neg (by omega), he, e0]
      rfl
theorem ref_shared (x y : List ByteArray) (hx : x.length ≤ 9223372036854775806) : Ev (fun k => copseref02_shared.f k x y) ((SumA.comLen x y : Nat) : Int) := by
  have := ref_shared_l0 x y hx x.length 0 (by omega) (by omega) (by omega)
  simp only [List.drop_zero, Nat.zero_add] at this
  exact this
theorem beq_cast (a b : Nat) : (((a : Nat) : Int) == ((b : Nat) : Int)) = (a == b) := by
  by_cases h : a = b
  · subst h; simp
  · rw [beq_eq_false_iff_ne.mpr h, beq_eq_false_iff_ne.mpr (by omega)]
def aboveP (p q : ByteArray) : Bool := decide ((sp p).length < (sp q).length) && SumA.comLen (sp p) (sp q) == (sp p).length
theorem path_Above_sp (p q : ByteArray) (hp : Short p) (hq : Short q) : path_Above.f p q = some (aboveP p q) := by
  unfold Short at hp hq
  unfold path_Above.f aboveP
  rw [path_Split_sp p (by omega), path_Split_sp q (by omega)]
  simp only [Option.bind_some, path_common.f]
  by_cases h : (sp p).length < (sp q).length
  · rw [if_pos (by omega)]
    rw [beq_cast, decide_eq_true h, Bool.true_and]
  · rw [if_neg (by omega)]
    simp [h]
theorem ref_Above_sp (p q : ByteArray) (hp : Short p) (hq : Short q) : Ev (fun k => copseref02_Above.f k p q) (aboveP p q) := by
  have l := sp_len p hp
  unfold Short at hp hq
  refine Ev.bind (ref_Split_sp p (by omega)) (Ev.bind (ref_Split_sp q (by omega)) ?_)
  unfold aboveP
  by_cases h : (sp p).length < (sp q).length
  · rw [decide_eq_true h, Bool.true_and, ← beq_cast]
    refine Ev.congr (Ev.bind (F := fun _ t => some (t == ((sp p).length : Int))) (ref_shared (sp p) (sp q) (by omega)) (Ev.of rfl)) (fun k => ?_)
    rw [if_pos (by omega)]
  · refine Ev.congr (Ev.of (X := some false) (by simp [h])) (fun k => ?_)
    rw [if_neg (by omega)]
theorem ref_bytes_l0 (x y : ByteArray) (hx : Short x) (hy : Short y) : ∀ (m i : Nat), x.size - i = m → i ≤ x.size → i ≤ y.size →
    Ev (fun k => copseref02_bytes.l0 k x y (i : Int)) (cmpT (x.data.toList.drop i) (y.data.toList.drop i)) := by
  have lx : x.size = x.data.toList.length := size_data x
  have ly : y.size = y.data.toList.length := size_data y
  unfold Short at hx hy
  intro m
  induction m with
  | zero =>
    intro i hm hi hyi
    have he : x.data.toList.drop i = [] := List.drop_eq_nil_of_le (by omega)
    rw [he]
    refine Ev.step (Y := fun k => copseref02_bytes.j1 k x y (i : Int) false) (Ev.step (Y := fun _ => some (cmpT [] (y.data.toList.drop i))) (Ev.of rfl) (fun k => ?_)) (fun k => ?_)
    · simp only [copseref02_bytes.j1]
      rw [if_neg (by decide)]
      by_cases h : i < y.size
      · rw [if_pos (by omega), List.drop_eq_getElem_cons (by omega)]
        rfl
      · rw [if_neg (by omega), if_neg (by omega), List.drop_eq_nil_of_le (by omega)]
        rfl
    · simp only [copseref02_bytes.l0]
      rw [if_neg (by omega)]
  | succ m ih =>
    intro i hm hi hyi
    have hlt : i < x.size := by omega
    by_cases h : i < y.size
    · have IH := ih (i + 1) (by omega) (by omega) (by omega)
      have bx := bt_data x i (by omega)
      have by_ := bt_data y i (by omega)
      rw [List.drop_eq_getElem_cons (l := x.data.toList) (i := i) (by omega), List.drop_eq_getElem_cons (l := y.data.toList) (i := i) (by omega)]
      refine Ev.step (Y := fun k => copseref02_bytes.j1 k x y (i : Int) true) ?_ (fun k => ?_)
      · unfold cmpT
        by_cases h1 : x.data.toList[i]'(by omega) < y.data.toList[i]'(by omega)
        · rw [if_pos h1]
          refine Ev.step (Y := fun _ => some (-1)) (Ev.of rfl) (fun k => ?_)
          have h1' := UInt8.lt_iff_toNat_lt.1 h1
          simp only [copseref02_bytes.j1]
          rw [if_pos trivial, if_pos (by omega), if_pos (by omega), if_pos (by omega), if_pos (by rw [bx, by_]; omega)]
        · rw [if_neg h1]
          have h1' : ¬ _ := fun hh => h1 (UInt8.lt_iff_toNat_lt.2 hh)
          by_cases h2 : y.data.toList[i]'(by omega) < x.data.toList[i]'(by omega)
          · rw [if_pos h2]
            refine Ev.step (Y := fun _ => some 1) (Ev.of rfl) (fun k => ?_)
            have h2' := UInt8.lt_iff_toNat_lt.1 h2
            simp only [copseref02_bytes.j1]
            rw [if_pos trivial, if_pos (by omega), if_pos (by omega), if_pos (by omega), if_neg (by rw [bx, by_]; omega), if_pos (by rw [bx, by_]; omega)]
          · rw [if_neg h2]
            have h2' : ¬ _ := fun hh => h2 (UInt8.lt_iff_toNat_lt.2 hh)
            refine Ev.step IH (fun k => ?_)
            simp only [copseref02_bytes.j1]
            rw [if_pos trivial, if_pos (by omega), if_pos (by omega), if_pos (by omega), if_neg (by rw [bx, by_]; omega), if_neg (by rw [bx, by_]; omega), wrap_id (by omega) (by omega)]
            rfl
      · simp only [copseref02_bytes.l0]
        rw [if_pos (by omega), decide_eq_true (by omega)]
    · have he : y.data.toList.drop i = [] := List.drop_eq_nil_of_le (by omega)
      rw [he, List.drop_eq_getElem_cons (l := x.data.toList) (i := i) (by omega)]
      refine Ev.step (Y := fun k => copseref02_bytes.j1 k x y (i : Int) false) (Ev.step (Y := fun _ => some 1) (Ev.of rfl) (fun k => ?_)) (fun k => ?_)
      · simp only [copseref02_bytes.j1]
        rw [if_neg (by decide), if_neg (by omega), if_pos (by omega)]
      · simp only [copseref02_bytes.l0]
        rw [if_pos (by omega), decide_eq_false (by omega)]
theorem ref_bytes (x y : ByteArray) (hx : Short x) (hy : Short y) : Ev (fun k => copseref02_bytes.f k x y) (cmpT x.data.toList y.data.toList) := by
  have := ref_bytes_l0 x y hx hy x.size 0 (by omega) (by omega) (by omega)
  simp only [List.drop_zero] at this
  exact this
def cmpL : List ByteArray → List ByteArray → Int
  | [], [] => 0
  | [], _ :: _ => -1
  | _ :: _, [] => 1
  | a :: x, b :: y => if cmpT a.data.toList b.data.toList = 0 then cmpL x y else cmpT a.data.toList b.data.toList
theorem rdOf_drop (x : List ByteArray) (i : Nat) (h : i < x.length) : x.drop i = rdOf ByteArray.empty x (i : Int) :: x.drop (i + 1) := by
  rw [List.drop_eq_getElem_cons h]
  simp [rdOf, List.getD_eq_getElem?_getD, List.getElem?_eq_getElem h]
theorem rdOf_mem (x : List ByteArray) (i : Nat) (h : i < x.length) : rdOf ByteArray.empty x (i : Int) ∈ x := by
  simp [rdOf, List.getD_eq_getElem?_getD, List.getElem?_eq_getElem h]
theorem cmpL_end (x y : List ByteArray) (h : x = [] ∨ y = []) : cmpL x y = if x.length < y.length then -1 else if y.length < x.length then 1 else 0 := by
  cases x <;> cases y <;> simp_all [cmpL]
theorem ref_Cmp_l0 (x y : List ByteArray) (hx : ∀ c ∈ x, Short c) (hy : ∀ c ∈ y, Short c) (hl : x.length ≤ 2147483649) (hl2 : y.length ≤ 2147483649) : ∀ (m i : Nat), x.length - i = m → i ≤ x.length → i ≤ y.length →
    Ev (fun k => copseref02_Cmp.l0 k x y (i : Int)) (cmpL (x.drop i) (y.drop i)) := by
  intro m
  have fin : ∀ i, i ≤ x.length → i ≤ y.length → (i = x.length ∨ i = y.length) → Ev (fun k => copseref02_Cmp.j1 k x y (i : Int) false) (cmpL (x.drop i) (y.drop i)) := by
    intro i h1 h2 h3
    rw [cmpL_end _ _ (by rcases h3 with h3 | h3; exact .inl (List.drop_eq_nil_of_le (by omega)); exact .inr (List.drop_eq_nil_of_le (by omega))), List.length_drop, List.length_drop]
    refine Ev.step (Y := fun _ => some _) (Ev.of rfl) (fun k => ?_)
    simp only [copseref02_Cmp.j1]
    rw [if_neg (by decide)]
    by_cases a : x.length < y.length
    · rw [if_pos (by omega), if_pos (by omega)]
    · rw [if_neg (by omega)]
      by_cases b : y.length < x.length
      · rw [if_pos (by omega), if_neg (by omega), if_pos (by omega)]
      · rw [if_neg (by omega), if_neg (by omega), if_neg (by omega)]
  induction m with
  | zero =>
    intro i hm hi hyi
    refine Ev.step (fin i hi hyi (.inl (by omega))) (fun k => ?_)
    simp only [copseref02_Cmp.l0]
    rw [if_neg (by omega)]
  | succ m ih =>
    intro i hm hi hyi
    by_cases h : i < y.length
    · have IH := ih (i + 1) (by omega) (by omega) (by omega)
      rw [rdOf_drop x i (by omega), rdOf_drop y i h]
      have hb := ref_bytes (rdOf ByteArray.empty x (i : Int)) (rdOf ByteArray.empty y (i : Int)) (hx _ (rdOf_mem x i (by omega))) (hy _ (rdOf_mem y i h))
      refine Ev.step (Y := fun k => copseref02_Cmp.j1 k x y (i : Int) true) ?_ (fun k => ?_)
      · unfold cmpL
        refine Ev.step (Ev.bind hb (F := fun k t => if t = 0 then copseref02_Cmp.l0 k x y ((i + 1 : Nat) : Int) else some t) ?_) (fun k => ?_)
        · by_cases h0 : cmpT (rdOf ByteArray.empty x (i : Int)).data.toList (rdOf ByteArray.empty y (i : Int)).data.toList = 0
          · rw [if_pos h0]
            exact Ev.congr IH (fun k => by rw [if_pos h0])
          · rw [if_neg h0]
            exact Ev.congr (Ev.of rfl) (fun k => by rw [if_neg h0])
        · simp only [copseref02_Cmp.j1]
          rw [if_pos trivial, if_pos (by omega), if_pos (by omega), if_pos (by omega), wrap_id (by omega) (by omega)]
          rfl
      · simp only [copseref02_Cmp.l0]
        rw [if_pos (by omega), decide_eq_true (by omega)]
    · refine Ev.step (fin i hi hyi (.inr (by omega))) (fun k => ?_)
      simp only [copseref02_Cmp.l0]
      rw [if_pos (by omega), decide_eq_false (by omega)]
theorem pieces_size (c : UInt8) : ∀ (l : B), ∀ p ∈ pieces c l, p.length ≤ l.length
  | [], p, h => by
    rw [pieces_none c [] (by simp)] at h
    simp only [List.mem_singleton] at h
    subst h; simp
  | x :: l, p, h => by
    by_cases hx : x = c
    · subst hx
      rw [pieces_eq_cons] at h
      rcases List.mem_cons.1 h with rfl | h
      · simp
      · have := pieces_size x l p h; simp; omega
    · obtain ⟨q, r, e1, e2⟩ := pieces_cons_ne c x l hx
      rw [e2] at h
      have hq := pieces_size c l q (by rw [e1]; simp)
      rcases List.mem_cons.1 h with rfl | h
      · simp; omega
      · have := pieces_size c l p (by rw [e1]; simp [h]); simp; omega
theorem sp_short (p : ByteArray) (h : Short p) : ∀ c ∈ sp p, Short c := by
  intro c hc
  unfold sp at hc
  split at hc
  · cases hc
  · obtain ⟨q, hq, rfl⟩ := List.mem_map.1 hc
    have := pieces_size 47 _ q hq
    unfold Short at h ⊢
    rw [mkB_size]
    rw [size_data] at h
    omega
def cmpP (p q : ByteArray) : Int := cmpL (sp p) (sp q)
theorem ref_Cmp_sp (p q : ByteArray) (hp : Short p) (hq : Short q) : Ev (fun k => copseref02_Cmp.f k p q) (cmpP p q) := by
  have l1 := sp_len p hp
  have l2 := sp_len q hq
  have s1 := sp_short p hp
  have s2 := sp_short q hq
  unfold Short at hp hq
  refine Ev.bind (ref_Split_sp p (by omega)) (Ev.bind (ref_Split_sp q (by omega)) ?_)
  have := ref_Cmp_l0 (sp p) (sp q) s1 s2 l1 l2 (sp p).length 0 (by omega) (by omega) (by omega)
  simp only [List.drop_zero] at this
  exact this
theorem cmpL_com : ∀ (x y : List ByteArray), cmpL x y = if SumA.comLen x y < x.length ∧ SumA.comLen x y < y.length then cmpT (rdOf ByteArray.empty x (SumA.comLen x y : Int)).data.toList (rdOf ByteArray.empty y (SumA.comLen x y : Int)).data.toList else if x.length < y.length then -1 else if y.length < x.length then 1 else 0
  | [], [] => by simp [cmpL, SumA.comLen]
  | [], _ :: _ => by simp [cmpL, SumA.comLen]
  | _ :: _, [] => by simp [cmpL, SumA.comLen]
  | a :: x, b :: y => by
    unfold cmpL SumA.comLen
    by_cases h : a.toList = b.toList
    · have h0 : cmpT a.data.toList b.data.toList = 0 := by rw [cmpT_eq, ← toList_eq_data, ← toList_eq_data, h]
      rw [if_pos h0, if_pos h, cmpL_com x y]
      simp only [List.length_cons, Nat.add_lt_add_iff_right]
      have e : ∀ (z : ByteArray) (l : List ByteArray) (n : Nat), rdOf ByteArray.empty (z :: l) ((n + 1 : Nat) : Int) = rdOf ByteArray.empty l (n : Int) := fun z l n => by simp [rdOf]
      rw [e, e]
    · have h0 : ¬ cmpT a.data.toList b.data.toList = 0 := fun e => h (by rw [toList_eq_data, toList_eq_data]; exact cmpT_eq.1 e)
      rw [if_neg h0, if_neg h]
      simp [rdOf]
theorem path_Cmp_sp (p q : ByteArray) (hp : Short p) (hq : Short q) : Ev (fun k => path_Cmp.f k p q) (cmpP p q) := by
  have l1 := sp_len p hp
  have l2 := sp_len q hq
  unfold Short at hp hq
  have hc := SumA.comLen_le (sp p) (sp q)
  unfold cmpP
  rw [cmpL_com]
  have e : ∀ k, path_Cmp.f k p q = path_Cmp.j0 k (sp p) (sp q) (SumA.comLen (sp p) (sp q) : Int) (decide (SumA.comLen (sp p) (sp q) < (sp p).length ∧ SumA.comLen (sp p) (sp q) < (sp q).length)) := by
    intro k
    unfold path_Cmp.f
    rw [path_Split_sp p (by omega), path_Split_sp q (by omega)]
    simp only [Option.bind_some, path_common.f]
    by_cases h1 : SumA.comLen (sp p) (sp q) < (sp p).length
    · rw [if_pos (by omega)]
      congr 1
      by_cases h2 : SumA.comLen (sp p) (sp q) < (sp q).length
      · rw [decide_eq_true (by omega), decide_eq_true ⟨h1, h2⟩]
      · rw [decide_eq_false (by omega), decide_eq_false (fun h => h2 h.2)]
    · rw [if_neg (by omega), decide_eq_false (fun h => h1 h.1)]
  refine Ev.congr (X := fun k => path_Cmp.f k p q) ?_ (fun k => rfl)
  refine Ev.congr ?_ e
  refine Ev.step (Y := fun _ => some _) (Ev.of rfl) (fun k => ?_)
  simp only [path_Cmp.j0]
  by_cases h : SumA.comLen (sp p) (sp q) < (sp p).length ∧ SumA.comLen (sp p) (sp q) < (sp q).length
  · rw [decide_eq_true h, if_pos rfl, if_pos (by omega), if_pos (by omega), if_pos (by omega), if_pos h]
    rfl
  · rw [decide_eq_false h, if_neg (by decide), if_neg h]
    have n0 : ∀ z : Int, cmp_isNaN_int.f z = some false := fun z => by simp [cmp_isNaN_int.f]
    unfold cmp_Compare_int.f
    rw [n0, n0]
    simp only [Option.bind_some]
    rw [if_neg (by decide), if_neg (by decide)]
    by_cases a : (sp p).length < (sp q).length
    · rw [if_pos (by omega), if_pos a]; rfl
    · rw [if_neg (by omega), if_neg a]
      by_cases b : (sp q).length < (sp p).length
      · rw [if_pos (by omega), if_pos b]; rfl
      · rw [if_neg (by omega), if_neg b]; rfl
theorem glue_snoc (c : UInt8) (q : B) : ∀ (ps : List B), ps ≠ [] → glue c (ps ++ [q]) = glue c ps ++ c :: q
  | [], h => absurd rfl h
  | [p], _ => by rw [List.singleton_append, glue_cons _ _ _ (by simp)]; rfl
  | p :: r :: ps, _ => by
    have e := glue_snoc c q (r :: ps) (by simp)
    rw [List.cons_append, glue_cons c p _ (by simp), e, glue_cons c p (r :: ps) (by simp)]
    simp only [List.append_assoc, List.cons_append]
theorem glue_take_le (c : UInt8) (ps : List B) : ∀ i, i < ps.length → (glue c (ps.take i)).length ≤ (glue c (ps.take (i + 1))).length := by
  intro i hi
  rw [List.take_succ_eq_append_getElem hi]
  by_cases h : ps.take i = []
  · rw [h]; simp [glue]
  · rw [glue_snoc _ _ _ h]; simp
theorem glue_take_all (c : UInt8) (ps : List B) : ∀ m i, ps.length - i = m → (glue c (ps.take i)).length ≤ (glue c ps).length := by
  intro m
  induction m with
  | zero => intro i h; rw [List.take_of_length_le (by omega)]; exact Nat.le_refl _
  | succ m ih => intro i h; exact Nat.le_trans (glue_take_le c ps i (by omega)) (ih (i + 1) (by omega))
theorem ref_text_l0 (x : List ByteArray) (hl : x.length ≤ 2147483649) (hb : (glue 47 (x.map (·.data.toList))).length ≤ 9223372036854775806) : ∀ (m i : Nat), x.length - i = m → i ≤ x.length →
    Ev (fun k => copseref02_text.l0 k x (mkB (glue 47 ((x.map (·.data.toList)).take i))) (i : Int)) (mkB (glue 47 (x.map (·.data.toList)))) := by
  intro m
  induction m with
  | zero =>
    intro i hm hi
    refine Ev.step (Y := fun _ => some (mkB (glue 47 (x.map (·.data.toList))))) (Ev.of rfl) (fun k => ?_)
    simp only [copseref02_text.l0]
    rw [if_neg (by omega), List.take_of_length_le (by simp; omega)]
  | succ m ih =>
    intro i hm hi
    have IH := ih (i + 1) (by omega) (by omega)
    have hlt : i < (x.map (·.data.toList)).length := by rw [List.length_map]; omega
    have hsz := glue_take_all 47 (x.map (·.data.toList)) _ (i + 1) rfl
    have hr : rdOf ByteArray.empty x (i : Int) = x[i]'(by omega) := by simp [rdOf, List.getD_eq_getElem?_getD, List.getElem?_eq_getElem (show i < x.length by omega)]
    by_cases h0 : i = 0
    · subst h0
      refine Ev.step IH (fun k => ?_)
      have e : glue 47 ((x.map (·.data.toList)).take (0 + 1)) = (rdOf ByteArray.empty x ((0 : Nat) : Int)).data.toList := by
        rw [List.take_succ_eq_append_getElem hlt, hr]
        simp [glue]
      rw [e] at hsz ⊢
      have s4 : (⟨#[]⟩ : ByteArray).size = 0 := rfl
      have s5 := size_data (rdOf ByteArray.empty x ((0 : Nat) : Int))
      have e2 : mkB (glue 47 (List.take 0 (x.map (·.data.toList)))) = ⟨#[]⟩ := rfl
      rw [e2]
      simp only [copseref02_text.l0]
      rw [if_pos (by omega), if_neg (by omega), if_pos (by omega), if_pos (by omega), wrap_id (by omega) (by omega)]
      have e3 : (⟨#[]⟩ : ByteArray) ++ rdOf ByteArray.empty x ((0 : Nat) : Int) = mkB (rdOf ByteArray.empty x ((0 : Nat) : Int)).data.toList := by
        apply data_inj
        rw [mkB_data]
        simp
      rw [e3]
      rfl
    · refine Ev.step IH (fun k => ?_)
      have hne : (x.map (·.data.toList)).take i ≠ [] := by
        intro e
        have := congrArg List.length e
        rw [List.length_take, Nat.min_eq_left (by omega)] at this
        exact h0 this
      have e : glue 47 ((x.map (·.data.toList)).take (i + 1)) = glue 47 ((x.map (·.data.toList)).take i) ++ 47 :: (rdOf ByteArray.empty x (i : Int)).data.toList := by
        rw [List.take_succ_eq_append_getElem hlt, glue_snoc _ _ _ hne, hr]
        simp
      rw [e] at hsz ⊢
      rw [List.length_append, List.length_cons] at hsz
      have s1 : (mkB (glue 47 ((x.map (·.data.toList)).take i))).size = (glue 47 ((x.map (·.data.toList)).take i)).length := mkB_size _
      have s2 : (mkB (glue 47 ((x.map (·.data.toList)).take i)) ++ (⟨#[47]⟩ : ByteArray)).size = (glue 47 ((x.map (·.data.toList)).take i)).length + 1 := by rw [size_data]; simp [mkB_data]
      have s3 := size_data (rdOf ByteArray.empty x (i : Int))
      simp only [copseref02_text.l0]
      rw [if_pos (by omega), if_pos (by omega), if_pos (by omega), if_pos (by omega), if_pos (by omega), wrap_id (by omega) (by omega)]
      have e3 : mkB (glue 47 ((x.map (·.data.toList)).take i)) ++ (⟨#[47]⟩ : ByteArray) ++ rdOf ByteArray.empty x (i : Int) = mkB (glue 47 ((x.map (·.data.toList)).take i) ++ 47 :: (rdOf ByteArray.empty x (i : Int)).data.toList) := by
        apply data_inj
        rw [mkB_data]
        simp [mkB_data]
      rw [e3]
      rfl
def commonP (p q : ByteArray) : ByteArray := mkB (glue 47 (((sp p).take (SumA.comLen (sp p) (sp q))).map (·.data.toList)))
theorem glue_sp_le (p : ByteArray) (n : Nat) : (glue 47 (((sp p).take n).map (·.data.toList))).length ≤ p.size := by
  rw [← List.map_take.symm, size_data]
  refine Nat.le_trans (glue_take_all 47 _ _ n rfl) ?_
  unfold sp
  split
  · simp [glue]
  · rename_i h
    have e : ((pieces 47 p.data.toList).map mkB).map (·.data.toList) = pieces 47 p.data.toList := by
      rw [List.map_map]
      have : ((fun x : ByteArray => x.data.toList) ∘ mkB) = id := by funext l; exact mkB_data l
      rw [this, List.map_id]
    rw [e, glue_pieces]
    exact Nat.le_refl _
theorem path_Common_sp (p q : ByteArray) (hp : Short p) (hq : Short q) : path_Common.f p q = some (commonP p q) := by
  have l1 := sp_len p hp
  have hc := SumA.comLen_le (sp p) (sp q)
  have hg := glue_sp_le p (SumA.comLen (sp p) (sp q))
  unfold Short at hp hq
  unfold path_Common.f commonP
  rw [path_Split_sp p (by omega), path_Split_sp q (by omega)]
  simp only [Option.bind_some, path_common.f]
  rw [if_pos (by omega), if_pos (by omega), Int.toNat_natCast]
  have e : sep1 (⟨#[47]⟩ : ByteArray) = some 47 := rfl
  simp only [strings_Join.f, e, Option.bind_some]
  rw [if_pos ⟨by rw [List.length_take]; omega, by omega⟩]
  rfl
theorem ref_Common_sp (p q : ByteArray) (hp : Short p) (hq : Short q) : Ev (fun k => copseref02_Common.f k p q) (commonP p q) := by
  have l1 := sp_len p hp
  have hc := SumA.comLen_le (sp p) (sp q)
  have hg := glue_sp_le p (SumA.comLen (sp p) (sp q))
  unfold Short at hp hq
  refine Ev.bind (ref_Split_sp p (by omega)) (Ev.bind (ref_Split_sp q (by omega)) (Ev.bind (ref_shared (sp p) (sp q) (by omega)) ?_))
  have T := ref_text_l0 ((sp p).take (SumA.comLen (sp p) (sp q))) (by rw [List.length_take]; omega) (by omega) _ 0 rfl (by omega)
  refine Ev.congr (Ev.bind (F := fun _ t => some t) T (Ev.of rfl)) (fun k => ?_)
  rw [if_pos (by omega), if_pos (by omega), Int.toNat_natCast]
  rfl
theorem lastTo_range (l : List UInt8) : ∀ i, -1 ≤ lastTo l i ∧ lastTo l i < (i : Int)
  | 0 => by simp [lastTo]
  | i + 1 => by
    have := lastTo_range l i
    unfold lastTo
    split <;> omega
theorem ref_last_l0 (a : ByteArray) (ha : Short a) : ∀ (m i : Nat), a.size - i = m → i ≤ a.size → Ev (fun k => copseref02_last.l0 k a (lastTo a.data.toList i) (i : Int)) (lastTo a.data.toList a.data.toList.length) := by
  have hl : a.size = a.data.toList.length := size_data a
  unfold Short at ha
  intro m
  induction m with
  | zero =>
    intro i hm hi
    have he : i = a.data.toList.length := by omega
    refine Ev.step (Y := fun _ => some (lastTo a.data.toList a.data.toList.length)) (Ev.of rfl) (fun k => ?_)
    simp only [copseref02_last.l0]
    rw [if_neg (by omega), he]
  | succ m ih =>
    intro i hm hi
    have IH := ih (i + 1) (by omega) (by omega)
    refine Ev.step IH (fun k => ?_)
    simp only [copseref02_last.l0, lastTo]
    rw [if_pos (by omega), if_pos (by omega)]
    by_cases h : a.data.toList[i]? = some 47
    · rw [if_pos ((bt_is a i (by omega)).2 h), if_pos h, wrap_id (by omega) (by omega)]
      rfl
    · rw [if_neg (fun e => h ((bt_is a i (by omega)).1 e)), if_neg h, wrap_id (by omega) (by omega)]
      rfl
theorem ref_last (a : ByteArray) (ha : Short a) : Ev (fun k => copseref02_last.f k a) (lastTo a.data.toList a.data.toList.length) := ref_last_l0 a ha a.size 0 (by omega) (by omega)
theorem code_last_l0 (a : ByteArray) (ha : Short a) : ∀ (i : Nat), i ≤ a.size → Ev (fun k => bytealg_LastIndexByteString.l0 k a 47 ((i : Int) - 1)) (lastTo a.data.toList i) := by
  have hl : a.size = a.data.toList.length := size_data a
  unfold Short at ha
  intro i
  induction i with
  | zero =>
    intro hi
    refine Ev.step (Y := fun _ => some (-1)) (Ev.of rfl) (fun k => ?_)
    simp only [bytealg_LastIndexByteString.l0]
    rw [if_neg (by omega)]
  | succ i ih =>
    intro hi
    have IH := ih (by omega)
    unfold lastTo
    by_cases h : a.data.toList[i]? = some 47
    · rw [if_pos h]
      refine Ev.step (Y := fun _ => some (i : Int)) (Ev.of rfl) (fun k => ?_)
      have e : (((i + 1 : Nat) : Int) - 1) = (i : Int) := by omega
      rw [e]
      simp only [bytealg_LastIndexByteString.l0]
      rw [if_pos (by omega), if_pos (by omega), if_pos (by omega), if_pos ((bt_is a i (by omega)).2 h)]
    · rw [if_neg h]
      refine Ev.step IH (fun k => ?_)
      have e : (((i + 1 : Nat) : Int) - 1) = (i : Int) := by omega
      rw [e]
      simp only [bytealg_LastIndexByteString.l0]
      rw [if_pos (by omega), if_pos (by omega), if_pos (by omega), if_neg (fun e => h ((bt_is a i (by omega)).1 e)), wrap_id (by omega) (by omega)]
theorem code_last (a : ByteArray) (ha : Short a) : Ev (fun k => strings_LastIndexByte.f k a 47) (lastTo a.data.toList a.data.toList.length) := by
  have := code_last_l0 a ha a.size (Nat.le_refl _)
  have hl : a.size = a.data.toList.length := size_data a
  unfold Short at ha
  rw [hl] at this
  refine Ev.bind (F := fun _ t => some t) (Ev.congr this (fun k => ?_)) (Ev.of rfl)
  unfold bytealg_LastIndexByteString.f
  rw [wrap_id (by omega) (by omega), hl]
def dirP (a : ByteArray) : ByteArray := mkB (dirL a.data.toList)
def baseP (a : ByteArray) : ByteArray := mkB (a.data.toList.drop (lastTo a.data.toList a.data.toList.length + 1).toNat)
theorem path_Dir_sp (a : ByteArray) (ha : Short a) : Ev (fun k => path_Dir.f k a) (dirP a) := by
  have hr := lastTo_range a.data.toList a.data.toList.length
  have hl : a.size = a.data.toList.length := size_data a
  refine Ev.bind (code_last a ha) (Ev.congr (Ev.of (X := some (dirP a)) rfl) (fun k => ?_))
  have hm : mx 0 (lastTo a.data.toList a.data.toList.length) = (((lastTo a.data.toList a.data.toList.length).toNat : Nat) : Int) := by unfold mx; split <;> omega
  rw [hm, if_pos (by omega), if_pos (by omega), Int.toNat_natCast, extract_mkB, List.drop_zero]
  rfl
theorem ref_Dir_sp (a : ByteArray) (ha : Short a) : Ev (fun k => copseref02_Dir.f k a) (dirP a) := by
  have hr := lastTo_range a.data.toList a.data.toList.length
  have hl : a.size = a.data.toList.length := size_data a
  refine Ev.bind (ref_last a ha) (Ev.congr (Ev.of (X := some (dirP a)) rfl) (fun k => ?_))
  by_cases h : lastTo a.data.toList a.data.toList.length < 0
  · rw [if_pos h]
    have e : (lastTo a.data.toList a.data.toList.length).toNat = 0 := by omega
    unfold dirP dirL
    rw [e]; rfl
  · rw [if_neg h, if_pos (by omega), if_pos (by omega), extract_mkB, List.drop_zero]
    rfl
theorem path_Base_sp (a : ByteArray) (ha : Short a) : Ev (fun k => path_Base.f k a) (baseP a) := by
  have hr := lastTo_range a.data.toList a.data.toList.length
  have hl : a.size = a.data.toList.length := size_data a
  refine Ev.bind (code_last a ha) (Ev.congr (Ev.of (X := some (baseP a)) rfl) (fun k => ?_))
  unfold Short at ha
  rw [wrap_id (by omega) (by omega), if_pos (by omega), if_pos (by omega), extract_mkB, List.take_of_length_le (by omega)]
  rfl
theorem dir_short (a : ByteArray) (ha : Short a) : Short (dirP a) := by
  unfold Short dirP dirL at *
  rw [mkB_size, List.length_take]
  have := size_data a
  omega
def okByte (b : Int) : Bool := (decide (97 ≤ b) && decide (b ≤ 122)) || (decide (65 ≤ b) && decide (b ≤ 90)) || (decide (48 ≤ b) && decide (b ≤ 57)) || decide (b = 46) || decide (b = 95) || decide (b = 45)
theorem ref_Byte_sp (b : Int) : copseref02_Byte.f b = some (okByte b) := by
  unfold copseref02_Byte.f okByte
  by_cases h1 : 97 ≤ b <;> by_cases h2 : b ≤ 122 <;> by_cases h3 : 65 ≤ b <;> by_cases h4 : b ≤ 90 <;> by_cases h5 : 48 ≤ b <;> by_cases h6 : b ≤ 57 <;> by_cases h7 : b = 46 <;> by_cases h8 : b = 95 <;> by_cases h9 : b = 45 <;> simp [h1, h2, h3, h4, h5, h6, h7, h8, h9]
def okFrom (l : List UInt8) : Bool := l.all fun b => okByte (b.toNat : Int)
theorem ref_Comp_l0 (a : ByteArray) (ha : Short a) : ∀ (m i : Nat), a.size - i = m → i ≤ a.size → Ev (fun k => copseref02_Component.l0 k a (i : Int)) (okFrom (a.data.toList.drop i)) := by
  have hl : a.size = a.data.toList.length := size_data a
  unfold Short at ha
  intro m
  induction m with
  | zero =>
    intro i hm hi
    refine Ev.step (Y := fun _ => some true) (Ev.congr (Ev.of rfl) (fun k => rfl)) (fun k => ?_) |> fun z => by
      rw [List.drop_eq_nil_of_le (by omega)]; exact z
    simp only [copseref02_Component.l0]
    rw [if_neg (by omega)]
  | succ m ih =>
    intro i hm hi
    have IH := ih (i + 1) (by omega) (by omega)
    rw [List.drop_eq_getElem_cons (by omega)]
    have hb := bt_data a i (by omega)
    by_cases h : okByte ((a.data.toList[i]'(by omega)).toNat : Int) = true
    · have e : okFrom (a.data.toList[i]'(by omega) :: a.data.toList.drop (i + 1)) = okFrom (a.data.toList.drop (i + 1)) := by unfold okFrom; rw [List.all_cons, h, Bool.true_and]
      rw [e]
      refine Ev.step IH (fun k => ?_)
      simp only [copseref02_Component.l0]
      rw [if_pos (by omega), if_pos (by omega), hb, ref_Byte_sp]
      simp only [Option.bind_some]
      rw [if_pos h, wrap_id (by omega) (by omega)]
      rfl
    · have e : okFrom (a.data.toList[i]'(by omega) :: a.data.toList.drop (i + 1)) = false := by unfold okFrom; rw [List.all_cons, Bool.eq_false_iff.mpr h, Bool.false_and]
      rw [e]
      refine Ev.step (Y := fun _ => some false) (Ev.of rfl) (fun k => ?_)
      simp only [copseref02_Component.l0]
      rw [if_pos (by omega), if_pos (by omega), hb, ref_Byte_sp]
      simp only [Option.bind_some]
      rw [if_neg h]
def compP (a : ByteArray) : Bool := decide (1 ≤ a.size) && decide (a.size ≤ 32) && !(a.data.toList == [46]) && !(a.data.toList == [46, 46]) && !(a.data.toList == [46, 46, 46]) && okFrom a.data.toList
theorem code_Comp_step (k : Nat) (a : ByteArray) (n x : Int) (h0 : x < n) (h1 : 0 ≤ x) (h2 : x < (a.size : Int)) : path_Component.l0 (k + 1) a n x = if okByte (bt a x) = true then path_Component.l0 k a n (wrap64 (x + 1)) else some false := by
  simp only [path_Component.l0]
  rw [if_pos h0, if_pos h1, if_pos h2]
  unfold okByte
  generalize bt a x = b
  by_cases h1 : 97 ≤ b <;> by_cases h2 : b ≤ 122 <;> by_cases h3 : 65 ≤ b <;> by_cases h4 : b ≤ 90 <;> by_cases h5 : 48 ≤ b <;> by_cases h6 : b ≤ 57 <;> by_cases h7 : b = 46 <;> by_cases h8 : b = 95 <;> by_cases h9 : b = 45 <;> simp [h1, h2, h3, h4, h5, h6, h7, h8, h9]
theorem code_Comp_l0 (a : ByteArray) (ha : Short a) : ∀ (m i : Nat), a.size - i = m → i ≤ a.size → Ev (fun k => path_Component.l0 k a (a.size : Int) (i : Int)) (okFrom (a.data.toList.drop i)) := by
  have hl : a.size = a.data.toList.length := size_data a
  unfold Short at ha
  intro m
  induction m with
  | zero =>
    intro i hm hi
    rw [List.drop_eq_nil_of_le (by omega)]
    refine Ev.step (Y := fun _ => some true) (Ev.of rfl) (fun k => ?_)
    simp only [path_Component.l0]
    rw [if_neg (by omega)]
  | succ m ih =>
    intro i hm hi
    have IH := ih (i + 1) (by omega) (by omega)
    rw [List.drop_eq_getElem_cons (by omega)]
    have hb := bt_data a i (by omega)
    by_cases h : okByte ((a.data.toList[i]'(by omega)).toNat : Int) = true
    · have e : okFrom (a.data.toList[i]'(by omega) :: a.data.toList.drop (i + 1)) = okFrom (a.data.toList.drop (i + 1)) := by unfold okFrom; rw [List.all_cons, h, Bool.true_and]
      rw [e]
      refine Ev.step IH (fun k => ?_)
      rw [code_Comp_step k a _ _ (by omega) (by omega) (by omega), hb, if_pos h, wrap_id (by omega) (by omega)]
      rfl
    · have e : okFrom (a.data.toList[i]'(by omega) :: a.data.toList.drop (i + 1)) = false := by unfold okFrom; rw [List.all_cons, Bool.eq_false_iff.mpr h, Bool.false_and]
      rw [e]
      refine Ev.step (Y := fun _ => some false) (Ev.of rfl) (fun k => ?_)
      rw [code_Comp_step k a _ _ (by omega) (by omega) (by omega), hb, if_neg h]
theorem path_Component_sp (a : ByteArray) (ha : Short a) : Ev (fun k => path_Component.f k a) (compP a) := by
  have hl : a.size = a.data.toList.length := size_data a
  have L := code_Comp_l0 a ha a.size 0 (by omega) (by omega)
  rw [List.drop_zero] at L
  have bad : ∀ X : Nat → Option Bool, (∀ k, X k = path_Component.j0 k a true) → Ev X false := fun X hX => Ev.congr (Ev.step (Y := fun _ => some false) (Ev.of rfl) (fun k => by simp only [path_Component.j0]; rw [if_pos trivial])) hX
  have good : ∀ X : Nat → Option Bool, (∀ k, X k = path_Component.j0 k a false) → Ev X (okFrom a.data.toList) := fun X hX => Ev.congr (Ev.step L (fun k => by simp only [path_Component.j0]; rw [if_neg (by decide)]; rfl)) hX
  unfold compP
  simp only [path_Component.f, toList_eq_data]
  by_cases h0 : a.data.toList = []
  · have e : a.size = 0 := by rw [hl, h0]; rfl
    simp only [if_pos h0]
    rw [decide_eq_false (show ¬ 1 ≤ a.size by omega)]
    simpa using bad _ (fun _ => rfl)
  · have h1 : 1 ≤ a.size := by rw [hl]; exact List.length_pos_iff.2 h0
    simp only [if_neg h0]
    rw [decide_eq_true h1]
    by_cases h2 : (a.size : Int) > 32
    · simp only [if_pos h2]
      rw [decide_eq_false (show ¬ a.size ≤ 32 by omega)]
      simpa using bad _ (fun _ => rfl)
    · simp only [if_neg h2]
      rw [decide_eq_true (show a.size ≤ 32 by omega)]
      by_cases h3 : a.data.toList = [46]
      · simp only [if_pos h3]
        rw [h3]
        simpa using bad _ (fun _ => rfl)
      · simp only [if_neg h3]
        by_cases h4 : a.data.toList = [46, 46]
        · simp only [if_pos h4]
          rw [h4]
          simpa using bad _ (fun _ => rfl)
        · simp only [if_neg h4]
          by_cases h5 : a.data.toList = [46, 46, 46]
          · simp only [h5]
            simpa using bad _ (fun _ => rfl)
          · have e3 : (a.data.toList == [46]) = false := beq_eq_false_iff_ne.mpr h3
            have e4 : (a.data.toList == [46, 46]) = false := beq_eq_false_iff_ne.mpr h4
            have e5 : (a.data.toList == [46, 46, 46]) = false := beq_eq_false_iff_ne.mpr h5
            rw [e3, e4, e5]
            simpa using good _ (fun _ => rfl)
theorem ref_Component_sp (a : ByteArray) (ha : Short a) : Ev (fun k => copseref02_Component.f k a) (compP a) := by
  have hl : a.size = a.data.toList.length := size_data a
  have L := ref_Comp_l0 a ha a.size 0 (by omega) (by omega)
  rw [List.drop_zero] at L
  have bad : ∀ X : Nat → Option Bool, (∀ k, X k = copseref02_Component.j0 k a true) → Ev X false := fun X hX => Ev.congr (Ev.step (Y := fun _ => some false) (Ev.of rfl) (fun k => by simp only [copseref02_Component.j0]; rw [if_pos trivial])) hX
  have good : ∀ X : Nat → Option Bool, (∀ k, X k = copseref02_Component.j0 k a false) → Ev X (okFrom a.data.toList) := fun X hX => Ev.congr (Ev.step L (fun k => by simp only [copseref02_Component.j0]; rw [if_neg (by decide)]; rfl)) hX
  unfold compP
  simp only [copseref02_Component.f, toList_eq_data]
  by_cases h1 : (a.size : Int) < 1
  · simp only [if_pos h1]
    rw [decide_eq_false (show ¬ 1 ≤ a.size by omega)]
    simpa using bad _ (fun _ => rfl)
  · simp only [if_neg h1]
    rw [decide_eq_true (show 1 ≤ a.size by omega)]
    by_cases h2 : (a.size : Int) > 32
    · simp only [if_pos h2]
      rw [decide_eq_false (show ¬ a.size ≤ 32 by omega)]
      simpa using bad _ (fun _ => rfl)
    · simp only [if_neg h2]
      rw [decide_eq_true (show a.size ≤ 32 by omega)]
      by_cases h3 : a.data.toList = [46]
      · simp only [if_pos h3]
        rw [h3]
        simpa using bad _ (fun _ => rfl)
      · simp only [if_neg h3]
        by_cases h4 : a.data.toList = [46, 46]
        · simp only [if_pos h4]
          rw [h4]
          simpa using bad _ (fun _ => rfl)
        · simp only [if_neg h4]
          by_cases h5 : a.data.toList = [46, 46, 46]
          · simp only [h5]
            simpa using bad _ (fun _ => rfl)
          · have e3 : (a.data.toList == [46]) = false := beq_eq_false_iff_ne.mpr h3
            have e4 : (a.data.toList == [46, 46]) = false := beq_eq_false_iff_ne.mpr h4
            have e5 : (a.data.toList == [46, 46, 46]) = false := beq_eq_false_iff_ne.mpr h5
            rw [e3, e4, e5]
            simpa using good _ (fun _ => rfl)
def validP (p : ByteArray) : Bool := decide (p.size ≤ 120) && decide ((sp p).length ≤ 12) && (sp p).all compP
theorem code_Valid_l0 (x : List ByteArray) (hx : ∀ c ∈ x, Short c) (hl : x.length ≤ 2147483649) : ∀ (m i : Nat), x.length - i = m → i ≤ x.length → Ev (fun k => path_Valid.l0 k x (x.length : Int) (i : Int)) ((x.drop i).all compP) := by
  intro m
  induction m with
  | zero =>
    intro i hm hi
    rw [List.drop_eq_nil_of_le (by omega)]
    refine Ev.step (Y := fun _ => some true) (Ev.of rfl) (fun k => ?_)
    simp only [path_Valid.l0]
    rw [if_neg (by omega)]
  | succ m ih =>
    intro i hm hi
    have IH := ih (i + 1) (by omega) (by omega)
    rw [rdOf_drop x i (by omega), List.all_cons]
    have C := path_Component_sp _ (hx _ (rdOf_mem x i (by omega)))
    refine Ev.step (Ev.bind C (F := fun k t => if t = true then path_Valid.l0 k x (x.length : Int) ((i + 1 : Nat) : Int) else some false) ?_) (fun k => ?_)
    · cases compP (rdOf ByteArray.empty x (i : Int)) with
      | true => simpa using IH
      | false => simpa using (Ev.of (X := some false) rfl)
    · simp only [path_Valid.l0]
      rw [if_pos (by omega), if_pos (by omega), if_pos (by omega), wrap_id (by omega) (by omega)]
      rfl
theorem ref_Valid_l0 (x : List ByteArray) (hx : ∀ c ∈ x, Short c) (hl : x.length ≤ 2147483649) : ∀ (m i : Nat), x.length - i = m → i ≤ x.length → Ev (fun k => copseref02_Valid.l0 k x (i : Int)) ((x.drop i).all compP) := by
  intro m
  induction m with
  | zero =>
    intro i hm hi
    rw [List.drop_eq_nil_of_le (by omega)]
    refine Ev.step (Y := fun _ => some true) (Ev.of rfl) (fun k => ?_)
    simp only [copseref02_Valid.l0]
    rw [if_neg (by omega)]
  | succ m ih =>
    intro i hm hi
    have IH := ih (i + 1) (by omega) (by omega)
    rw [rdOf_drop x i (by omega), List.all_cons]
    have C := ref_Component_sp _ (hx _ (rdOf_mem x i (by omega)))
    refine Ev.step (Ev.bind C (F := fun k t => if t = true then copseref02_Valid.l0 k x ((i + 1 : Nat) : Int) else some false) ?_) (fun k => ?_)
    · cases compP (rdOf ByteArray.empty x (i : Int)) with
      | true => simpa using IH
      | false => simpa using (Ev.of (X := some false) rfl)
    · simp only [copseref02_Valid.l0]
      rw [if_pos (by omega), if_pos (by omega), wrap_id (by omega) (by omega)]
      rfl
theorem path_Valid_sp (p : ByteArray) (hp : Short p) : Ev (fun k => path_Valid.f k p) (validP p) := by
  have l1 := sp_len p hp
  have L := code_Valid_l0 (sp p) (sp_short p hp) l1 _ 0 rfl (by omega)
  rw [List.drop_zero] at L
  unfold Short at hp
  unfold validP
  by_cases h : p.size ≤ 120
  · rw [decide_eq_true h, Bool.true_and]
    by_cases h2 : (sp p).length ≤ 12
    · rw [decide_eq_true h2, Bool.true_and]
      refine Ev.congr (Ev.step L (X := fun k => path_Valid.j0 k p false) (fun k => ?_)) (fun k => ?_)
      · simp only [path_Valid.j0]
        rw [if_neg (by decide), path_Split_sp p (by omega)]
        rfl
      · unfold path_Valid.f
        rw [if_neg (by omega), path_Depth_sp p (by omega)]
        simp only [Option.bind_some]
        rw [decide_eq_false (by omega)]
    · rw [decide_eq_false h2, Bool.false_and]
      refine Ev.congr (Ev.step (Y := fun _ => some false) (Ev.of rfl) (X := fun k => path_Valid.j0 k p true) (fun k => ?_)) (fun k => ?_)
      · simp only [path_Valid.j0]
        rw [if_pos trivial]
      · unfold path_Valid.f
        rw [if_neg (by omega), path_Depth_sp p (by omega)]
        simp only [Option.bind_some]
        rw [decide_eq_true (by omega)]
  · rw [decide_eq_false h, Bool.false_and, Bool.false_and]
    refine Ev.congr (Ev.step (Y := fun _ => some false) (Ev.of rfl) (X := fun k => path_Valid.j0 k p true) (fun k => ?_)) (fun k => ?_)
    · simp only [path_Valid.j0]
      rw [if_pos trivial]
    · unfold path_Valid.f
      rw [if_pos (by omega)]
theorem ref_Valid_sp (p : ByteArray) (hp : Short p) : Ev (fun k => copseref02_Valid.f k p) (validP p) := by
  have l1 := sp_len p hp
  have L := ref_Valid_l0 (sp p) (sp_short p hp) l1 _ 0 rfl (by omega)
  rw [List.drop_zero] at L
  unfold Short at hp
  have bad : Ev (fun k => copseref02_Valid.j0 k (sp p) true) false := Ev.step (Y := fun _ => some false) (Ev.of rfl) (fun k => by simp only [copseref02_Valid.j0]; rw [if_pos trivial])
  have good : Ev (fun k => copseref02_Valid.j0 k (sp p) false) ((sp p).all compP) := Ev.step L (fun k => by simp only [copseref02_Valid.j0]; rw [if_neg (by decide)]; rfl)
  refine Ev.bind (ref_Split_sp p (by omega)) ?_
  unfold validP
  by_cases h : p.size ≤ 120
  · rw [decide_eq_true h, Bool.true_and]
    by_cases h2 : (sp p).length ≤ 12
    · rw [decide_eq_true h2, Bool.true_and]
      exact Ev.congr good (fun k => by rw [if_neg (by omega), decide_eq_false (by omega)])
    · rw [decide_eq_false h2, Bool.false_and]
      exact Ev.congr bad (fun k => by rw [if_neg (by omega), decide_eq_true (by omega)])
  · rw [decide_eq_false h, Bool.false_and, Bool.false_and]
    exact Ev.congr bad (fun k => by rw [if_pos (by omega)])
abbrev Pc := List ByteArray
theorem cmpL_cases : ∀ (x y : Pc), cmpL x y = -1 ∨ cmpL x y = 0 ∨ cmpL x y = 1
  | [], [] => by simp [cmpL]
  | [], _ :: _ => by simp [cmpL]
  | _ :: _, [] => by simp [cmpL]
  | a :: x, b :: y => by
    unfold cmpL
    split
    · exact cmpL_cases x y
    · exact cmpT_cases _ _
theorem cmpL_zero : ∀ {x y : Pc}, cmpL x y = 0 ↔ x = y
  | [], [] => by simp [cmpL]
  | [], _ :: _ => by simp [cmpL]
  | _ :: _, [] => by simp [cmpL]
  | a :: x, b :: y => by
    unfold cmpL
    by_cases h : cmpT a.data.toList b.data.toList = 0
    · rw [if_pos h, cmpL_zero]
      have e := data_inj (cmpT_eq.1 h)
      rw [e]; simp
    · rw [if_neg h]
      constructor
      · intro e; exact absurd e h
      · intro e
        injection e with e1 e2
        exact absurd (by rw [e1]; exact cmpT_self _) h
theorem cmpL_self (x : Pc) : cmpL x x = 0 := cmpL_zero.2 rfl
def ltL (x y : Pc) : Prop := cmpL x y = -1
theorem ltL_nil {y : Pc} (h : y ≠ []) : ltL [] y := by cases y; exact absurd rfl h; simp [ltL, cmpL]
theorem not_ltL_nil (x : Pc) : ¬ ltL x [] := by cases x <;> simp [ltL, cmpL]
theorem ltL_cons {a b : ByteArray} {x y : Pc} : ltL (a :: x) (b :: y) ↔ cmpT a.data.toList b.data.toList = -1 ∨ (a = b ∧ ltL x y) := by
  unfold ltL
  rw [cmpL]
  by_cases h : cmpT a.data.toList b.data.toList = 0
  · rw [if_pos h]
    have e := data_inj (cmpT_eq.1 h)
    constructor
    · intro k; exact .inr ⟨e, k⟩
    · rintro (k | ⟨_, k⟩)
      · omega
      · exact k
  · rw [if_neg h]
    constructor
    · intro k; exact .inl k
    · rintro (k | ⟨k, _⟩)
      · exact k
      · exact absurd (by rw [k]; exact cmpT_self _) h
theorem ltL_trans : ∀ {x y z : Pc}, ltL x y → ltL y z → ltL x z
  | _, _, [], _, h => absurd h (not_ltL_nil _)
  | _, [], _ :: _, h, _ => absurd h (not_ltL_nil _)
  | [], _ :: _, _ :: _, _, _ => ltL_nil (by simp)
  | a :: x, b :: y, c :: z, h1, h2 => by
    rw [ltL_cons] at h1 h2 ⊢
    rcases h1 with h1 | ⟨rfl, h1⟩ <;> rcases h2 with h2 | ⟨rfl, h2⟩
    · exact .inl (cmpT_trans h1 h2)
    · exact .inl h1
    · exact .inl h2
    · exact .inr ⟨rfl, ltL_trans h1 h2⟩
theorem ltL_irrefl (x : Pc) : ¬ ltL x x := by unfold ltL; rw [cmpL_self]; decide
theorem ltL_prefix : ∀ {x y : Pc}, x <+: y → x ≠ y → ltL x y
  | [], [], _, h => absurd rfl h
  | [], _ :: _, _, _ => ltL_nil (by simp)
  | _ :: _, [], h, _ => by simp at h
  | a :: x, b :: y, h, hn => by
    rw [List.cons_prefix_cons] at h
    obtain ⟨rfl, h⟩ := h
    exact ltL_cons.2 (.inr ⟨rfl, ltL_prefix h (fun e => hn (by rw [e]))⟩)
theorem ltL_between : ∀ {x y z : Pc}, x <+: z → ltL x y → ltL y z → x <+: y
  | [], _, _, _, _, _ => List.nil_prefix
  | _ :: _, _, [], h, _, _ => by simp at h
  | _ :: _, [], _ :: _, _, h, _ => absurd h (not_ltL_nil _)
  | a :: x, b :: y, c :: z, h, h1, h2 => by
    rw [List.cons_prefix_cons] at h
    obtain ⟨rfl, h⟩ := h
    rw [ltL_cons] at h1 h2
    rcases h1 with h1 | ⟨rfl, h1⟩ <;> rcases h2 with h2 | ⟨e, h2⟩
    · have := cmpT_swap a.data.toList b.data.toList; omega
    · rw [e, cmpT_self] at h1; omega
    · rw [cmpT_self] at h2; omega
    · exact List.cons_prefix_cons.2 ⟨rfl, ltL_between h h1 h2⟩
theorem ltL_block : ∀ {p c x : Pc}, p <+: c → ¬ p <+: x → ¬ x <+: p → (ltL x c ↔ ltL x p) ∧ (ltL c x ↔ ltL p x)
  | [], _, _, _, h, _ => absurd List.nil_prefix h
  | _ :: _, [], _, h, _, _ => by simp at h
  | _ :: _, _ :: _, [], _, _, h => absurd List.nil_prefix h
  | p :: ps, c :: cs, x :: xs, h, h1, h2 => by
    rw [List.cons_prefix_cons] at h h1 h2
    obtain ⟨rfl, h⟩ := h
    simp only [ltL_cons]
    by_cases e : p = x
    · subst e
      have IH := ltL_block h (fun k => h1 ⟨rfl, k⟩) (fun k => h2 ⟨rfl, k⟩)
      rw [IH.1, IH.2]
      exact ⟨Iff.rfl, Iff.rfl⟩
    · have e2 : ¬ x = p := fun k => e k.symm
      simp [e, e2]
def Apart (a b : Pc) : Prop := ltL a b ∧ ¬ a <+: b
theorem Apart.trans {a b c : Pc} (h1 : Apart a b) (h2 : Apart b c) : Apart a c :=
  ⟨ltL_trans h1.1 h2.1, fun h => h1.2 (ltL_between h h1.1 h2.1)⟩
theorem Apart.not_prefix {a b : Pc} (h : Apart a b) : ¬ b <+: a := fun k => by
  by_cases e : b = a
  · exact ltL_irrefl a (by have := h.1; rw [e] at this; exact this)
  · exact ltL_irrefl a (ltL_trans h.1 (ltL_prefix k e))
theorem comLen_prefix : ∀ {x y : Pc}, SumA.comLen x y = x.length ↔ x <+: y
  | [], _ => by cases ‹Pc› <;> simp [SumA.comLen]
  | _ :: _, [] => by simp [SumA.comLen]
  | a :: x, b :: y => by
    unfold SumA.comLen
    rw [List.cons_prefix_cons]
    by_cases h : a.toList = b.toList
    · rw [if_pos h]
      have e : a = b := data_inj (by rw [← toList_eq_data, ← toList_eq_data]; exact h)
      rw [List.length_cons, Nat.add_right_cancel_iff, comLen_prefix]
      simp [e]
    · rw [if_neg h]
      have e : ¬ a = b := fun k => h (by rw [k])
      simp [e]
theorem comLen_take : ∀ (x y : Pc), x.take (SumA.comLen x y) <+: y
  | [], _ => by simp
  | _ :: _, [] => by simp [SumA.comLen]
  | a :: x, b :: y => by
    unfold SumA.comLen
    by_cases h : a.toList = b.toList
    · rw [if_pos h]
      have e : a = b := data_inj (by rw [← toList_eq_data, ← toList_eq_data]; exact h)
      rw [List.take_succ_cons, e]
      exact List.cons_prefix_cons.2 ⟨rfl, comLen_take x y⟩
    · rw [if_neg h]
      simp
end Go.Proofs.YtnfolcefjkannaaDoor.G
