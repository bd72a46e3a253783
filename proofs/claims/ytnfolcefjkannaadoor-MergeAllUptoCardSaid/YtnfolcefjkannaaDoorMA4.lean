/- This session's texts, joined by a program of this session's: contracts of functions, printed and typed, and plain laws; what nothing needs is left out. -/
import Derived.Test.YtnfolcefjkannaaDoorMA3
namespace Go.Proofs.YtnfolcefjkannaaDoor.G
open Go.RowKit Go.Proofs.YtnfolcefjkannaaDoorW.PrintWords Go.Proofs.YtnfolcefjkannaaDoorW.PrintLast Go.Proofs.YtnfolcefjkannaaDoorW.PrintMore
attribute [local go_sem] max2_int min2_int max_two min_two max_three min_three max_four min_four
set_option linter.unusedVariables false
set_option linter.unusedSimpArgs false
def copseref16_Cones.l0 : Nat → List ByteArray → Int → Option (Bool)
 | 0, _, _ => none
 | k + 1, x0, x3 => if x3 < (x0.length : Int) then (if 0 ≤ x3 then ((copseref02_Valid.f k (rdOf ByteArray.empty x0 x3)).bind fun t248 => (if t248 = true then (if x3 > 0 then (if 0 ≤ (wrap64 (x3 - 1)) then (if (wrap64 (x3 - 1)) < (x0.length : Int) then ((copseref02_Cmp.f k (rdOf ByteArray.empty x0 (wrap64 (x3 - 1))) (rdOf ByteArray.empty x0 x3)).bind fun t251 => (if t251 ≥ 0 then (some false) else ((copseref02_Above.f k (rdOf ByteArray.empty x0 (wrap64 (x3 - 1))) (rdOf ByteArray.empty x0 x3)).bind fun t254 => (if t254 = true then (some false) else (copseref16_Cones.l0 k x0 (wrap64 (x3 + 1))))))) else (none)) else (none)) else (copseref16_Cones.l0 k x0 (wrap64 (x3 + 1)))) else (some false))) else (none)) else (some true)
def copseref16_Cones.f (k : Nat) (l0 : List ByteArray) : Option (Bool) := copseref16_Cones.l0 k l0 0
def copseref16_Cones.T4 : Bool × List (List Nat × List Nat) := (true, [([], []), ([], []), ([0, 1], [0, 1]), ([2], [2]), ([3], [3]), ([4], [4]), ([5, 4], [5]), ([6], [6]), ([7, 6], [6, 7]), ([8, 6, 6], [6, 8]), ([9], [9]), ([9], [9]), ([11, 9], [9, 11]), ([10, 12, 9], [9, 10, 12]), ([13, 9], [9, 13]), ([9], [9]), ([9], [9]), ([15, 16, 9], [9, 15, 16]), ([17, 9], [9, 17]), ([14, 18, 9, 9], [9, 14, 18]), ([19, 9], [9, 19]), ([20, 19, 9], [9, 20]), ([21], [21]), ([21], [21]), ([23, 21], [21, 23]), ([22, 24, 21], [21, 22, 24]), ([25, 21], [21, 25]), ([21], [21]), ([21], [21]), ([27, 28, 21], [21, 27, 28]), ([29, 21], [21, 29]), ([26, 30, 21, 21], [21, 26, 30]), ([21, 31, 9], [9, 21, 31]), ([9, 32, 6], [6, 9, 32]), ([6, 33], [6, 33])])
def copseref16_Cones.B4 : List Nat := [0, 0, 3, 7, 15, 31, 63, 127, 255, 511, 1023, 1023, 3071, 8191, 16383, 1023, 1023, 99327, 230399, 524287, 1048575, 2097151, 4194303, 4194303, 12582911, 33554431, 67108863, 4194303, 4194303, 406847487, 943718399, 2147483647, 4294967295, 8589934591, 17179869183]
theorem copseref16_Cones.tab4 : rtab .any (opsOf Tryd.f17 4) = copseref16_Cones.T4 := by kernel_rfl
theorem copseref16_Cones.bits4 : waitsOk copseref16_Cones.T4.2 copseref16_Cones.B4 = true := by kernel_rfl
set_option maxHeartbeats 8000000 in
set_option maxRecDepth 100000 in
theorem copseref16_Cones.calls (k : Nat) (A0 : Option Addr) (c0 : Nat) (l0 : List ByteArray) (r : Bool) (w : World) (hr0 : Kd.C Kd.string w A0 l0.length l0) (hc0 : l0.length ≤ c0) (h : copseref16_Cones.f k l0 = some r) :
  Calls Tryd.prog 17 #[.slice A0 l0.length c0] w fun e w' => e = .returned (.bool r) ∧ Below w.heap.size w w' := by
 have HR0 := zA hr0; have HC0 := zA hc0; clear hr0 hc0
 have HB := zA (Below.refl w.heap.size w)
 have H : (copseref16_Cones.l0 k l0 0) = some r := h
 clear h
 have H' := zA H
 clear H
 go_enter Tryd.func17, Tryd.ntmps17
 go_wp2
 go_loopg [3] k (fun kq v3 w' => ∃ (x3_1 : Int), v3 = .int .i64 x3_1 ∧ Aside0 (copseref16_Cones.l0 kq l0 x3_1 = some r) ∧ Aside0 (kq ≤ k) ∧ Aside0 (Below w.heap.size w w'))
 case atStart => exact ⟨(0), (by first | rfl | (simp; done) | (simp [*]; done)), H', ⟨Nat.le_refl _⟩, ⟨by repeat (first | (with_reducible first | exact HB.out | apply zL | apply zN | apply zD) | exact HB.out)⟩⟩
 case round =>
  clear H'
  try clear c1
  obtain ⟨x3_1, rfl, HA, HK1, HB⟩ := hrel
  cases gk with
  | zero => exact absurd HA.out (by simp [copseref16_Cones.l0])
  | succ k1 =>
   have H := HA.out
   clear HA
   simp only [copseref16_Cones.l0] at H
   by_cases c2 : x3_1 < (l0.length : Int)
   rotate_left
   ·rw [if_neg c2] at H
    have c2b0 : decide (x3_1 < (l0.length : Int)) = false := decide_eq_false c2
    clear c2; obtain rfl := Option.some.inj H; go_wp2; go_ret
    exact ⟨by first | rfl | (simp [errW_none, errW_some] <;> rfl) | (simp [*, errW_none, errW_some] <;> rfl), by repeat (first | (with_reducible first | exact HB.out | apply zL | apply zN | apply zD) | exact HB.out)⟩
   rw [if_pos c2] at H
   have c2b0 : decide (x3_1 < (l0.length : Int)) = true := decide_eq_true c2
   clear c2
   by_cases c3 : 0 ≤ x3_1
   rotate_left
   ·rw [if_neg c3] at H
    exact absurd H (by simp)
   rw [if_pos c3] at H
   have c3b0 : decide (0 ≤ x3_1) = true := decide_eq_true c3
   clear c3; replace H := Option.bind_eq_some_iff.mp H; obtain ⟨t248, A40, H⟩ := H
   replace H : (if t248 = true then (if x3_1 > 0 then (if 0 ≤ (wrap64 (x3_1 - 1)) then (if (wrap64 (x3_1 - 1)) < (l0.length : Int) then ((copseref02_Cmp.f k1 (rdOf ByteArray.empty l0 (wrap64 (x3_1 - 1))) (rdOf ByteArray.empty l0 x3_1)).bind fun t251 => (if t251 ≥ 0 then (some false) else ((copseref02_Above.f k1 (rdOf ByteArray.empty l0 (wrap64 (x3_1 - 1))) (rdOf ByteArray.empty l0 x3_1)).bind fun t254 => (if t254 = true then (some false) else (copseref16_Cones.l0 k1 l0 (wrap64 (x3_1 + 1))))))) else (none)) else (none)) else (copseref16_Cones.l0 k1 l0 (wrap64 (x3_1 + 1)))) else (some false)) = some r := H
   have A4 := zA A40; clear A40
   by_cases c5 : t248 = true
   rotate_left
   ·replace c5 := Bool.eq_false_iff.mpr c5
    subst c5
    have H1 : (some false) = some r := by rw [if_neg (show ¬ (false = true) by decide)] at H; exact H
    clear H; have H := H1; clear H1; obtain rfl := Option.some.inj H
    try go_wp2
    have n0_ := zA (zD HB.out)
    clear HB; have HB := n0_; clear n0_
    have p247 : 0 ≤ (x3_1 : Int) := zO (by first | (with_reducible assumption) | assumption)
    have q247 : x3_1 < (l0.length : Int) := zO (by first | (with_reducible assumption) | assumption)
    obtain ⟨ad247, e247, hx247_0⟩ := Kd.at_string HR0.out x3_1 p247 q247
    have hw247_0 := hx247_0
    cases e247
    replace hx247_0 := (HB.out.cell (zB w _ hx247_0)).trans hx247_0
    replace p247 := eq_true p247
    replace q247 := eq_true q247
    refine start_ (n := 35) (S := fun w' => w'.cell? (ad247.add (x3_1).toNat) = some (.string (rdOf ByteArray.empty l0 x3_1))) (ds := []) #[F, F, F, F, F, F, F, F, F, F, F, F, F, F, F, F, F, F, F, F, F, F, F, F, F, F, F, F, F, F, F, F, F, F, F] (by kernel_rfl) rfl rfl (((HB.out.cell (zB w _ hw247_0)).trans hw247_0)) (fun hHeld => ?_); refine with_tabW copseref16_Cones.tab4 copseref16_Cones.bits4 (fun HT_ HW_ => ?_)
    generalize wr.drew = w27 at HB hx247_0 hHeld ⊢
    refine pure_ (i := 0) (N := some 10) (v := ?_) (a' := ?_) #[T, F, F, F, F, F, F, F, F, F, F, F, F, F, F, F, F, F, F, F, F, F, F, F, F, F, F, F, F, F, F, F, F, F, F] rfl rfl (any_of HT_.out (by kernel_rfl)) (fun _ _ _ h => h) (Or.inl ⟨by rfl, ?_⟩) ?_ ?_
    rotate_left
    ·intro w'; go_simp; with_reducible rfl
    rotate_left
    ·simp only [Act.put, zS, zZ, zC, i64_w, i32_w]
     rfl
    refine pure_ (i := 1) (N := some 11) (v := ?_) (a' := ?_) #[T, T, F, F, F, F, F, F, F, F, F, F, F, F, F, F, F, F, F, F, F, F, F, F, F, F, F, F, F, F, F, F, F, F, F] rfl rfl (any_of HT_.out (by kernel_rfl)) (fun _ _ _ h => h) (Or.inl ⟨by rfl, ?_⟩) ?_ ?_
    rotate_left
    ·intro w'; go_simp; with_reducible rfl
    rotate_left
    ·simp only [Act.put, zS, zZ, zC, i64_w, i32_w]
     rfl
    refine pure_ (i := 2) (N := some 12) (v := ?_) (a' := ?_) #[T, T, T, F, F, F, F, F, F, F, F, F, F, F, F, F, F, F, F, F, F, F, F, F, F, F, F, F, F, F, F, F, F, F, F] rfl rfl (any_of HT_.out (by kernel_rfl)) (fun _ _ _ h => h) (Or.inl ⟨by rfl, ?_⟩) ?_ ?_
    rotate_left
    ·intro w'; go_simp; with_reducible rfl
    rotate_left
    ·simp only [Act.put, zS, zZ, zC, i64_w, i32_w]
     rfl
    refine take_ (i := 3) (N := some 13) (v := ?_) (a' := ?_) #[T, T, T, T, F, F, F, F, F, F, F, F, F, F, F, F, F, F, F, F, F, F, F, F, F, F, F, F, F, F, F, F, F, F, F] rfl rfl (take_ofW HT_.out HW_.out (by kernel_rfl)) (fun _ _ _ h => h) (Or.inl ⟨by rfl, ?_⟩) hHeld ?_ ?_
    rotate_left
    ·intro w' s0; go_simp; with_reducible rfl
    rotate_left
    ·simp only [Act.put, zS, zZ, zC, i64_w, i32_w]
     rfl
    refine one_ (i := 4) (N := some 14) #[T, T, T, T, T, F, F, F, F, F, F, F, F, F, F, F, F, F, F, F, F, F, F, F, F, F, F, F, F, F, F, F, F, F, F] rfl rfl (one_of HT_.out (by kernel_rfl)) (by decide) (fun K hK => ?_)
    refine goes_ Tryd.func30 (by kernel_rfl) rfl #[.string (rdOf ByteArray.empty l0 x3_1)] (by rfl) rfl rfl (by (try simp only [List.map_toArray, List.map_cons, List.map_nil]); first | done | rfl | (simp only [List.length_drop, List.length_take]; rfl)) ?_
    with_reducible refine (copseref02_Valid.calls k1 (rdOf ByteArray.empty l0 x3_1) false _ A4.out).mono ?_
    rintro e w28 ⟨rfl, hb⟩
    refine ⟨_, rfl, ?_⟩
    have n0_ := zA (below_step (by repeat (first | (with_reducible first | exact HB.out | apply zL | apply zN | apply zD) | exact HB.out)) hb)
    clear HB; have HB := n0_; clear n0_
    (try clear hb)
    (try clear hb2)
    (try clear hk)
    (try clear hi)
    refine hK.out _ _ (((HB.out.cell (zB w _ hw247_0)).trans hw247_0)) (fun hHeld => ?_)
    clear hK K
    refine norm_ (a' := ?_) ?_ ?_
    rotate_left
    ·show Act.put _ (some 14) _ = _
     simp only [Act.put, zS, zZ, zC, i64_w, i32_w]
     rfl
    refine pure_ (i := 5) (N := some 15) (v := ?_) (a' := ?_) #[T, T, T, T, T, T, F, F, F, F, F, F, F, F, F, F, F, F, F, F, F, F, F, F, F, F, F, F, F, F, F, F, F, F, F] rfl rfl (any_of HT_.out (by kernel_rfl)) (fun _ _ _ h => h) (Or.inl ⟨by rfl, ?_⟩) ?_ ?_
    rotate_left
    ·intro w'; go_simp; with_reducible rfl
    rotate_left
    ·simp only [Act.put, zS, zZ, zC, i64_w, i32_w]
     rfl
    refine pure_ (i := 6) (N := some 16) (v := ?_) (a' := ?_) #[T, T, T, T, T, T, T, F, F, F, F, F, F, F, F, F, F, F, F, F, F, F, F, F, F, F, F, F, F, F, F, F, F, F, F] rfl rfl (any_of HT_.out (by kernel_rfl)) (fun _ _ _ h => h) (Or.inl ⟨by rfl, ?_⟩) ?_ ?_
    rotate_left
    ·intro w'; go_simp; with_reducible rfl
    rotate_left
    ·simp only [Act.put, zS, zZ, zC, i64_w, i32_w]
     rfl
    refine pure_ (i := 7) (N := some 17) (v := undef) (a' := ?_) #[T, T, T, T, T, T, T, T, F, F, F, F, F, F, F, F, F, F, F, F, F, F, F, F, F, F, F, F, F, F, F, F, F, F, F] rfl rfl (any_of HT_.out (by kernel_rfl)) (fun _ _ _ h => h) (Or.inr ⟨by rfl, rfl⟩) ?_ ?_
    rotate_left
    ·simp only [Act.put, zS, zZ, zC, i64_w, i32_w]
     rfl
    refine pure_ (i := 8) (N := some 18) (v := undef) (a' := ?_) #[T, T, T, T, T, T, T, T, T, F, F, F, F, F, F, F, F, F, F, F, F, F, F, F, F, F, F, F, F, F, F, F, F, F, F] rfl rfl (any_of HT_.out (by kernel_rfl)) (fun _ _ _ h => h) (Or.inr ⟨by rfl, rfl⟩) ?_ ?_
    rotate_left
    ·simp only [Act.put, zS, zZ, zC, i64_w, i32_w]
     rfl
    refine pure_ (i := 9) (N := some 19) (v := undef) (a' := ?_) #[T, T, T, T, T, T, T, T, T, T, F, F, F, F, F, F, F, F, F, F, F, F, F, F, F, F, F, F, F, F, F, F, F, F, F] rfl rfl (any_of HT_.out (by kernel_rfl)) (fun _ _ _ h => h) (Or.inr ⟨by rfl, rfl⟩) ?_ ?_
    rotate_left
    ·simp only [Act.put, zS, zZ, zC, i64_w, i32_w]
     rfl
    refine pure_ (i := 10) (N := some 20) (v := undef) (a' := ?_) #[T, T, T, T, T, T, T, T, T, T, T, F, F, F, F, F, F, F, F, F, F, F, F, F, F, F, F, F, F, F, F, F, F, F, F] rfl rfl (any_of HT_.out (by kernel_rfl)) (fun _ _ _ h => h) (Or.inr ⟨by rfl, rfl⟩) ?_ ?_
    rotate_left
    ·simp only [Act.put, zS, zZ, zC, i64_w, i32_w]
     rfl
    refine pure_ (i := 11) (N := some 21) (v := undef) (a' := ?_) #[T, T, T, T, T, T, T, T, T, T, T, T, F, F, F, F, F, F, F, F, F, F, F, F, F, F, F, F, F, F, F, F, F, F, F] rfl rfl (any_of HT_.out (by kernel_rfl)) (fun _ _ _ h => h) (Or.inr ⟨by rfl, rfl⟩) ?_ ?_
    rotate_left
    ·simp only [Act.put, zS, zZ, zC, i64_w, i32_w]
     rfl
    refine pure_ (i := 12) (N := some 22) (v := undef) (a' := ?_) #[T, T, T, T, T, T, T, T, T, T, T, T, T, F, F, F, F, F, F, F, F, F, F, F, F, F, F, F, F, F, F, F, F, F, F] rfl rfl (any_of HT_.out (by kernel_rfl)) (fun _ _ _ h => h) (Or.inr ⟨by rfl, rfl⟩) ?_ ?_
    rotate_left
    ·simp only [Act.put, zS, zZ, zC, i64_w, i32_w]
     rfl
    refine pure_ (i := 13) (N := some 23) (v := undef) (a' := ?_) #[T, T, T, T, T, T, T, T, T, T, T, T, T, T, F, F, F, F, F, F, F, F, F, F, F, F, F, F, F, F, F, F, F, F, F] rfl rfl (any_of HT_.out (by kernel_rfl)) (fun _ _ _ h => h) (Or.inr ⟨by rfl, rfl⟩) ?_ ?_
    rotate_left
    ·simp only [Act.put, zS, zZ, zC, i64_w, i32_w]
     rfl
    refine pure_ (i := 14) (N := some 24) (v := undef) (a' := ?_) #[T, T, T, T, T, T, T, T, T, T, T, T, T, T, T, F, F, F, F, F, F, F, F, F, F, F, F, F, F, F, F, F, F, F, F] rfl rfl (any_of HT_.out (by kernel_rfl)) (fun _ _ _ h => h) (Or.inr ⟨by rfl, rfl⟩) ?_ ?_
    rotate_left
    ·simp only [Act.put, zS, zZ, zC, i64_w, i32_w]
     rfl
    refine pure_ (i := 15) (N := some 25) (v := undef) (a' := ?_) #[T, T, T, T, T, T, T, T, T, T, T, T, T, T, T, T, F, F, F, F, F, F, F, F, F, F, F, F, F, F, F, F, F, F, F] rfl rfl (any_of HT_.out (by kernel_rfl)) (fun _ _ _ h => h) (Or.inr ⟨by rfl, rfl⟩) ?_ ?_
    rotate_left
    ·simp only [Act.put, zS, zZ, zC, i64_w, i32_w]
     rfl
    refine pure_ (i := 16) (N := some 26) (v := undef) (a' := ?_) #[T, T, T, T, T, T, T, T, T, T, T, T, T, T, T, T, T, F, F, F, F, F, F, F, F, F, F, F, F, F, F, F, F, F, F] rfl rfl (any_of HT_.out (by kernel_rfl)) (fun _ _ _ h => h) (Or.inr ⟨by rfl, rfl⟩) ?_ ?_
    rotate_left
    ·simp only [Act.put, zS, zZ, zC, i64_w, i32_w]
     rfl
    refine pure_ (i := 17) (N := some 27) (v := undef) (a' := ?_) #[T, T, T, T, T, T, T, T, T, T, T, T, T, T, T, T, T, T, F, F, F, F, F, F, F, F, F, F, F, F, F, F, F, F, F] rfl rfl (any_of HT_.out (by kernel_rfl)) (fun _ _ _ h => h) (Or.inr ⟨by rfl, rfl⟩) ?_ ?_
    rotate_left
    ·simp only [Act.put, zS, zZ, zC, i64_w, i32_w]
     rfl
    refine pure_ (i := 18) (N := some 28) (v := undef) (a' := ?_) #[T, T, T, T, T, T, T, T, T, T, T, T, T, T, T, T, T, T, T, F, F, F, F, F, F, F, F, F, F, F, F, F, F, F, F] rfl rfl (any_of HT_.out (by kernel_rfl)) (fun _ _ _ h => h) (Or.inr ⟨by rfl, rfl⟩) ?_ ?_
    rotate_left
    ·simp only [Act.put, zS, zZ, zC, i64_w, i32_w]
     rfl
    refine pure_ (i := 19) (N := some 29) (v := undef) (a' := ?_) #[T, T, T, T, T, T, T, T, T, T, T, T, T, T, T, T, T, T, T, T, F, F, F, F, F, F, F, F, F, F, F, F, F, F, F] rfl rfl (any_of HT_.out (by kernel_rfl)) (fun _ _ _ h => h) (Or.inr ⟨by rfl, rfl⟩) ?_ ?_
    rotate_left
    ·simp only [Act.put, zS, zZ, zC, i64_w, i32_w]
     rfl
    refine pure_ (i := 20) (N := some 30) (v := undef) (a' := ?_) #[T, T, T, T, T, T, T, T, T, T, T, T, T, T, T, T, T, T, T, T, T, F, F, F, F, F, F, F, F, F, F, F, F, F, F] rfl rfl (any_of HT_.out (by kernel_rfl)) (fun _ _ _ h => h) (Or.inr ⟨by rfl, rfl⟩) ?_ ?_
    rotate_left
    ·simp only [Act.put, zS, zZ, zC, i64_w, i32_w]
     rfl
    refine pure_ (i := 21) (N := some 31) (v := undef) (a' := ?_) #[T, T, T, T, T, T, T, T, T, T, T, T, T, T, T, T, T, T, T, T, T, T, F, F, F, F, F, F, F, F, F, F, F, F, F] rfl rfl (any_of HT_.out (by kernel_rfl)) (fun _ _ _ h => h) (Or.inr ⟨by rfl, rfl⟩) ?_ ?_
    rotate_left
    ·simp only [Act.put, zS, zZ, zC, i64_w, i32_w]
     rfl
    refine pure_ (i := 22) (N := some 32) (v := undef) (a' := ?_) #[T, T, T, T, T, T, T, T, T, T, T, T, T, T, T, T, T, T, T, T, T, T, T, F, F, F, F, F, F, F, F, F, F, F, F] rfl rfl (any_of HT_.out (by kernel_rfl)) (fun _ _ _ h => h) (Or.inr ⟨by rfl, rfl⟩) ?_ ?_
    rotate_left
    ·simp only [Act.put, zS, zZ, zC, i64_w, i32_w]
     rfl
    refine pure_ (i := 23) (N := some 33) (v := undef) (a' := ?_) #[T, T, T, T, T, T, T, T, T, T, T, T, T, T, T, T, T, T, T, T, T, T, T, T, F, F, F, F, F, F, F, F, F, F, F] rfl rfl (any_of HT_.out (by kernel_rfl)) (fun _ _ _ h => h) (Or.inr ⟨by rfl, rfl⟩) ?_ ?_
    rotate_left
    ·simp only [Act.put, zS, zZ, zC, i64_w, i32_w]
     rfl
    refine pure_ (i := 24) (N := some 34) (v := undef) (a' := ?_) #[T, T, T, T, T, T, T, T, T, T, T, T, T, T, T, T, T, T, T, T, T, T, T, T, T, F, F, F, F, F, F, F, F, F, F] rfl rfl (any_of HT_.out (by kernel_rfl)) (fun _ _ _ h => h) (Or.inr ⟨by rfl, rfl⟩) ?_ ?_
    rotate_left
    ·simp only [Act.put, zS, zZ, zC, i64_w, i32_w]
     rfl
    refine pure_ (i := 25) (N := some 35) (v := undef) (a' := ?_) #[T, T, T, T, T, T, T, T, T, T, T, T, T, T, T, T, T, T, T, T, T, T, T, T, T, T, F, F, F, F, F, F, F, F, F] rfl rfl (any_of HT_.out (by kernel_rfl)) (fun _ _ _ h => h) (Or.inr ⟨by rfl, rfl⟩) ?_ ?_
    rotate_left
    ·simp only [Act.put, zS, zZ, zC, i64_w, i32_w]
     rfl
    refine pure_ (i := 26) (N := some 36) (v := undef) (a' := ?_) #[T, T, T, T, T, T, T, T, T, T, T, T, T, T, T, T, T, T, T, T, T, T, T, T, T, T, T, F, F, F, F, F, F, F, F] rfl rfl (any_of HT_.out (by kernel_rfl)) (fun _ _ _ h => h) (Or.inr ⟨by rfl, rfl⟩) ?_ ?_
    rotate_left
    ·simp only [Act.put, zS, zZ, zC, i64_w, i32_w]
     rfl
    refine pure_ (i := 27) (N := some 37) (v := undef) (a' := ?_) #[T, T, T, T, T, T, T, T, T, T, T, T, T, T, T, T, T, T, T, T, T, T, T, T, T, T, T, T, F, F, F, F, F, F, F] rfl rfl (any_of HT_.out (by kernel_rfl)) (fun _ _ _ h => h) (Or.inr ⟨by rfl, rfl⟩) ?_ ?_
    rotate_left
    ·simp only [Act.put, zS, zZ, zC, i64_w, i32_w]
     rfl
    refine pure_ (i := 28) (N := some 38) (v := undef) (a' := ?_) #[T, T, T, T, T, T, T, T, T, T, T, T, T, T, T, T, T, T, T, T, T, T, T, T, T, T, T, T, T, F, F, F, F, F, F] rfl rfl (any_of HT_.out (by kernel_rfl)) (fun _ _ _ h => h) (Or.inr ⟨by rfl, rfl⟩) ?_ ?_
    rotate_left
    ·simp only [Act.put, zS, zZ, zC, i64_w, i32_w]
     rfl
    refine pure_ (i := 29) (N := some 39) (v := undef) (a' := ?_) #[T, T, T, T, T, T, T, T, T, T, T, T, T, T, T, T, T, T, T, T, T, T, T, T, T, T, T, T, T, T, F, F, F, F, F] rfl rfl (any_of HT_.out (by kernel_rfl)) (fun _ _ _ h => h) (Or.inr ⟨by rfl, rfl⟩) ?_ ?_
    rotate_left
    ·simp only [Act.put, zS, zZ, zC, i64_w, i32_w]
     rfl
    refine pure_ (i := 30) (N := some 40) (v := undef) (a' := ?_) #[T, T, T, T, T, T, T, T, T, T, T, T, T, T, T, T, T, T, T, T, T, T, T, T, T, T, T, T, T, T, T, F, F, F, F] rfl rfl (any_of HT_.out (by kernel_rfl)) (fun _ _ _ h => h) (Or.inr ⟨by rfl, rfl⟩) ?_ ?_
    rotate_left
    ·simp only [Act.put, zS, zZ, zC, i64_w, i32_w]
     rfl
    refine pure_ (i := 31) (N := some 41) (v := undef) (a' := ?_) #[T, T, T, T, T, T, T, T, T, T, T, T, T, T, T, T, T, T, T, T, T, T, T, T, T, T, T, T, T, T, T, T, F, F, F] rfl rfl (any_of HT_.out (by kernel_rfl)) (fun _ _ _ h => h) (Or.inr ⟨by rfl, rfl⟩) ?_ ?_
    rotate_left
    ·simp only [Act.put, zS, zZ, zC, i64_w, i32_w]
     rfl
    refine pure_ (i := 32) (N := some 42) (v := undef) (a' := ?_) #[T, T, T, T, T, T, T, T, T, T, T, T, T, T, T, T, T, T, T, T, T, T, T, T, T, T, T, T, T, T, T, T, T, F, F] rfl rfl (any_of HT_.out (by kernel_rfl)) (fun _ _ _ h => h) (Or.inr ⟨by rfl, rfl⟩) ?_ ?_
    rotate_left
    ·simp only [Act.put, zS, zZ, zC, i64_w, i32_w]
     rfl
    refine pure_ (i := 33) (N := some 43) (v := undef) (a' := ?_) #[T, T, T, T, T, T, T, T, T, T, T, T, T, T, T, T, T, T, T, T, T, T, T, T, T, T, T, T, T, T, T, T, T, T, F] rfl rfl (any_of HT_.out (by kernel_rfl)) (fun _ _ _ h => h) (Or.inr ⟨by rfl, rfl⟩) ?_ ?_
    rotate_left
    ·simp only [Act.put, zS, zZ, zC, i64_w, i32_w]
     rfl
    refine pure_ (i := 34) (N := some 44) (v := ?_) (a' := ?_) #[T, T, T, T, T, T, T, T, T, T, T, T, T, T, T, T, T, T, T, T, T, T, T, T, T, T, T, T, T, T, T, T, T, T, T] rfl rfl (any_of HT_.out (by kernel_rfl)) (fun _ _ _ h => h) (Or.inl ⟨by rfl, ?_⟩) ?_ ?_
    rotate_left
    ·intro w'; go_simp; with_reducible rfl
    rotate_left
    ·simp only [Act.put, zS, zZ, zC, i64_w, i32_w]
     rfl
    refine done_ (done_of HT_.out (by kernel_rfl)) ?_
    try go_wp2
    go_ret
    exact ⟨by first | rfl | (simp [errW_none, errW_some] <;> rfl) | (simp [*, errW_none, errW_some] <;> rfl), by repeat (first | (with_reducible first | exact HB.out | apply zL | apply zN | apply zD) | exact HB.out)⟩
   subst c5
   have H1 : (if x3_1 > 0 then (if 0 ≤ (wrap64 (x3_1 - 1)) then (if (wrap64 (x3_1 - 1)) < (l0.length : Int) then ((copseref02_Cmp.f k1 (rdOf ByteArray.empty l0 (wrap64 (x3_1 - 1))) (rdOf ByteArray.empty l0 x3_1)).bind fun t251 => (if t251 ≥ 0 then (some false) else ((copseref02_Above.f k1 (rdOf ByteArray.empty l0 (wrap64 (x3_1 - 1))) (rdOf ByteArray.empty l0 x3_1)).bind fun t254 => (if t254 = true then (some false) else (copseref16_Cones.l0 k1 l0 (wrap64 (x3_1 + 1))))))) else (none)) else (none)) else (copseref16_Cones.l0 k1 l0 (wrap64 (x3_1 + 1)))) = some r := by rw [if_pos rfl] at H; exact H
   clear H; have H := H1; clear H1
   by_cases c6 : x3_1 > 0
   rotate_left
   ·rw [if_neg c6] at H
    have c6b0 : decide (0 < x3_1) = false := decide_eq_false c6
    clear c6
    have H' := zA H
    clear H
    try go_wp2
    have n0_ := zA (zD HB.out)
    clear HB; have HB := n0_; clear n0_
    have p247 : 0 ≤ (x3_1 : Int) := zO (by first | (with_reducible assumption) | assumption)
    have q247 : x3_1 < (l0.length : Int) := zO (by first | (with_reducible assumption) | assumption)
    obtain ⟨ad247, e247, hx247_0⟩ := Kd.at_string HR0.out x3_1 p247 q247
    have hw247_0 := hx247_0
    cases e247
    replace hx247_0 := (HB.out.cell (zB w _ hx247_0)).trans hx247_0
    replace p247 := eq_true p247
    replace q247 := eq_true q247
    refine start_ (n := 35) (S := fun w' => w'.cell? (ad247.add (x3_1).toNat) = some (.string (rdOf ByteArray.empty l0 x3_1))) (ds := []) #[F, F, F, F, F, F, F, F, F, F, F, F, F, F, F, F, F, F, F, F, F, F, F, F, F, F, F, F, F, F, F, F, F, F, F] (by kernel_rfl) rfl rfl (((HB.out.cell (zB w _ hw247_0)).trans hw247_0)) (fun hHeld => ?_); refine with_tabW copseref16_Cones.tab4 copseref16_Cones.bits4 (fun HT_ HW_ => ?_)
    generalize wr.drew = w25 at HB hx247_0 hHeld ⊢
    refine pure_ (i := 0) (N := some 10) (v := ?_) (a' := ?_) #[T, F, F, F, F, F, F, F, F, F, F, F, F, F, F, F, F, F, F, F, F, F, F, F, F, F, F, F, F, F, F, F, F, F, F] rfl rfl (any_of HT_.out (by kernel_rfl)) (fun _ _ _ h => h) (Or.inl ⟨by rfl, ?_⟩) ?_ ?_
    rotate_left
    ·intro w'; go_simp; with_reducible rfl
    rotate_left
    ·simp only [Act.put, zS, zZ, zC, i64_w, i32_w]
     rfl
    refine pure_ (i := 1) (N := some 11) (v := ?_) (a' := ?_) #[T, T, F, F, F, F, F, F, F, F, F, F, F, F, F, F, F, F, F, F, F, F, F, F, F, F, F, F, F, F, F, F, F, F, F] rfl rfl (any_of HT_.out (by kernel_rfl)) (fun _ _ _ h => h) (Or.inl ⟨by rfl, ?_⟩) ?_ ?_
    rotate_left
    ·intro w'; go_simp; with_reducible rfl
    rotate_left
    ·simp only [Act.put, zS, zZ, zC, i64_w, i32_w]
     rfl
    refine pure_ (i := 2) (N := some 12) (v := ?_) (a' := ?_) #[T, T, T, F, F, F, F, F, F, F, F, F, F, F, F, F, F, F, F, F, F, F, F, F, F, F, F, F, F, F, F, F, F, F, F] rfl rfl (any_of HT_.out (by kernel_rfl)) (fun _ _ _ h => h) (Or.inl ⟨by rfl, ?_⟩) ?_ ?_
    rotate_left
    ·intro w'; go_simp; with_reducible rfl
    rotate_left
    ·simp only [Act.put, zS, zZ, zC, i64_w, i32_w]
     rfl
    refine take_ (i := 3) (N := some 13) (v := ?_) (a' := ?_) #[T, T, T, T, F, F, F, F, F, F, F, F, F, F, F, F, F, F, F, F, F, F, F, F, F, F, F, F, F, F, F, F, F, F, F] rfl rfl (take_ofW HT_.out HW_.out (by kernel_rfl)) (fun _ _ _ h => h) (Or.inl ⟨by rfl, ?_⟩) hHeld ?_ ?_
    rotate_left
    ·intro w' s0; go_simp; with_reducible rfl
    rotate_left
    ·simp only [Act.put, zS, zZ, zC, i64_w, i32_w]
     rfl
    refine one_ (i := 4) (N := some 14) #[T, T, T, T, T, F, F, F, F, F, F, F, F, F, F, F, F, F, F, F, F, F, F, F, F, F, F, F, F, F, F, F, F, F, F] rfl rfl (one_of HT_.out (by kernel_rfl)) (by decide) (fun K hK => ?_)
    refine goes_ Tryd.func30 (by kernel_rfl) rfl #[.string (rdOf ByteArray.empty l0 x3_1)] (by rfl) rfl rfl (by (try simp only [List.map_toArray, List.map_cons, List.map_nil]); first | done | rfl | (simp only [List.length_drop, List.length_take]; rfl)) ?_
    with_reducible refine (copseref02_Valid.calls k1 (rdOf ByteArray.empty l0 x3_1) true _ A4.out).mono ?_
    rintro e w26 ⟨rfl, hb⟩
    refine ⟨_, rfl, ?_⟩
    have n0_ := zA (below_step (by repeat (first | (with_reducible first | exact HB.out | apply zL | apply zN | apply zD) | exact HB.out)) hb)
    clear HB; have HB := n0_; clear n0_
    (try clear hb)
    (try clear hb2)
    (try clear hk)
    (try clear hi)
    refine hK.out _ _ (((HB.out.cell (zB w _ hw247_0)).trans hw247_0)) (fun hHeld => ?_)
    clear hK K
    refine norm_ (a' := ?_) ?_ ?_
    rotate_left
    ·show Act.put _ (some 14) _ = _
     simp only [Act.put, zS, zZ, zC, i64_w, i32_w]
     rfl
    refine pure_ (i := 5) (N := some 15) (v := ?_) (a' := ?_) #[T, T, T, T, T, T, F, F, F, F, F, F, F, F, F, F, F, F, F, F, F, F, F, F, F, F, F, F, F, F, F, F, F, F, F] rfl rfl (any_of HT_.out (by kernel_rfl)) (fun _ _ _ h => h) (Or.inl ⟨by rfl, ?_⟩) ?_ ?_
    rotate_left
    ·intro w'; go_simp; with_reducible rfl
    rotate_left
    ·simp only [Act.put, zS, zZ, zC, i64_w, i32_w]
     rfl
    refine pure_ (i := 6) (N := some 16) (v := ?_) (a' := ?_) #[T, T, T, T, T, T, T, F, F, F, F, F, F, F, F, F, F, F, F, F, F, F, F, F, F, F, F, F, F, F, F, F, F, F, F] rfl rfl (any_of HT_.out (by kernel_rfl)) (fun _ _ _ h => h) (Or.inl ⟨by rfl, ?_⟩) ?_ ?_
    rotate_left
    ·intro w'; go_simp; with_reducible rfl
    rotate_left
    ·simp only [Act.put, zS, zZ, zC, i64_w, i32_w]
     rfl
    refine pure_ (i := 7) (N := some 17) (v := ?_) (a' := ?_) #[T, T, T, T, T, T, T, T, F, F, F, F, F, F, F, F, F, F, F, F, F, F, F, F, F, F, F, F, F, F, F, F, F, F, F] rfl rfl (any_of HT_.out (by kernel_rfl)) (fun _ _ _ h => h) (Or.inl ⟨by rfl, ?_⟩) ?_ ?_
    rotate_left
    ·intro w'; go_simp; with_reducible rfl
    rotate_left
    ·simp only [Act.put, zS, zZ, zC, i64_w, i32_w]
     rfl
    refine pure_ (i := 8) (N := some 18) (v := ?_) (a' := ?_) #[T, T, T, T, T, T, T, T, T, F, F, F, F, F, F, F, F, F, F, F, F, F, F, F, F, F, F, F, F, F, F, F, F, F, F] rfl rfl (any_of HT_.out (by kernel_rfl)) (fun _ _ _ h => h) (Or.inl ⟨by rfl, ?_⟩) ?_ ?_
    rotate_left
    ·intro w'; go_simp; with_reducible rfl
    rotate_left
    ·simp only [Act.put, zS, zZ, zC, i64_w, i32_w]
     rfl
    refine pure_ (i := 9) (N := some 19) (v := ?_) (a' := ?_) #[T, T, T, T, T, T, T, T, T, T, F, F, F, F, F, F, F, F, F, F, F, F, F, F, F, F, F, F, F, F, F, F, F, F, F] rfl rfl (any_of HT_.out (by kernel_rfl)) (fun _ _ _ h => h) (Or.inl ⟨by rfl, ?_⟩) ?_ ?_
    rotate_left
    ·intro w'; go_simp; with_reducible rfl
    rotate_left
    ·simp only [Act.put, zS, zZ, zC, i64_w, i32_w]
     rfl
    refine pure_ (i := 10) (N := some 20) (v := undef) (a' := ?_) #[T, T, T, T, T, T, T, T, T, T, T, F, F, F, F, F, F, F, F, F, F, F, F, F, F, F, F, F, F, F, F, F, F, F, F] rfl rfl (any_of HT_.out (by kernel_rfl)) (fun _ _ _ h => h) (Or.inr ⟨by rfl, rfl⟩) ?_ ?_
    rotate_left
    ·simp only [Act.put, zS, zZ, zC, i64_w, i32_w]
     rfl
    refine pure_ (i := 11) (N := some 21) (v := undef) (a' := ?_) #[T, T, T, T, T, T, T, T, T, T, T, T, F, F, F, F, F, F, F, F, F, F, F, F, F, F, F, F, F, F, F, F, F, F, F] rfl rfl (any_of HT_.out (by kernel_rfl)) (fun _ _ _ h => h) (Or.inr ⟨by rfl, rfl⟩) ?_ ?_
    rotate_left
    ·simp only [Act.put, zS, zZ, zC, i64_w, i32_w]
     rfl
    refine pure_ (i := 12) (N := some 22) (v := undef) (a' := ?_) #[T, T, T, T, T, T, T, T, T, T, T, T, T, F, F, F, F, F, F, F, F, F, F, F, F, F, F, F, F, F, F, F, F, F, F] rfl rfl (any_of HT_.out (by kernel_rfl)) (fun _ _ _ h => h) (Or.inr ⟨by rfl, rfl⟩) ?_ ?_
    rotate_left
    ·simp only [Act.put, zS, zZ, zC, i64_w, i32_w]
     rfl
    refine pure_ (i := 13) (N := some 23) (v := undef) (a' := ?_) #[T, T, T, T, T, T, T, T, T, T, T, T, T, T, F, F, F, F, F, F, F, F, F, F, F, F, F, F, F, F, F, F, F, F, F] rfl rfl (any_of HT_.out (by kernel_rfl)) (fun _ _ _ h => h) (Or.inr ⟨by rfl, rfl⟩) ?_ ?_
    rotate_left
    ·simp only [Act.put, zS, zZ, zC, i64_w, i32_w]
     rfl
    refine pure_ (i := 14) (N := some 24) (v := undef) (a' := ?_) #[T, T, T, T, T, T, T, T, T, T, T, T, T, T, T, F, F, F, F, F, F, F, F, F, F, F, F, F, F, F, F, F, F, F, F] rfl rfl (any_of HT_.out (by kernel_rfl)) (fun _ _ _ h => h) (Or.inr ⟨by rfl, rfl⟩) ?_ ?_
    rotate_left
    ·simp only [Act.put, zS, zZ, zC, i64_w, i32_w]
     rfl
    refine pure_ (i := 15) (N := some 25) (v := undef) (a' := ?_) #[T, T, T, T, T, T, T, T, T, T, T, T, T, T, T, T, F, F, F, F, F, F, F, F, F, F, F, F, F, F, F, F, F, F, F] rfl rfl (any_of HT_.out (by kernel_rfl)) (fun _ _ _ h => h) (Or.inr ⟨by rfl, rfl⟩) ?_ ?_
    rotate_left
    ·simp only [Act.put, zS, zZ, zC, i64_w, i32_w]
     rfl
    refine pure_ (i := 16) (N := some 26) (v := undef) (a' := ?_) #[T, T, T, T, T, T, T, T, T, T, T, T, T, T, T, T, T, F, F, F, F, F, F, F, F, F, F, F, F, F, F, F, F, F, F] rfl rfl (any_of HT_.out (by kernel_rfl)) (fun _ _ _ h => h) (Or.inr ⟨by rfl, rfl⟩) ?_ ?_
    rotate_left
    ·simp only [Act.put, zS, zZ, zC, i64_w, i32_w]
     rfl
    refine pure_ (i := 17) (N := some 27) (v := undef) (a' := ?_) #[T, T, T, T, T, T, T, T, T, T, T, T, T, T, T, T, T, T, F, F, F, F, F, F, F, F, F, F, F, F, F, F, F, F, F] rfl rfl (any_of HT_.out (by kernel_rfl)) (fun _ _ _ h => h) (Or.inr ⟨by rfl, rfl⟩) ?_ ?_
    rotate_left
    ·simp only [Act.put, zS, zZ, zC, i64_w, i32_w]
     rfl
    refine pure_ (i := 18) (N := some 28) (v := undef) (a' := ?_) #[T, T, T, T, T, T, T, T, T, T, T, T, T, T, T, T, T, T, T, F, F, F, F, F, F, F, F, F, F, F, F, F, F, F, F] rfl rfl (any_of HT_.out (by kernel_rfl)) (fun _ _ _ h => h) (Or.inr ⟨by rfl, rfl⟩) ?_ ?_
    rotate_left
    ·simp only [Act.put, zS, zZ, zC, i64_w, i32_w]
     rfl
    refine pure_ (i := 19) (N := some 29) (v := undef) (a' := ?_) #[T, T, T, T, T, T, T, T, T, T, T, T, T, T, T, T, T, T, T, T, F, F, F, F, F, F, F, F, F, F, F, F, F, F, F] rfl rfl (any_of HT_.out (by kernel_rfl)) (fun _ _ _ h => h) (Or.inr ⟨by rfl, rfl⟩) ?_ ?_
    rotate_left
    ·simp only [Act.put, zS, zZ, zC, i64_w, i32_w]
     rfl
    refine pure_ (i := 20) (N := some 30) (v := undef) (a' := ?_) #[T, T, T, T, T, T, T, T, T, T, T, T, T, T, T, T, T, T, T, T, T, F, F, F, F, F, F, F, F, F, F, F, F, F, F] rfl rfl (any_of HT_.out (by kernel_rfl)) (fun _ _ _ h => h) (Or.inr ⟨by rfl, rfl⟩) ?_ ?_
    rotate_left
    ·simp only [Act.put, zS, zZ, zC, i64_w, i32_w]
     rfl
    refine pure_ (i := 21) (N := some 31) (v := undef) (a' := ?_) #[T, T, T, T, T, T, T, T, T, T, T, T, T, T, T, T, T, T, T, T, T, T, F, F, F, F, F, F, F, F, F, F, F, F, F] rfl rfl (any_of HT_.out (by kernel_rfl)) (fun _ _ _ h => h) (Or.inr ⟨by rfl, rfl⟩) ?_ ?_
    rotate_left
    ·simp only [Act.put, zS, zZ, zC, i64_w, i32_w]
     rfl
    refine pure_ (i := 22) (N := some 32) (v := undef) (a' := ?_) #[T, T, T, T, T, T, T, T, T, T, T, T, T, T, T, T, T, T, T, T, T, T, T, F, F, F, F, F, F, F, F, F, F, F, F] rfl rfl (any_of HT_.out (by kernel_rfl)) (fun _ _ _ h => h) (Or.inr ⟨by rfl, rfl⟩) ?_ ?_
    rotate_left
    ·simp only [Act.put, zS, zZ, zC, i64_w, i32_w]
     rfl
    refine pure_ (i := 23) (N := some 33) (v := undef) (a' := ?_) #[T, T, T, T, T, T, T, T, T, T, T, T, T, T, T, T, T, T, T, T, T, T, T, T, F, F, F, F, F, F, F, F, F, F, F] rfl rfl (any_of HT_.out (by kernel_rfl)) (fun _ _ _ h => h) (Or.inr ⟨by rfl, rfl⟩) ?_ ?_
    rotate_left
    ·simp only [Act.put, zS, zZ, zC, i64_w, i32_w]
     rfl
    refine pure_ (i := 24) (N := some 34) (v := undef) (a' := ?_) #[T, T, T, T, T, T, T, T, T, T, T, T, T, T, T, T, T, T, T, T, T, T, T, T, T, F, F, F, F, F, F, F, F, F, F] rfl rfl (any_of HT_.out (by kernel_rfl)) (fun _ _ _ h => h) (Or.inr ⟨by rfl, rfl⟩) ?_ ?_
    rotate_left
    ·simp only [Act.put, zS, zZ, zC, i64_w, i32_w]
     rfl
    refine pure_ (i := 25) (N := some 35) (v := undef) (a' := ?_) #[T, T, T, T, T, T, T, T, T, T, T, T, T, T, T, T, T, T, T, T, T, T, T, T, T, T, F, F, F, F, F, F, F, F, F] rfl rfl (any_of HT_.out (by kernel_rfl)) (fun _ _ _ h => h) (Or.inr ⟨by rfl, rfl⟩) ?_ ?_
    rotate_left
    ·simp only [Act.put, zS, zZ, zC, i64_w, i32_w]
     rfl
    refine pure_ (i := 26) (N := some 36) (v := undef) (a' := ?_) #[T, T, T, T, T, T, T, T, T, T, T, T, T, T, T, T, T, T, T, T, T, T, T, T, T, T, T, F, F, F, F, F, F, F, F] rfl rfl (any_of HT_.out (by kernel_rfl)) (fun _ _ _ h => h) (Or.inr ⟨by rfl, rfl⟩) ?_ ?_
    rotate_left
    ·simp only [Act.put, zS, zZ, zC, i64_w, i32_w]
     rfl
    refine pure_ (i := 27) (N := some 37) (v := undef) (a' := ?_) #[T, T, T, T, T, T, T, T, T, T, T, T, T, T, T, T, T, T, T, T, T, T, T, T, T, T, T, T, F, F, F, F, F, F, F] rfl rfl (any_of HT_.out (by kernel_rfl)) (fun _ _ _ h => h) (Or.inr ⟨by rfl, rfl⟩) ?_ ?_
    rotate_left
    ·simp only [Act.put, zS, zZ, zC, i64_w, i32_w]
     rfl
    refine pure_ (i := 28) (N := some 38) (v := undef) (a' := ?_) #[T, T, T, T, T, T, T, T, T, T, T, T, T, T, T, T, T, T, T, T, T, T, T, T, T, T, T, T, T, F, F, F, F, F, F] rfl rfl (any_of HT_.out (by kernel_rfl)) (fun _ _ _ h => h) (Or.inr ⟨by rfl, rfl⟩) ?_ ?_
    rotate_left
    ·simp only [Act.put, zS, zZ, zC, i64_w, i32_w]
     rfl
    refine pure_ (i := 29) (N := some 39) (v := undef) (a' := ?_) #[T, T, T, T, T, T, T, T, T, T, T, T, T, T, T, T, T, T, T, T, T, T, T, T, T, T, T, T, T, T, F, F, F, F, F] rfl rfl (any_of HT_.out (by kernel_rfl)) (fun _ _ _ h => h) (Or.inr ⟨by rfl, rfl⟩) ?_ ?_
    rotate_left
    ·simp only [Act.put, zS, zZ, zC, i64_w, i32_w]
     rfl
    refine pure_ (i := 30) (N := some 40) (v := undef) (a' := ?_) #[T, T, T, T, T, T, T, T, T, T, T, T, T, T, T, T, T, T, T, T, T, T, T, T, T, T, T, T, T, T, T, F, F, F, F] rfl rfl (any_of HT_.out (by kernel_rfl)) (fun _ _ _ h => h) (Or.inr ⟨by rfl, rfl⟩) ?_ ?_
    rotate_left
    ·simp only [Act.put, zS, zZ, zC, i64_w, i32_w]
     rfl
    refine pure_ (i := 31) (N := some 41) (v := undef) (a' := ?_) #[T, T, T, T, T, T, T, T, T, T, T, T, T, T, T, T, T, T, T, T, T, T, T, T, T, T, T, T, T, T, T, T, F, F, F] rfl rfl (any_of HT_.out (by kernel_rfl)) (fun _ _ _ h => h) (Or.inr ⟨by rfl, rfl⟩) ?_ ?_
    rotate_left
    ·simp only [Act.put, zS, zZ, zC, i64_w, i32_w]
     rfl
    refine pure_ (i := 32) (N := some 42) (v := undef) (a' := ?_) #[T, T, T, T, T, T, T, T, T, T, T, T, T, T, T, T, T, T, T, T, T, T, T, T, T, T, T, T, T, T, T, T, T, F, F] rfl rfl (any_of HT_.out (by kernel_rfl)) (fun _ _ _ h => h) (Or.inr ⟨by rfl, rfl⟩) ?_ ?_
    rotate_left
    ·simp only [Act.put, zS, zZ, zC, i64_w, i32_w]
     rfl
    refine pure_ (i := 33) (N := some 43) (v := ?_) (a' := ?_) #[T, T, T, T, T, T, T, T, T, T, T, T, T, T, T, T, T, T, T, T, T, T, T, T, T, T, T, T, T, T, T, T, T, T, F] rfl rfl (any_of HT_.out (by kernel_rfl)) (fun _ _ _ h => h) (Or.inl ⟨by rfl, ?_⟩) ?_ ?_
    rotate_left
    ·intro w'; go_simp; with_reducible rfl
    rotate_left
    ·simp only [Act.put, zS, zZ, zC, i64_w, i32_w]
     rfl
    refine pure_ (i := 34) (N := some 44) (v := ?_) (a' := ?_) #[T, T, T, T, T, T, T, T, T, T, T, T, T, T, T, T, T, T, T, T, T, T, T, T, T, T, T, T, T, T, T, T, T, T, T] rfl rfl (any_of HT_.out (by kernel_rfl)) (fun _ _ _ h => h) (Or.inl ⟨by rfl, ?_⟩) ?_ ?_
    rotate_left
    ·intro w'; go_simp; with_reducible rfl
    rotate_left
    ·simp only [Act.put, zS, zZ, zC, i64_w, i32_w]
     rfl
    refine done_ (done_of HT_.out (by kernel_rfl)) ?_
    try go_wp2
    go_roundg k1
    case measure => have := HK1.out; omega
    case rel => exact ⟨(wrap64 (x3_1 + 1)), (by first | rfl | (simp; done) | (simp [*]; done)), H', ⟨by have := HK1.out; omega⟩, ⟨by repeat (first | (with_reducible first | exact HB.out | apply zL | apply zN | apply zD) | exact HB.out)⟩⟩
   rw [if_pos c6] at H
   have c6b0 : decide (0 < x3_1) = true := decide_eq_true c6
   clear c6
   obtain ⟨ji7, hji7⟩ : ∃ j_ : Int, (wrap64 (x3_1 - 1)) = j_ := ⟨_, rfl⟩
   replace H : (if 0 ≤ (ji7) then (if (ji7) < (l0.length : Int) then ((copseref02_Cmp.f k1 (rdOf ByteArray.empty l0 (ji7)) (rdOf ByteArray.empty l0 x3_1)).bind fun t251 => (if t251 ≥ 0 then (some false) else ((copseref02_Above.f k1 (rdOf ByteArray.empty l0 (ji7)) (rdOf ByteArray.empty l0 x3_1)).bind fun t254 => (if t254 = true then (some false) else (copseref16_Cones.l0 k1 l0 (wrap64 (x3_1 + 1))))))) else (none)) else (none)) = some r := by first | (rw [hji7] at H; exact H) | (simp only [hji7] at H ⊢; exact H)
   (try rw [hji7] at A4)
   have hji7w : (IntKind.i64.wrap (x3_1 - 1)) = ji7 := (i64_w _).trans hji7
   by_cases c8 : 0 ≤ (ji7)
   rotate_left
   ·rw [if_neg c8] at H
    exact absurd H (by simp)
   rw [if_pos c8] at H
   have c8b0 : decide (0 ≤ (ji7)) = true := decide_eq_true c8
   clear c8
   by_cases c9 : (ji7) < (l0.length : Int)
   rotate_left
   ·rw [if_neg c9] at H
    exact absurd H (by simp)
   rw [if_pos c9] at H
   have c9b0 : decide ((ji7) < (l0.length : Int)) = true := decide_eq_true c9
   clear c9; replace H := Option.bind_eq_some_iff.mp H; obtain ⟨t251, A100, H⟩ := H
   replace H : (if t251 ≥ 0 then (some false) else ((copseref02_Above.f k1 (rdOf ByteArray.empty l0 (ji7)) (rdOf ByteArray.empty l0 x3_1)).bind fun t254 => (if t254 = true then (some false) else (copseref16_Cones.l0 k1 l0 (wrap64 (x3_1 + 1)))))) = some r := H
   have A10 := zA A100; clear A100
   by_cases c11 : t251 ≥ 0
   ·rw [if_pos c11] at H
    have c11b0 : decide (0 ≤ t251) = true := decide_eq_true c11
    clear c11; obtain rfl := Option.some.inj H
    try go_wp2
    have n0_ := zA (zD HB.out)
    clear HB; have HB := n0_; clear n0_
    have p247 : 0 ≤ (x3_1 : Int) := zO (by first | (with_reducible assumption) | assumption)
    have q247 : x3_1 < (l0.length : Int) := zO (by first | (with_reducible assumption) | assumption)
    obtain ⟨ad247, e247, hx247_0⟩ := Kd.at_string HR0.out x3_1 p247 q247
    have hw247_0 := hx247_0
    cases e247
    replace hx247_0 := (HB.out.cell (zB w _ hx247_0)).trans hx247_0
    replace p247 := eq_true p247
    replace q247 := eq_true q247
    have p249 : 0 ≤ ((ji7) : Int) := zO (by first | (with_reducible assumption) | assumption)
    have q249 : (ji7) < (l0.length : Int) := zO (by first | (with_reducible assumption) | assumption)
    obtain ⟨ad249, e249, hx249_0⟩ := Kd.at_string HR0.out (ji7) p249 q249
    have hw249_0 := hx249_0
    obtain rfl : ad247 = ad249 := (by injection e249)
    replace hx249_0 := (HB.out.cell (zB w _ hx249_0)).trans hx249_0
    replace p249 := eq_true p249
    replace q249 := eq_true q249
    have p250 : 0 ≤ (x3_1 : Int) := zO (by first | (with_reducible assumption) | assumption)
    have q250 : x3_1 < (l0.length : Int) := zO (by first | (with_reducible assumption) | assumption)
    obtain ⟨ad250, e250, hx250_0⟩ := Kd.at_string HR0.out x3_1 p250 q250
    have hw250_0 := hx250_0
    obtain rfl : ad247 = ad250 := (by injection e250)
    replace hx250_0 := (HB.out.cell (zB w _ hx250_0)).trans hx250_0
    replace p250 := eq_true p250
    replace q250 := eq_true q250
    refine start_ (n := 35) (S := fun w' => w'.cell? (ad247.add (x3_1).toNat) = some (.string (rdOf ByteArray.empty l0 x3_1)) ∧ w'.cell? (ad247.add ((ji7)).toNat) = some (.string (rdOf ByteArray.empty l0 (ji7))) ∧ w'.cell? (ad247.add (x3_1).toNat) = some (.string (rdOf ByteArray.empty l0 x3_1))) (ds := []) #[F, F, F, F, F, F, F, F, F, F, F, F, F, F, F, F, F, F, F, F, F, F, F, F, F, F, F, F, F, F, F, F, F, F, F] (by kernel_rfl) rfl rfl ⟨((HB.out.cell (zB w _ hw247_0)).trans hw247_0), ((HB.out.cell (zB w _ hw249_0)).trans hw249_0), ((HB.out.cell (zB w _ hw250_0)).trans hw250_0)⟩ (fun hHeld => ?_); refine with_tabW copseref16_Cones.tab4 copseref16_Cones.bits4 (fun HT_ HW_ => ?_)
    generalize wr.drew = w12 at HB hx247_0 hx249_0 hx250_0 hHeld ⊢
    refine pure_ (i := 0) (N := some 10) (v := ?_) (a' := ?_) #[T, F, F, F, F, F, F, F, F, F, F, F, F, F, F, F, F, F, F, F, F, F, F, F, F, F, F, F, F, F, F, F, F, F, F] rfl rfl (any_of HT_.out (by kernel_rfl)) (fun _ _ _ h => h) (Or.inl ⟨by rfl, ?_⟩) ?_ ?_
    rotate_left
    ·intro w'; go_simp; with_reducible rfl
    rotate_left
    ·simp only [Act.put, zS, zZ, zC, i64_w, i32_w]
     rfl
    refine pure_ (i := 1) (N := some 11) (v := ?_) (a' := ?_) #[T, T, F, F, F, F, F, F, F, F, F, F, F, F, F, F, F, F, F, F, F, F, F, F, F, F, F, F, F, F, F, F, F, F, F] rfl rfl (any_of HT_.out (by kernel_rfl)) (fun _ _ _ h => h) (Or.inl ⟨by rfl, ?_⟩) ?_ ?_
    rotate_left
    ·intro w'; go_simp; with_reducible rfl
    rotate_left
    ·simp only [Act.put, zS, zZ, zC, i64_w, i32_w]
     rfl
    refine pure_ (i := 2) (N := some 12) (v := ?_) (a' := ?_) #[T, T, T, F, F, F, F, F, F, F, F, F, F, F, F, F, F, F, F, F, F, F, F, F, F, F, F, F, F, F, F, F, F, F, F] rfl rfl (any_of HT_.out (by kernel_rfl)) (fun _ _ _ h => h) (Or.inl ⟨by rfl, ?_⟩) ?_ ?_
    rotate_left
    ·intro w'; go_simp; with_reducible rfl
    rotate_left
    ·simp only [Act.put, zS, zZ, zC, i64_w, i32_w]
     rfl
    refine take_ (i := 3) (N := some 13) (v := ?_) (a' := ?_) #[T, T, T, T, F, F, F, F, F, F, F, F, F, F, F, F, F, F, F, F, F, F, F, F, F, F, F, F, F, F, F, F, F, F, F] rfl rfl (take_ofW HT_.out HW_.out (by kernel_rfl)) (fun _ _ _ h => h) (Or.inl ⟨by rfl, ?_⟩) hHeld ?_ ?_
    rotate_left
    ·rintro w' ⟨s0, s1, s2⟩
     go_simp; with_reducible rfl
    rotate_left
    ·simp only [Act.put, zS, zZ, zC, i64_w, i32_w]
     rfl
    refine one_ (i := 4) (N := some 14) #[T, T, T, T, T, F, F, F, F, F, F, F, F, F, F, F, F, F, F, F, F, F, F, F, F, F, F, F, F, F, F, F, F, F, F] rfl rfl (one_of HT_.out (by kernel_rfl)) (by decide) (fun K hK => ?_)
    refine goes_ Tryd.func30 (by kernel_rfl) rfl #[.string (rdOf ByteArray.empty l0 x3_1)] (by rfl) rfl rfl (by (try simp only [List.map_toArray, List.map_cons, List.map_nil]); first | done | rfl | (simp only [List.length_drop, List.length_take]; rfl)) ?_
    with_reducible refine (copseref02_Valid.calls k1 (rdOf ByteArray.empty l0 x3_1) true _ A4.out).mono ?_
    rintro e w13 ⟨rfl, hb⟩
    refine ⟨_, rfl, ?_⟩
    have n0_ := zA (below_step (by repeat (first | (with_reducible first | exact HB.out | apply zL | apply zN | apply zD) | exact HB.out)) hb)
    clear HB; have HB := n0_; clear n0_
    (try clear hb)
    (try clear hb2)
    (try clear hk)
    (try clear hi)
    refine hK.out _ _ ⟨((HB.out.cell (zB w _ hw247_0)).trans hw247_0), ((HB.out.cell (zB w _ hw249_0)).trans hw249_0), ((HB.out.cell (zB w _ hw250_0)).trans hw250_0)⟩ (fun hHeld => ?_)
    clear hK K
    refine norm_ (a' := ?_) ?_ ?_
    rotate_left
    ·show Act.put _ (some 14) _ = _
     simp only [Act.put, zS, zZ, zC, i64_w, i32_w]
     rfl
    refine pure_ (i := 5) (N := some 15) (v := ?_) (a' := ?_) #[T, T, T, T, T, T, F, F, F, F, F, F, F, F, F, F, F, F, F, F, F, F, F, F, F, F, F, F, F, F, F, F, F, F, F] rfl rfl (any_of HT_.out (by kernel_rfl)) (fun _ _ _ h => h) (Or.inl ⟨by rfl, ?_⟩) ?_ ?_
    rotate_left
    ·intro w'; go_simp; with_reducible rfl
    rotate_left
    ·simp only [Act.put, zS, zZ, zC, i64_w, i32_w]
     rfl
    refine pure_ (i := 6) (N := some 16) (v := ?_) (a' := ?_) #[T, T, T, T, T, T, T, F, F, F, F, F, F, F, F, F, F, F, F, F, F, F, F, F, F, F, F, F, F, F, F, F, F, F, F] rfl rfl (any_of HT_.out (by kernel_rfl)) (fun _ _ _ h => h) (Or.inl ⟨by rfl, ?_⟩) ?_ ?_
    rotate_left
    ·intro w'; go_simp; with_reducible rfl
    rotate_left
    ·simp only [Act.put, zS, zZ, zC, i64_w, i32_w]
     rfl
    refine pure_ (i := 7) (N := some 17) (v := ?_) (a' := ?_) #[T, T, T, T, T, T, T, T, F, F, F, F, F, F, F, F, F, F, F, F, F, F, F, F, F, F, F, F, F, F, F, F, F, F, F] rfl rfl (any_of HT_.out (by kernel_rfl)) (fun _ _ _ h => h) (Or.inl ⟨by rfl, ?_⟩) ?_ ?_
    rotate_left
    ·intro w'; go_simp; with_reducible rfl
    rotate_left
    ·simp only [Act.put, zS, zZ, zC, i64_w, i32_w]
     rfl
    refine pure_ (i := 8) (N := some 18) (v := ?_) (a' := ?_) #[T, T, T, T, T, T, T, T, T, F, F, F, F, F, F, F, F, F, F, F, F, F, F, F, F, F, F, F, F, F, F, F, F, F, F] rfl rfl (any_of HT_.out (by kernel_rfl)) (fun _ _ _ h => h) (Or.inl ⟨by rfl, ?_⟩) ?_ ?_
    rotate_left
    ·intro w'; go_simp; with_reducible rfl
    rotate_left
    ·simp only [Act.put, zS, zZ, zC, i64_w, i32_w]
     rfl
    refine pure_ (i := 9) (N := some 19) (v := ?_) (a' := ?_) #[T, T, T, T, T, T, T, T, T, T, F, F, F, F, F, F, F, F, F, F, F, F, F, F, F, F, F, F, F, F, F, F, F, F, F] rfl rfl (any_of HT_.out (by kernel_rfl)) (fun _ _ _ h => h) (Or.inl ⟨by rfl, ?_⟩) ?_ ?_
    rotate_left
    ·intro w'; go_simp; with_reducible rfl
    rotate_left
    ·simp only [Act.put, zS, zZ, zC, i64_w, i32_w]
     rfl
    refine pure_ (i := 10) (N := some 20) (v := ?_) (a' := ?_) #[T, T, T, T, T, T, T, T, T, T, T, F, F, F, F, F, F, F, F, F, F, F, F, F, F, F, F, F, F, F, F, F, F, F, F] rfl rfl (any_of HT_.out (by kernel_rfl)) (fun _ _ _ h => h) (Or.inl ⟨by rfl, ?_⟩) ?_ ?_
    rotate_left
    ·intro w'; go_simp; with_reducible rfl
    rotate_left
    ·simp only [Act.put, zS, zZ, zC, i64_w, i32_w]
     rfl
    refine pure_ (i := 11) (N := some 21) (v := ?_) (a' := ?_) #[T, T, T, T, T, T, T, T, T, T, T, T, F, F, F, F, F, F, F, F, F, F, F, F, F, F, F, F, F, F, F, F, F, F, F] rfl rfl (any_of HT_.out (by kernel_rfl)) (fun _ _ _ h => h) (Or.inl ⟨by rfl, ?_⟩) ?_ ?_
    rotate_left
    ·intro w'; go_simp; with_reducible rfl
    rotate_left
    ·simp only [Act.put, zS, zZ, zC, i64_w, i32_w]
     rfl
    refine pure_ (i := 12) (N := some 22) (v := ?_) (a' := ?_) #[T, T, T, T, T, T, T, T, T, T, T, T, T, F, F, F, F, F, F, F, F, F, F, F, F, F, F, F, F, F, F, F, F, F, F] rfl rfl (any_of HT_.out (by kernel_rfl)) (fun _ _ _ h => h) (Or.inl ⟨by rfl, ?_⟩) ?_ ?_
    rotate_left
    ·intro w'; go_simp; with_reducible rfl
    rotate_left
    ·simp only [Act.put, zS, zZ, zC, i64_w, i32_w]
     rfl
    refine pure_ (i := 13) (N := some 23) (v := ?_) (a' := ?_) #[T, T, T, T, T, T, T, T, T, T, T, T, T, T, F, F, F, F, F, F, F, F, F, F, F, F, F, F, F, F, F, F, F, F, F] rfl rfl (any_of HT_.out (by kernel_rfl)) (fun _ _ _ h => h) (Or.inl ⟨by rfl, ?_⟩) ?_ ?_
    rotate_left
    ·intro w'; go_simp; with_reducible rfl
    rotate_left
    ·simp only [Act.put, zS, zZ, zC, i64_w, i32_w]
     rfl
    refine pure_ (i := 15) (N := some 25) (v := ?_) (a' := ?_) #[T, T, T, T, T, T, T, T, T, T, T, T, T, T, F, T, F, F, F, F, F, F, F, F, F, F, F, F, F, F, F, F, F, F, F] rfl rfl (any_of HT_.out (by kernel_rfl)) (fun _ _ _ h => h) (Or.inl ⟨by rfl, ?_⟩) ?_ ?_
    rotate_left
    ·intro w'; go_simp; with_reducible rfl
    rotate_left
    ·simp only [Act.put, zS, zZ, zC, i64_w, i32_w]
     rfl
    refine pure_ (i := 16) (N := some 26) (v := ?_) (a' := ?_) #[T, T, T, T, T, T, T, T, T, T, T, T, T, T, F, T, T, F, F, F, F, F, F, F, F, F, F, F, F, F, F, F, F, F, F] rfl rfl (any_of HT_.out (by kernel_rfl)) (fun _ _ _ h => h) (Or.inl ⟨by rfl, ?_⟩) ?_ ?_
    rotate_left
    ·intro w'; go_simp; with_reducible rfl
    rotate_left
    ·simp only [Act.put, zS, zZ, zC, i64_w, i32_w]
     rfl
    refine pure_ (i := 17) (N := some 27) (v := ?_) (a' := ?_) #[T, T, T, T, T, T, T, T, T, T, T, T, T, T, F, T, T, T, F, F, F, F, F, F, F, F, F, F, F, F, F, F, F, F, F] rfl rfl (any_of HT_.out (by kernel_rfl)) (fun _ _ _ h => h) (Or.inl ⟨by rfl, ?_⟩) ?_ ?_
    rotate_left
    ·intro w'; go_simp; with_reducible rfl
    rotate_left
    ·simp only [Act.put, zS, zZ, zC, i64_w, i32_w]
     rfl
    refine take_ (i := 14) (N := some 24) (v := ?_) (a' := ?_) #[T, T, T, T, T, T, T, T, T, T, T, T, T, T, T, T, T, T, F, F, F, F, F, F, F, F, F, F, F, F, F, F, F, F, F] rfl rfl (take_ofW HT_.out HW_.out (by kernel_rfl)) (fun _ _ _ h => h) (Or.inl ⟨by rfl, ?_⟩) hHeld ?_ ?_
    rotate_left
    ·rintro w' ⟨s0, s1, s2⟩
     go_simp; with_reducible rfl
    rotate_left
    ·simp only [Act.put, zS, zZ, zC, i64_w, i32_w]
     rfl
    refine take_ (i := 18) (N := some 28) (v := ?_) (a' := ?_) #[T, T, T, T, T, T, T, T, T, T, T, T, T, T, T, T, T, T, T, F, F, F, F, F, F, F, F, F, F, F, F, F, F, F, F] rfl rfl (take_ofW HT_.out HW_.out (by kernel_rfl)) (fun _ _ _ h => h) (Or.inl ⟨by rfl, ?_⟩) hHeld ?_ ?_
    rotate_left
    ·rintro w' ⟨s0, s1, s2⟩
     go_simp; with_reducible rfl
    rotate_left
    ·simp only [Act.put, zS, zZ, zC, i64_w, i32_w]
     rfl
    refine one_ (i := 19) (N := some 29) #[T, T, T, T, T, T, T, T, T, T, T, T, T, T, T, T, T, T, T, T, F, F, F, F, F, F, F, F, F, F, F, F, F, F, F] rfl rfl (one_of HT_.out (by kernel_rfl)) (by decide) (fun K hK => ?_)
    refine goes_ Tryd.func35 (by kernel_rfl) rfl #[.string (rdOf ByteArray.empty l0 (ji7)), .string (rdOf ByteArray.empty l0 x3_1)] (by rfl) rfl rfl (by (try simp only [List.map_toArray, List.map_cons, List.map_nil]); first | done | (simp only [hji7]; rfl) | rfl | (simp only [List.length_drop, List.length_take]; rfl)) ?_
    with_reducible refine (copseref02_Cmp.calls k1 (rdOf ByteArray.empty l0 (ji7)) (rdOf ByteArray.empty l0 x3_1) t251 _ A10.out).mono ?_
    rintro e w14 ⟨rfl, hb⟩
    refine ⟨_, rfl, ?_⟩
    have n0_ := zA (below_step (by repeat (first | (with_reducible first | exact HB.out | apply zL | apply zN | apply zD) | exact HB.out)) hb)
    clear HB; have HB := n0_; clear n0_
    (try clear hb)
    (try clear hb2)
    (try clear hk)
    (try clear hi)
    refine hK.out _ _ ⟨((HB.out.cell (zB w _ hw247_0)).trans hw247_0), ((HB.out.cell (zB w _ hw249_0)).trans hw249_0), ((HB.out.cell (zB w _ hw250_0)).trans hw250_0)⟩ (fun hHeld => ?_)
    clear hK K
    refine norm_ (a' := ?_) ?_ ?_
    rotate_left
    ·show Act.put _ (some 29) _ = _
     simp only [Act.put, zS, zZ, zC, i64_w, i32_w]
     rfl
    refine pure_ (i := 20) (N := some 30) (v := ?_) (a' := ?_) #[T, T, T, T, T, T, T, T, T, T, T, T, T, T, T, T, T, T, T, T, T, F, F, F, F, F, F, F, F, F, F, F, F, F, F] rfl rfl (any_of HT_.out (by kernel_rfl)) (fun _ _ _ h => h) (Or.inl ⟨by rfl, ?_⟩) ?_ ?_
    rotate_left
    ·intro w'; go_simp; with_reducible rfl
    rotate_left
    ·simp only [Act.put, zS, zZ, zC, i64_w, i32_w]
     rfl
    refine pure_ (i := 21) (N := some 31) (v := ?_) (a' := ?_) #[T, T, T, T, T, T, T, T, T, T, T, T, T, T, T, T, T, T, T, T, T, T, F, F, F, F, F, F, F, F, F, F, F, F, F] rfl rfl (any_of HT_.out (by kernel_rfl)) (fun _ _ _ h => h) (Or.inl ⟨by rfl, ?_⟩) ?_ ?_
    rotate_left
    ·intro w'; go_simp; with_reducible rfl
    rotate_left
    ·simp only [Act.put, zS, zZ, zC, i64_w, i32_w]
     rfl
    refine pure_ (i := 22) (N := some 32) (v := undef) (a' := ?_) #[T, T, T, T, T, T, T, T, T, T, T, T, T, T, T, T, T, T, T, T, T, T, T, F, F, F, F, F, F, F, F, F, F, F, F] rfl rfl (any_of HT_.out (by kernel_rfl)) (fun _ _ _ h => h) (Or.inr ⟨by rfl, rfl⟩) ?_ ?_
    rotate_left
    ·simp only [Act.put, zS, zZ, zC, i64_w, i32_w]
     rfl
    refine pure_ (i := 23) (N := some 33) (v := undef) (a' := ?_) #[T, T, T, T, T, T, T, T, T, T, T, T, T, T, T, T, T, T, T, T, T, T, T, T, F, F, F, F, F, F, F, F, F, F, F] rfl rfl (any_of HT_.out (by kernel_rfl)) (fun _ _ _ h => h) (Or.inr ⟨by rfl, rfl⟩) ?_ ?_
    rotate_left
    ·simp only [Act.put, zS, zZ, zC, i64_w, i32_w]
     rfl
    refine pure_ (i := 24) (N := some 34) (v := undef) (a' := ?_) #[T, T, T, T, T, T, T, T, T, T, T, T, T, T, T, T, T, T, T, T, T, T, T, T, T, F, F, F, F, F, F, F, F, F, F] rfl rfl (any_of HT_.out (by kernel_rfl)) (fun _ _ _ h => h) (Or.inr ⟨by rfl, rfl⟩) ?_ ?_
    rotate_left
    ·simp only [Act.put, zS, zZ, zC, i64_w, i32_w]
     rfl
    refine pure_ (i := 25) (N := some 35) (v := undef) (a' := ?_) #[T, T, T, T, T, T, T, T, T, T, T, T, T, T, T, T, T, T, T, T, T, T, T, T, T, T, F, F, F, F, F, F, F, F, F] rfl rfl (any_of HT_.out (by kernel_rfl)) (fun _ _ _ h => h) (Or.inr ⟨by rfl, rfl⟩) ?_ ?_
    rotate_left
    ·simp only [Act.put, zS, zZ, zC, i64_w, i32_w]
     rfl
    refine pure_ (i := 26) (N := some 36) (v := undef) (a' := ?_) #[T, T, T, T, T, T, T, T, T, T, T, T, T, T, T, T, T, T, T, T, T, T, T, T, T, T, T, F, F, F, F, F, F, F, F] rfl rfl (any_of HT_.out (by kernel_rfl)) (fun _ _ _ h => h) (Or.inr ⟨by rfl, rfl⟩) ?_ ?_
    rotate_left
    ·simp only [Act.put, zS, zZ, zC, i64_w, i32_w]
     rfl
    refine pure_ (i := 27) (N := some 37) (v := undef) (a' := ?_) #[T, T, T, T, T, T, T, T, T, T, T, T, T, T, T, T, T, T, T, T, T, T, T, T, T, T, T, T, F, F, F, F, F, F, F] rfl rfl (any_of HT_.out (by kernel_rfl)) (fun _ _ _ h => h) (Or.inr ⟨by rfl, rfl⟩) ?_ ?_
    rotate_left
    ·simp only [Act.put, zS, zZ, zC, i64_w, i32_w]
     rfl
    refine pure_ (i := 28) (N := some 38) (v := undef) (a' := ?_) #[T, T, T, T, T, T, T, T, T, T, T, T, T, T, T, T, T, T, T, T, T, T, T, T, T, T, T, T, T, F, F, F, F, F, F] rfl rfl (any_of HT_.out (by kernel_rfl)) (fun _ _ _ h => h) (Or.inr ⟨by rfl, rfl⟩) ?_ ?_
    rotate_left
    ·simp only [Act.put, zS, zZ, zC, i64_w, i32_w]
     rfl
    refine pure_ (i := 29) (N := some 39) (v := undef) (a' := ?_) #[T, T, T, T, T, T, T, T, T, T, T, T, T, T, T, T, T, T, T, T, T, T, T, T, T, T, T, T, T, T, F, F, F, F, F] rfl rfl (any_of HT_.out (by kernel_rfl)) (fun _ _ _ h => h) (Or.inr ⟨by rfl, rfl⟩) ?_ ?_
    rotate_left
    ·simp only [Act.put, zS, zZ, zC, i64_w, i32_w]
     rfl
    refine pure_ (i := 30) (N := some 40) (v := undef) (a' := ?_) #[T, T, T, T, T, T, T, T, T, T, T, T, T, T, T, T, T, T, T, T, T, T, T, T, T, T, T, T, T, T, T, F, F, F, F] rfl rfl (any_of HT_.out (by kernel_rfl)) (fun _ _ _ h => h) (Or.inr ⟨by rfl, rfl⟩) ?_ ?_
    rotate_left
    ·simp only [Act.put, zS, zZ, zC, i64_w, i32_w]
     rfl
    refine pure_ (i := 31) (N := some 41) (v := undef) (a' := ?_) #[T, T, T, T, T, T, T, T, T, T, T, T, T, T, T, T, T, T, T, T, T, T, T, T, T, T, T, T, T, T, T, T, F, F, F] rfl rfl (any_of HT_.out (by kernel_rfl)) (fun _ _ _ h => h) (Or.inr ⟨by rfl, rfl⟩) ?_ ?_
    rotate_left
    ·simp only [Act.put, zS, zZ, zC, i64_w, i32_w]
     rfl
    refine pure_ (i := 32) (N := some 42) (v := ?_) (a' := ?_) #[T, T, T, T, T, T, T, T, T, T, T, T, T, T, T, T, T, T, T, T, T, T, T, T, T, T, T, T, T, T, T, T, T, F, F] rfl rfl (any_of HT_.out (by kernel_rfl)) (fun _ _ _ h => h) (Or.inl ⟨by rfl, ?_⟩) ?_ ?_
    rotate_left
    ·intro w'; go_simp; with_reducible rfl
    rotate_left
    ·simp only [Act.put, zS, zZ, zC, i64_w, i32_w]
     rfl
    refine pure_ (i := 33) (N := some 43) (v := ?_) (a' := ?_) #[T, T, T, T, T, T, T, T, T, T, T, T, T, T, T, T, T, T, T, T, T, T, T, T, T, T, T, T, T, T, T, T, T, T, F] rfl rfl (any_of HT_.out (by kernel_rfl)) (fun _ _ _ h => h) (Or.inl ⟨by rfl, ?_⟩) ?_ ?_
    rotate_left
    ·intro w'; go_simp; with_reducible rfl
    rotate_left
    ·simp only [Act.put, zS, zZ, zC, i64_w, i32_w]
     rfl
    refine pure_ (i := 34) (N := some 44) (v := ?_) (a' := ?_) #[T, T, T, T, T, T, T, T, T, T, T, T, T, T, T, T, T, T, T, T, T, T, T, T, T, T, T, T, T, T, T, T, T, T, T] rfl rfl (any_of HT_.out (by kernel_rfl)) (fun _ _ _ h => h) (Or.inl ⟨by rfl, ?_⟩) ?_ ?_
    rotate_left
    ·intro w'; go_simp; with_reducible rfl
    rotate_left
    ·simp only [Act.put, zS, zZ, zC, i64_w, i32_w]
     rfl
    refine done_ (done_of HT_.out (by kernel_rfl)) ?_
    try go_wp2
    go_ret
    exact ⟨by first | rfl | (simp [errW_none, errW_some] <;> rfl) | (simp only [← hji7]; first | rfl | (simp [errW_none, errW_some] <;> rfl)) | (simp [*, errW_none, errW_some] <;> rfl), by repeat (first | (with_reducible first | exact HB.out | apply zL | apply zN | apply zD) | exact HB.out)⟩
   rw [if_neg c11] at H
   have c11b0 : decide (0 ≤ t251) = false := decide_eq_false c11
   clear c11; replace H := Option.bind_eq_some_iff.mp H; obtain ⟨t254, A150, H⟩ := H
   replace H : (if t254 = true then (some false) else (copseref16_Cones.l0 k1 l0 (wrap64 (x3_1 + 1)))) = some r := H
   have A15 := zA A150; clear A150
   by_cases c16 : t254 = true
   ·subst c16
    have H1 : (some false) = some r := by rw [if_pos rfl] at H; exact H
    clear H; have H := H1; clear H1; obtain rfl := Option.some.inj H
    try go_wp2
    have n0_ := zA (zD HB.out)
    clear HB; have HB := n0_; clear n0_
    have p247 : 0 ≤ (x3_1 : Int) := zO (by first | (with_reducible assumption) | assumption)
    have q247 : x3_1 < (l0.length : Int) := zO (by first | (with_reducible assumption) | assumption)
    obtain ⟨ad247, e247, hx247_0⟩ := Kd.at_string HR0.out x3_1 p247 q247
    have hw247_0 := hx247_0
    cases e247
    replace hx247_0 := (HB.out.cell (zB w _ hx247_0)).trans hx247_0
    replace p247 := eq_true p247
    replace q247 := eq_true q247
    have p249 : 0 ≤ ((ji7) : Int) := zO (by first | (with_reducible assumption) | assumption)
    have q249 : (ji7) < (l0.length : Int) := zO (by first | (with_reducible assumption) | assumption)
    obtain ⟨ad249, e249, hx249_0⟩ := Kd.at_string HR0.out (ji7) p249 q249
    have hw249_0 := hx249_0
    obtain rfl : ad247 = ad249 := (by injection e249)
    replace hx249_0 := (HB.out.cell (zB w _ hx249_0)).trans hx249_0
    replace p249 := eq_true p249
    replace q249 := eq_true q249
    have p250 : 0 ≤ (x3_1 : Int) := zO (by first | (with_reducible assumption) | assumption)
    have q250 : x3_1 < (l0.length : Int) := zO (by first | (with_reducible assumption) | assumption)
    obtain ⟨ad250, e250, hx250_0⟩ := Kd.at_string HR0.out x3_1 p250 q250
    have hw250_0 := hx250_0
    obtain rfl : ad247 = ad250 := (by injection e250)
    replace hx250_0 := (HB.out.cell (zB w _ hx250_0)).trans hx250_0
    replace p250 := eq_true p250
    replace q250 := eq_true q250
    have p252 : 0 ≤ ((ji7) : Int) := zO (by first | (with_reducible assumption) | assumption)
    have q252 : (ji7) < (l0.length : Int) := zO (by first | (with_reducible assumption) | assumption)
    obtain ⟨ad252, e252, hx252_0⟩ := Kd.at_string HR0.out (ji7) p252 q252
    have hw252_0 := hx252_0
    obtain rfl : ad247 = ad252 := (by injection e252)
    replace hx252_0 := (HB.out.cell (zB w _ hx252_0)).trans hx252_0
    replace p252 := eq_true p252
    replace q252 := eq_true q252
    have p253 : 0 ≤ (x3_1 : Int) := zO (by first | (with_reducible assumption) | assumption)
    have q253 : x3_1 < (l0.length : Int) := zO (by first | (with_reducible assumption) | assumption)
    obtain ⟨ad253, e253, hx253_0⟩ := Kd.at_string HR0.out x3_1 p253 q253
    have hw253_0 := hx253_0
    obtain rfl : ad247 = ad253 := (by injection e253)
    replace hx253_0 := (HB.out.cell (zB w _ hx253_0)).trans hx253_0
    replace p253 := eq_true p253
    replace q253 := eq_true q253
    refine start_ (n := 35) (S := fun w' => w'.cell? (ad247.add (x3_1).toNat) = some (.string (rdOf ByteArray.empty l0 x3_1)) ∧ w'.cell? (ad247.add ((ji7)).toNat) = some (.string (rdOf ByteArray.empty l0 (ji7))) ∧ w'.cell? (ad247.add (x3_1).toNat) = some (.string (rdOf ByteArray.empty l0 x3_1)) ∧ w'.cell? (ad247.add ((ji7)).toNat) = some (.string (rdOf ByteArray.empty l0 (ji7))) ∧ w'.cell? (ad247.add (x3_1).toNat) = some (.string (rdOf ByteArray.empty l0 x3_1))) (ds := []) #[F, F, F, F, F, F, F, F, F, F, F, F, F, F, F, F, F, F, F, F, F, F, F, F, F, F, F, F, F, F, F, F, F, F, F] (by kernel_rfl) rfl rfl ⟨((HB.out.cell (zB w _ hw247_0)).trans hw247_0), ((HB.out.cell (zB w _ hw249_0)).trans hw249_0), ((HB.out.cell (zB w _ hw250_0)).trans hw250_0), ((HB.out.cell (zB w _ hw252_0)).trans hw252_0), ((HB.out.cell (zB w _ hw253_0)).trans hw253_0)⟩ (fun hHeld => ?_); refine with_tabW copseref16_Cones.tab4 copseref16_Cones.bits4 (fun HT_ HW_ => ?_)
    generalize wr.drew = w17 at HB hx247_0 hx249_0 hx250_0 hx252_0 hx253_0 hHeld ⊢
    refine pure_ (i := 0) (N := some 10) (v := ?_) (a' := ?_) #[T, F, F, F, F, F, F, F, F, F, F, F, F, F, F, F, F, F, F, F, F, F, F, F, F, F, F, F, F, F, F, F, F, F, F] rfl rfl (any_of HT_.out (by kernel_rfl)) (fun _ _ _ h => h) (Or.inl ⟨by rfl, ?_⟩) ?_ ?_
    rotate_left
    ·intro w'; go_simp; with_reducible rfl
    rotate_left
    ·simp only [Act.put, zS, zZ, zC, i64_w, i32_w]
     rfl
    refine pure_ (i := 1) (N := some 11) (v := ?_) (a' := ?_) #[T, T, F, F, F, F, F, F, F, F, F, F, F, F, F, F, F, F, F, F, F, F, F, F, F, F, F, F, F, F, F, F, F, F, F] rfl rfl (any_of HT_.out (by kernel_rfl)) (fun _ _ _ h => h) (Or.inl ⟨by rfl, ?_⟩) ?_ ?_
    rotate_left
    ·intro w'; go_simp; with_reducible rfl
    rotate_left
    ·simp only [Act.put, zS, zZ, zC, i64_w, i32_w]
     rfl
    refine pure_ (i := 2) (N := some 12) (v := ?_) (a' := ?_) #[T, T, T, F, F, F, F, F, F, F, F, F, F, F, F, F, F, F, F, F, F, F, F, F, F, F, F, F, F, F, F, F, F, F, F] rfl rfl (any_of HT_.out (by kernel_rfl)) (fun _ _ _ h => h) (Or.inl ⟨by rfl, ?_⟩) ?_ ?_
    rotate_left
    ·intro w'; go_simp; with_reducible rfl
    rotate_left
    ·simp only [Act.put, zS, zZ, zC, i64_w, i32_w]
     rfl
    refine take_ (i := 3) (N := some 13) (v := ?_) (a' := ?_) #[T, T, T, T, F, F, F, F, F, F, F, F, F, F, F, F, F, F, F, F, F, F, F, F, F, F, F, F, F, F, F, F, F, F, F] rfl rfl (take_ofW HT_.out HW_.out (by kernel_rfl)) (fun _ _ _ h => h) (Or.inl ⟨by rfl, ?_⟩) hHeld ?_ ?_
    rotate_left
    ·rintro w' ⟨s0, s1, s2, s3, s4⟩
     go_simp; with_reducible rfl
    rotate_left
    ·simp only [Act.put, zS, zZ, zC, i64_w, i32_w]
     rfl
    refine one_ (i := 4) (N := some 14) #[T, T, T, T, T, F, F, F, F, F, F, F, F, F, F, F, F, F, F, F, F, F, F, F, F, F, F, F, F, F, F, F, F, F, F] rfl rfl (one_of HT_.out (by kernel_rfl)) (by decide) (fun K hK => ?_)
    refine goes_ Tryd.func30 (by kernel_rfl) rfl #[.string (rdOf ByteArray.empty l0 x3_1)] (by rfl) rfl rfl (by (try simp only [List.map_toArray, List.map_cons, List.map_nil]); first | done | rfl | (simp only [List.length_drop, List.length_take]; rfl)) ?_
    with_reducible refine (copseref02_Valid.calls k1 (rdOf ByteArray.empty l0 x3_1) true _ A4.out).mono ?_
    rintro e w18 ⟨rfl, hb⟩
    refine ⟨_, rfl, ?_⟩
    have n0_ := zA (below_step (by repeat (first | (with_reducible first | exact HB.out | apply zL | apply zN | apply zD) | exact HB.out)) hb)
    clear HB; have HB := n0_; clear n0_
    (try clear hb)
    (try clear hb2)
    (try clear hk)
    (try clear hi)
    refine hK.out _ _ ⟨((HB.out.cell (zB w _ hw247_0)).trans hw247_0), ((HB.out.cell (zB w _ hw249_0)).trans hw249_0), ((HB.out.cell (zB w _ hw250_0)).trans hw250_0), ((HB.out.cell (zB w _ hw252_0)).trans hw252_0), ((HB.out.cell (zB w _ hw253_0)).trans hw253_0)⟩ (fun hHeld => ?_)
    clear hK K
    refine norm_ (a' := ?_) ?_ ?_
    rotate_left
    ·show Act.put _ (some 14) _ = _
     simp only [Act.put, zS, zZ, zC, i64_w, i32_w]
     rfl
    refine pure_ (i := 5) (N := some 15) (v := ?_) (a' := ?_) #[T, T, T, T, T, T, F, F, F, F, F, F, F, F, F, F, F, F, F, F, F, F, F, F, F, F, F, F, F, F, F, F, F, F, F] rfl rfl (any_of HT_.out (by kernel_rfl)) (fun _ _ _ h => h) (Or.inl ⟨by rfl, ?_⟩) ?_ ?_
    rotate_left
    ·intro w'; go_simp; with_reducible rfl
    rotate_left
    ·simp only [Act.put, zS, zZ, zC, i64_w, i32_w]
     rfl
    refine pure_ (i := 6) (N := some 16) (v := ?_) (a' := ?_) #[T, T, T, T, T, T, T, F, F, F, F, F, F, F, F, F, F, F, F, F, F, F, F, F, F, F, F, F, F, F, F, F, F, F, F] rfl rfl (any_of HT_.out (by kernel_rfl)) (fun _ _ _ h => h) (Or.inl ⟨by rfl, ?_⟩) ?_ ?_
    rotate_left
    ·intro w'; go_simp; with_reducible rfl
    rotate_left
    ·simp only [Act.put, zS, zZ, zC, i64_w, i32_w]
     rfl
    refine pure_ (i := 7) (N := some 17) (v := ?_) (a' := ?_) #[T, T, T, T, T, T, T, T, F, F, F, F, F, F, F, F, F, F, F, F, F, F, F, F, F, F, F, F, F, F, F, F, F, F, F] rfl rfl (any_of HT_.out (by kernel_rfl)) (fun _ _ _ h => h) (Or.inl ⟨by rfl, ?_⟩) ?_ ?_
    rotate_left
    ·intro w'; go_simp; with_reducible rfl
    rotate_left
    ·simp only [Act.put, zS, zZ, zC, i64_w, i32_w]
     rfl
    refine pure_ (i := 8) (N := some 18) (v := ?_) (a' := ?_) #[T, T, T, T, T, T, T, T, T, F, F, F, F, F, F, F, F, F, F, F, F, F, F, F, F, F, F, F, F, F, F, F, F, F, F] rfl rfl (any_of HT_.out (by kernel_rfl)) (fun _ _ _ h => h) (Or.inl ⟨by rfl, ?_⟩) ?_ ?_
    rotate_left
    ·intro w'; go_simp; with_reducible rfl
    rotate_left
    ·simp only [Act.put, zS, zZ, zC, i64_w, i32_w]
     rfl
    refine pure_ (i := 9) (N := some 19) (v := ?_) (a' := ?_) #[T, T, T, T, T, T, T, T, T, T, F, F, F, F, F, F, F, F, F, F, F, F, F, F, F, F, F, F, F, F, F, F, F, F, F] rfl rfl (any_of HT_.out (by kernel_rfl)) (fun _ _ _ h => h) (Or.inl ⟨by rfl, ?_⟩) ?_ ?_
    rotate_left
    ·intro w'; go_simp; with_reducible rfl
    rotate_left
    ·simp only [Act.put, zS, zZ, zC, i64_w, i32_w]
     rfl
    refine pure_ (i := 10) (N := some 20) (v := ?_) (a' := ?_) #[T, T, T, T, T, T, T, T, T, T, T, F, F, F, F, F, F, F, F, F, F, F, F, F, F, F, F, F, F, F, F, F, F, F, F] rfl rfl (any_of HT_.out (by kernel_rfl)) (fun _ _ _ h => h) (Or.inl ⟨by rfl, ?_⟩) ?_ ?_
    rotate_left
    ·intro w'; go_simp; with_reducible rfl
    rotate_left
    ·simp only [Act.put, zS, zZ, zC, i64_w, i32_w]
     rfl
    refine pure_ (i := 11) (N := some 21) (v := ?_) (a' := ?_) #[T, T, T, T, T, T, T, T, T, T, T, T, F, F, F, F, F, F, F, F, F, F, F, F, F, F, F, F, F, F, F, F, F, F, F] rfl rfl (any_of HT_.out (by kernel_rfl)) (fun _ _ _ h => h) (Or.inl ⟨by rfl, ?_⟩) ?_ ?_
    rotate_left
    ·intro w'; go_simp; with_reducible rfl
    rotate_left
    ·simp only [Act.put, zS, zZ, zC, i64_w, i32_w]
     rfl
    refine pure_ (i := 12) (N := some 22) (v := ?_) (a' := ?_) #[T, T, T, T, T, T, T, T, T, T, T, T, T, F, F, F, F, F, F, F, F, F, F, F, F, F, F, F, F, F, F, F, F, F, F] rfl rfl (any_of HT_.out (by kernel_rfl)) (fun _ _ _ h => h) (Or.inl ⟨by rfl, ?_⟩) ?_ ?_
    rotate_left
    ·intro w'; go_simp; with_reducible rfl
    rotate_left
    ·simp only [Act.put, zS, zZ, zC, i64_w, i32_w]
     rfl
    refine pure_ (i := 13) (N := some 23) (v := ?_) (a' := ?_) #[T, T, T, T, T, T, T, T, T, T, T, T, T, T, F, F, F, F, F, F, F, F, F, F, F, F, F, F, F, F, F, F, F, F, F] rfl rfl (any_of HT_.out (by kernel_rfl)) (fun _ _ _ h => h) (Or.inl ⟨by rfl, ?_⟩) ?_ ?_
    rotate_left
    ·intro w'; go_simp; with_reducible rfl
    rotate_left
    ·simp only [Act.put, zS, zZ, zC, i64_w, i32_w]
     rfl
    refine pure_ (i := 15) (N := some 25) (v := ?_) (a' := ?_) #[T, T, T, T, T, T, T, T, T, T, T, T, T, T, F, T, F, F, F, F, F, F, F, F, F, F, F, F, F, F, F, F, F, F, F] rfl rfl (any_of HT_.out (by kernel_rfl)) (fun _ _ _ h => h) (Or.inl ⟨by rfl, ?_⟩) ?_ ?_
    rotate_left
    ·intro w'; go_simp; with_reducible rfl
    rotate_left
    ·simp only [Act.put, zS, zZ, zC, i64_w, i32_w]
     rfl
    refine pure_ (i := 16) (N := some 26) (v := ?_) (a' := ?_) #[T, T, T, T, T, T, T, T, T, T, T, T, T, T, F, T, T, F, F, F, F, F, F, F, F, F, F, F, F, F, F, F, F, F, F] rfl rfl (any_of HT_.out (by kernel_rfl)) (fun _ _ _ h => h) (Or.inl ⟨by rfl, ?_⟩) ?_ ?_
    rotate_left
    ·intro w'; go_simp; with_reducible rfl
    rotate_left
    ·simp only [Act.put, zS, zZ, zC, i64_w, i32_w]
     rfl
    refine pure_ (i := 17) (N := some 27) (v := ?_) (a' := ?_) #[T, T, T, T, T, T, T, T, T, T, T, T, T, T, F, T, T, T, F, F, F, F, F, F, F, F, F, F, F, F, F, F, F, F, F] rfl rfl (any_of HT_.out (by kernel_rfl)) (fun _ _ _ h => h) (Or.inl ⟨by rfl, ?_⟩) ?_ ?_
    rotate_left
    ·intro w'; go_simp; with_reducible rfl
    rotate_left
    ·simp only [Act.put, zS, zZ, zC, i64_w, i32_w]
     rfl
    refine take_ (i := 14) (N := some 24) (v := ?_) (a' := ?_) #[T, T, T, T, T, T, T, T, T, T, T, T, T, T, T, T, T, T, F, F, F, F, F, F, F, F, F, F, F, F, F, F, F, F, F] rfl rfl (take_ofW HT_.out HW_.out (by kernel_rfl)) (fun _ _ _ h => h) (Or.inl ⟨by rfl, ?_⟩) hHeld ?_ ?_
    rotate_left
    ·rintro w' ⟨s0, s1, s2, s3, s4⟩
     go_simp; with_reducible rfl
    rotate_left
    ·simp only [Act.put, zS, zZ, zC, i64_w, i32_w]
     rfl
    refine take_ (i := 18) (N := some 28) (v := ?_) (a' := ?_) #[T, T, T, T, T, T, T, T, T, T, T, T, T, T, T, T, T, T, T, F, F, F, F, F, F, F, F, F, F, F, F, F, F, F, F] rfl rfl (take_ofW HT_.out HW_.out (by kernel_rfl)) (fun _ _ _ h => h) (Or.inl ⟨by rfl, ?_⟩) hHeld ?_ ?_
    rotate_left
    ·rintro w' ⟨s0, s1, s2, s3, s4⟩
     go_simp; with_reducible rfl
    rotate_left
    ·simp only [Act.put, zS, zZ, zC, i64_w, i32_w]
     rfl
    refine one_ (i := 19) (N := some 29) #[T, T, T, T, T, T, T, T, T, T, T, T, T, T, T, T, T, T, T, T, F, F, F, F, F, F, F, F, F, F, F, F, F, F, F] rfl rfl (one_of HT_.out (by kernel_rfl)) (by decide) (fun K hK => ?_)
    refine goes_ Tryd.func35 (by kernel_rfl) rfl #[.string (rdOf ByteArray.empty l0 (ji7)), .string (rdOf ByteArray.empty l0 x3_1)] (by rfl) rfl rfl (by (try simp only [List.map_toArray, List.map_cons, List.map_nil]); first | done | (simp only [hji7]; rfl) | rfl | (simp only [List.length_drop, List.length_take]; rfl)) ?_
    with_reducible refine (copseref02_Cmp.calls k1 (rdOf ByteArray.empty l0 (ji7)) (rdOf ByteArray.empty l0 x3_1) t251 _ A10.out).mono ?_
    rintro e w19 ⟨rfl, hb⟩
    refine ⟨_, rfl, ?_⟩
    have n0_ := zA (below_step (by repeat (first | (with_reducible first | exact HB.out | apply zL | apply zN | apply zD) | exact HB.out)) hb)
    clear HB; have HB := n0_; clear n0_
    (try clear hb)
    (try clear hb2)
    (try clear hk)
    (try clear hi)
    refine hK.out _ _ ⟨((HB.out.cell (zB w _ hw247_0)).trans hw247_0), ((HB.out.cell (zB w _ hw249_0)).trans hw249_0), ((HB.out.cell (zB w _ hw250_0)).trans hw250_0), ((HB.out.cell (zB w _ hw252_0)).trans hw252_0), ((HB.out.cell (zB w _ hw253_0)).trans hw253_0)⟩ (fun hHeld => ?_)
    clear hK K
    refine norm_ (a' := ?_) ?_ ?_
    rotate_left
    ·show Act.put _ (some 29) _ = _
     simp only [Act.put, zS, zZ, zC, i64_w, i32_w]
     rfl
    refine pure_ (i := 20) (N := some 30) (v := ?_) (a' := ?_) #[T, T, T, T, T, T, T, T, T, T, T, T, T, T, T, T, T, T, T, T, T, F, F, F, F, F, F, F, F, F, F, F, F, F, F] rfl rfl (any_of HT_.out (by kernel_rfl)) (fun _ _ _ h => h) (Or.inl ⟨by rfl, ?_⟩) ?_ ?_
    rotate_left
    ·intro w'; go_simp; with_reducible rfl
    rotate_left
    ·simp only [Act.put, zS, zZ, zC, i64_w, i32_w]
     rfl
    refine pure_ (i := 21) (N := some 31) (v := ?_) (a' := ?_) #[T, T, T, T, T, T, T, T, T, T, T, T, T, T, T, T, T, T, T, T, T, T, F, F, F, F, F, F, F, F, F, F, F, F, F] rfl rfl (any_of HT_.out (by kernel_rfl)) (fun _ _ _ h => h) (Or.inl ⟨by rfl, ?_⟩) ?_ ?_
    rotate_left
    ·intro w'; go_simp; with_reducible rfl
    rotate_left
    ·simp only [Act.put, zS, zZ, zC, i64_w, i32_w]
     rfl
    refine pure_ (i := 22) (N := some 32) (v := ?_) (a' := ?_) #[T, T, T, T, T, T, T, T, T, T, T, T, T, T, T, T, T, T, T, T, T, T, T, F, F, F, F, F, F, F, F, F, F, F, F] rfl rfl (any_of HT_.out (by kernel_rfl)) (fun _ _ _ h => h) (Or.inl ⟨by rfl, ?_⟩) ?_ ?_
    rotate_left
    ·intro w'; go_simp; with_reducible rfl
    rotate_left
    ·simp only [Act.put, zS, zZ, zC, i64_w, i32_w]
     rfl
    refine pure_ (i := 23) (N := some 33) (v := ?_) (a' := ?_) #[T, T, T, T, T, T, T, T, T, T, T, T, T, T, T, T, T, T, T, T, T, T, T, T, F, F, F, F, F, F, F, F, F, F, F] rfl rfl (any_of HT_.out (by kernel_rfl)) (fun _ _ _ h => h) (Or.inl ⟨by rfl, ?_⟩) ?_ ?_
    rotate_left
    ·intro w'; go_simp; with_reducible rfl
    rotate_left
    ·simp only [Act.put, zS, zZ, zC, i64_w, i32_w]
     rfl
    refine pure_ (i := 24) (N := some 34) (v := ?_) (a' := ?_) #[T, T, T, T, T, T, T, T, T, T, T, T, T, T, T, T, T, T, T, T, T, T, T, T, T, F, F, F, F, F, F, F, F, F, F] rfl rfl (any_of HT_.out (by kernel_rfl)) (fun _ _ _ h => h) (Or.inl ⟨by rfl, ?_⟩) ?_ ?_
    rotate_left
    ·intro w'; go_simp; with_reducible rfl
    rotate_left
    ·simp only [Act.put, zS, zZ, zC, i64_w, i32_w]
     rfl
    refine pure_ (i := 25) (N := some 35) (v := ?_) (a' := ?_) #[T, T, T, T, T, T, T, T, T, T, T, T, T, T, T, T, T, T, T, T, T, T, T, T, T, T, F, F, F, F, F, F, F, F, F] rfl rfl (any_of HT_.out (by kernel_rfl)) (fun _ _ _ h => h) (Or.inl ⟨by rfl, ?_⟩) ?_ ?_
    rotate_left
    ·intro w'; go_simp; with_reducible rfl
    rotate_left
    ·simp only [Act.put, zS, zZ, zC, i64_w, i32_w]
     rfl
    refine pure_ (i := 27) (N := some 37) (v := ?_) (a' := ?_) #[T, T, T, T, T, T, T, T, T, T, T, T, T, T, T, T, T, T, T, T, T, T, T, T, T, T, F, T, F, F, F, F, F, F, F] rfl rfl (any_of HT_.out (by kernel_rfl)) (fun _ _ _ h => h) (Or.inl ⟨by rfl, ?_⟩) ?_ ?_
    rotate_left
    ·intro w'; go_simp; with_reducible rfl
    rotate_left
    ·simp only [Act.put, zS, zZ, zC, i64_w, i32_w]
     rfl
    refine pure_ (i := 28) (N := some 38) (v := ?_) (a' := ?_) #[T, T, T, T, T, T, T, T, T, T, T, T, T, T, T, T, T, T, T, T, T, T, T, T, T, T, F, T, T, F, F, F, F, F, F] rfl rfl (any_of HT_.out (by kernel_rfl)) (fun _ _ _ h => h) (Or.inl ⟨by rfl, ?_⟩) ?_ ?_
    rotate_left
    ·intro w'; go_simp; with_reducible rfl
    rotate_left
    ·simp only [Act.put, zS, zZ, zC, i64_w, i32_w]
     rfl
    refine pure_ (i := 29) (N := some 39) (v := ?_) (a' := ?_) #[T, T, T, T, T, T, T, T, T, T, T, T, T, T, T, T, T, T, T, T, T, T, T, T, T, T, F, T, T, T, F, F, F, F, F] rfl rfl (any_of HT_.out (by kernel_rfl)) (fun _ _ _ h => h) (Or.inl ⟨by rfl, ?_⟩) ?_ ?_
    rotate_left
    ·intro w'; go_simp; with_reducible rfl
    rotate_left
    ·simp only [Act.put, zS, zZ, zC, i64_w, i32_w]
     rfl
    refine take_ (i := 26) (N := some 36) (v := ?_) (a' := ?_) #[T, T, T, T, T, T, T, T, T, T, T, T, T, T, T, T, T, T, T, T, T, T, T, T, T, T, T, T, T, T, F, F, F, F, F] rfl rfl (take_ofW HT_.out HW_.out (by kernel_rfl)) (fun _ _ _ h => h) (Or.inl ⟨by rfl, ?_⟩) hHeld ?_ ?_
    rotate_left
    ·rintro w' ⟨s0, s1, s2, s3, s4⟩
     go_simp; with_reducible rfl
    rotate_left
    ·simp only [Act.put, zS, zZ, zC, i64_w, i32_w]
     rfl
    refine take_ (i := 30) (N := some 40) (v := ?_) (a' := ?_) #[T, T, T, T, T, T, T, T, T, T, T, T, T, T, T, T, T, T, T, T, T, T, T, T, T, T, T, T, T, T, T, F, F, F, F] rfl rfl (take_ofW HT_.out HW_.out (by kernel_rfl)) (fun _ _ _ h => h) (Or.inl ⟨by rfl, ?_⟩) hHeld ?_ ?_
    rotate_left
    ·rintro w' ⟨s0, s1, s2, s3, s4⟩
     go_simp; with_reducible rfl
    rotate_left
    ·simp only [Act.put, zS, zZ, zC, i64_w, i32_w]
     rfl
    refine one_ (i := 31) (N := some 41) #[T, T, T, T, T, T, T, T, T, T, T, T, T, T, T, T, T, T, T, T, T, T, T, T, T, T, T, T, T, T, T, T, F, F, F] rfl rfl (one_of HT_.out (by kernel_rfl)) (by decide) (fun K hK => ?_)
    refine goes_ Tryd.func31 (by kernel_rfl) rfl #[.string (rdOf ByteArray.empty l0 (ji7)), .string (rdOf ByteArray.empty l0 x3_1)] (by rfl) rfl rfl (by (try simp only [List.map_toArray, List.map_cons, List.map_nil]); first | done | (simp only [hji7]; rfl) | rfl | (simp only [List.length_drop, List.length_take]; rfl)) ?_
    with_reducible refine (copseref02_Above.calls k1 (rdOf ByteArray.empty l0 (ji7)) (rdOf ByteArray.empty l0 x3_1) true _ A15.out).mono ?_
    rintro e w20 ⟨rfl, hb⟩
    refine ⟨_, rfl, ?_⟩
    have n0_ := zA (below_step (by repeat (first | (with_reducible first | exact HB.out | apply zL | apply zN | apply zD) | exact HB.out)) hb)
    clear HB; have HB := n0_; clear n0_
    (try clear hb)
    (try clear hb2)
    (try clear hk)
    (try clear hi)
    refine hK.out _ _ ⟨((HB.out.cell (zB w _ hw247_0)).trans hw247_0), ((HB.out.cell (zB w _ hw249_0)).trans hw249_0), ((HB.out.cell (zB w _ hw250_0)).trans hw250_0), ((HB.out.cell (zB w _ hw252_0)).trans hw252_0), ((HB.out.cell (zB w _ hw253_0)).trans hw253_0)⟩ (fun hHeld => ?_)
    clear hK K
    refine norm_ (a' := ?_) ?_ ?_
    rotate_left
    ·show Act.put _ (some 41) _ = _
     simp only [Act.put, zS, zZ, zC, i64_w, i32_w]
     rfl
    refine pure_ (i := 32) (N := some 42) (v := ?_) (a' := ?_) #[T, T, T, T, T, T, T, T, T, T, T, T, T, T, T, T, T, T, T, T, T, T, T, T, T, T, T, T, T, T, T, T, T, F, F] rfl rfl (any_of HT_.out (by kernel_rfl)) (fun _ _ _ h => h) (Or.inl ⟨by rfl, ?_⟩) ?_ ?_
    rotate_left
    ·intro w'; go_simp; with_reducible rfl
    rotate_left
    ·simp only [Act.put, zS, zZ, zC, i64_w, i32_w]
     rfl
    refine pure_ (i := 33) (N := some 43) (v := ?_) (a' := ?_) #[T, T, T, T, T, T, T, T, T, T, T, T, T, T, T, T, T, T, T, T, T, T, T, T, T, T, T, T, T, T, T, T, T, T, F] rfl rfl (any_of HT_.out (by kernel_rfl)) (fun _ _ _ h => h) (Or.inl ⟨by rfl, ?_⟩) ?_ ?_
    rotate_left
    ·intro w'; go_simp; with_reducible rfl
    rotate_left
    ·simp only [Act.put, zS, zZ, zC, i64_w, i32_w]
     rfl
    refine pure_ (i := 34) (N := some 44) (v := ?_) (a' := ?_) #[T, T, T, T, T, T, T, T, T, T, T, T, T, T, T, T, T, T, T, T, T, T, T, T, T, T, T, T, T, T, T, T, T, T, T] rfl rfl (any_of HT_.out (by kernel_rfl)) (fun _ _ _ h => h) (Or.inl ⟨by rfl, ?_⟩) ?_ ?_
    rotate_left
    ·intro w'; go_simp; with_reducible rfl
    rotate_left
    ·simp only [Act.put, zS, zZ, zC, i64_w, i32_w]
     rfl
    refine done_ (done_of HT_.out (by kernel_rfl)) ?_
    try go_wp2
    go_ret
    exact ⟨by first | rfl | (simp [errW_none, errW_some] <;> rfl) | (simp only [← hji7]; first | rfl | (simp [errW_none, errW_some] <;> rfl)) | (simp [*, errW_none, errW_some] <;> rfl), by repeat (first | (with_reducible first | exact HB.out | apply zL | apply zN | apply zD) | exact HB.out)⟩
   replace c16 := Bool.eq_false_iff.mpr c16
   subst c16
   have H1 : (copseref16_Cones.l0 k1 l0 (wrap64 (x3_1 + 1))) = some r := by rw [if_neg (show ¬ (false = true) by decide)] at H; exact H
   clear H; have H := H1; clear H1
   have H' := zA H
   clear H
   try go_wp2
   have n0_ := zA (zD HB.out)
   clear HB; have HB := n0_; clear n0_
   have p247 : 0 ≤ (x3_1 : Int) := zO (by first | (with_reducible assumption) | assumption)
   have q247 : x3_1 < (l0.length : Int) := zO (by first | (with_reducible assumption) | assumption)
   obtain ⟨ad247, e247, hx247_0⟩ := Kd.at_string HR0.out x3_1 p247 q247
   have hw247_0 := hx247_0
   cases e247
   replace hx247_0 := (HB.out.cell (zB w _ hx247_0)).trans hx247_0
   replace p247 := eq_true p247
   replace q247 := eq_true q247
   have p249 : 0 ≤ ((ji7) : Int) := zO (by first | (with_reducible assumption) | assumption)
   have q249 : (ji7) < (l0.length : Int) := zO (by first | (with_reducible assumption) | assumption)
   obtain ⟨ad249, e249, hx249_0⟩ := Kd.at_string HR0.out (ji7) p249 q249
   have hw249_0 := hx249_0
   obtain rfl : ad247 = ad249 := (by injection e249)
   replace hx249_0 := (HB.out.cell (zB w _ hx249_0)).trans hx249_0
   replace p249 := eq_true p249
   replace q249 := eq_true q249
   have p250 : 0 ≤ (x3_1 : Int) := zO (by first | (with_reducible assumption) | assumption)
   have q250 : x3_1 < (l0.length : Int) := zO (by first | (with_reducible assumption) | assumption)
   obtain ⟨ad250, e250, hx250_0⟩ := Kd.at_string HR0.out x3_1 p250 q250
   have hw250_0 := hx250_0
   obtain rfl : ad247 = ad250 := (by injection e250)
   replace hx250_0 := (HB.out.cell (zB w _ hx250_0)).trans hx250_0
   replace p250 := eq_true p250
   replace q250 := eq_true q250
   have p252 : 0 ≤ ((ji7) : Int) := zO (by first | (with_reducible assumption) | assumption)
   have q252 : (ji7) < (l0.length : Int) := zO (by first | (with_reducible assumption) | assumption)
   obtain ⟨ad252, e252, hx252_0⟩ := Kd.at_string HR0.out (ji7) p252 q252
   have hw252_0 := hx252_0
   obtain rfl : ad247 = ad252 := (by injection e252)
   replace hx252_0 := (HB.out.cell (zB w _ hx252_0)).trans hx252_0
   replace p252 := eq_true p252
   replace q252 := eq_true q252
   have p253 : 0 ≤ (x3_1 : Int) := zO (by first | (with_reducible assumption) | assumption)
   have q253 : x3_1 < (l0.length : Int) := zO (by first | (with_reducible assumption) | assumption)
   obtain ⟨ad253, e253, hx253_0⟩ := Kd.at_string HR0.out x3_1 p253 q253
   have hw253_0 := hx253_0
   obtain rfl : ad247 = ad253 := (by injection e253)
   replace hx253_0 := (HB.out.cell (zB w _ hx253_0)).trans hx253_0
   replace p253 := eq_true p253
   replace q253 := eq_true q253
   refine start_ (n := 35) (S := fun w' => w'.cell? (ad247.add (x3_1).toNat) = some (.string (rdOf ByteArray.empty l0 x3_1)) ∧ w'.cell? (ad247.add ((ji7)).toNat) = some (.string (rdOf ByteArray.empty l0 (ji7))) ∧ w'.cell? (ad247.add (x3_1).toNat) = some (.string (rdOf ByteArray.empty l0 x3_1)) ∧ w'.cell? (ad247.add ((ji7)).toNat) = some (.string (rdOf ByteArray.empty l0 (ji7))) ∧ w'.cell? (ad247.add (x3_1).toNat) = some (.string (rdOf ByteArray.empty l0 x3_1))) (ds := []) #[F, F, F, F, F, F, F, F, F, F, F, F, F, F, F, F, F, F, F, F, F, F, F, F, F, F, F, F, F, F, F, F, F, F, F] (by kernel_rfl) rfl rfl ⟨((HB.out.cell (zB w _ hw247_0)).trans hw247_0), ((HB.out.cell (zB w _ hw249_0)).trans hw249_0), ((HB.out.cell (zB w _ hw250_0)).trans hw250_0), ((HB.out.cell (zB w _ hw252_0)).trans hw252_0), ((HB.out.cell (zB w _ hw253_0)).trans hw253_0)⟩ (fun hHeld => ?_); refine with_tabW copseref16_Cones.tab4 copseref16_Cones.bits4 (fun HT_ HW_ => ?_)
   generalize wr.drew = w21 at HB hx247_0 hx249_0 hx250_0 hx252_0 hx253_0 hHeld ⊢
   refine pure_ (i := 0) (N := some 10) (v := ?_) (a' := ?_) #[T, F, F, F, F, F, F, F, F, F, F, F, F, F, F, F, F, F, F, F, F, F, F, F, F, F, F, F, F, F, F, F, F, F, F] rfl rfl (any_of HT_.out (by kernel_rfl)) (fun _ _ _ h => h) (Or.inl ⟨by rfl, ?_⟩) ?_ ?_
   rotate_left
   ·intro w'; go_simp; with_reducible rfl
   rotate_left
   ·simp only [Act.put, zS, zZ, zC, i64_w, i32_w]
    rfl
   refine pure_ (i := 1) (N := some 11) (v := ?_) (a' := ?_) #[T, T, F, F, F, F, F, F, F, F, F, F, F, F, F, F, F, F, F, F, F, F, F, F, F, F, F, F, F, F, F, F, F, F, F] rfl rfl (any_of HT_.out (by kernel_rfl)) (fun _ _ _ h => h) (Or.inl ⟨by rfl, ?_⟩) ?_ ?_
   rotate_left
   ·intro w'; go_simp; with_reducible rfl
   rotate_left
   ·simp only [Act.put, zS, zZ, zC, i64_w, i32_w]
    rfl
   refine pure_ (i := 2) (N := some 12) (v := ?_) (a' := ?_) #[T, T, T, F, F, F, F, F, F, F, F, F, F, F, F, F, F, F, F, F, F, F, F, F, F, F, F, F, F, F, F, F, F, F, F] rfl rfl (any_of HT_.out (by kernel_rfl)) (fun _ _ _ h => h) (Or.inl ⟨by rfl, ?_⟩) ?_ ?_
   rotate_left
   ·intro w'; go_simp; with_reducible rfl
   rotate_left
   ·simp only [Act.put, zS, zZ, zC, i64_w, i32_w]
    rfl
   refine take_ (i := 3) (N := some 13) (v := ?_) (a' := ?_) #[T, T, T, T, F, F, F, F, F, F, F, F, F, F, F, F, F, F, F, F, F, F, F, F, F, F, F, F, F, F, F, F, F, F, F] rfl rfl (take_ofW HT_.out HW_.out (by kernel_rfl)) (fun _ _ _ h => h) (Or.inl ⟨by rfl, ?_⟩) hHeld ?_ ?_
   rotate_left
   ·rintro w' ⟨s0, s1, s2, s3, s4⟩
    go_simp; with_reducible rfl
   rotate_left
   ·simp only [Act.put, zS, zZ, zC, i64_w, i32_w]
    rfl
   refine one_ (i := 4) (N := some 14) #[T, T, T, T, T, F, F, F, F, F, F, F, F, F, F, F, F, F, F, F, F, F, F, F, F, F, F, F, F, F, F, F, F, F, F] rfl rfl (one_of HT_.out (by kernel_rfl)) (by decide) (fun K hK => ?_)
   refine goes_ Tryd.func30 (by kernel_rfl) rfl #[.string (rdOf ByteArray.empty l0 x3_1)] (by rfl) rfl rfl (by (try simp only [List.map_toArray, List.map_cons, List.map_nil]); first | done | rfl | (simp only [List.length_drop, List.length_take]; rfl)) ?_
   with_reducible refine (copseref02_Valid.calls k1 (rdOf ByteArray.empty l0 x3_1) true _ A4.out).mono ?_
   rintro e w22 ⟨rfl, hb⟩
   refine ⟨_, rfl, ?_⟩
   have n0_ := zA (below_step (by repeat (first | (with_reducible first | exact HB.out | apply zL | apply zN | apply zD) | exact HB.out)) hb)
   clear HB; have HB := n0_; clear n0_
   (try clear hb)
   (try clear hb2)
   (try clear hk)
   (try clear hi)
   refine hK.out _ _ ⟨((HB.out.cell (zB w _ hw247_0)).trans hw247_0), ((HB.out.cell (zB w _ hw249_0)).trans hw249_0), ((HB.out.cell (zB w _ hw250_0)).trans hw250_0), ((HB.out.cell (zB w _ hw252_0)).trans hw252_0), ((HB.out.cell (zB w _ hw253_0)).trans hw253_0)⟩ (fun hHeld => ?_)
   clear hK K
   refine norm_ (a' := ?_) ?_ ?_
   rotate_left
   ·show Act.put _ (some 14) _ = _
    simp only [Act.put, zS, zZ, zC, i64_w, i32_w]
    rfl
   refine pure_ (i := 5) (N := some 15) (v := ?_) (a' := ?_) #[T, T, T, T, T, T, F, F, F, F, F, F, F, F, F, F, F, F, F, F, F, F, F, F, F, F, F, F, F, F, F, F, F, F, F] rfl rfl (any_of HT_.out (by kernel_rfl)) (fun _ _ _ h => h) (Or.inl ⟨by rfl, ?_⟩) ?_ ?_
   rotate_left
   ·intro w'; go_simp; with_reducible rfl
   rotate_left
   ·simp only [Act.put, zS, zZ, zC, i64_w, i32_w]
    rfl
   refine pure_ (i := 6) (N := some 16) (v := ?_) (a' := ?_) #[T, T, T, T, T, T, T, F, F, F, F, F, F, F, F, F, F, F, F, F, F, F, F, F, F, F, F, F, F, F, F, F, F, F, F] rfl rfl (any_of HT_.out (by kernel_rfl)) (fun _ _ _ h => h) (Or.inl ⟨by rfl, ?_⟩) ?_ ?_
   rotate_left
   ·intro w'; go_simp; with_reducible rfl
   rotate_left
   ·simp only [Act.put, zS, zZ, zC, i64_w, i32_w]
    rfl
   refine pure_ (i := 7) (N := some 17) (v := ?_) (a' := ?_) #[T, T, T, T, T, T, T, T, F, F, F, F, F, F, F, F, F, F, F, F, F, F, F, F, F, F, F, F, F, F, F, F, F, F, F] rfl rfl (any_of HT_.out (by kernel_rfl)) (fun _ _ _ h => h) (Or.inl ⟨by rfl, ?_⟩) ?_ ?_
   rotate_left
   ·intro w'; go_simp; with_reducible rfl
   rotate_left
   ·simp only [Act.put, zS, zZ, zC, i64_w, i32_w]
    rfl
   refine pure_ (i := 8) (N := some 18) (v := ?_) (a' := ?_) #[T, T, T, T, T, T, T, T, T, F, F, F, F, F, F, F, F, F, F, F, F, F, F, F, F, F, F, F, F, F, F, F, F, F, F] rfl rfl (any_of HT_.out (by kernel_rfl)) (fun _ _ _ h => h) (Or.inl ⟨by rfl, ?_⟩) ?_ ?_
   rotate_left
   ·intro w'; go_simp; with_reducible rfl
   rotate_left
   ·simp only [Act.put, zS, zZ, zC, i64_w, i32_w]
    rfl
   refine pure_ (i := 9) (N := some 19) (v := ?_) (a' := ?_) #[T, T, T, T, T, T, T, T, T, T, F, F, F, F, F, F, F, F, F, F, F, F, F, F, F, F, F, F, F, F, F, F, F, F, F] rfl rfl (any_of HT_.out (by kernel_rfl)) (fun _ _ _ h => h) (Or.inl ⟨by rfl, ?_⟩) ?_ ?_
   rotate_left
   ·intro w'; go_simp; with_reducible rfl
   rotate_left
   ·simp only [Act.put, zS, zZ, zC, i64_w, i32_w]
    rfl
   refine pure_ (i := 10) (N := some 20) (v := ?_) (a' := ?_) #[T, T, T, T, T, T, T, T, T, T, T, F, F, F, F, F, F, F, F, F, F, F, F, F, F, F, F, F, F, F, F, F, F, F, F] rfl rfl (any_of HT_.out (by kernel_rfl)) (fun _ _ _ h => h) (Or.inl ⟨by rfl, ?_⟩) ?_ ?_
   rotate_left
   ·intro w'; go_simp; with_reducible rfl
   rotate_left
   ·simp only [Act.put, zS, zZ, zC, i64_w, i32_w]
    rfl
   refine pure_ (i := 11) (N := some 21) (v := ?_) (a' := ?_) #[T, T, T, T, T, T, T, T, T, T, T, T, F, F, F, F, F, F, F, F, F, F, F, F, F, F, F, F, F, F, F, F, F, F, F] rfl rfl (any_of HT_.out (by kernel_rfl)) (fun _ _ _ h => h) (Or.inl ⟨by rfl, ?_⟩) ?_ ?_
   rotate_left
   ·intro w'; go_simp; with_reducible rfl
   rotate_left
   ·simp only [Act.put, zS, zZ, zC, i64_w, i32_w]
    rfl
   refine pure_ (i := 12) (N := some 22) (v := ?_) (a' := ?_) #[T, T, T, T, T, T, T, T, T, T, T, T, T, F, F, F, F, F, F, F, F, F, F, F, F, F, F, F, F, F, F, F, F, F, F] rfl rfl (any_of HT_.out (by kernel_rfl)) (fun _ _ _ h => h) (Or.inl ⟨by rfl, ?_⟩) ?_ ?_
   rotate_left
   ·intro w'; go_simp; with_reducible rfl
   rotate_left
   ·simp only [Act.put, zS, zZ, zC, i64_w, i32_w]
    rfl
   refine pure_ (i := 13) (N := some 23) (v := ?_) (a' := ?_) #[T, T, T, T, T, T, T, T, T, T, T, T, T, T, F, F, F, F, F, F, F, F, F, F, F, F, F, F, F, F, F, F, F, F, F] rfl rfl (any_of HT_.out (by kernel_rfl)) (fun _ _ _ h => h) (Or.inl ⟨by rfl, ?_⟩) ?_ ?_
   rotate_left
   ·intro w'; go_simp; with_reducible rfl
   rotate_left
   ·simp only [Act.put, zS, zZ, zC, i64_w, i32_w]
    rfl
   refine pure_ (i := 15) (N := some 25) (v := ?_) (a' := ?_) #[T, T, T, T, T, T, T, T, T, T, T, T, T, T, F, T, F, F, F, F, F, F, F, F, F, F, F, F, F, F, F, F, F, F, F] rfl rfl (any_of HT_.out (by kernel_rfl)) (fun _ _ _ h => h) (Or.inl ⟨by rfl, ?_⟩) ?_ ?_
   rotate_left
   ·intro w'; go_simp; with_reducible rfl
   rotate_left
   ·simp only [Act.put, zS, zZ, zC, i64_w, i32_w]
    rfl
   refine pure_ (i := 16) (N := some 26) (v := ?_) (a' := ?_) #[T, T, T, T, T, T, T, T, T, T, T, T, T, T, F, T, T, F, F, F, F, F, F, F, F, F, F, F, F, F, F, F, F, F, F] rfl rfl (any_of HT_.out (by kernel_rfl)) (fun _ _ _ h => h) (Or.inl ⟨by rfl, ?_⟩) ?_ ?_
   rotate_left
   ·intro w'; go_simp; with_reducible rfl
   rotate_left
   ·simp only [Act.put, zS, zZ, zC, i64_w, i32_w]
    rfl
   refine pure_ (i := 17) (N := some 27) (v := ?_) (a' := ?_) #[T, T, T, T, T, T, T, T, T, T, T, T, T, T, F, T, T, T, F, F, F, F, F, F, F, F, F, F, F, F, F, F, F, F, F] rfl rfl (any_of HT_.out (by kernel_rfl)) (fun _ _ _ h => h) (Or.inl ⟨by rfl, ?_⟩) ?_ ?_
   rotate_left
   ·intro w'; go_simp; with_reducible rfl
   rotate_left
   ·simp only [Act.put, zS, zZ, zC, i64_w, i32_w]
    rfl
   refine take_ (i := 14) (N := some 24) (v := ?_) (a' := ?_) #[T, T, T, T, T, T, T, T, T, T, T, T, T, T, T, T, T, T, F, F, F, F, F, F, F, F, F, F, F, F, F, F, F, F, F] rfl rfl (take_ofW HT_.out HW_.out (by kernel_rfl)) (fun _ _ _ h => h) (Or.inl ⟨by rfl, ?_⟩) hHeld ?_ ?_
   rotate_left
   ·rintro w' ⟨s0, s1, s2, s3, s4⟩
    go_simp; with_reducible rfl
   rotate_left
   ·simp only [Act.put, zS, zZ, zC, i64_w, i32_w]
    rfl
   refine take_ (i := 18) (N := some 28) (v := ?_) (a' := ?_) #[T, T, T, T, T, T, T, T, T, T, T, T, T, T, T, T, T, T, T, F, F, F, F, F, F, F, F, F, F, F, F, F, F, F, F] rfl rfl (take_ofW HT_.out HW_.out (by kernel_rfl)) (fun _ _ _ h => h) (Or.inl ⟨by rfl, ?_⟩) hHeld ?_ ?_
   rotate_left
   ·rintro w' ⟨s0, s1, s2, s3, s4⟩
    go_simp; with_reducible rfl
   rotate_left
   ·simp only [Act.put, zS, zZ, zC, i64_w, i32_w]
    rfl
   refine one_ (i := 19) (N := some 29) #[T, T, T, T, T, T, T, T, T, T, T, T, T, T, T, T, T, T, T, T, F, F, F, F, F, F, F, F, F, F, F, F, F, F, F] rfl rfl (one_of HT_.out (by kernel_rfl)) (by decide) (fun K hK => ?_)
   refine goes_ Tryd.func35 (by kernel_rfl) rfl #[.string (rdOf ByteArray.empty l0 (ji7)), .string (rdOf ByteArray.empty l0 x3_1)] (by rfl) rfl rfl (by (try simp only [List.map_toArray, List.map_cons, List.map_nil]); first | done | (simp only [hji7]; rfl) | rfl | (simp only [List.length_drop, List.length_take]; rfl)) ?_
   with_reducible refine (copseref02_Cmp.calls k1 (rdOf ByteArray.empty l0 (ji7)) (rdOf ByteArray.empty l0 x3_1) t251 _ A10.out).mono ?_
   rintro e w23 ⟨rfl, hb⟩
   refine ⟨_, rfl, ?_⟩
   have n0_ := zA (below_step (by repeat (first | (with_reducible first | exact HB.out | apply zL | apply zN | apply zD) | exact HB.out)) hb)
   clear HB; have HB := n0_; clear n0_
   (try clear hb)
   (try clear hb2)
   (try clear hk)
   (try clear hi)
   refine hK.out _ _ ⟨((HB.out.cell (zB w _ hw247_0)).trans hw247_0), ((HB.out.cell (zB w _ hw249_0)).trans hw249_0), ((HB.out.cell (zB w _ hw250_0)).trans hw250_0), ((HB.out.cell (zB w _ hw252_0)).trans hw252_0), ((HB.out.cell (zB w _ hw253_0)).trans hw253_0)⟩ (fun hHeld => ?_)
   clear hK K
   refine norm_ (a' := ?_) ?_ ?_
   rotate_left
   ·show Act.put _ (some 29) _ = _
    simp only [Act.put, zS, zZ, zC, i64_w, i32_w]
    rfl
   refine pure_ (i := 20) (N := some 30) (v := ?_) (a' := ?_) #[T, T, T, T, T, T, T, T, T, T, T, T, T, T, T, T, T, T, T, T, T, F, F, F, F, F, F, F, F, F, F, F, F, F, F] rfl rfl (any_of HT_.out (by kernel_rfl)) (fun _ _ _ h => h) (Or.inl ⟨by rfl, ?_⟩) ?_ ?_
   rotate_left
   ·intro w'; go_simp; with_reducible rfl
   rotate_left
   ·simp only [Act.put, zS, zZ, zC, i64_w, i32_w]
    rfl
   refine pure_ (i := 21) (N := some 31) (v := ?_) (a' := ?_) #[T, T, T, T, T, T, T, T, T, T, T, T, T, T, T, T, T, T, T, T, T, T, F, F, F, F, F, F, F, F, F, F, F, F, F] rfl rfl (any_of HT_.out (by kernel_rfl)) (fun _ _ _ h => h) (Or.inl ⟨by rfl, ?_⟩) ?_ ?_
   rotate_left
   ·intro w'; go_simp; with_reducible rfl
   rotate_left
   ·simp only [Act.put, zS, zZ, zC, i64_w, i32_w]
    rfl
   refine pure_ (i := 22) (N := some 32) (v := ?_) (a' := ?_) #[T, T, T, T, T, T, T, T, T, T, T, T, T, T, T, T, T, T, T, T, T, T, T, F, F, F, F, F, F, F, F, F, F, F, F] rfl rfl (any_of HT_.out (by kernel_rfl)) (fun _ _ _ h => h) (Or.inl ⟨by rfl, ?_⟩) ?_ ?_
   rotate_left
   ·intro w'; go_simp; with_reducible rfl
   rotate_left
   ·simp only [Act.put, zS, zZ, zC, i64_w, i32_w]
    rfl
   refine pure_ (i := 23) (N := some 33) (v := ?_) (a' := ?_) #[T, T, T, T, T, T, T, T, T, T, T, T, T, T, T, T, T, T, T, T, T, T, T, T, F, F, F, F, F, F, F, F, F, F, F] rfl rfl (any_of HT_.out (by kernel_rfl)) (fun _ _ _ h => h) (Or.inl ⟨by rfl, ?_⟩) ?_ ?_
   rotate_left
   ·intro w'; go_simp; with_reducible rfl
   rotate_left
   ·simp only [Act.put, zS, zZ, zC, i64_w, i32_w]
    rfl
   refine pure_ (i := 24) (N := some 34) (v := ?_) (a' := ?_) #[T, T, T, T, T, T, T, T, T, T, T, T, T, T, T, T, T, T, T, T, T, T, T, T, T, F, F, F, F, F, F, F, F, F, F] rfl rfl (any_of HT_.out (by kernel_rfl)) (fun _ _ _ h => h) (Or.inl ⟨by rfl, ?_⟩) ?_ ?_
   rotate_left
   ·intro w'; go_simp; with_reducible rfl
   rotate_left
   ·simp only [Act.put, zS, zZ, zC, i64_w, i32_w]
    rfl
   refine pure_ (i := 25) (N := some 35) (v := ?_) (a' := ?_) #[T, T, T, T, T, T, T, T, T, T, T, T, T, T, T, T, T, T, T, T, T, T, T, T, T, T, F, F, F, F, F, F, F, F, F] rfl rfl (any_of HT_.out (by kernel_rfl)) (fun _ _ _ h => h) (Or.inl ⟨by rfl, ?_⟩) ?_ ?_
   rotate_left
   ·intro w'; go_simp; with_reducible rfl
   rotate_left
   ·simp only [Act.put, zS, zZ, zC, i64_w, i32_w]
    rfl
   refine pure_ (i := 27) (N := some 37) (v := ?_) (a' := ?_) #[T, T, T, T, T, T, T, T, T, T, T, T, T, T, T, T, T, T, T, T, T, T, T, T, T, T, F, T, F, F, F, F, F, F, F] rfl rfl (any_of HT_.out (by kernel_rfl)) (fun _ _ _ h => h) (Or.inl ⟨by rfl, ?_⟩) ?_ ?_
   rotate_left
   ·intro w'; go_simp; with_reducible rfl
   rotate_left
   ·simp only [Act.put, zS, zZ, zC, i64_w, i32_w]
    rfl
   refine pure_ (i := 28) (N := some 38) (v := ?_) (a' := ?_) #[T, T, T, T, T, T, T, T, T, T, T, T, T, T, T, T, T, T, T, T, T, T, T, T, T, T, F, T, T, F, F, F, F, F, F] rfl rfl (any_of HT_.out (by kernel_rfl)) (fun _ _ _ h => h) (Or.inl ⟨by rfl, ?_⟩) ?_ ?_
   rotate_left
   ·intro w'; go_simp; with_reducible rfl
   rotate_left
   ·simp only [Act.put, zS, zZ, zC, i64_w, i32_w]
    rfl
   refine pure_ (i := 29) (N := some 39) (v := ?_) (a' := ?_) #[T, T, T, T, T, T, T, T, T, T, T, T, T, T, T, T, T, T, T, T, T, T, T, T, T, T, F, T, T, T, F, F, F, F, F] rfl rfl (any_of HT_.out (by kernel_rfl)) (fun _ _ _ h => h) (Or.inl ⟨by rfl, ?_⟩) ?_ ?_
   rotate_left
   ·intro w'; go_simp; with_reducible rfl
   rotate_left
   ·simp only [Act.put, zS, zZ, zC, i64_w, i32_w]
    rfl
   refine take_ (i := 26) (N := some 36) (v := ?_) (a' := ?_) #[T, T, T, T, T, T, T, T, T, T, T, T, T, T, T, T, T, T, T, T, T, T, T, T, T, T, T, T, T, T, F, F, F, F, F] rfl rfl (take_ofW HT_.out HW_.out (by kernel_rfl)) (fun _ _ _ h => h) (Or.inl ⟨by rfl, ?_⟩) hHeld ?_ ?_
   rotate_left
   ·rintro w' ⟨s0, s1, s2, s3, s4⟩
    go_simp; with_reducible rfl
   rotate_left
   ·simp only [Act.put, zS, zZ, zC, i64_w, i32_w]
    rfl
   refine take_ (i := 30) (N := some 40) (v := ?_) (a' := ?_) #[T, T, T, T, T, T, T, T, T, T, T, T, T, T, T, T, T, T, T, T, T, T, T, T, T, T, T, T, T, T, T, F, F, F, F] rfl rfl (take_ofW HT_.out HW_.out (by kernel_rfl)) (fun _ _ _ h => h) (Or.inl ⟨by rfl, ?_⟩) hHeld ?_ ?_
   rotate_left
   ·rintro w' ⟨s0, s1, s2, s3, s4⟩
    go_simp; with_reducible rfl
   rotate_left
   ·simp only [Act.put, zS, zZ, zC, i64_w, i32_w]
    rfl
   refine one_ (i := 31) (N := some 41) #[T, T, T, T, T, T, T, T, T, T, T, T, T, T, T, T, T, T, T, T, T, T, T, T, T, T, T, T, T, T, T, T, F, F, F] rfl rfl (one_of HT_.out (by kernel_rfl)) (by decide) (fun K hK => ?_)
   refine goes_ Tryd.func31 (by kernel_rfl) rfl #[.string (rdOf ByteArray.empty l0 (ji7)), .string (rdOf ByteArray.empty l0 x3_1)] (by rfl) rfl rfl (by (try simp only [List.map_toArray, List.map_cons, List.map_nil]); first | done | (simp only [hji7]; rfl) | rfl | (simp only [List.length_drop, List.length_take]; rfl)) ?_
   with_reducible refine (copseref02_Above.calls k1 (rdOf ByteArray.empty l0 (ji7)) (rdOf ByteArray.empty l0 x3_1) false _ A15.out).mono ?_
   rintro e w24 ⟨rfl, hb⟩
   refine ⟨_, rfl, ?_⟩
   have n0_ := zA (below_step (by repeat (first | (with_reducible first | exact HB.out | apply zL | apply zN | apply zD) | exact HB.out)) hb)
   clear HB; have HB := n0_; clear n0_
   (try clear hb)
   (try clear hb2)
   (try clear hk)
   (try clear hi)
   refine hK.out _ _ ⟨((HB.out.cell (zB w _ hw247_0)).trans hw247_0), ((HB.out.cell (zB w _ hw249_0)).trans hw249_0), ((HB.out.cell (zB w _ hw250_0)).trans hw250_0), ((HB.out.cell (zB w _ hw252_0)).trans hw252_0), ((HB.out.cell (zB w _ hw253_0)).trans hw253_0)⟩ (fun hHeld => ?_)
   clear hK K
   refine norm_ (a' := ?_) ?_ ?_
   rotate_left
   ·show Act.put _ (some 41) _ = _
    simp only [Act.put, zS, zZ, zC, i64_w, i32_w]
    rfl
   refine pure_ (i := 32) (N := some 42) (v := ?_) (a' := ?_) #[T, T, T, T, T, T, T, T, T, T, T, T, T, T, T, T, T, T, T, T, T, T, T, T, T, T, T, T, T, T, T, T, T, F, F] rfl rfl (any_of HT_.out (by kernel_rfl)) (fun _ _ _ h => h) (Or.inl ⟨by rfl, ?_⟩) ?_ ?_
   rotate_left
   ·intro w'; go_simp; with_reducible rfl
   rotate_left
   ·simp only [Act.put, zS, zZ, zC, i64_w, i32_w]
    rfl
   refine pure_ (i := 33) (N := some 43) (v := ?_) (a' := ?_) #[T, T, T, T, T, T, T, T, T, T, T, T, T, T, T, T, T, T, T, T, T, T, T, T, T, T, T, T, T, T, T, T, T, T, F] rfl rfl (any_of HT_.out (by kernel_rfl)) (fun _ _ _ h => h) (Or.inl ⟨by rfl, ?_⟩) ?_ ?_
   rotate_left
   ·intro w'; go_simp; with_reducible rfl
   rotate_left
   ·simp only [Act.put, zS, zZ, zC, i64_w, i32_w]
    rfl
   refine pure_ (i := 34) (N := some 44) (v := ?_) (a' := ?_) #[T, T, T, T, T, T, T, T, T, T, T, T, T, T, T, T, T, T, T, T, T, T, T, T, T, T, T, T, T, T, T, T, T, T, T] rfl rfl (any_of HT_.out (by kernel_rfl)) (fun _ _ _ h => h) (Or.inl ⟨by rfl, ?_⟩) ?_ ?_
   rotate_left
   ·intro w'; go_simp; with_reducible rfl
   rotate_left
   ·simp only [Act.put, zS, zZ, zC, i64_w, i32_w]
    rfl
   refine done_ (done_of HT_.out (by kernel_rfl)) ?_
   try go_wp2
   go_roundg k1
   case measure => have := HK1.out; omega
   case rel => exact ⟨(wrap64 (x3_1 + 1)), (by first | rfl | (simp; done) | (simp [*]; done)), H', ⟨by have := HK1.out; omega⟩, ⟨by repeat (first | (with_reducible first | exact HB.out | apply zL | apply zN | apply zD) | exact HB.out)⟩⟩
def copseref02_last.l0 : Nat → ByteArray → Int → Int → Option (Int)
 | 0, _, _, _ => none
 | k + 1, x0, x3, x4 => if x4 < (x0.size : Int) then (if 0 ≤ x4 then (if (bt x0 x4) = 47 then (copseref02_last.l0 k x0 x4 (wrap64 (x4 + 1))) else (copseref02_last.l0 k x0 x3 (wrap64 (x4 + 1)))) else (none)) else (some x3)
def copseref02_last.f (k : Nat) (a0 : ByteArray) : Option (Int) := copseref02_last.l0 k a0 (-1) 0
set_option maxHeartbeats 8000000 in
set_option maxRecDepth 100000 in
theorem copseref02_last.calls (k : Nat) (a0 : ByteArray) (r : Int) (w : World) (h : copseref02_last.f k a0 = some r) :
  Calls Tryd.prog 87 #[.string a0] w fun e w' => e = .returned (.int .i64 r) ∧ Drawn0 w w' := by
 have H : (copseref02_last.l0 k a0 (-1) 0) = some r := h
 clear h
 have H' := zA H
 clear H
 go_enter Tryd.func87, Tryd.ntmps87
 go_wp2
 go_loopg [3, 4] k (fun kq v3 v4 w' => ∃ (x3_1 : Int) (x4_1 : Int), v3 = .int .i64 x3_1 ∧ v4 = .int .i64 x4_1 ∧ Aside0 (copseref02_last.l0 kq a0 x3_1 x4_1 = some r) ∧ Aside0 (kq ≤ k) ∧ Drawn0 w w')
 case atStart => exact ⟨((-1)), (0), (by first | rfl | (simp; done) | (simp [*]; done)), (by first | rfl | (simp; done) | (simp [*]; done)), H', ⟨Nat.le_refl _⟩, by repeat (first | exact Drawn0.refl _ | apply Drawn0.step)⟩
 case round =>
  clear H'; obtain ⟨x3_1, x4_1, rfl, rfl, HA, HK1, ⟨m1, rfl⟩⟩ := hrel
  cases gk with
  | zero => exact absurd HA.out (by simp [copseref02_last.l0])
  | succ k1 =>
   have H := HA.out
   clear HA
   simp only [copseref02_last.l0] at H
   by_cases c2 : x4_1 < (a0.size : Int)
   rotate_left
   ·rw [if_neg c2] at H
    have c2b0 : decide (x4_1 < (a0.size : Int)) = false := decide_eq_false c2
    clear c2; obtain rfl := Option.some.inj H; go_wp2; go_ret
    exact ⟨by first | rfl | (simp; done) | (simp [*]; done), by repeat (first | exact Drawn0.refl _ | apply Drawn0.step)⟩
   rw [if_pos c2] at H
   have c2b0 : decide (x4_1 < (a0.size : Int)) = true := decide_eq_true c2
   clear c2
   by_cases c3 : 0 ≤ x4_1
   rotate_left
   ·rw [if_neg c3] at H
    exact absurd H (by simp)
   rw [if_pos c3] at H
   have c3b0 : decide (0 ≤ x4_1) = true := decide_eq_true c3
   clear c3
   by_cases c5 : (bt a0 x4_1) = 47
   rotate_left
   ·rw [if_neg c5] at H
    have c5b0 : ((bt a0 x4_1) == 47) = false := beq_eq_false_iff_ne.mpr c5
    have c5b1 : ((bt a0 x4_1) != 47) = true := bne_iff_ne.mpr c5
    have H' := zA H
    clear H
    have p4 : 0 ≤ (x4_1 : Int) := zO (by first | (with_reducible assumption) | assumption)
    have q4 : x4_1 < (a0.size : Int) := zO (by first | (with_reducible assumption) | assumption)
    have hx4 := bt_at a0 x4_1
    replace p4 := eq_true p4
    replace q4 := eq_true q4
    go_wp2
    go_roundg k1
    case measure => have := HK1.out; omega
    case rel => exact ⟨(x3_1), (wrap64 (x4_1 + 1)), (by first | rfl | (simp; done) | (simp [*]; done)), (by first | rfl | (simp; done) | (simp [*]; done)), H', ⟨by have := HK1.out; omega⟩, by repeat (first | exact Drawn0.refl _ | apply Drawn0.step)⟩
   rw [if_pos c5] at H
   have c5b0 : ((bt a0 x4_1) == 47) = true := beq_iff_eq.mpr c5
   have c5b1 : ((bt a0 x4_1) != 47) = false := bne_eq_false_iff_eq.mpr c5
   clear c5
   have H' := zA H
   clear H
   have p4 : 0 ≤ (x4_1 : Int) := zO (by first | (with_reducible assumption) | assumption)
   have q4 : x4_1 < (a0.size : Int) := zO (by first | (with_reducible assumption) | assumption)
   have hx4 := bt_at a0 x4_1
   replace p4 := eq_true p4
   replace q4 := eq_true q4
   go_wp2
   go_roundg k1
   case measure => have := HK1.out; omega
   case rel => exact ⟨(x4_1), (wrap64 (x4_1 + 1)), (by first | rfl | (simp; done) | (simp [*]; done)), (by first | rfl | (simp; done) | (simp [*]; done)), H', ⟨by have := HK1.out; omega⟩, by repeat (first | exact Drawn0.refl _ | apply Drawn0.step)⟩
def copseref02_Base.f (k : Nat) (a0 : ByteArray) : Option (ByteArray) := (copseref02_last.f k a0).bind fun t255 => (if 0 ≤ (wrap64 (t255 + 1)) then (if (wrap64 (t255 + 1)) ≤ (a0.size : Int) then (some (a0.extract ((wrap64 (t255 + 1)) : Int).toNat a0.size)) else (none)) else (none))
set_option maxHeartbeats 8000000 in
set_option maxRecDepth 100000 in
theorem copseref02_Base.calls (k : Nat) (a0 : ByteArray) (r : ByteArray) (w : World) (h : copseref02_Base.f k a0 = some r) :
  Calls Tryd.prog 86 #[.string a0] w fun e w' => e = .returned (.string r) ∧ Drawn0 w w' := by
 have H : ((copseref02_last.f k a0).bind fun t255 => (if 0 ≤ (wrap64 (t255 + 1)) then (if (wrap64 (t255 + 1)) ≤ (a0.size : Int) then (some (a0.extract ((wrap64 (t255 + 1)) : Int).toNat a0.size)) else (none)) else (none))) = some r := h
 clear h; replace H := Option.bind_eq_some_iff.mp H; obtain ⟨t255, A20, H⟩ := H
 replace H : (if 0 ≤ (wrap64 (t255 + 1)) then (if (wrap64 (t255 + 1)) ≤ (a0.size : Int) then (some (a0.extract ((wrap64 (t255 + 1)) : Int).toNat a0.size)) else (none)) else (none)) = some r := H
 have A2 := zA A20; clear A20
 obtain ⟨ji3, hji3⟩ : ∃ j_ : Int, (wrap64 (t255 + 1)) = j_ := ⟨_, rfl⟩
 replace H : (if 0 ≤ (ji3) then (if (ji3) ≤ (a0.size : Int) then (some (a0.extract ((ji3) : Int).toNat a0.size)) else (none)) else (none)) = some r := by first | (rw [hji3] at H; exact H) | (simp only [hji3] at H ⊢; exact H)
 (try rw [hji3] at A2)
 have hji3w : (IntKind.i64.wrap (t255 + 1)) = ji3 := (i64_w _).trans hji3
 by_cases c4 : 0 ≤ (ji3)
 rotate_left
 ·rw [if_neg c4] at H
  exact absurd H (by simp)
 rw [if_pos c4] at H
 have c4b0 := eq_true c4
 have c4b1 : decide (0 ≤ (ji3)) = true := decide_eq_true c4
 clear c4
 by_cases c5 : (ji3) ≤ (a0.size : Int)
 rotate_left
 ·rw [if_neg c5] at H
  exact absurd H (by simp)
 rw [if_pos c5] at H
 have c5b0 := eq_true c5
 have c5b1 : decide ((ji3) ≤ (a0.size : Int)) = true := decide_eq_true c5
 clear c5; obtain rfl := Option.some.inj H
 go_enter Tryd.func86, Tryd.ntmps86
 go_wp2_with (first | ((with_reducible refine gate_callee (f := 87) rfl ?_); refine goesL_ (some 5) rfl rfl Tryd.func87 (by kernel_rfl) rfl #[.string a0] rfl (by (try simp only [List.map_toArray, List.map_cons, List.map_nil]); first | done | rfl | (simp only [List.length_drop, List.length_take]; rfl)) ?_; (with_reducible refine (copseref02_last.calls k a0 t255 _ A2.out).mono ?_); rintro e w' ⟨rfl, ⟨nd, rfl⟩⟩; refine ⟨_, rfl, ?_⟩))
 go_ret
 exact ⟨by first | rfl | (simp; done) | (simp only [← hji3] <;> (first | rfl | simp)) | (simp [*]; done), by repeat (first | exact Drawn0.refl _ | apply Drawn0.step)⟩
mutual
def copseref04_File.j0 : Nat → Bool → ByteArray → ByteArray → Int → Int → Option (Int)
 | 0, _, _, _, _, _ => none
 | k + 1, x11, x257000, x257001, x257002, x257003 => if x11 = true then (some 7) else ((copseref02_Base.f k x257000).bind fun t258 => (if t258.toList = ([84, 65, 82, 71, 69, 84, 83] : List UInt8) then (if x257002 = 0 then (copseref04_File.j1 k (x257003 != (x257001.size : Int))) else (copseref04_File.j1 k true)) else (if x257001.toList = ([] : List UInt8) then (if x257002 < 0 then (some 8) else (if x257002 > 1152921504606846976 then (some 8) else (if x257003 < 0 then (some 8) else (if x257003 > 4611686018427387904 then (some 8) else (some 0))))) else (some 8))))
def copseref04_File.j1 : Nat → Bool → Option (Int)
 | 0, _ => none
 | k + 1, x26 => if x26 = true then (some 8) else (some 0)
end
def copseref04_File.f (k : Nat) (a0_0 : ByteArray) (a0_1 : ByteArray) (a0_2 : Int) (a0_3 : Int) : Option (Int) := (copseref02_Valid.f k a0_0).bind fun t257 => (if t257 = true then (copseref04_File.j0 k (a0_0.toList == ([] : List UInt8)) a0_0 a0_1 a0_2 a0_3) else (copseref04_File.j0 k true a0_0 a0_1 a0_2 a0_3))
set_option maxHeartbeats 8000000 in
set_option maxRecDepth 100000 in
theorem copseref04_File.calls (k : Nat) (a0_0 : ByteArray) (a0_1 : ByteArray) (a0_2 : Int) (a0_3 : Int) (r : Int) (w : World) (h : copseref04_File.f k a0_0 a0_1 a0_2 a0_3 = some r) :
  Calls Tryd.prog 72 #[.agg #[.string a0_0, .string a0_1, .int .i64 a0_2, .int .i64 a0_3]] w fun e w' => e = .returned (.int .i64 r) ∧ Below w.heap.size w w' := by
 have hu45 := Tryd.underlying45
 have HB := zA (Below.refl w.heap.size w)
 have H : ((copseref02_Valid.f k a0_0).bind fun t257 => (if t257 = true then (copseref04_File.j0 k (a0_0.toList == ([] : List UInt8)) a0_0 a0_1 a0_2 a0_3) else (copseref04_File.j0 k true a0_0 a0_1 a0_2 a0_3))) = some r := h
 clear h; have HC2 := zA H; clear H
 go_enter Tryd.func72, Tryd.ntmps72
 go_upto_region 1 with (first | ((with_reducible refine gate_dst (N := 1) rfl ?_); (try (refine gate_guard (by rfl) ?_; dsimp only)); refine box_event ?hg (N := 1) ?hd (cs := #[.string a0_0, .string a0_1, .int .i64 a0_2, .int .i64 a0_3]) (t := 45) ?hr ?_; (case hd => rfl); (case hg => rfl); (case hr => first | (go_simp; done) | (go_simp; rfl)); intro gb256 hg w3 hbox hb; have n0_ := zA (below_step (by repeat (first | (with_reducible first | exact HB.out | apply zL | apply zN | apply zD) | exact HB.out)) hb); have n1_ := zA (hbox); have n2_ := zA ((by rw [hg]; exact (below_size (by repeat (first | (with_reducible first | exact HB.out | apply zL | apply zN | apply zD) | exact HB.out))) : w.heap.size ≤ gb256)); have n3_ := zA ((by rw [hg]; exact (below_size (by repeat (first | (with_reducible first | exact HB.out | apply zL | apply zN | apply zD) | exact HB.out))) : w.heap.size ≤ gb256)); clear HB; have HB := n0_; have BK256 := n1_; have GW256 := n2_; have GE256 := n3_; clear n0_ n1_ n2_ n3_; clear hb hbox hg))
 (try simp only [Act.put, zS, zZ, zC])
 go_cut [11] (fun v11 wc => ∃ (kq : Nat) (x11_1 : Bool), v11 = .bool x11_1 ∧ Aside0 (copseref04_File.j0 kq x11_1 a0_0 a0_1 a0_2 a0_3 = some r) ∧ Aside0 (kq ≤ k) ∧ Aside0 (wc.heap[gb256]? = some (.cells #[.string a0_0, .string a0_1, .int .i64 a0_2, .int .i64 a0_3] 45 (0, 0))) ∧ Aside0 (Below w.heap.size w wc))
 case first =>
  have H := HC2.out
  clear HC2; replace H := Option.bind_eq_some_iff.mp H; obtain ⟨t257, A40, H⟩ := H
  replace H : (if t257 = true then (copseref04_File.j0 k (a0_0.toList == ([] : List UInt8)) a0_0 a0_1 a0_2 a0_3) else (copseref04_File.j0 k true a0_0 a0_1 a0_2 a0_3)) = some r := H
  have A4 := zA A40; clear A40
  by_cases c5 : t257 = true
  rotate_left
  ·replace c5 := Bool.eq_false_iff.mpr c5
   subst c5
   have H1 : (copseref04_File.j0 k true a0_0 a0_1 a0_2 a0_3) = some r := by rw [if_neg (show ¬ (false = true) by decide)] at H; exact H
   clear H; have H := H1; clear H1
   have H' := zA H
   clear H
   have hcz9_0 : w3.cell? ⟨gb256, 0, none⟩ = some (.string a0_0) := (blk_cell BK256.out 0).trans rfl
   have hcz9_1 : w3.cell? ⟨gb256, 1, none⟩ = some (.string a0_1) := (blk_cell BK256.out 1).trans rfl
   have hcz9_2 : w3.cell? ⟨gb256, 2, none⟩ = some (.int .i64 a0_2) := (blk_cell BK256.out 2).trans rfl
   have hcz9_3 : w3.cell? ⟨gb256, 3, none⟩ = some (.int .i64 a0_3) := (blk_cell BK256.out 3).trans rfl
   have hfz9_0 := blk_frozen BK256.out 0
   have hfz9_1 := blk_frozen BK256.out 1
   have hfz9_2 := blk_frozen BK256.out 2
   have hfz9_3 := blk_frozen BK256.out 3
   go_wp2_with (first | ((with_reducible refine gate_callee (f := 30) rfl ?_); refine goesL_ (some 5) rfl rfl Tryd.func30 (by kernel_rfl) rfl #[.string a0_0] rfl (by (try simp only [List.map_toArray, List.map_cons, List.map_nil]); first | done | rfl | (simp only [List.length_drop, List.length_take]; rfl)) ?_; (with_reducible refine (copseref02_Valid.calls k a0_0 false _ A4.out).mono ?_); rintro e w10 ⟨rfl, hb⟩; refine ⟨_, rfl, ?_⟩; have n0_ := zA (blk_below (g := gb256) (o := .cells #[.string a0_0, .string a0_1, .int .i64 a0_2, .int .i64 a0_3] 45 (0, 0)) (by (with_reducible repeat (first | refine blk_drewN ?_ _ | refine blk_drew ?_ | refine blk_alloc ?_ _)); exact BK256.out) hb); have n1_ := zA (below_step (by repeat (first | (with_reducible first | exact HB.out | apply zL | apply zN | apply zD | refine below_set ?_ GE256.out) | exact HB.out)) hb); clear BK256; clear HB; have BK256 := n0_; have HB := n1_; clear n0_ n1_; (try clear hb); (try clear hb2); (try clear hk); (try clear hi)))
   go_meet
   case rel => exact ⟨_, (true), (by first | rfl | (simp; done) | (simp [*]; done)), H', ⟨by first | omega | exact Nat.le_refl _⟩, ⟨by (with_reducible repeat (first | refine blk_drewN ?_ _ | refine blk_drew ?_ | refine blk_alloc ?_ _)); exact BK256.out⟩, ⟨by repeat (first | (with_reducible first | exact HB.out | apply zL | apply zN | apply zD | refine below_set ?_ GE256.out) | exact HB.out)⟩⟩
  subst c5
  have H1 : (copseref04_File.j0 k (a0_0.toList == ([] : List UInt8)) a0_0 a0_1 a0_2 a0_3) = some r := by rw [if_pos rfl] at H; exact H
  clear H; have H := H1; clear H1
  have H' := zA H
  clear H
  have hcz6_0 : w3.cell? ⟨gb256, 0, none⟩ = some (.string a0_0) := (blk_cell BK256.out 0).trans rfl
  have hcz6_1 : w3.cell? ⟨gb256, 1, none⟩ = some (.string a0_1) := (blk_cell BK256.out 1).trans rfl
  have hcz6_2 : w3.cell? ⟨gb256, 2, none⟩ = some (.int .i64 a0_2) := (blk_cell BK256.out 2).trans rfl
  have hcz6_3 : w3.cell? ⟨gb256, 3, none⟩ = some (.int .i64 a0_3) := (blk_cell BK256.out 3).trans rfl
  have hfz6_0 := blk_frozen BK256.out 0
  have hfz6_1 := blk_frozen BK256.out 1
  have hfz6_2 := blk_frozen BK256.out 2
  have hfz6_3 := blk_frozen BK256.out 3
  go_wp2_with (first | ((with_reducible refine gate_callee (f := 30) rfl ?_); refine goesL_ (some 5) rfl rfl Tryd.func30 (by kernel_rfl) rfl #[.string a0_0] rfl (by (try simp only [List.map_toArray, List.map_cons, List.map_nil]); first | done | rfl | (simp only [List.length_drop, List.length_take]; rfl)) ?_; (with_reducible refine (copseref02_Valid.calls k a0_0 true _ A4.out).mono ?_); rintro e w7 ⟨rfl, hb⟩; refine ⟨_, rfl, ?_⟩; have n0_ := zA (blk_below (g := gb256) (o := .cells #[.string a0_0, .string a0_1, .int .i64 a0_2, .int .i64 a0_3] 45 (0, 0)) (by (with_reducible repeat (first | refine blk_drewN ?_ _ | refine blk_drew ?_ | refine blk_alloc ?_ _)); exact BK256.out) hb); have n1_ := zA (below_step (by repeat (first | (with_reducible first | exact HB.out | apply zL | apply zN | apply zD | refine below_set ?_ GE256.out) | exact HB.out)) hb); clear BK256; clear HB; have BK256 := n0_; have HB := n1_; clear n0_ n1_; (try clear hb); (try clear hb2); (try clear hk); (try clear hi); have hcz8_0 : w7.cell? ⟨gb256, 0, none⟩ = some (.string a0_0) := (blk_cell BK256.out 0).trans rfl; have hcz8_1 : w7.cell? ⟨gb256, 1, none⟩ = some (.string a0_1) := (blk_cell BK256.out 1).trans rfl; have hcz8_2 : w7.cell? ⟨gb256, 2, none⟩ = some (.int .i64 a0_2) := (blk_cell BK256.out 2).trans rfl; have hcz8_3 : w7.cell? ⟨gb256, 3, none⟩ = some (.int .i64 a0_3) := (blk_cell BK256.out 3).trans rfl; have hfz8_0 := blk_frozen BK256.out 0; have hfz8_1 := blk_frozen BK256.out 1; have hfz8_2 := blk_frozen BK256.out 2; have hfz8_3 := blk_frozen BK256.out 3))
  go_meet
  case rel => exact ⟨_, ((a0_0.toList == ([] : List UInt8))), (by first | rfl | (simp; done) | (simp [*]; done)), H', ⟨by first | omega | exact Nat.le_refl _⟩, ⟨by (with_reducible repeat (first | refine blk_drewN ?_ _ | refine blk_drew ?_ | refine blk_alloc ?_ _)); exact BK256.out⟩, ⟨by repeat (first | (with_reducible first | exact HB.out | apply zL | apply zN | apply zD | refine below_set ?_ GE256.out) | exact HB.out)⟩⟩
 case rest =>
  clear HC2
  try clear p2
  try clear c3
  try clear c5
  try clear c7
  try clear hcz6_0
  try clear hcz6_1
  try clear hcz6_2
  try clear hcz6_3
  try clear hcz8_0
  try clear hcz8_1
  try clear hcz8_2
  try clear hcz8_3
  try clear hcz9_0
  try clear hcz9_1
  try clear hcz9_2
  try clear hcz9_3
  try clear hfz6_0
  try clear hfz6_1
  try clear hfz6_2
  try clear hfz6_3
  try clear hfz8_0
  try clear hfz8_1
  try clear hfz8_2
  try clear hfz8_3
  try clear hfz9_0
  try clear hfz9_1
  try clear hfz9_2
  try clear hfz9_3
  obtain ⟨kq, x11_1, rfl, HA, HJ1, BK256, HB⟩ := hcut
  cases kq with
  | zero => exact absurd HA.out (by simp [copseref04_File.j0])
  | succ kj1 =>
   have H := HA.out
   clear HA
   simp only [copseref04_File.j0] at H
   by_cases c11 : x11_1 = true
   ·subst c11
    have H1 : (some 7) = some r := by rw [if_pos rfl] at H; exact H
    clear H; have H := H1; clear H1; obtain rfl := Option.some.inj H; go_wp2; go_ret
    exact ⟨by first | rfl | (simp [errW_none, errW_some] <;> rfl) | (simp [*, errW_none, errW_some] <;> rfl), by repeat (first | (with_reducible first | exact HB.out | apply zL | apply zN | apply zD | refine below_set ?_ GE256.out) | exact HB.out)⟩
   replace c11 := Bool.eq_false_iff.mpr c11
   subst c11
   have H1 : ((copseref02_Base.f kj1 a0_0).bind fun t258 => (if t258.toList = ([84, 65, 82, 71, 69, 84, 83] : List UInt8) then (if a0_2 = 0 then (copseref04_File.j1 kj1 (a0_3 != (a0_1.size : Int))) else (copseref04_File.j1 kj1 true)) else (if a0_1.toList = ([] : List UInt8) then (if a0_2 < 0 then (some 8) else (if a0_2 > 1152921504606846976 then (some 8) else (if a0_3 < 0 then (some 8) else (if a0_3 > 4611686018427387904 then (some 8) else (some 0))))) else (some 8)))) = some r := by rw [if_neg (show ¬ (false = true) by decide)] at H; exact H
   clear H; have H := H1; clear H1; replace H := Option.bind_eq_some_iff.mp H; obtain ⟨t258, A120, H⟩ := H
   replace H : (if t258.toList = ([84, 65, 82, 71, 69, 84, 83] : List UInt8) then (if a0_2 = 0 then (copseref04_File.j1 kj1 (a0_3 != (a0_1.size : Int))) else (copseref04_File.j1 kj1 true)) else (if a0_1.toList = ([] : List UInt8) then (if a0_2 < 0 then (some 8) else (if a0_2 > 1152921504606846976 then (some 8) else (if a0_3 < 0 then (some 8) else (if a0_3 > 4611686018427387904 then (some 8) else (some 0))))) else (some 8))) = some r := H
   have A12 := zA A120; clear A120
   by_cases c13 : t258.toList = ([84, 65, 82, 71, 69, 84, 83] : List UInt8)
   ·rw [if_pos c13] at H
    have c13b0 : (t258.toList == ([84, 65, 82, 71, 69, 84, 83] : List UInt8)) = true := beq_iff_eq.mpr c13
    have c13b1 : (t258.toList != ([84, 65, 82, 71, 69, 84, 83] : List UInt8)) = false := bne_eq_false_iff_eq.mpr c13
    clear c13; have HC14 := zA H; clear H
    have hcz15_0 : wc.cell? ⟨gb256, 0, none⟩ = some (.string a0_0) := (blk_cell BK256.out 0).trans rfl
    have hcz15_1 : wc.cell? ⟨gb256, 1, none⟩ = some (.string a0_1) := (blk_cell BK256.out 1).trans rfl
    have hcz15_2 : wc.cell? ⟨gb256, 2, none⟩ = some (.int .i64 a0_2) := (blk_cell BK256.out 2).trans rfl
    have hcz15_3 : wc.cell? ⟨gb256, 3, none⟩ = some (.int .i64 a0_3) := (blk_cell BK256.out 3).trans rfl
    have hfz15_0 := blk_frozen BK256.out 0
    have hfz15_1 := blk_frozen BK256.out 1
    have hfz15_2 := blk_frozen BK256.out 2
    have hfz15_3 := blk_frozen BK256.out 3
    go_upto_region 4 with (first | ((with_reducible refine gate_callee (f := 86) rfl ?_); refine goesL_ (some 14) rfl rfl Tryd.func86 (by kernel_rfl) rfl #[.string a0_0] rfl (by (try simp only [List.map_toArray, List.map_cons, List.map_nil]); first | done | rfl | (simp only [List.length_drop, List.length_take]; rfl)) ?_; (with_reducible refine (copseref02_Base.calls kj1 a0_0 t258 _ A12.out).mono ?_); rintro e w' ⟨rfl, ⟨nd, rfl⟩⟩; refine ⟨_, rfl, ?_⟩))
    (try simp only [Act.put, zS, zZ, zC])
    go_cut [26] (fun v26 wc => ∃ (kq : Nat) (x26_13 : Bool), v26 = .bool x26_13 ∧ Aside0 (copseref04_File.j1 kq x26_13 = some r) ∧ Aside0 (kq ≤ kj1) ∧ Aside0 (wc.heap[gb256]? = some (.cells #[.string a0_0, .string a0_1, .int .i64 a0_2, .int .i64 a0_3] 45 (0, 0))) ∧ Aside0 (Below w.heap.size w wc))
    case first =>
     have H := HC14.out
     clear HC14
     by_cases c16 : a0_2 = 0
     rotate_left
     ·rw [if_neg c16] at H
      have c16b0 : (a0_2 == 0) = false := beq_eq_false_iff_ne.mpr c16
      have c16b1 : (a0_2 != 0) = true := bne_iff_ne.mpr c16
      (first | rw [c16b0] | (simp only [i64_w, i32_w]; rw [c16b0]) | skip)
      have H' := zA H
      clear H
      have hcz18_0 : wc.cell? ⟨gb256, 0, none⟩ = some (.string a0_0) := (blk_cell BK256.out 0).trans rfl
      have hcz18_1 : wc.cell? ⟨gb256, 1, none⟩ = some (.string a0_1) := (blk_cell BK256.out 1).trans rfl
      have hcz18_2 : wc.cell? ⟨gb256, 2, none⟩ = some (.int .i64 a0_2) := (blk_cell BK256.out 2).trans rfl
      have hcz18_3 : wc.cell? ⟨gb256, 3, none⟩ = some (.int .i64 a0_3) := (blk_cell BK256.out 3).trans rfl
      have hfz18_0 := blk_frozen BK256.out 0
      have hfz18_1 := blk_frozen BK256.out 1
      have hfz18_2 := blk_frozen BK256.out 2
      have hfz18_3 := blk_frozen BK256.out 3
      go_wp2
      go_meet
      case rel => exact ⟨_, (true), (by first | rfl | (simp; done) | (simp [*]; done)), H', ⟨by have := HJ1.out; first | omega | exact Nat.le_refl _⟩, ⟨by (with_reducible repeat (first | refine blk_drewN ?_ _ | refine blk_drew ?_ | refine blk_alloc ?_ _)); exact BK256.out⟩, ⟨by repeat (first | (with_reducible first | exact HB.out | apply zL | apply zN | apply zD | refine below_set ?_ GE256.out) | exact HB.out)⟩⟩
     rw [if_pos c16] at H
     have c16b0 : (a0_2 == 0) = true := beq_iff_eq.mpr c16
     have c16b1 : (a0_2 != 0) = false := bne_eq_false_iff_eq.mpr c16
     clear c16
     (first | rw [c16b0] | (simp only [i64_w, i32_w]; rw [c16b0]) | skip)
     have H' := zA H
     clear H
     have hcz17_0 : wc.cell? ⟨gb256, 0, none⟩ = some (.string a0_0) := (blk_cell BK256.out 0).trans rfl
     have hcz17_1 : wc.cell? ⟨gb256, 1, none⟩ = some (.string a0_1) := (blk_cell BK256.out 1).trans rfl
     have hcz17_2 : wc.cell? ⟨gb256, 2, none⟩ = some (.int .i64 a0_2) := (blk_cell BK256.out 2).trans rfl
     have hcz17_3 : wc.cell? ⟨gb256, 3, none⟩ = some (.int .i64 a0_3) := (blk_cell BK256.out 3).trans rfl
     have hfz17_0 := blk_frozen BK256.out 0
     have hfz17_1 := blk_frozen BK256.out 1
     have hfz17_2 := blk_frozen BK256.out 2
     have hfz17_3 := blk_frozen BK256.out 3
     go_wp2
     go_meet
     case rel => exact ⟨_, ((a0_3 != (a0_1.size : Int))), (by first | rfl | (simp; done) | (simp [*]; done)), H', ⟨by have := HJ1.out; first | omega | exact Nat.le_refl _⟩, ⟨by (with_reducible repeat (first | refine blk_drewN ?_ _ | refine blk_drew ?_ | refine blk_alloc ?_ _)); exact BK256.out⟩, ⟨by repeat (first | (with_reducible first | exact HB.out | apply zL | apply zN | apply zD | refine below_set ?_ GE256.out) | exact HB.out)⟩⟩
    case rest =>
     clear HC14
     try clear c1
     try clear p2
     try clear c3
     try clear c5
     try clear c7
     try clear c8
     try clear c11
     try clear c13
     try clear c13b0
     try clear c13b1
     try clear c16
     try clear c16b0
     try clear c16b1
     try clear hcz15_0
     try clear hcz15_1
     try clear hcz15_2
     try clear hcz15_3
     try clear hcz17_0
     try clear hcz17_1
     try clear hcz17_2
     try clear hcz17_3
     try clear hcz18_0
     try clear hcz18_1
     try clear hcz18_2
     try clear hcz18_3
     try clear hcz6_0
     try clear hcz6_1
     try clear hcz6_2
     try clear hcz6_3
     try clear hcz8_0
     try clear hcz8_1
     try clear hcz8_2
     try clear hcz8_3
     try clear hcz9_0
     try clear hcz9_1
     try clear hcz9_2
     try clear hcz9_3
     try clear hfz15_0
     try clear hfz15_1
     try clear hfz15_2
     try clear hfz15_3
     try clear hfz17_0
     try clear hfz17_1
     try clear hfz17_2
     try clear hfz17_3
     try clear hfz18_0
     try clear hfz18_1
     try clear hfz18_2
     try clear hfz18_3
     try clear hfz6_0
     try clear hfz6_1
     try clear hfz6_2
     try clear hfz6_3
     try clear hfz8_0
     try clear hfz8_1
     try clear hfz8_2
     try clear hfz8_3
     try clear hfz9_0
     try clear hfz9_1
     try clear hfz9_2
     try clear hfz9_3
     try clear p2
     obtain ⟨kq, x26_13, rfl, HA, HJ13, BK256, HB⟩ := hcut
     cases kq with
     | zero => exact absurd HA.out (by simp [copseref04_File.j1])
     | succ kj13 =>
      have H := HA.out
      clear HA
      simp only [copseref04_File.j1] at H
      by_cases c19 : x26_13 = true
      ·subst c19
       have H1 : (some 8) = some r := by rw [if_pos rfl] at H; exact H
       clear H; have H := H1; clear H1; obtain rfl := Option.some.inj H; go_wp2; go_ret
       exact ⟨by first | rfl | (simp [errW_none, errW_some] <;> rfl) | (simp [*, errW_none, errW_some] <;> rfl), by repeat (first | (with_reducible first | exact HB.out | apply zL | apply zN | apply zD | refine below_set ?_ GE256.out) | exact HB.out)⟩
      replace c19 := Bool.eq_false_iff.mpr c19
      subst c19
      have H1 : (some 0) = some r := by rw [if_neg (show ¬ (false = true) by decide)] at H; exact H
      clear H; have H := H1; clear H1; obtain rfl := Option.some.inj H; go_wp2; go_ret
      exact ⟨by first | rfl | (simp [errW_none, errW_some] <;> rfl) | (simp [*, errW_none, errW_some] <;> rfl), by repeat (first | (with_reducible first | exact HB.out | apply zL | apply zN | apply zD | refine below_set ?_ GE256.out) | exact HB.out)⟩
   rw [if_neg c13] at H
   have c13b0 : (t258.toList == ([84, 65, 82, 71, 69, 84, 83] : List UInt8)) = false := beq_eq_false_iff_ne.mpr c13
   have c13b1 : (t258.toList != ([84, 65, 82, 71, 69, 84, 83] : List UInt8)) = true := bne_iff_ne.mpr c13
   by_cases c20 : a0_1.toList = ([] : List UInt8)
   rotate_left
   ·rw [if_neg c20] at H
    have c20b0 : (a0_1.toList == ([] : List UInt8)) = false := beq_eq_false_iff_ne.mpr c20
    have c20b1 : (a0_1.toList != ([] : List UInt8)) = true := bne_iff_ne.mpr c20
    obtain rfl := Option.some.inj H
    have hcz30_0 : wc.cell? ⟨gb256, 0, none⟩ = some (.string a0_0) := (blk_cell BK256.out 0).trans rfl
    have hcz30_1 : wc.cell? ⟨gb256, 1, none⟩ = some (.string a0_1) := (blk_cell BK256.out 1).trans rfl
    have hcz30_2 : wc.cell? ⟨gb256, 2, none⟩ = some (.int .i64 a0_2) := (blk_cell BK256.out 2).trans rfl
    have hcz30_3 : wc.cell? ⟨gb256, 3, none⟩ = some (.int .i64 a0_3) := (blk_cell BK256.out 3).trans rfl
    have hfz30_0 := blk_frozen BK256.out 0
    have hfz30_1 := blk_frozen BK256.out 1
    have hfz30_2 := blk_frozen BK256.out 2
    have hfz30_3 := blk_frozen BK256.out 3
    go_wp2_with (first | ((with_reducible refine gate_callee (f := 86) rfl ?_); refine goesL_ (some 14) rfl rfl Tryd.func86 (by kernel_rfl) rfl #[.string a0_0] rfl (by (try simp only [List.map_toArray, List.map_cons, List.map_nil]); first | done | rfl | (simp only [List.length_drop, List.length_take]; rfl)) ?_; (with_reducible refine (copseref02_Base.calls kj1 a0_0 t258 _ A12.out).mono ?_); rintro e w' ⟨rfl, ⟨nd, rfl⟩⟩; refine ⟨_, rfl, ?_⟩))
    go_ret
    exact ⟨by first | rfl | (simp [errW_none, errW_some] <;> rfl) | (simp [*, errW_none, errW_some] <;> rfl), by repeat (first | (with_reducible first | exact HB.out | apply zL | apply zN | apply zD | refine below_set ?_ GE256.out) | exact HB.out)⟩
   rw [if_pos c20] at H
   have c20b0 : (a0_1.toList == ([] : List UInt8)) = true := beq_iff_eq.mpr c20
   have c20b1 : (a0_1.toList != ([] : List UInt8)) = false := bne_eq_false_iff_eq.mpr c20
   clear c20
   by_cases c21 : a0_2 < 0
   ·rw [if_pos c21] at H
    have c21b0 : decide (a0_2 < 0) = true := decide_eq_true c21
    clear c21; obtain rfl := Option.some.inj H
    have hcz22_0 : wc.cell? ⟨gb256, 0, none⟩ = some (.string a0_0) := (blk_cell BK256.out 0).trans rfl
    have hcz22_1 : wc.cell? ⟨gb256, 1, none⟩ = some (.string a0_1) := (blk_cell BK256.out 1).trans rfl
    have hcz22_2 : wc.cell? ⟨gb256, 2, none⟩ = some (.int .i64 a0_2) := (blk_cell BK256.out 2).trans rfl
    have hcz22_3 : wc.cell? ⟨gb256, 3, none⟩ = some (.int .i64 a0_3) := (blk_cell BK256.out 3).trans rfl
    have hfz22_0 := blk_frozen BK256.out 0
    have hfz22_1 := blk_frozen BK256.out 1
    have hfz22_2 := blk_frozen BK256.out 2
    have hfz22_3 := blk_frozen BK256.out 3
    go_wp2_with (first | ((with_reducible refine gate_callee (f := 86) rfl ?_); refine goesL_ (some 14) rfl rfl Tryd.func86 (by kernel_rfl) rfl #[.string a0_0] rfl (by (try simp only [List.map_toArray, List.map_cons, List.map_nil]); first | done | rfl | (simp only [List.length_drop, List.length_take]; rfl)) ?_; (with_reducible refine (copseref02_Base.calls kj1 a0_0 t258 _ A12.out).mono ?_); rintro e w' ⟨rfl, ⟨nd, rfl⟩⟩; refine ⟨_, rfl, ?_⟩))
    go_ret
    exact ⟨by first | rfl | (simp [errW_none, errW_some] <;> rfl) | (simp [*, errW_none, errW_some] <;> rfl), by repeat (first | (with_reducible first | exact HB.out | apply zL | apply zN | apply zD | refine below_set ?_ GE256.out) | exact HB.out)⟩
   rw [if_neg c21] at H
   have c21b0 : decide (a0_2 < 0) = false := decide_eq_false c21
   clear c21
   by_cases c23 : a0_2 > 1152921504606846976
   ·rw [if_pos c23] at H
    have c23b0 : decide (1152921504606846976 < a0_2) = true := decide_eq_true c23
    clear c23; obtain rfl := Option.some.inj H
    have hcz24_0 : wc.cell? ⟨gb256, 0, none⟩ = some (.string a0_0) := (blk_cell BK256.out 0).trans rfl
    have hcz24_1 : wc.cell? ⟨gb256, 1, none⟩ = some (.string a0_1) := (blk_cell BK256.out 1).trans rfl
    have hcz24_2 : wc.cell? ⟨gb256, 2, none⟩ = some (.int .i64 a0_2) := (blk_cell BK256.out 2).trans rfl
    have hcz24_3 : wc.cell? ⟨gb256, 3, none⟩ = some (.int .i64 a0_3) := (blk_cell BK256.out 3).trans rfl
    have hfz24_0 := blk_frozen BK256.out 0
    have hfz24_1 := blk_frozen BK256.out 1
    have hfz24_2 := blk_frozen BK256.out 2
    have hfz24_3 := blk_frozen BK256.out 3
    go_wp2_with (first | ((with_reducible refine gate_callee (f := 86) rfl ?_); refine goesL_ (some 14) rfl rfl Tryd.func86 (by kernel_rfl) rfl #[.string a0_0] rfl (by (try simp only [List.map_toArray, List.map_cons, List.map_nil]); first | done | rfl | (simp only [List.length_drop, List.length_take]; rfl)) ?_; (with_reducible refine (copseref02_Base.calls kj1 a0_0 t258 _ A12.out).mono ?_); rintro e w' ⟨rfl, ⟨nd, rfl⟩⟩; refine ⟨_, rfl, ?_⟩))
    go_ret
    exact ⟨by first | rfl | (simp [errW_none, errW_some] <;> rfl) | (simp [*, errW_none, errW_some] <;> rfl), by repeat (first | (with_reducible first | exact HB.out | apply zL | apply zN | apply zD | refine below_set ?_ GE256.out) | exact HB.out)⟩
   rw [if_neg c23] at H
   have c23b0 : decide (1152921504606846976 < a0_2) = false := decide_eq_false c23
   clear c23
   by_cases c25 : a0_3 < 0
   ·rw [if_pos c25] at H
    have c25b0 : decide (a0_3 < 0) = true := decide_eq_true c25
    clear c25; obtain rfl := Option.some.inj H
    have hcz26_0 : wc.cell? ⟨gb256, 0, none⟩ = some (.string a0_0) := (blk_cell BK256.out 0).trans rfl
    have hcz26_1 : wc.cell? ⟨gb256, 1, none⟩ = some (.string a0_1) := (blk_cell BK256.out 1).trans rfl
    have hcz26_2 : wc.cell? ⟨gb256, 2, none⟩ = some (.int .i64 a0_2) := (blk_cell BK256.out 2).trans rfl
    have hcz26_3 : wc.cell? ⟨gb256, 3, none⟩ = some (.int .i64 a0_3) := (blk_cell BK256.out 3).trans rfl
    have hfz26_0 := blk_frozen BK256.out 0
    have hfz26_1 := blk_frozen BK256.out 1
    have hfz26_2 := blk_frozen BK256.out 2
    have hfz26_3 := blk_frozen BK256.out 3
    go_wp2_with (first | ((with_reducible refine gate_callee (f := 86) rfl ?_); refine goesL_ (some 14) rfl rfl Tryd.func86 (by kernel_rfl) rfl #[.string a0_0] rfl (by (try simp only [List.map_toArray, List.map_cons, List.map_nil]); first | done | rfl | (simp only [List.length_drop, List.length_take]; rfl)) ?_; (with_reducible refine (copseref02_Base.calls kj1 a0_0 t258 _ A12.out).mono ?_); rintro e w' ⟨rfl, ⟨nd, rfl⟩⟩; refine ⟨_, rfl, ?_⟩))
    go_ret
    exact ⟨by first | rfl | (simp [errW_none, errW_some] <;> rfl) | (simp [*, errW_none, errW_some] <;> rfl), by repeat (first | (with_reducible first | exact HB.out | apply zL | apply zN | apply zD | refine below_set ?_ GE256.out) | exact HB.out)⟩
   rw [if_neg c25] at H
   have c25b0 : decide (a0_3 < 0) = false := decide_eq_false c25
   clear c25
   by_cases c27 : a0_3 > 4611686018427387904
   ·rw [if_pos c27] at H
    have c27b0 : decide (4611686018427387904 < a0_3) = true := decide_eq_true c27
    clear c27; obtain rfl := Option.some.inj H
    have hcz28_0 : wc.cell? ⟨gb256, 0, none⟩ = some (.string a0_0) := (blk_cell BK256.out 0).trans rfl
    have hcz28_1 : wc.cell? ⟨gb256, 1, none⟩ = some (.string a0_1) := (blk_cell BK256.out 1).trans rfl
    have hcz28_2 : wc.cell? ⟨gb256, 2, none⟩ = some (.int .i64 a0_2) := (blk_cell BK256.out 2).trans rfl
    have hcz28_3 : wc.cell? ⟨gb256, 3, none⟩ = some (.int .i64 a0_3) := (blk_cell BK256.out 3).trans rfl
    have hfz28_0 := blk_frozen BK256.out 0
    have hfz28_1 := blk_frozen BK256.out 1
    have hfz28_2 := blk_frozen BK256.out 2
    have hfz28_3 := blk_frozen BK256.out 3
    go_wp2_with (first | ((with_reducible refine gate_callee (f := 86) rfl ?_); refine goesL_ (some 14) rfl rfl Tryd.func86 (by kernel_rfl) rfl #[.string a0_0] rfl (by (try simp only [List.map_toArray, List.map_cons, List.map_nil]); first | done | rfl | (simp only [List.length_drop, List.length_take]; rfl)) ?_; (with_reducible refine (copseref02_Base.calls kj1 a0_0 t258 _ A12.out).mono ?_); rintro e w' ⟨rfl, ⟨nd, rfl⟩⟩; refine ⟨_, rfl, ?_⟩))
    go_ret
    exact ⟨by first | rfl | (simp [errW_none, errW_some] <;> rfl) | (simp [*, errW_none, errW_some] <;> rfl), by repeat (first | (with_reducible first | exact HB.out | apply zL | apply zN | apply zD | refine below_set ?_ GE256.out) | exact HB.out)⟩
   rw [if_neg c27] at H
   have c27b0 : decide (4611686018427387904 < a0_3) = false := decide_eq_false c27
   clear c27; obtain rfl := Option.some.inj H
   have hcz29_0 : wc.cell? ⟨gb256, 0, none⟩ = some (.string a0_0) := (blk_cell BK256.out 0).trans rfl
   have hcz29_1 : wc.cell? ⟨gb256, 1, none⟩ = some (.string a0_1) := (blk_cell BK256.out 1).trans rfl
   have hcz29_2 : wc.cell? ⟨gb256, 2, none⟩ = some (.int .i64 a0_2) := (blk_cell BK256.out 2).trans rfl
   have hcz29_3 : wc.cell? ⟨gb256, 3, none⟩ = some (.int .i64 a0_3) := (blk_cell BK256.out 3).trans rfl
   have hfz29_0 := blk_frozen BK256.out 0
   have hfz29_1 := blk_frozen BK256.out 1
   have hfz29_2 := blk_frozen BK256.out 2
   have hfz29_3 := blk_frozen BK256.out 3
   go_wp2_with (first | ((with_reducible refine gate_callee (f := 86) rfl ?_); refine goesL_ (some 14) rfl rfl Tryd.func86 (by kernel_rfl) rfl #[.string a0_0] rfl (by (try simp only [List.map_toArray, List.map_cons, List.map_nil]); first | done | rfl | (simp only [List.length_drop, List.length_take]; rfl)) ?_; (with_reducible refine (copseref02_Base.calls kj1 a0_0 t258 _ A12.out).mono ?_); rintro e w' ⟨rfl, ⟨nd, rfl⟩⟩; refine ⟨_, rfl, ?_⟩))
   go_ret
   exact ⟨by first | rfl | (simp [errW_none, errW_some] <;> rfl) | (simp [*, errW_none, errW_some] <;> rfl), by repeat (first | (with_reducible first | exact HB.out | apply zL | apply zN | apply zD | refine below_set ?_ GE256.out) | exact HB.out)⟩
mutual
def copseref04_Valid.l0 : Nat → List (S45) → Int → Option (Int)
 | 0, _, _ => none
 | k + 1, x0, x3 => if x3 < (x0.length : Int) then (if 0 ≤ x3 then ((copseref04_File.f k ((rd_T45 x0 x3).f0) ((rd_T45 x0 x3).f1) ((rd_T45 x0 x3).f2) ((rd_T45 x0 x3).f3)).bind fun t260 => (if t260 = 7 then (some 7) else (copseref04_Valid.l0 k x0 (wrap64 (x3 + 1))))) else (none)) else (if (x0.length : Int) > 512 then (some 8) else (copseref04_Valid.l1 k x0 0))
def copseref04_Valid.l1 : Nat → List (S45) → Int → Option (Int)
 | 0, _, _ => none
 | k + 1, x0, x4 => if x4 < (x0.length : Int) then (if 0 ≤ x4 then ((copseref04_File.f k ((rd_T45 x0 x4).f0) ((rd_T45 x0 x4).f1) ((rd_T45 x0 x4).f2) ((rd_T45 x0 x4).f3)).bind fun t262 => (if t262 = 0 then (if x4 > 0 then (if 0 ≤ (wrap64 (x4 - 1)) then (if (wrap64 (x4 - 1)) < (x0.length : Int) then ((copseref02_Cmp.f k ((rd_T45 x0 (wrap64 (x4 - 1))).f0) ((rd_T45 x0 x4).f0)).bind fun t265 => (if t265 ≥ 0 then (some 8) else (copseref04_Valid.l1 k x0 (wrap64 (x4 + 1))))) else (none)) else (none)) else (copseref04_Valid.l1 k x0 (wrap64 (x4 + 1)))) else (some 8))) else (none)) else (copseref04_Valid.l2 k x0 0)
def copseref04_Valid.l2 : Nat → List (S45) → Int → Option (Int)
 | 0, _, _ => none
 | k + 1, x0, x5 => if (wrap64 (x5 + 1)) < (x0.length : Int) then (if 0 ≤ x5 then (if x5 < (x0.length : Int) then (if 0 ≤ (wrap64 (x5 + 1)) then ((copseref02_Above.f k ((rd_T45 x0 x5).f0) ((rd_T45 x0 (wrap64 (x5 + 1))).f0)).bind fun t268 => (if t268 = true then (some 8) else (copseref04_Valid.l2 k x0 (wrap64 (x5 + 1))))) else (none)) else (none)) else (none)) else (some 0)
end
def copseref04_Valid.f (k : Nat) (l0 : List (S45)) : Option (Int) := copseref04_Valid.l0 k l0 0
def copseref04_Valid.T13 : Bool × List (List Nat × List Nat) := (true, [([], []), ([0], [0]), ([1], [1]), ([2], [2]), ([2], [2]), ([4, 2], [2, 4]), ([3, 5, 2], [2, 3, 5]), ([6, 2], [2, 6]), ([7, 2], [2, 7]), ([2], [2]), ([2], [2]), ([9, 10, 2], [2, 9, 10]), ([11, 2], [2, 11]), ([12, 2], [2, 12]), ([8, 13, 2, 2], [2, 8, 13]), ([14, 2], [2, 14]), ([2, 15], [2, 15])])
def copseref04_Valid.B13 : List Nat := [0, 1, 3, 7, 7, 23, 63, 127, 255, 7, 7, 1543, 3591, 7687, 16383, 32767, 65535]
theorem copseref04_Valid.tab13 : rtab .any (opsOf Tryd.f49 13) = copseref04_Valid.T13 := by kernel_rfl
theorem copseref04_Valid.bits13 : waitsOk copseref04_Valid.T13.2 copseref04_Valid.B13 = true := by kernel_rfl
def copseref04_Valid.T18 : Bool × List (List Nat × List Nat) := (true, [([], []), ([], []), ([0, 1], [0, 1]), ([2], [2]), ([3], [3]), ([], []), ([], []), ([6], [6]), ([5, 7], [5, 7]), ([8], [8]), ([9], [9]), ([4, 10], [4, 10])])
def copseref04_Valid.B18 : List Nat := [0, 0, 3, 7, 15, 0, 0, 64, 224, 480, 992, 2047]
theorem copseref04_Valid.tab18 : rtab .any (opsOf Tryd.f49 18) = copseref04_Valid.T18 := by kernel_rfl
theorem copseref04_Valid.bits18 : waitsOk copseref04_Valid.T18.2 copseref04_Valid.B18 = true := by kernel_rfl
set_option maxHeartbeats 8000000 in
set_option maxRecDepth 100000 in
theorem copseref04_Valid.calls (k : Nat) (A0 : Option Addr) (c0 : Nat) (l0 : List (S45)) (r : Int) (w : World) (hr0 : Kd.C k45 w A0 l0.length l0) (hc0 : l0.length ≤ c0) (h : copseref04_Valid.f k l0 = some r) :
  Calls Tryd.prog 49 #[.slice A0 l0.length c0] w fun e w' => e = .returned (.int .i64 r) ∧ Below w.heap.size w w' := by
 have hu45 := Tryd.underlying45
 have HR0 := zA hr0; have HC0 := zA hc0; clear hr0 hc0
 have HB := zA (Below.refl w.heap.size w)
 have H : (copseref04_Valid.l0 k l0 0) = some r := h
 clear h
 have H' := zA H
 clear H
 go_enter Tryd.func49, Tryd.ntmps49
 go_wp2
 go_loopg [3] k (fun kq v3 w' => ∃ (x3_1 : Int), v3 = .int .i64 x3_1 ∧ Aside0 (copseref04_Valid.l0 kq l0 x3_1 = some r) ∧ Aside0 (kq ≤ k) ∧ Aside0 (Below w.heap.size w w'))
 case atStart => exact ⟨(0), (by first | rfl | (simp; done) | (simp [*]; done)), H', ⟨Nat.le_refl _⟩, ⟨by repeat (first | (with_reducible first | exact HB.out | apply zL | apply zN | apply zD) | exact HB.out)⟩⟩
 case round =>
  clear H'; obtain ⟨x3_1, rfl, HA, HK1, HB⟩ := hrel
  cases gk with
  | zero => exact absurd HA.out (by simp [copseref04_Valid.l0])
  | succ k1 =>
   have H := HA.out
   clear HA
   simp only [copseref04_Valid.l0] at H
   by_cases c2 : x3_1 < (l0.length : Int)
   ·rw [if_pos c2] at H
    have c2b0 : decide (x3_1 < (l0.length : Int)) = true := decide_eq_true c2
    clear c2
    by_cases c3 : 0 ≤ x3_1
    rotate_left
    ·rw [if_neg c3] at H
     exact absurd H (by simp)
    rw [if_pos c3] at H
    have c3b0 : decide (0 ≤ x3_1) = true := decide_eq_true c3
    clear c3; replace H := Option.bind_eq_some_iff.mp H; obtain ⟨t260, A40, H⟩ := H
    replace H : (if t260 = 7 then (some 7) else (copseref04_Valid.l0 k1 l0 (wrap64 (x3_1 + 1)))) = some r := H
    have A4 := zA A40; clear A40
    by_cases c5 : t260 = 7
    ·rw [if_pos c5] at H
     have c5b0 : (t260 == 7) = true := beq_iff_eq.mpr c5
     have c5b1 : (t260 != 7) = false := bne_eq_false_iff_eq.mpr c5
     clear c5; obtain rfl := Option.some.inj H
     have p259 : 0 ≤ (x3_1 : Int) := zO (by first | (with_reducible assumption) | assumption)
     have q259 : x3_1 < (l0.length : Int) := zO (by first | (with_reducible assumption) | assumption)
     obtain ⟨ad259, e259, hx259_0, hx259_1, hx259_2, hx259_3⟩ := at_T45 HR0.out x3_1 p259 q259
     cases e259
     replace hx259_0 := (HB.out.cell (zB w _ hx259_0)).trans hx259_0
     replace hx259_1 := (HB.out.cell (zB w _ hx259_1)).trans hx259_1
     replace hx259_2 := (HB.out.cell (zB w _ hx259_2)).trans hx259_2
     replace hx259_3 := (HB.out.cell (zB w _ hx259_3)).trans hx259_3
     replace p259 := eq_true p259
     replace q259 := eq_true q259
     go_wp2_with (first | ((with_reducible refine gate_callee (f := 72) rfl ?_); refine goesL_ (some 16) rfl rfl Tryd.func72 (by kernel_rfl) rfl #[.agg #[.string ((rd_T45 l0 x3_1).f0), .string ((rd_T45 l0 x3_1).f1), .int .i64 ((rd_T45 l0 x3_1).f2), .int .i64 ((rd_T45 l0 x3_1).f3)]] rfl (by (try simp only [List.map_toArray, List.map_cons, List.map_nil]); first | done | rfl | (simp only [List.length_drop, List.length_take]; rfl)) ?_; (with_reducible refine (copseref04_File.calls k1 ((rd_T45 l0 x3_1).f0) ((rd_T45 l0 x3_1).f1) ((rd_T45 l0 x3_1).f2) ((rd_T45 l0 x3_1).f3) t260 _ A4.out).mono ?_); rintro e w6 ⟨rfl, hb⟩; refine ⟨_, rfl, ?_⟩; have n0_ := zA (below_step (by repeat (first | (with_reducible first | exact HB.out | apply zL | apply zN | apply zD) | exact HB.out)) hb); clear HB; have HB := n0_; clear n0_; (try clear hb); (try clear hb2); (try clear hk); (try clear hi)))
     go_ret
     exact ⟨by first | rfl | (simp [errW_none, errW_some] <;> rfl) | (simp [*, errW_none, errW_some] <;> rfl), by repeat (first | (with_reducible first | exact HB.out | apply zL | apply zN | apply zD) | exact HB.out)⟩
    rw [if_neg c5] at H
    have c5b0 : (t260 == 7) = false := beq_eq_false_iff_ne.mpr c5
    have c5b1 : (t260 != 7) = true := bne_iff_ne.mpr c5
    have H' := zA H
    clear H
    have p259 : 0 ≤ (x3_1 : Int) := zO (by first | (with_reducible assumption) | assumption)
    have q259 : x3_1 < (l0.length : Int) := zO (by first | (with_reducible assumption) | assumption)
    obtain ⟨ad259, e259, hx259_0, hx259_1, hx259_2, hx259_3⟩ := at_T45 HR0.out x3_1 p259 q259
    cases e259
    replace hx259_0 := (HB.out.cell (zB w _ hx259_0)).trans hx259_0
    replace hx259_1 := (HB.out.cell (zB w _ hx259_1)).trans hx259_1
    replace hx259_2 := (HB.out.cell (zB w _ hx259_2)).trans hx259_2
    replace hx259_3 := (HB.out.cell (zB w _ hx259_3)).trans hx259_3
    replace p259 := eq_true p259
    replace q259 := eq_true q259
    go_wp2_with (first | ((with_reducible refine gate_callee (f := 72) rfl ?_); refine goesL_ (some 16) rfl rfl Tryd.func72 (by kernel_rfl) rfl #[.agg #[.string ((rd_T45 l0 x3_1).f0), .string ((rd_T45 l0 x3_1).f1), .int .i64 ((rd_T45 l0 x3_1).f2), .int .i64 ((rd_T45 l0 x3_1).f3)]] rfl (by (try simp only [List.map_toArray, List.map_cons, List.map_nil]); first | done | rfl | (simp only [List.length_drop, List.length_take]; rfl)) ?_; (with_reducible refine (copseref04_File.calls k1 ((rd_T45 l0 x3_1).f0) ((rd_T45 l0 x3_1).f1) ((rd_T45 l0 x3_1).f2) ((rd_T45 l0 x3_1).f3) t260 _ A4.out).mono ?_); rintro e w7 ⟨rfl, hb⟩; refine ⟨_, rfl, ?_⟩; have n0_ := zA (below_step (by repeat (first | (with_reducible first | exact HB.out | apply zL | apply zN | apply zD) | exact HB.out)) hb); clear HB; have HB := n0_; clear n0_; (try clear hb); (try clear hb2); (try clear hk); (try clear hi)))
    go_roundg k1
    case measure => have := HK1.out; omega
    case rel => exact ⟨(wrap64 (x3_1 + 1)), (by first | rfl | (simp; done) | (simp [*]; done)), H', ⟨by have := HK1.out; omega⟩, ⟨by repeat (first | (with_reducible first | exact HB.out | apply zL | apply zN | apply zD) | exact HB.out)⟩⟩
   rw [if_neg c2] at H
   have c2b0 : decide (x3_1 < (l0.length : Int)) = false := decide_eq_false c2
   clear c2
   by_cases c8 : (l0.length : Int) > 512
   ·rw [if_pos c8] at H
    have c8b0 : decide (512 < (l0.length : Int)) = true := decide_eq_true c8
    have c8b1 : decide (512 < l0.length) = true := decide_eq_true (by omega)
    clear c8; obtain rfl := Option.some.inj H; go_wp2; go_ret
    exact ⟨by first | rfl | (simp [errW_none, errW_some] <;> rfl) | (simp [*, errW_none, errW_some] <;> rfl), by repeat (first | (with_reducible first | exact HB.out | apply zL | apply zN | apply zD) | exact HB.out)⟩
   rw [if_neg c8] at H
   have c8b0 : decide (512 < (l0.length : Int)) = false := decide_eq_false c8
   have c8b1 : decide (512 < l0.length) = false := decide_eq_false (by omega)
   clear c8
   have H' := zA H
   clear H; go_wp2
   go_loopg [4] k1 (fun kq v4 w' => ∃ (x4_2 : Int), v4 = .int .i64 x4_2 ∧ Aside0 (copseref04_Valid.l1 kq l0 x4_2 = some r) ∧ Aside0 (kq ≤ k1) ∧ Aside0 (Below w.heap.size w w'))
   case atStart => exact ⟨(0), (by first | rfl | (simp; done) | (simp [*]; done)), H', ⟨Nat.le_refl _⟩, ⟨by repeat (first | (with_reducible first | exact HB.out | apply zL | apply zN | apply zD) | exact HB.out)⟩⟩
   case round =>
    clear H'
    try clear c2
    try clear c2b0
    try clear p2
    try clear q2
    try clear hx2
    try clear c3
    try clear c3b0
    try clear c4
    try clear c5
    try clear c5b0
    try clear c5b1
    try clear p6
    try clear c7
    try clear c8
    try clear c8b0
    try clear c8b1
    try clear hx259_0
    try clear hx259_1
    try clear hx259_2
    try clear hx259_3
    try clear p259
    try clear q259
    obtain ⟨x4_2, rfl, HA, HK2, HB⟩ := hrel
    cases gk with
    | zero => exact absurd HA.out (by simp [copseref04_Valid.l1])
    | succ k2 =>
     have H := HA.out
     clear HA
     simp only [copseref04_Valid.l1] at H
     by_cases c9 : x4_2 < (l0.length : Int)
     rotate_left
     ·rw [if_neg c9] at H
      have c9b0 : decide (x4_2 < (l0.length : Int)) = false := decide_eq_false c9
      clear c9
      have H' := zA H
      clear H; go_wp2
      go_loopg [5] k2 (fun kq v5 w' => ∃ (x5_3 : Int), v5 = .int .i64 x5_3 ∧ Aside0 (copseref04_Valid.l2 kq l0 x5_3 = some r) ∧ Aside0 (kq ≤ k2) ∧ Aside0 (Below w.heap.size w w'))
      case atStart => exact ⟨(0), (by first | rfl | (simp; done) | (simp [*]; done)), H', ⟨Nat.le_refl _⟩, ⟨by repeat (first | (with_reducible first | exact HB.out | apply zL | apply zN | apply zD) | exact HB.out)⟩⟩
      case round =>
       clear H'
       try clear c1
       try clear p2
       try clear q2
       try clear hx2
       try clear c3
       try clear p6
       try clear c7
       try clear c9
       try clear c9b0
       try clear c10
       try clear c10b0
       try clear c12
       try clear c12b0
       try clear c12b1
       try clear c13
       try clear c13b0
       try clear c15
       try clear c15b0
       try clear c16
       try clear c16b0
       try clear c18
       try clear c18b0
       try clear p25
       try clear q25
       try clear hx25
       try clear p26
       try clear q26
       try clear hx26
       try clear hx259_1
       try clear hx259_2
       try clear hx259_3
       try clear hx261_0
       try clear hx261_1
       try clear hx261_2
       try clear hx261_3
       try clear hx263_0
       try clear hx263_1
       try clear hx263_2
       try clear hx263_3
       try clear hx264_0
       try clear hx264_1
       try clear hx264_2
       try clear hx264_3
       try clear p259
       try clear p261
       try clear p263
       try clear p264
       try clear q259
       try clear q261
       try clear q263
       try clear q264
       obtain ⟨x5_3, rfl, HA, HK3, HB⟩ := hrel
       cases gk with
       | zero => exact absurd HA.out (by simp [copseref04_Valid.l2])
       | succ k3 =>
        have H := HA.out
        clear HA
        simp only [copseref04_Valid.l2] at H
        by_cases c28 : (wrap64 (x5_3 + 1)) < (l0.length : Int)
        rotate_left
        ·rw [if_neg c28] at H
         have c28b0 : decide ((wrap64 (x5_3 + 1)) < (l0.length : Int)) = false := decide_eq_false c28
         clear c28; obtain rfl := Option.some.inj H; go_wp2; go_ret
         exact ⟨by first | rfl | (simp [errW_none, errW_some] <;> rfl) | (simp [*, errW_none, errW_some] <;> rfl), by repeat (first | (with_reducible first | exact HB.out | apply zL | apply zN | apply zD) | exact HB.out)⟩
        rw [if_pos c28] at H
        have c28b0 : decide ((wrap64 (x5_3 + 1)) < (l0.length : Int)) = true := decide_eq_true c28
        clear c28
        by_cases c29 : 0 ≤ x5_3
        rotate_left
        ·rw [if_neg c29] at H
         exact absurd H (by simp)
        rw [if_pos c29] at H
        have c29b0 : decide (0 ≤ x5_3) = true := decide_eq_true c29
        clear c29
        by_cases c30 : x5_3 < (l0.length : Int)
        rotate_left
        ·rw [if_neg c30] at H
         exact absurd H (by simp)
        rw [if_pos c30] at H
        have c30b0 : decide (x5_3 < (l0.length : Int)) = true := decide_eq_true c30
        clear c30
        obtain ⟨ji31, hji31⟩ : ∃ j_ : Int, (wrap64 (x5_3 + 1)) = j_ := ⟨_, rfl⟩
        replace H : (if 0 ≤ (ji31) then ((copseref02_Above.f k3 ((rd_T45 l0 x5_3).f0) ((rd_T45 l0 (ji31)).f0)).bind fun t268 => (if t268 = true then (some 8) else (copseref04_Valid.l2 k3 l0 ji31))) else (none)) = some r := by first | (rw [hji31] at H; exact H) | (simp only [hji31] at H ⊢; exact H)
        (try rw [hji31] at c28b0)
        have hji31w : (IntKind.i64.wrap (x5_3 + 1)) = ji31 := (i64_w _).trans hji31
        by_cases c32 : 0 ≤ (ji31)
        rotate_left
        ·rw [if_neg c32] at H
         exact absurd H (by simp)
        rw [if_pos c32] at H
        have c32b0 : decide (0 ≤ (ji31)) = true := decide_eq_true c32
        clear c32; replace H := Option.bind_eq_some_iff.mp H; obtain ⟨t268, A330, H⟩ := H
        replace H : (if t268 = true then (some 8) else (copseref04_Valid.l2 k3 l0 ji31)) = some r := H
        have A33 := zA A330; clear A330
        by_cases c34 : t268 = true
        ·subst c34
         have H1 : (some 8) = some r := by rw [if_pos rfl] at H; exact H
         clear H; have H := H1; clear H1; obtain rfl := Option.some.inj H
         try go_wp2
         have n0_ := zA (zD HB.out)
         clear HB; have HB := n0_; clear n0_
         have p266 : 0 ≤ (x5_3 : Int) := zO (by first | (with_reducible assumption) | assumption)
         have q266 : x5_3 < (l0.length : Int) := zO (by first | (with_reducible assumption) | assumption)
         obtain ⟨ad266, e266, hx266_0, hx266_1, hx266_2, hx266_3⟩ := at_T45 HR0.out x5_3 p266 q266
         have hw266_3 := hx266_3; have hw266_2 := hx266_2; have hw266_1 := hx266_1; have hw266_0 := hx266_0
         cases e266
         replace hx266_0 := (HB.out.cell (zB w _ hx266_0)).trans hx266_0
         replace hx266_1 := (HB.out.cell (zB w _ hx266_1)).trans hx266_1
         replace hx266_2 := (HB.out.cell (zB w _ hx266_2)).trans hx266_2
         replace hx266_3 := (HB.out.cell (zB w _ hx266_3)).trans hx266_3
         replace p266 := eq_true p266
         replace q266 := eq_true q266
         have p267 : 0 ≤ ((ji31) : Int) := zO (by first | (with_reducible assumption) | assumption)
         have q267 : (ji31) < (l0.length : Int) := zO (by first | (with_reducible assumption) | assumption)
         obtain ⟨ad267, e267, hx267_0, hx267_1, hx267_2, hx267_3⟩ := at_T45 HR0.out (ji31) p267 q267
         have hw267_3 := hx267_3; have hw267_2 := hx267_2; have hw267_1 := hx267_1; have hw267_0 := hx267_0
         obtain rfl : ad266 = ad267 := (by injection e267)
         replace hx267_0 := (HB.out.cell (zB w _ hx267_0)).trans hx267_0
         replace hx267_1 := (HB.out.cell (zB w _ hx267_1)).trans hx267_1
         replace hx267_2 := (HB.out.cell (zB w _ hx267_2)).trans hx267_2
         replace hx267_3 := (HB.out.cell (zB w _ hx267_3)).trans hx267_3
         replace p267 := eq_true p267
         replace q267 := eq_true q267
         refine start_ (n := 12) (S := fun w' => w'.cell? (ad266.add ((x5_3).toNat * 4)) = some (.string ((rd_T45 l0 x5_3).f0)) ∧ w'.cell? ⟨(ad266.add ((x5_3).toNat * 4)).block, (ad266.add ((x5_3).toNat * 4)).off + 1, none⟩ = some (.string ((rd_T45 l0 x5_3).f1)) ∧ w'.cell? ⟨(ad266.add ((x5_3).toNat * 4)).block, (ad266.add ((x5_3).toNat * 4)).off + 2, none⟩ = some (.int .i64 ((rd_T45 l0 x5_3).f2)) ∧ w'.cell? ⟨(ad266.add ((x5_3).toNat * 4)).block, (ad266.add ((x5_3).toNat * 4)).off + 3, none⟩ = some (.int .i64 ((rd_T45 l0 x5_3).f3)) ∧ w'.cell? (ad266.add (((ji31)).toNat * 4)) = some (.string ((rd_T45 l0 (ji31)).f0)) ∧ w'.cell? ⟨(ad266.add (((ji31)).toNat * 4)).block, (ad266.add (((ji31)).toNat * 4)).off + 1, none⟩ = some (.string ((rd_T45 l0 (ji31)).f1)) ∧ w'.cell? ⟨(ad266.add (((ji31)).toNat * 4)).block, (ad266.add (((ji31)).toNat * 4)).off + 2, none⟩ = some (.int .i64 ((rd_T45 l0 (ji31)).f2)) ∧ w'.cell? ⟨(ad266.add (((ji31)).toNat * 4)).block, (ad266.add (((ji31)).toNat * 4)).off + 3, none⟩ = some (.int .i64 ((rd_T45 l0 (ji31)).f3))) (ds := []) #[F, F, F, F, F, F, F, F, F, F, F, F] (by kernel_rfl) rfl rfl ⟨((HB.out.cell (zB w _ hw266_0)).trans hw266_0), ((HB.out.cell (zB w _ hw266_1)).trans hw266_1), ((HB.out.cell (zB w _ hw266_2)).trans hw266_2), ((HB.out.cell (zB w _ hw266_3)).trans hw266_3), ((HB.out.cell (zB w _ hw267_0)).trans hw267_0), ((HB.out.cell (zB w _ hw267_1)).trans hw267_1), ((HB.out.cell (zB w _ hw267_2)).trans hw267_2), ((HB.out.cell (zB w _ hw267_3)).trans hw267_3)⟩ (fun hHeld => ?_); refine with_tabW copseref04_Valid.tab18 copseref04_Valid.bits18 (fun HT_ HW_ => ?_)
         generalize wr.drew = w35 at HB hx266_0 hx266_1 hx266_2 hx266_3 hx267_0 hx267_1 hx267_2 hx267_3 hHeld ⊢
         refine pure_ (i := 0) (N := some 57) (v := ?_) (a' := ?_) #[T, F, F, F, F, F, F, F, F, F, F, F] rfl rfl (any_of HT_.out (by kernel_rfl)) (fun _ _ _ h => h) (Or.inl ⟨by rfl, ?_⟩) ?_ ?_
         rotate_left
         ·intro w'; go_simp; with_reducible rfl
         rotate_left
         ·simp only [Act.put, zS, zZ, zC, i64_w, i32_w]
          rfl
         refine pure_ (i := 1) (N := some 58) (v := ?_) (a' := ?_) #[T, T, F, F, F, F, F, F, F, F, F, F] rfl rfl (any_of HT_.out (by kernel_rfl)) (fun _ _ _ h => h) (Or.inl ⟨by rfl, ?_⟩) ?_ ?_
         rotate_left
         ·intro w'; go_simp; with_reducible rfl
         rotate_left
         ·simp only [Act.put, zS, zZ, zC, i64_w, i32_w]
          rfl
         refine pure_ (i := 2) (N := some 59) (v := ?_) (a' := ?_) #[T, T, T, F, F, F, F, F, F, F, F, F] rfl rfl (any_of HT_.out (by kernel_rfl)) (fun _ _ _ h => h) (Or.inl ⟨by rfl, ?_⟩) ?_ ?_
         rotate_left
         ·intro w'; go_simp; with_reducible rfl
         rotate_left
         ·simp only [Act.put, zS, zZ, zC, i64_w, i32_w]
          rfl
         refine pure_ (i := 3) (N := some 60) (v := ?_) (a' := ?_) #[T, T, T, T, F, F, F, F, F, F, F, F] rfl rfl (any_of HT_.out (by kernel_rfl)) (fun _ _ _ h => h) (Or.inl ⟨by rfl, ?_⟩) ?_ ?_
         rotate_left
         ·intro w'; go_simp; with_reducible rfl
         rotate_left
         ·simp only [Act.put, zS, zZ, zC, i64_w, i32_w]
          rfl
         refine pure_ (i := 5) (N := some 62) (v := ?_) (a' := ?_) #[T, T, T, T, F, T, F, F, F, F, F, F] rfl rfl (any_of HT_.out (by kernel_rfl)) (fun _ _ _ h => h) (Or.inl ⟨by rfl, ?_⟩) ?_ ?_
         rotate_left
         ·intro w'; go_simp; with_reducible rfl
         rotate_left
         ·simp only [Act.put, zS, zZ, zC, i64_w, i32_w]
          rfl
         refine pure_ (i := 6) (N := some 63) (v := ?_) (a' := ?_) #[T, T, T, T, F, T, T, F, F, F, F, F] rfl rfl (any_of HT_.out (by kernel_rfl)) (fun _ _ _ h => h) (Or.inl ⟨by rfl, ?_⟩) ?_ ?_
         rotate_left
         ·intro w'; go_simp; with_reducible rfl
         rotate_left
         ·simp only [Act.put, zS, zZ, zC, i64_w, i32_w]
          rfl
         refine pure_ (i := 7) (N := some 64) (v := ?_) (a' := ?_) #[T, T, T, T, F, T, T, T, F, F, F, F] rfl rfl (any_of HT_.out (by kernel_rfl)) (fun _ _ _ h => h) (Or.inl ⟨by rfl, ?_⟩) ?_ ?_
         rotate_left
         ·intro w'; go_simp; with_reducible rfl
         rotate_left
         ·simp only [Act.put, zS, zZ, zC, i64_w, i32_w]
          rfl
         refine pure_ (i := 8) (N := some 65) (v := ?_) (a' := ?_) #[T, T, T, T, F, T, T, T, T, F, F, F] rfl rfl (any_of HT_.out (by kernel_rfl)) (fun _ _ _ h => h) (Or.inl ⟨by rfl, ?_⟩) ?_ ?_
         rotate_left
         ·intro w'; go_simp; with_reducible rfl
         rotate_left
         ·simp only [Act.put, zS, zZ, zC, i64_w, i32_w]
          rfl
         refine pure_ (i := 9) (N := some 66) (v := ?_) (a' := ?_) #[T, T, T, T, F, T, T, T, T, T, F, F] rfl rfl (any_of HT_.out (by kernel_rfl)) (fun _ _ _ h => h) (Or.inl ⟨by rfl, ?_⟩) ?_ ?_
         rotate_left
         ·intro w'; go_simp; with_reducible rfl
         rotate_left
         ·simp only [Act.put, zS, zZ, zC, i64_w, i32_w]
          rfl
         refine take_ (i := 4) (N := some 61) (v := ?_) (a' := ?_) #[T, T, T, T, T, T, T, T, T, T, F, F] rfl rfl (take_ofW HT_.out HW_.out (by kernel_rfl)) (fun _ _ _ h => h) (Or.inl ⟨by rfl, ?_⟩) hHeld ?_ ?_
         rotate_left
         ·rintro w' ⟨s0, s1, s2, s3, s4, s5, s6, s7⟩
          go_simp; with_reducible rfl
         rotate_left
         ·simp only [Act.put, zS, zZ, zC, i64_w, i32_w]
          rfl
         refine take_ (i := 10) (N := some 67) (v := ?_) (a' := ?_) #[T, T, T, T, T, T, T, T, T, T, T, F] rfl rfl (take_ofW HT_.out HW_.out (by kernel_rfl)) (fun _ _ _ h => h) (Or.inl ⟨by rfl, ?_⟩) hHeld ?_ ?_
         rotate_left
         ·rintro w' ⟨s0, s1, s2, s3, s4, s5, s6, s7⟩
          go_simp; with_reducible rfl
         rotate_left
         ·simp only [Act.put, zS, zZ, zC, i64_w, i32_w]
          rfl
         refine one_ (i := 11) (N := some 68) #[T, T, T, T, T, T, T, T, T, T, T, T] rfl rfl (one_of HT_.out (by kernel_rfl)) (by decide) (fun K hK => ?_)
         refine goes_ Tryd.func31 (by kernel_rfl) rfl #[.string ((rd_T45 l0 x5_3).f0), .string ((rd_T45 l0 (ji31)).f0)] (by rfl) rfl rfl (by (try simp only [List.map_toArray, List.map_cons, List.map_nil]); first | done | (simp only [hji31]; rfl) | rfl | (simp only [List.length_drop, List.length_take]; rfl)) ?_
         with_reducible refine (copseref02_Above.calls k3 ((rd_T45 l0 x5_3).f0) ((rd_T45 l0 (ji31)).f0) true _ A33.out).mono ?_
         rintro e w36 ⟨rfl, hb⟩
         refine ⟨_, rfl, ?_⟩
         have n0_ := zA (below_step (by repeat (first | (with_reducible first | exact HB.out | apply zL | apply zN | apply zD) | exact HB.out)) hb)
         clear HB; have HB := n0_; clear n0_
         (try clear hb)
         (try clear hb2)
         (try clear hk)
         (try clear hi)
         refine hK.out _ _ ⟨((HB.out.cell (zB w _ hw266_0)).trans hw266_0), ((HB.out.cell (zB w _ hw266_1)).trans hw266_1), ((HB.out.cell (zB w _ hw266_2)).trans hw266_2), ((HB.out.cell (zB w _ hw266_3)).trans hw266_3), ((HB.out.cell (zB w _ hw267_0)).trans hw267_0), ((HB.out.cell (zB w _ hw267_1)).trans hw267_1), ((HB.out.cell (zB w _ hw267_2)).trans hw267_2), ((HB.out.cell (zB w _ hw267_3)).trans hw267_3)⟩ (fun hHeld => ?_)
         clear hK K
         refine norm_ (a' := ?_) ?_ ?_
         rotate_left
         ·show Act.put _ (some 68) _ = _
          simp only [Act.put, zS, zZ, zC, i64_w, i32_w]
          rfl
         refine done_ (done_of HT_.out (by kernel_rfl)) ?_
         try go_wp2
         go_ret
         exact ⟨by first | rfl | (simp [errW_none, errW_some] <;> rfl) | (simp only [← hji31]; first | rfl | (simp [errW_none, errW_some] <;> rfl)) | (simp [*, errW_none, errW_some] <;> rfl), by repeat (first | (with_reducible first | exact HB.out | apply zL | apply zN | apply zD) | exact HB.out)⟩
        replace c34 := Bool.eq_false_iff.mpr c34
        subst c34
        have H1 : (copseref04_Valid.l2 k3 l0 ji31) = some r := by rw [if_neg (show ¬ (false = true) by decide)] at H; exact H
        clear H; have H := H1; clear H1
        have H' := zA H
        clear H
        try go_wp2
        have n0_ := zA (zD HB.out)
        clear HB; have HB := n0_; clear n0_
        have p266 : 0 ≤ (x5_3 : Int) := zO (by first | (with_reducible assumption) | assumption)
        have q266 : x5_3 < (l0.length : Int) := zO (by first | (with_reducible assumption) | assumption)
        obtain ⟨ad266, e266, hx266_0, hx266_1, hx266_2, hx266_3⟩ := at_T45 HR0.out x5_3 p266 q266
        have hw266_3 := hx266_3; have hw266_2 := hx266_2; have hw266_1 := hx266_1; have hw266_0 := hx266_0
        cases e266
        replace hx266_0 := (HB.out.cell (zB w _ hx266_0)).trans hx266_0
        replace hx266_1 := (HB.out.cell (zB w _ hx266_1)).trans hx266_1
        replace hx266_2 := (HB.out.cell (zB w _ hx266_2)).trans hx266_2
        replace hx266_3 := (HB.out.cell (zB w _ hx266_3)).trans hx266_3
        replace p266 := eq_true p266
        replace q266 := eq_true q266
        have p267 : 0 ≤ ((ji31) : Int) := zO (by first | (with_reducible assumption) | assumption)
        have q267 : (ji31) < (l0.length : Int) := zO (by first | (with_reducible assumption) | assumption)
        obtain ⟨ad267, e267, hx267_0, hx267_1, hx267_2, hx267_3⟩ := at_T45 HR0.out (ji31) p267 q267
        have hw267_3 := hx267_3; have hw267_2 := hx267_2; have hw267_1 := hx267_1; have hw267_0 := hx267_0
        obtain rfl : ad266 = ad267 := (by injection e267)
        replace hx267_0 := (HB.out.cell (zB w _ hx267_0)).trans hx267_0
        replace hx267_1 := (HB.out.cell (zB w _ hx267_1)).trans hx267_1
        replace hx267_2 := (HB.out.cell (zB w _ hx267_2)).trans hx267_2
        replace hx267_3 := (HB.out.cell (zB w _ hx267_3)).trans hx267_3
        replace p267 := eq_true p267
        replace q267 := eq_true q267
        refine start_ (n := 12) (S := fun w' => w'.cell? (ad266.add ((x5_3).toNat * 4)) = some (.string ((rd_T45 l0 x5_3).f0)) ∧ w'.cell? ⟨(ad266.add ((x5_3).toNat * 4)).block, (ad266.add ((x5_3).toNat * 4)).off + 1, none⟩ = some (.string ((rd_T45 l0 x5_3).f1)) ∧ w'.cell? ⟨(ad266.add ((x5_3).toNat * 4)).block, (ad266.add ((x5_3).toNat * 4)).off + 2, none⟩ = some (.int .i64 ((rd_T45 l0 x5_3).f2)) ∧ w'.cell? ⟨(ad266.add ((x5_3).toNat * 4)).block, (ad266.add ((x5_3).toNat * 4)).off + 3, none⟩ = some (.int .i64 ((rd_T45 l0 x5_3).f3)) ∧ w'.cell? (ad266.add (((ji31)).toNat * 4)) = some (.string ((rd_T45 l0 (ji31)).f0)) ∧ w'.cell? ⟨(ad266.add (((ji31)).toNat * 4)).block, (ad266.add (((ji31)).toNat * 4)).off + 1, none⟩ = some (.string ((rd_T45 l0 (ji31)).f1)) ∧ w'.cell? ⟨(ad266.add (((ji31)).toNat * 4)).block, (ad266.add (((ji31)).toNat * 4)).off + 2, none⟩ = some (.int .i64 ((rd_T45 l0 (ji31)).f2)) ∧ w'.cell? ⟨(ad266.add (((ji31)).toNat * 4)).block, (ad266.add (((ji31)).toNat * 4)).off + 3, none⟩ = some (.int .i64 ((rd_T45 l0 (ji31)).f3))) (ds := []) #[F, F, F, F, F, F, F, F, F, F, F, F] (by kernel_rfl) rfl rfl ⟨((HB.out.cell (zB w _ hw266_0)).trans hw266_0), ((HB.out.cell (zB w _ hw266_1)).trans hw266_1), ((HB.out.cell (zB w _ hw266_2)).trans hw266_2), ((HB.out.cell (zB w _ hw266_3)).trans hw266_3), ((HB.out.cell (zB w _ hw267_0)).trans hw267_0), ((HB.out.cell (zB w _ hw267_1)).trans hw267_1), ((HB.out.cell (zB w _ hw267_2)).trans hw267_2), ((HB.out.cell (zB w _ hw267_3)).trans hw267_3)⟩ (fun hHeld => ?_); refine with_tabW copseref04_Valid.tab18 copseref04_Valid.bits18 (fun HT_ HW_ => ?_)
        generalize wr.drew = w37 at HB hx266_0 hx266_1 hx266_2 hx266_3 hx267_0 hx267_1 hx267_2 hx267_3 hHeld ⊢
        refine pure_ (i := 0) (N := some 57) (v := ?_) (a' := ?_) #[T, F, F, F, F, F, F, F, F, F, F, F] rfl rfl (any_of HT_.out (by kernel_rfl)) (fun _ _ _ h => h) (Or.inl ⟨by rfl, ?_⟩) ?_ ?_
        rotate_left
        ·intro w'; go_simp; with_reducible rfl
        rotate_left
        ·simp only [Act.put, zS, zZ, zC, i64_w, i32_w]
         rfl
        refine pure_ (i := 1) (N := some 58) (v := ?_) (a' := ?_) #[T, T, F, F, F, F, F, F, F, F, F, F] rfl rfl (any_of HT_.out (by kernel_rfl)) (fun _ _ _ h => h) (Or.inl ⟨by rfl, ?_⟩) ?_ ?_
        rotate_left
        ·intro w'; go_simp; with_reducible rfl
        rotate_left
        ·simp only [Act.put, zS, zZ, zC, i64_w, i32_w]
         rfl
        refine pure_ (i := 2) (N := some 59) (v := ?_) (a' := ?_) #[T, T, T, F, F, F, F, F, F, F, F, F] rfl rfl (any_of HT_.out (by kernel_rfl)) (fun _ _ _ h => h) (Or.inl ⟨by rfl, ?_⟩) ?_ ?_
        rotate_left
        ·intro w'; go_simp; with_reducible rfl
        rotate_left
        ·simp only [Act.put, zS, zZ, zC, i64_w, i32_w]
         rfl
        refine pure_ (i := 3) (N := some 60) (v := ?_) (a' := ?_) #[T, T, T, T, F, F, F, F, F, F, F, F] rfl rfl (any_of HT_.out (by kernel_rfl)) (fun _ _ _ h => h) (Or.inl ⟨by rfl, ?_⟩) ?_ ?_
        rotate_left
        ·intro w'; go_simp; with_reducible rfl
        rotate_left
        ·simp only [Act.put, zS, zZ, zC, i64_w, i32_w]
         rfl
        refine pure_ (i := 5) (N := some 62) (v := ?_) (a' := ?_) #[T, T, T, T, F, T, F, F, F, F, F, F] rfl rfl (any_of HT_.out (by kernel_rfl)) (fun _ _ _ h => h) (Or.inl ⟨by rfl, ?_⟩) ?_ ?_
        rotate_left
        ·intro w'; go_simp; with_reducible rfl
        rotate_left
        ·simp only [Act.put, zS, zZ, zC, i64_w, i32_w]
         rfl
        refine pure_ (i := 6) (N := some 63) (v := ?_) (a' := ?_) #[T, T, T, T, F, T, T, F, F, F, F, F] rfl rfl (any_of HT_.out (by kernel_rfl)) (fun _ _ _ h => h) (Or.inl ⟨by rfl, ?_⟩) ?_ ?_
        rotate_left
        ·intro w'; go_simp; with_reducible rfl
        rotate_left
        ·simp only [Act.put, zS, zZ, zC, i64_w, i32_w]
         rfl
        refine pure_ (i := 7) (N := some 64) (v := ?_) (a' := ?_) #[T, T, T, T, F, T, T, T, F, F, F, F] rfl rfl (any_of HT_.out (by kernel_rfl)) (fun _ _ _ h => h) (Or.inl ⟨by rfl, ?_⟩) ?_ ?_
        rotate_left
        ·intro w'; go_simp; with_reducible rfl
        rotate_left
        ·simp only [Act.put, zS, zZ, zC, i64_w, i32_w]
         rfl
        refine pure_ (i := 8) (N := some 65) (v := ?_) (a' := ?_) #[T, T, T, T, F, T, T, T, T, F, F, F] rfl rfl (any_of HT_.out (by kernel_rfl)) (fun _ _ _ h => h) (Or.inl ⟨by rfl, ?_⟩) ?_ ?_
        rotate_left
        ·intro w'; go_simp; with_reducible rfl
        rotate_left
        ·simp only [Act.put, zS, zZ, zC, i64_w, i32_w]
         rfl
        refine pure_ (i := 9) (N := some 66) (v := ?_) (a' := ?_) #[T, T, T, T, F, T, T, T, T, T, F, F] rfl rfl (any_of HT_.out (by kernel_rfl)) (fun _ _ _ h => h) (Or.inl ⟨by rfl, ?_⟩) ?_ ?_
        rotate_left
        ·intro w'; go_simp; with_reducible rfl
        rotate_left
        ·simp only [Act.put, zS, zZ, zC, i64_w, i32_w]
         rfl
        refine take_ (i := 4) (N := some 61) (v := ?_) (a' := ?_) #[T, T, T, T, T, T, T, T, T, T, F, F] rfl rfl (take_ofW HT_.out HW_.out (by kernel_rfl)) (fun _ _ _ h => h) (Or.inl ⟨by rfl, ?_⟩) hHeld ?_ ?_
        rotate_left
        ·rintro w' ⟨s0, s1, s2, s3, s4, s5, s6, s7⟩
         go_simp; with_reducible rfl
        rotate_left
        ·simp only [Act.put, zS, zZ, zC, i64_w, i32_w]
         rfl
        refine take_ (i := 10) (N := some 67) (v := ?_) (a' := ?_) #[T, T, T, T, T, T, T, T, T, T, T, F] rfl rfl (take_ofW HT_.out HW_.out (by kernel_rfl)) (fun _ _ _ h => h) (Or.inl ⟨by rfl, ?_⟩) hHeld ?_ ?_
        rotate_left
        ·rintro w' ⟨s0, s1, s2, s3, s4, s5, s6, s7⟩
         go_simp; with_reducible rfl
        rotate_left
        ·simp only [Act.put, zS, zZ, zC, i64_w, i32_w]
         rfl
        refine one_ (i := 11) (N := some 68) #[T, T, T, T, T, T, T, T, T, T, T, T] rfl rfl (one_of HT_.out (by kernel_rfl)) (by decide) (fun K hK => ?_)
        refine goes_ Tryd.func31 (by kernel_rfl) rfl #[.string ((rd_T45 l0 x5_3).f0), .string ((rd_T45 l0 (ji31)).f0)] (by rfl) rfl rfl (by (try simp only [List.map_toArray, List.map_cons, List.map_nil]); first | done | (simp only [hji31]; rfl) | rfl | (simp only [List.length_drop, List.length_take]; rfl)) ?_
        with_reducible refine (copseref02_Above.calls k3 ((rd_T45 l0 x5_3).f0) ((rd_T45 l0 (ji31)).f0) false _ A33.out).mono ?_
        rintro e w38 ⟨rfl, hb⟩
        refine ⟨_, rfl, ?_⟩
        have n0_ := zA (below_step (by repeat (first | (with_reducible first | exact HB.out | apply zL | apply zN | apply zD) | exact HB.out)) hb)
        clear HB; have HB := n0_; clear n0_
        (try clear hb)
        (try clear hb2)
        (try clear hk)
        (try clear hi)
        refine hK.out _ _ ⟨((HB.out.cell (zB w _ hw266_0)).trans hw266_0), ((HB.out.cell (zB w _ hw266_1)).trans hw266_1), ((HB.out.cell (zB w _ hw266_2)).trans hw266_2), ((HB.out.cell (zB w _ hw266_3)).trans hw266_3), ((HB.out.cell (zB w _ hw267_0)).trans hw267_0), ((HB.out.cell (zB w _ hw267_1)).trans hw267_1), ((HB.out.cell (zB w _ hw267_2)).trans hw267_2), ((HB.out.cell (zB w _ hw267_3)).trans hw267_3)⟩ (fun hHeld => ?_)
        clear hK K
        refine norm_ (a' := ?_) ?_ ?_
        rotate_left
        ·show Act.put _ (some 68) _ = _
         simp only [Act.put, zS, zZ, zC, i64_w, i32_w]
         rfl
        refine done_ (done_of HT_.out (by kernel_rfl)) ?_
        try go_wp2
        go_roundg k3
        case measure => have := HK1.out; have := HK2.out; have := HK3.out; omega
        case rel => exact ⟨(ji31), (by first | rfl | (simp; done) | (simp only [← hji31] <;> (first | rfl | simp)) | (simp [*]; done)), H', ⟨by have := HK1.out; have := HK2.out; have := HK3.out; omega⟩, ⟨by repeat (first | (with_reducible first | exact HB.out | apply zL | apply zN | apply zD) | exact HB.out)⟩⟩
     rw [if_pos c9] at H
     have c9b0 : decide (x4_2 < (l0.length : Int)) = true := decide_eq_true c9
     clear c9
     by_cases c10 : 0 ≤ x4_2
     rotate_left
     ·rw [if_neg c10] at H
      exact absurd H (by simp)
     rw [if_pos c10] at H
     have c10b0 : decide (0 ≤ x4_2) = true := decide_eq_true c10
     clear c10; replace H := Option.bind_eq_some_iff.mp H; obtain ⟨t262, A110, H⟩ := H
     replace H : (if t262 = 0 then (if x4_2 > 0 then (if 0 ≤ (wrap64 (x4_2 - 1)) then (if (wrap64 (x4_2 - 1)) < (l0.length : Int) then ((copseref02_Cmp.f k2 ((rd_T45 l0 (wrap64 (x4_2 - 1))).f0) ((rd_T45 l0 x4_2).f0)).bind fun t265 => (if t265 ≥ 0 then (some 8) else (copseref04_Valid.l1 k2 l0 (wrap64 (x4_2 + 1))))) else (none)) else (none)) else (copseref04_Valid.l1 k2 l0 (wrap64 (x4_2 + 1)))) else (some 8)) = some r := H
     have A11 := zA A110; clear A110
     by_cases c12 : t262 = 0
     rotate_left
     ·rw [if_neg c12] at H
      have c12b0 : (t262 == 0) = false := beq_eq_false_iff_ne.mpr c12
      have c12b1 : (t262 != 0) = true := bne_iff_ne.mpr c12
      obtain rfl := Option.some.inj H
      have p261 : 0 ≤ (x4_2 : Int) := zO (by first | (with_reducible assumption) | assumption)
      have q261 : x4_2 < (l0.length : Int) := zO (by first | (with_reducible assumption) | assumption)
      obtain ⟨ad261, e261, hx261_0, hx261_1, hx261_2, hx261_3⟩ := at_T45 HR0.out x4_2 p261 q261
      cases e261
      replace hx261_0 := (HB.out.cell (zB w _ hx261_0)).trans hx261_0
      replace hx261_1 := (HB.out.cell (zB w _ hx261_1)).trans hx261_1
      replace hx261_2 := (HB.out.cell (zB w _ hx261_2)).trans hx261_2
      replace hx261_3 := (HB.out.cell (zB w _ hx261_3)).trans hx261_3
      replace p261 := eq_true p261
      replace q261 := eq_true q261
      go_wp2_with (first | ((with_reducible refine gate_callee (f := 72) rfl ?_); refine goesL_ (some 31) rfl rfl Tryd.func72 (by kernel_rfl) rfl #[.agg #[.string ((rd_T45 l0 x4_2).f0), .string ((rd_T45 l0 x4_2).f1), .int .i64 ((rd_T45 l0 x4_2).f2), .int .i64 ((rd_T45 l0 x4_2).f3)]] rfl (by (try simp only [List.map_toArray, List.map_cons, List.map_nil]); first | done | rfl | (simp only [List.length_drop, List.length_take]; rfl)) ?_; (with_reducible refine (copseref04_File.calls k2 ((rd_T45 l0 x4_2).f0) ((rd_T45 l0 x4_2).f1) ((rd_T45 l0 x4_2).f2) ((rd_T45 l0 x4_2).f3) t262 _ A11.out).mono ?_); rintro e w27 ⟨rfl, hb⟩; refine ⟨_, rfl, ?_⟩; have n0_ := zA (below_step (by repeat (first | (with_reducible first | exact HB.out | apply zL | apply zN | apply zD) | exact HB.out)) hb); clear HB; have HB := n0_; clear n0_; (try clear hb); (try clear hb2); (try clear hk); (try clear hi)))
      go_ret
      exact ⟨by first | rfl | (simp [errW_none, errW_some] <;> rfl) | (simp [*, errW_none, errW_some] <;> rfl), by repeat (first | (with_reducible first | exact HB.out | apply zL | apply zN | apply zD) | exact HB.out)⟩
     rw [if_pos c12] at H
     have c12b0 : (t262 == 0) = true := beq_iff_eq.mpr c12
     have c12b1 : (t262 != 0) = false := bne_eq_false_iff_eq.mpr c12
     clear c12
     by_cases c13 : x4_2 > 0
     rotate_left
     ·rw [if_neg c13] at H
      have c13b0 : decide (0 < x4_2) = false := decide_eq_false c13
      clear c13
      have H' := zA H
      clear H
      have p261 : 0 ≤ (x4_2 : Int) := zO (by first | (with_reducible assumption) | assumption)
      have q261 : x4_2 < (l0.length : Int) := zO (by first | (with_reducible assumption) | assumption)
      obtain ⟨ad261, e261, hx261_0, hx261_1, hx261_2, hx261_3⟩ := at_T45 HR0.out x4_2 p261 q261
      cases e261
      replace hx261_0 := (HB.out.cell (zB w _ hx261_0)).trans hx261_0
      replace hx261_1 := (HB.out.cell (zB w _ hx261_1)).trans hx261_1
      replace hx261_2 := (HB.out.cell (zB w _ hx261_2)).trans hx261_2
      replace hx261_3 := (HB.out.cell (zB w _ hx261_3)).trans hx261_3
      replace p261 := eq_true p261
      replace q261 := eq_true q261
      try go_wp2_with (first | ((with_reducible refine gate_callee (f := 72) rfl ?_); refine goesL_ (some 31) rfl rfl Tryd.func72 (by kernel_rfl) rfl #[.agg #[.string ((rd_T45 l0 x4_2).f0), .string ((rd_T45 l0 x4_2).f1), .int .i64 ((rd_T45 l0 x4_2).f2), .int .i64 ((rd_T45 l0 x4_2).f3)]] rfl (by (try simp only [List.map_toArray, List.map_cons, List.map_nil]); first | done | rfl | (simp only [List.length_drop, List.length_take]; rfl)) ?_; (with_reducible refine (copseref04_File.calls k2 ((rd_T45 l0 x4_2).f0) ((rd_T45 l0 x4_2).f1) ((rd_T45 l0 x4_2).f2) ((rd_T45 l0 x4_2).f3) t262 _ A11.out).mono ?_); rintro e w25 ⟨rfl, hb⟩; refine ⟨_, rfl, ?_⟩; have n0_ := zA (below_step (by repeat (first | (with_reducible first | exact HB.out | apply zL | apply zN | apply zD) | exact HB.out)) hb); clear HB; have HB := n0_; clear n0_; (try clear hb); (try clear hb2); (try clear hk); (try clear hi)))
      have n0_ := zA (zD HB.out)
      clear HB; have HB := n0_; clear n0_
      refine start_ (n := 17) (S := fun w' => True) (ds := []) #[F, F, F, F, F, F, F, F, F, F, F, F, F, F, F, F, F] (by kernel_rfl) rfl rfl trivial (fun hHeld => ?_); refine with_tabW copseref04_Valid.tab13 copseref04_Valid.bits13 (fun HT_ HW_ => ?_)
      generalize w25.drew = w26 at HB hHeld ⊢
      refine pure_ (i := 0) (N := some 33) (v := ?_) (a' := ?_) #[T, F, F, F, F, F, F, F, F, F, F, F, F, F, F, F, F] rfl rfl (any_of HT_.out (by kernel_rfl)) (fun _ _ _ h => h) (Or.inl ⟨by rfl, ?_⟩) ?_ ?_
      rotate_left
      ·intro w'; go_simp; with_reducible rfl
      rotate_left
      ·simp only [Act.put, zS, zZ, zC, i64_w, i32_w]
       rfl
      refine pure_ (i := 1) (N := some 34) (v := ?_) (a' := ?_) #[T, T, F, F, F, F, F, F, F, F, F, F, F, F, F, F, F] rfl rfl (any_of HT_.out (by kernel_rfl)) (fun _ _ _ h => h) (Or.inl ⟨by rfl, ?_⟩) ?_ ?_
      rotate_left
      ·intro w'; go_simp; with_reducible rfl
      rotate_left
      ·simp only [Act.put, zS, zZ, zC, i64_w, i32_w]
       rfl
      refine pure_ (i := 2) (N := some 35) (v := ?_) (a' := ?_) #[T, T, T, F, F, F, F, F, F, F, F, F, F, F, F, F, F] rfl rfl (any_of HT_.out (by kernel_rfl)) (fun _ _ _ h => h) (Or.inl ⟨by rfl, ?_⟩) ?_ ?_
      rotate_left
      ·intro w'; go_simp; with_reducible rfl
      rotate_left
      ·simp only [Act.put, zS, zZ, zC, i64_w, i32_w]
       rfl
      refine pure_ (i := 3) (N := some 36) (v := undef) (a' := ?_) #[T, T, T, T, F, F, F, F, F, F, F, F, F, F, F, F, F] rfl rfl (any_of HT_.out (by kernel_rfl)) (fun _ _ _ h => h) (Or.inr ⟨by rfl, rfl⟩) ?_ ?_
      rotate_left
      ·simp only [Act.put, zS, zZ, zC, i64_w, i32_w]
       rfl
      refine pure_ (i := 4) (N := some 37) (v := undef) (a' := ?_) #[T, T, T, T, T, F, F, F, F, F, F, F, F, F, F, F, F] rfl rfl (any_of HT_.out (by kernel_rfl)) (fun _ _ _ h => h) (Or.inr ⟨by rfl, rfl⟩) ?_ ?_
      rotate_left
      ·simp only [Act.put, zS, zZ, zC, i64_w, i32_w]
       rfl
      refine pure_ (i := 5) (N := some 38) (v := undef) (a' := ?_) #[T, T, T, T, T, T, F, F, F, F, F, F, F, F, F, F, F] rfl rfl (any_of HT_.out (by kernel_rfl)) (fun _ _ _ h => h) (Or.inr ⟨by rfl, rfl⟩) ?_ ?_
      rotate_left
      ·simp only [Act.put, zS, zZ, zC, i64_w, i32_w]
       rfl
      refine pure_ (i := 6) (N := some 39) (v := undef) (a' := ?_) #[T, T, T, T, T, T, T, F, F, F, F, F, F, F, F, F, F] rfl rfl (any_of HT_.out (by kernel_rfl)) (fun _ _ _ h => h) (Or.inr ⟨by rfl, rfl⟩) ?_ ?_
      rotate_left
      ·simp only [Act.put, zS, zZ, zC, i64_w, i32_w]
       rfl
      refine pure_ (i := 7) (N := some 40) (v := undef) (a' := ?_) #[T, T, T, T, T, T, T, T, F, F, F, F, F, F, F, F, F] rfl rfl (any_of HT_.out (by kernel_rfl)) (fun _ _ _ h => h) (Or.inr ⟨by rfl, rfl⟩) ?_ ?_
      rotate_left
      ·simp only [Act.put, zS, zZ, zC, i64_w, i32_w]
       rfl
      refine pure_ (i := 8) (N := some 41) (v := undef) (a' := ?_) #[T, T, T, T, T, T, T, T, T, F, F, F, F, F, F, F, F] rfl rfl (any_of HT_.out (by kernel_rfl)) (fun _ _ _ h => h) (Or.inr ⟨by rfl, rfl⟩) ?_ ?_
      rotate_left
      ·simp only [Act.put, zS, zZ, zC, i64_w, i32_w]
       rfl
      refine pure_ (i := 9) (N := some 42) (v := undef) (a' := ?_) #[T, T, T, T, T, T, T, T, T, T, F, F, F, F, F, F, F] rfl rfl (any_of HT_.out (by kernel_rfl)) (fun _ _ _ h => h) (Or.inr ⟨by rfl, rfl⟩) ?_ ?_
      rotate_left
      ·simp only [Act.put, zS, zZ, zC, i64_w, i32_w]
       rfl
      refine pure_ (i := 10) (N := some 43) (v := undef) (a' := ?_) #[T, T, T, T, T, T, T, T, T, T, T, F, F, F, F, F, F] rfl rfl (any_of HT_.out (by kernel_rfl)) (fun _ _ _ h => h) (Or.inr ⟨by rfl, rfl⟩) ?_ ?_
      rotate_left
      ·simp only [Act.put, zS, zZ, zC, i64_w, i32_w]
       rfl
      refine pure_ (i := 11) (N := some 44) (v := undef) (a' := ?_) #[T, T, T, T, T, T, T, T, T, T, T, T, F, F, F, F, F] rfl rfl (any_of HT_.out (by kernel_rfl)) (fun _ _ _ h => h) (Or.inr ⟨by rfl, rfl⟩) ?_ ?_
      rotate_left
      ·simp only [Act.put, zS, zZ, zC, i64_w, i32_w]
       rfl
      refine pure_ (i := 12) (N := some 45) (v := undef) (a' := ?_) #[T, T, T, T, T, T, T, T, T, T, T, T, T, F, F, F, F] rfl rfl (any_of HT_.out (by kernel_rfl)) (fun _ _ _ h => h) (Or.inr ⟨by rfl, rfl⟩) ?_ ?_
      rotate_left
      ·simp only [Act.put, zS, zZ, zC, i64_w, i32_w]
       rfl
      refine pure_ (i := 13) (N := some 46) (v := undef) (a' := ?_) #[T, T, T, T, T, T, T, T, T, T, T, T, T, T, F, F, F] rfl rfl (any_of HT_.out (by kernel_rfl)) (fun _ _ _ h => h) (Or.inr ⟨by rfl, rfl⟩) ?_ ?_
      rotate_left
      ·simp only [Act.put, zS, zZ, zC, i64_w, i32_w]
       rfl
      refine pure_ (i := 14) (N := some 47) (v := undef) (a' := ?_) #[T, T, T, T, T, T, T, T, T, T, T, T, T, T, T, F, F] rfl rfl (any_of HT_.out (by kernel_rfl)) (fun _ _ _ h => h) (Or.inr ⟨by rfl, rfl⟩) ?_ ?_
      rotate_left
      ·simp only [Act.put, zS, zZ, zC, i64_w, i32_w]
       rfl
      refine pure_ (i := 15) (N := some 48) (v := undef) (a' := ?_) #[T, T, T, T, T, T, T, T, T, T, T, T, T, T, T, T, F] rfl rfl (any_of HT_.out (by kernel_rfl)) (fun _ _ _ h => h) (Or.inr ⟨by rfl, rfl⟩) ?_ ?_
      rotate_left
      ·simp only [Act.put, zS, zZ, zC, i64_w, i32_w]
       rfl
      refine pure_ (i := 16) (N := some 49) (v := ?_) (a' := ?_) #[T, T, T, T, T, T, T, T, T, T, T, T, T, T, T, T, T] rfl rfl (any_of HT_.out (by kernel_rfl)) (fun _ _ _ h => h) (Or.inl ⟨by rfl, ?_⟩) ?_ ?_
      rotate_left
      ·intro w'; go_simp; with_reducible rfl
      rotate_left
      ·simp only [Act.put, zS, zZ, zC, i64_w, i32_w]
       rfl
      refine done_ (done_of HT_.out (by kernel_rfl)) ?_
      try go_wp2
      go_roundg k2
      case measure => have := HK1.out; have := HK2.out; omega
      case rel => exact ⟨(wrap64 (x4_2 + 1)), (by first | rfl | (simp; done) | (simp [*]; done)), H', ⟨by have := HK1.out; have := HK2.out; omega⟩, ⟨by repeat (first | (with_reducible first | exact HB.out | apply zL | apply zN | apply zD) | exact HB.out)⟩⟩
     rw [if_pos c13] at H
     have c13b0 : decide (0 < x4_2) = true := decide_eq_true c13
     clear c13
     obtain ⟨ji14, hji14⟩ : ∃ j_ : Int, (wrap64 (x4_2 - 1)) = j_ := ⟨_, rfl⟩
     replace H : (if 0 ≤ (ji14) then (if (ji14) < (l0.length : Int) then ((copseref02_Cmp.f k2 ((rd_T45 l0 (ji14)).f0) ((rd_T45 l0 x4_2).f0)).bind fun t265 => (if t265 ≥ 0 then (some 8) else (copseref04_Valid.l1 k2 l0 (wrap64 (x4_2 + 1))))) else (none)) else (none)) = some r := by first | (rw [hji14] at H; exact H) | (simp only [hji14] at H ⊢; exact H)
     (try rw [hji14] at A11)
     have hji14w : (IntKind.i64.wrap (x4_2 - 1)) = ji14 := (i64_w _).trans hji14
     by_cases c15 : 0 ≤ (ji14)
     rotate_left
     ·rw [if_neg c15] at H
      exact absurd H (by simp)
     rw [if_pos c15] at H
     have c15b0 : decide (0 ≤ (ji14)) = true := decide_eq_true c15
     clear c15
     by_cases c16 : (ji14) < (l0.length : Int)
     rotate_left
     ·rw [if_neg c16] at H
      exact absurd H (by simp)
     rw [if_pos c16] at H
     have c16b0 : decide ((ji14) < (l0.length : Int)) = true := decide_eq_true c16
     clear c16; replace H := Option.bind_eq_some_iff.mp H; obtain ⟨t265, A170, H⟩ := H
     replace H : (if t265 ≥ 0 then (some 8) else (copseref04_Valid.l1 k2 l0 (wrap64 (x4_2 + 1)))) = some r := H
     have A17 := zA A170; clear A170
     by_cases c18 : t265 ≥ 0
     ·rw [if_pos c18] at H
      have c18b0 : decide (0 ≤ t265) = true := decide_eq_true c18
      clear c18; obtain rfl := Option.some.inj H
      have p261 : 0 ≤ (x4_2 : Int) := zO (by first | (with_reducible assumption) | assumption)
      have q261 : x4_2 < (l0.length : Int) := zO (by first | (with_reducible assumption) | assumption)
      obtain ⟨ad261, e261, hx261_0, hx261_1, hx261_2, hx261_3⟩ := at_T45 HR0.out x4_2 p261 q261
      cases e261
      replace hx261_0 := (HB.out.cell (zB w _ hx261_0)).trans hx261_0
      replace hx261_1 := (HB.out.cell (zB w _ hx261_1)).trans hx261_1
      replace hx261_2 := (HB.out.cell (zB w _ hx261_2)).trans hx261_2
      replace hx261_3 := (HB.out.cell (zB w _ hx261_3)).trans hx261_3
      replace p261 := eq_true p261
      replace q261 := eq_true q261
      try go_wp2_with (first | ((with_reducible refine gate_callee (f := 72) rfl ?_); refine goesL_ (some 31) rfl rfl Tryd.func72 (by kernel_rfl) rfl #[.agg #[.string ((rd_T45 l0 x4_2).f0), .string ((rd_T45 l0 x4_2).f1), .int .i64 ((rd_T45 l0 x4_2).f2), .int .i64 ((rd_T45 l0 x4_2).f3)]] rfl (by (try simp only [List.map_toArray, List.map_cons, List.map_nil]); first | done | rfl | (simp only [List.length_drop, List.length_take]; rfl)) ?_; (with_reducible refine (copseref04_File.calls k2 ((rd_T45 l0 x4_2).f0) ((rd_T45 l0 x4_2).f1) ((rd_T45 l0 x4_2).f2) ((rd_T45 l0 x4_2).f3) t262 _ A11.out).mono ?_); rintro e w19 ⟨rfl, hb⟩; refine ⟨_, rfl, ?_⟩; have n0_ := zA (below_step (by repeat (first | (with_reducible first | exact HB.out | apply zL | apply zN | apply zD) | exact HB.out)) hb); clear HB; have HB := n0_; clear n0_; (try clear hb); (try clear hb2); (try clear hk); (try clear hi)))
      have n0_ := zA (zD HB.out)
      clear HB; have HB := n0_; clear n0_
      have p263 : 0 ≤ ((ji14) : Int) := zO (by first | (with_reducible assumption) | assumption)
      have q263 : (ji14) < (l0.length : Int) := zO (by first | (with_reducible assumption) | assumption)
      obtain ⟨ad263, e263, hx263_0, hx263_1, hx263_2, hx263_3⟩ := at_T45 HR0.out (ji14) p263 q263
      have hw263_3 := hx263_3; have hw263_2 := hx263_2; have hw263_1 := hx263_1; have hw263_0 := hx263_0
      obtain rfl : ad261 = ad263 := (by injection e263)
      replace hx263_0 := (HB.out.cell (zB w _ hx263_0)).trans hx263_0
      replace hx263_1 := (HB.out.cell (zB w _ hx263_1)).trans hx263_1
      replace hx263_2 := (HB.out.cell (zB w _ hx263_2)).trans hx263_2
      replace hx263_3 := (HB.out.cell (zB w _ hx263_3)).trans hx263_3
      replace p263 := eq_true p263
      replace q263 := eq_true q263
      have p264 : 0 ≤ (x4_2 : Int) := zO (by first | (with_reducible assumption) | assumption)
      have q264 : x4_2 < (l0.length : Int) := zO (by first | (with_reducible assumption) | assumption)
      obtain ⟨ad264, e264, hx264_0, hx264_1, hx264_2, hx264_3⟩ := at_T45 HR0.out x4_2 p264 q264
      have hw264_3 := hx264_3; have hw264_2 := hx264_2; have hw264_1 := hx264_1; have hw264_0 := hx264_0
      obtain rfl : ad261 = ad264 := (by injection e264)
      replace hx264_0 := (HB.out.cell (zB w _ hx264_0)).trans hx264_0
      replace hx264_1 := (HB.out.cell (zB w _ hx264_1)).trans hx264_1
      replace hx264_2 := (HB.out.cell (zB w _ hx264_2)).trans hx264_2
      replace hx264_3 := (HB.out.cell (zB w _ hx264_3)).trans hx264_3
      replace p264 := eq_true p264
      replace q264 := eq_true q264
      refine start_ (n := 17) (S := fun w' => w'.cell? (ad261.add (((ji14)).toNat * 4)) = some (.string ((rd_T45 l0 (ji14)).f0)) ∧ w'.cell? ⟨(ad261.add (((ji14)).toNat * 4)).block, (ad261.add (((ji14)).toNat * 4)).off + 1, none⟩ = some (.string ((rd_T45 l0 (ji14)).f1)) ∧ w'.cell? ⟨(ad261.add (((ji14)).toNat * 4)).block, (ad261.add (((ji14)).toNat * 4)).off + 2, none⟩ = some (.int .i64 ((rd_T45 l0 (ji14)).f2)) ∧ w'.cell? ⟨(ad261.add (((ji14)).toNat * 4)).block, (ad261.add (((ji14)).toNat * 4)).off + 3, none⟩ = some (.int .i64 ((rd_T45 l0 (ji14)).f3)) ∧ w'.cell? (ad261.add ((x4_2).toNat * 4)) = some (.string ((rd_T45 l0 x4_2).f0)) ∧ w'.cell? ⟨(ad261.add ((x4_2).toNat * 4)).block, (ad261.add ((x4_2).toNat * 4)).off + 1, none⟩ = some (.string ((rd_T45 l0 x4_2).f1)) ∧ w'.cell? ⟨(ad261.add ((x4_2).toNat * 4)).block, (ad261.add ((x4_2).toNat * 4)).off + 2, none⟩ = some (.int .i64 ((rd_T45 l0 x4_2).f2)) ∧ w'.cell? ⟨(ad261.add ((x4_2).toNat * 4)).block, (ad261.add ((x4_2).toNat * 4)).off + 3, none⟩ = some (.int .i64 ((rd_T45 l0 x4_2).f3))) (ds := []) #[F, F, F, F, F, F, F, F, F, F, F, F, F, F, F, F, F] (by kernel_rfl) rfl rfl ⟨((HB.out.cell (zB w _ hw263_0)).trans hw263_0), ((HB.out.cell (zB w _ hw263_1)).trans hw263_1), ((HB.out.cell (zB w _ hw263_2)).trans hw263_2), ((HB.out.cell (zB w _ hw263_3)).trans hw263_3), ((HB.out.cell (zB w _ hw264_0)).trans hw264_0), ((HB.out.cell (zB w _ hw264_1)).trans hw264_1), ((HB.out.cell (zB w _ hw264_2)).trans hw264_2), ((HB.out.cell (zB w _ hw264_3)).trans hw264_3)⟩ (fun hHeld => ?_); refine with_tabW copseref04_Valid.tab13 copseref04_Valid.bits13 (fun HT_ HW_ => ?_)
      generalize w19.drew = w20 at HB hx263_0 hx263_1 hx263_2 hx263_3 hx264_0 hx264_1 hx264_2 hx264_3 hHeld ⊢
      refine pure_ (i := 0) (N := some 33) (v := ?_) (a' := ?_) #[T, F, F, F, F, F, F, F, F, F, F, F, F, F, F, F, F] rfl rfl (any_of HT_.out (by kernel_rfl)) (fun _ _ _ h => h) (Or.inl ⟨by rfl, ?_⟩) ?_ ?_
      rotate_left
      ·intro w'; go_simp; with_reducible rfl
      rotate_left
      ·simp only [Act.put, zS, zZ, zC, i64_w, i32_w]
       rfl
      refine pure_ (i := 1) (N := some 34) (v := ?_) (a' := ?_) #[T, T, F, F, F, F, F, F, F, F, F, F, F, F, F, F, F] rfl rfl (any_of HT_.out (by kernel_rfl)) (fun _ _ _ h => h) (Or.inl ⟨by rfl, ?_⟩) ?_ ?_
      rotate_left
      ·intro w'; go_simp; with_reducible rfl
      rotate_left
      ·simp only [Act.put, zS, zZ, zC, i64_w, i32_w]
       rfl
      refine pure_ (i := 2) (N := some 35) (v := ?_) (a' := ?_) #[T, T, T, F, F, F, F, F, F, F, F, F, F, F, F, F, F] rfl rfl (any_of HT_.out (by kernel_rfl)) (fun _ _ _ h => h) (Or.inl ⟨by rfl, ?_⟩) ?_ ?_
      rotate_left
      ·intro w'; go_simp; with_reducible rfl
      rotate_left
      ·simp only [Act.put, zS, zZ, zC, i64_w, i32_w]
       rfl
      refine pure_ (i := 3) (N := some 36) (v := ?_) (a' := ?_) #[T, T, T, T, F, F, F, F, F, F, F, F, F, F, F, F, F] rfl rfl (any_of HT_.out (by kernel_rfl)) (fun _ _ _ h => h) (Or.inl ⟨by rfl, ?_⟩) ?_ ?_
      rotate_left
      ·intro w'; go_simp; with_reducible rfl
      rotate_left
      ·simp only [Act.put, zS, zZ, zC, i64_w, i32_w]
       rfl
      refine pure_ (i := 4) (N := some 37) (v := ?_) (a' := ?_) #[T, T, T, T, T, F, F, F, F, F, F, F, F, F, F, F, F] rfl rfl (any_of HT_.out (by kernel_rfl)) (fun _ _ _ h => h) (Or.inl ⟨by rfl, ?_⟩) ?_ ?_
      rotate_left
      ·intro w'; go_simp; with_reducible rfl
      rotate_left
      ·simp only [Act.put, zS, zZ, zC, i64_w, i32_w]
       rfl
      refine pure_ (i := 5) (N := some 38) (v := ?_) (a' := ?_) #[T, T, T, T, T, T, F, F, F, F, F, F, F, F, F, F, F] rfl rfl (any_of HT_.out (by kernel_rfl)) (fun _ _ _ h => h) (Or.inl ⟨by rfl, ?_⟩) ?_ ?_
      rotate_left
      ·intro w'; go_simp; with_reducible rfl
      rotate_left
      ·simp only [Act.put, zS, zZ, zC, i64_w, i32_w]
       rfl
      refine pure_ (i := 6) (N := some 39) (v := ?_) (a' := ?_) #[T, T, T, T, T, T, T, F, F, F, F, F, F, F, F, F, F] rfl rfl (any_of HT_.out (by kernel_rfl)) (fun _ _ _ h => h) (Or.inl ⟨by rfl, ?_⟩) ?_ ?_
      rotate_left
      ·intro w'; go_simp; with_reducible rfl
      rotate_left
      ·simp only [Act.put, zS, zZ, zC, i64_w, i32_w]
       rfl
      refine pure_ (i := 7) (N := some 40) (v := ?_) (a' := ?_) #[T, T, T, T, T, T, T, T, F, F, F, F, F, F, F, F, F] rfl rfl (any_of HT_.out (by kernel_rfl)) (fun _ _ _ h => h) (Or.inl ⟨by rfl, ?_⟩) ?_ ?_
      rotate_left
      ·intro w'; go_simp; with_reducible rfl
      rotate_left
      ·simp only [Act.put, zS, zZ, zC, i64_w, i32_w]
       rfl
      refine pure_ (i := 9) (N := some 42) (v := ?_) (a' := ?_) #[T, T, T, T, T, T, T, T, F, T, F, F, F, F, F, F, F] rfl rfl (any_of HT_.out (by kernel_rfl)) (fun _ _ _ h => h) (Or.inl ⟨by rfl, ?_⟩) ?_ ?_
      rotate_left
      ·intro w'; go_simp; with_reducible rfl
      rotate_left
      ·simp only [Act.put, zS, zZ, zC, i64_w, i32_w]
       rfl
      refine pure_ (i := 10) (N := some 43) (v := ?_) (a' := ?_) #[T, T, T, T, T, T, T, T, F, T, T, F, F, F, F, F, F] rfl rfl (any_of HT_.out (by kernel_rfl)) (fun _ _ _ h => h) (Or.inl ⟨by rfl, ?_⟩) ?_ ?_
      rotate_left
      ·intro w'; go_simp; with_reducible rfl
      rotate_left
      ·simp only [Act.put, zS, zZ, zC, i64_w, i32_w]
       rfl
      refine pure_ (i := 11) (N := some 44) (v := ?_) (a' := ?_) #[T, T, T, T, T, T, T, T, F, T, T, T, F, F, F, F, F] rfl rfl (any_of HT_.out (by kernel_rfl)) (fun _ _ _ h => h) (Or.inl ⟨by rfl, ?_⟩) ?_ ?_
      rotate_left
      ·intro w'; go_simp; with_reducible rfl
      rotate_left
      ·simp only [Act.put, zS, zZ, zC, i64_w, i32_w]
       rfl
      refine pure_ (i := 12) (N := some 45) (v := ?_) (a' := ?_) #[T, T, T, T, T, T, T, T, F, T, T, T, T, F, F, F, F] rfl rfl (any_of HT_.out (by kernel_rfl)) (fun _ _ _ h => h) (Or.inl ⟨by rfl, ?_⟩) ?_ ?_
      rotate_left
      ·intro w'; go_simp; with_reducible rfl
      rotate_left
      ·simp only [Act.put, zS, zZ, zC, i64_w, i32_w]
       rfl
      refine take_ (i := 8) (N := some 41) (v := ?_) (a' := ?_) #[T, T, T, T, T, T, T, T, T, T, T, T, T, F, F, F, F] rfl rfl (take_ofW HT_.out HW_.out (by kernel_rfl)) (fun _ _ _ h => h) (Or.inl ⟨by rfl, ?_⟩) hHeld ?_ ?_
      rotate_left
      ·rintro w' ⟨s0, s1, s2, s3, s4, s5, s6, s7⟩
       go_simp; with_reducible rfl
      rotate_left
      ·simp only [Act.put, zS, zZ, zC, i64_w, i32_w]
       rfl
      refine take_ (i := 13) (N := some 46) (v := ?_) (a' := ?_) #[T, T, T, T, T, T, T, T, T, T, T, T, T, T, F, F, F] rfl rfl (take_ofW HT_.out HW_.out (by kernel_rfl)) (fun _ _ _ h => h) (Or.inl ⟨by rfl, ?_⟩) hHeld ?_ ?_
      rotate_left
      ·rintro w' ⟨s0, s1, s2, s3, s4, s5, s6, s7⟩
       go_simp; with_reducible rfl
      rotate_left
      ·simp only [Act.put, zS, zZ, zC, i64_w, i32_w]
       rfl
      refine one_ (i := 14) (N := some 47) #[T, T, T, T, T, T, T, T, T, T, T, T, T, T, T, F, F] rfl rfl (one_of HT_.out (by kernel_rfl)) (by decide) (fun K hK => ?_)
      refine goes_ Tryd.func35 (by kernel_rfl) rfl #[.string ((rd_T45 l0 (ji14)).f0), .string ((rd_T45 l0 x4_2).f0)] (by rfl) rfl rfl (by (try simp only [List.map_toArray, List.map_cons, List.map_nil]); first | done | (simp only [hji14]; rfl) | rfl | (simp only [List.length_drop, List.length_take]; rfl)) ?_
      with_reducible refine (copseref02_Cmp.calls k2 ((rd_T45 l0 (ji14)).f0) ((rd_T45 l0 x4_2).f0) t265 _ A17.out).mono ?_
      rintro e w21 ⟨rfl, hb⟩
      refine ⟨_, rfl, ?_⟩
      have n0_ := zA (below_step (by repeat (first | (with_reducible first | exact HB.out | apply zL | apply zN | apply zD) | exact HB.out)) hb)
      clear HB; have HB := n0_; clear n0_
      (try clear hb)
      (try clear hb2)
      (try clear hk)
      (try clear hi)
      refine hK.out _ _ ⟨((HB.out.cell (zB w _ hw263_0)).trans hw263_0), ((HB.out.cell (zB w _ hw263_1)).trans hw263_1), ((HB.out.cell (zB w _ hw263_2)).trans hw263_2), ((HB.out.cell (zB w _ hw263_3)).trans hw263_3), ((HB.out.cell (zB w _ hw264_0)).trans hw264_0), ((HB.out.cell (zB w _ hw264_1)).trans hw264_1), ((HB.out.cell (zB w _ hw264_2)).trans hw264_2), ((HB.out.cell (zB w _ hw264_3)).trans hw264_3)⟩ (fun hHeld => ?_)
      clear hK K
      refine norm_ (a' := ?_) ?_ ?_
      rotate_left
      ·show Act.put _ (some 47) _ = _
       simp only [Act.put, zS, zZ, zC, i64_w, i32_w]
       rfl
      refine pure_ (i := 15) (N := some 48) (v := ?_) (a' := ?_) #[T, T, T, T, T, T, T, T, T, T, T, T, T, T, T, T, F] rfl rfl (any_of HT_.out (by kernel_rfl)) (fun _ _ _ h => h) (Or.inl ⟨by rfl, ?_⟩) ?_ ?_
      rotate_left
      ·intro w'; go_simp; with_reducible rfl
      rotate_left
      ·simp only [Act.put, zS, zZ, zC, i64_w, i32_w]
       rfl
      refine pure_ (i := 16) (N := some 49) (v := ?_) (a' := ?_) #[T, T, T, T, T, T, T, T, T, T, T, T, T, T, T, T, T] rfl rfl (any_of HT_.out (by kernel_rfl)) (fun _ _ _ h => h) (Or.inl ⟨by rfl, ?_⟩) ?_ ?_
      rotate_left
      ·intro w'; go_simp; with_reducible rfl
      rotate_left
      ·simp only [Act.put, zS, zZ, zC, i64_w, i32_w]
       rfl
      refine done_ (done_of HT_.out (by kernel_rfl)) ?_
      try go_wp2
      go_ret
      exact ⟨by first | rfl | (simp [errW_none, errW_some] <;> rfl) | (simp only [← hji14]; first | rfl | (simp [errW_none, errW_some] <;> rfl)) | (simp [*, errW_none, errW_some] <;> rfl), by repeat (first | (with_reducible first | exact HB.out | apply zL | apply zN | apply zD) | exact HB.out)⟩
     rw [if_neg c18] at H
     have c18b0 : decide (0 ≤ t265) = false := decide_eq_false c18
     clear c18
     have H' := zA H
     clear H
     have p261 : 0 ≤ (x4_2 : Int) := zO (by first | (with_reducible assumption) | assumption)
     have q261 : x4_2 < (l0.length : Int) := zO (by first | (with_reducible assumption) | assumption)
     obtain ⟨ad261, e261, hx261_0, hx261_1, hx261_2, hx261_3⟩ := at_T45 HR0.out x4_2 p261 q261
     cases e261
     replace hx261_0 := (HB.out.cell (zB w _ hx261_0)).trans hx261_0
     replace hx261_1 := (HB.out.cell (zB w _ hx261_1)).trans hx261_1
     replace hx261_2 := (HB.out.cell (zB w _ hx261_2)).trans hx261_2
     replace hx261_3 := (HB.out.cell (zB w _ hx261_3)).trans hx261_3
     replace p261 := eq_true p261
     replace q261 := eq_true q261
     try go_wp2_with (first | ((with_reducible refine gate_callee (f := 72) rfl ?_); refine goesL_ (some 31) rfl rfl Tryd.func72 (by kernel_rfl) rfl #[.agg #[.string ((rd_T45 l0 x4_2).f0), .string ((rd_T45 l0 x4_2).f1), .int .i64 ((rd_T45 l0 x4_2).f2), .int .i64 ((rd_T45 l0 x4_2).f3)]] rfl (by (try simp only [List.map_toArray, List.map_cons, List.map_nil]); first | done | rfl | (simp only [List.length_drop, List.length_take]; rfl)) ?_; (with_reducible refine (copseref04_File.calls k2 ((rd_T45 l0 x4_2).f0) ((rd_T45 l0 x4_2).f1) ((rd_T45 l0 x4_2).f2) ((rd_T45 l0 x4_2).f3) t262 _ A11.out).mono ?_); rintro e w22 ⟨rfl, hb⟩; refine ⟨_, rfl, ?_⟩; have n0_ := zA (below_step (by repeat (first | (with_reducible first | exact HB.out | apply zL | apply zN | apply zD) | exact HB.out)) hb); clear HB; have HB := n0_; clear n0_; (try clear hb); (try clear hb2); (try clear hk); (try clear hi)))
     have n0_ := zA (zD HB.out)
     clear HB; have HB := n0_; clear n0_
     have p263 : 0 ≤ ((ji14) : Int) := zO (by first | (with_reducible assumption) | assumption)
     have q263 : (ji14) < (l0.length : Int) := zO (by first | (with_reducible assumption) | assumption)
     obtain ⟨ad263, e263, hx263_0, hx263_1, hx263_2, hx263_3⟩ := at_T45 HR0.out (ji14) p263 q263
     have hw263_3 := hx263_3; have hw263_2 := hx263_2; have hw263_1 := hx263_1; have hw263_0 := hx263_0
     obtain rfl : ad261 = ad263 := (by injection e263)
     replace hx263_0 := (HB.out.cell (zB w _ hx263_0)).trans hx263_0
     replace hx263_1 := (HB.out.cell (zB w _ hx263_1)).trans hx263_1
     replace hx263_2 := (HB.out.cell (zB w _ hx263_2)).trans hx263_2
     replace hx263_3 := (HB.out.cell (zB w _ hx263_3)).trans hx263_3
     replace p263 := eq_true p263
     replace q263 := eq_true q263
     have p264 : 0 ≤ (x4_2 : Int) := zO (by first | (with_reducible assumption) | assumption)
     have q264 : x4_2 < (l0.length : Int) := zO (by first | (with_reducible assumption) | assumption)
     obtain ⟨ad264, e264, hx264_0, hx264_1, hx264_2, hx264_3⟩ := at_T45 HR0.out x4_2 p264 q264
     have hw264_3 := hx264_3; have hw264_2 := hx264_2; have hw264_1 := hx264_1; have hw264_0 := hx264_0
     obtain rfl : ad261 = ad264 := (by injection e264)
     replace hx264_0 := (HB.out.cell (zB w _ hx264_0)).trans hx264_0
     replace hx264_1 := (HB.out.cell (zB w _ hx264_1)).trans hx264_1
     replace hx264_2 := (HB.out.cell (zB w _ hx264_2)).trans hx264_2
     replace hx264_3 := (HB.out.cell (zB w _ hx264_3)).trans hx264_3
     replace p264 := eq_true p264
     replace q264 := eq_true q264
     refine start_ (n := 17) (S := fun w' => w'.cell? (ad261.add (((ji14)).toNat * 4)) = some (.string ((rd_T45 l0 (ji14)).f0)) ∧ w'.cell? ⟨(ad261.add (((ji14)).toNat * 4)).block, (ad261.add (((ji14)).toNat * 4)).off + 1, none⟩ = some (.string ((rd_T45 l0 (ji14)).f1)) ∧ w'.cell? ⟨(ad261.add (((ji14)).toNat * 4)).block, (ad261.add (((ji14)).toNat * 4)).off + 2, none⟩ = some (.int .i64 ((rd_T45 l0 (ji14)).f2)) ∧ w'.cell? ⟨(ad261.add (((ji14)).toNat * 4)).block, (ad261.add (((ji14)).toNat * 4)).off + 3, none⟩ = some (.int .i64 ((rd_T45 l0 (ji14)).f3)) ∧ w'.cell? (ad261.add ((x4_2).toNat * 4)) = some (.string ((rd_T45 l0 x4_2).f0)) ∧ w'.cell? ⟨(ad261.add ((x4_2).toNat * 4)).block, (ad261.add ((x4_2).toNat * 4)).off + 1, none⟩ = some (.string ((rd_T45 l0 x4_2).f1)) ∧ w'.cell? ⟨(ad261.add ((x4_2).toNat * 4)).block, (ad261.add ((x4_2).toNat * 4)).off + 2, none⟩ = some (.int .i64 ((rd_T45 l0 x4_2).f2)) ∧ w'.cell? ⟨(ad261.add ((x4_2).toNat * 4)).block, (ad261.add ((x4_2).toNat * 4)).off + 3, none⟩ = some (.int .i64 ((rd_T45 l0 x4_2).f3))) (ds := []) #[F, F, F, F, F, F, F, F, F, F, F, F, F, F, F, F, F] (by kernel_rfl) rfl rfl ⟨((HB.out.cell (zB w _ hw263_0)).trans hw263_0), ((HB.out.cell (zB w _ hw263_1)).trans hw263_1), ((HB.out.cell (zB w _ hw263_2)).trans hw263_2), ((HB.out.cell (zB w _ hw263_3)).trans hw263_3), ((HB.out.cell (zB w _ hw264_0)).trans hw264_0), ((HB.out.cell (zB w _ hw264_1)).trans hw264_1), ((HB.out.cell (zB w _ hw264_2)).trans hw264_2), ((HB.out.cell (zB w _ hw264_3)).trans hw264_3)⟩ (fun hHeld => ?_); refine with_tabW copseref04_Valid.tab13 copseref04_Valid.bits13 (fun HT_ HW_ => ?_)
     generalize w22.drew = w23 at HB hx263_0 hx263_1 hx263_2 hx263_3 hx264_0 hx264_1 hx264_2 hx264_3 hHeld ⊢
     refine pure_ (i := 0) (N := some 33) (v := ?_) (a' := ?_) #[T, F, F, F, F, F, F, F, F, F, F, F, F, F, F, F, F] rfl rfl (any_of HT_.out (by kernel_rfl)) (fun _ _ _ h => h) (Or.inl ⟨by rfl, ?_⟩) ?_ ?_
     rotate_left
     ·intro w'; go_simp; with_reducible rfl
     rotate_left
     ·simp only [Act.put, zS, zZ, zC, i64_w, i32_w]
      rfl
     refine pure_ (i := 1) (N := some 34) (v := ?_) (a' := ?_) #[T, T, F, F, F, F, F, F, F, F, F, F, F, F, F, F, F] rfl rfl (any_of HT_.out (by kernel_rfl)) (fun _ _ _ h => h) (Or.inl ⟨by rfl, ?_⟩) ?_ ?_
     rotate_left
     ·intro w'; go_simp; with_reducible rfl
     rotate_left
     ·simp only [Act.put, zS, zZ, zC, i64_w, i32_w]
      rfl
     refine pure_ (i := 2) (N := some 35) (v := ?_) (a' := ?_) #[T, T, T, F, F, F, F, F, F, F, F, F, F, F, F, F, F] rfl rfl (any_of HT_.out (by kernel_rfl)) (fun _ _ _ h => h) (Or.inl ⟨by rfl, ?_⟩) ?_ ?_
     rotate_left
     ·intro w'; go_simp; with_reducible rfl
     rotate_left
     ·simp only [Act.put, zS, zZ, zC, i64_w, i32_w]
      rfl
     refine pure_ (i := 3) (N := some 36) (v := ?_) (a' := ?_) #[T, T, T, T, F, F, F, F, F, F, F, F, F, F, F, F, F] rfl rfl (any_of HT_.out (by kernel_rfl)) (fun _ _ _ h => h) (Or.inl ⟨by rfl, ?_⟩) ?_ ?_
     rotate_left
     ·intro w'; go_simp; with_reducible rfl
     rotate_left
     ·simp only [Act.put, zS, zZ, zC, i64_w, i32_w]
      rfl
     refine pure_ (i := 4) (N := some 37) (v := ?_) (a' := ?_) #[T, T, T, T, T, F, F, F, F, F, F, F, F, F, F, F, F] rfl rfl (any_of HT_.out (by kernel_rfl)) (fun _ _ _ h => h) (Or.inl ⟨by rfl, ?_⟩) ?_ ?_
     rotate_left
     ·intro w'; go_simp; with_reducible rfl
     rotate_left
     ·simp only [Act.put, zS, zZ, zC, i64_w, i32_w]
      rfl
     refine pure_ (i := 5) (N := some 38) (v := ?_) (a' := ?_) #[T, T, T, T, T, T, F, F, F, F, F, F, F, F, F, F, F] rfl rfl (any_of HT_.out (by kernel_rfl)) (fun _ _ _ h => h) (Or.inl ⟨by rfl, ?_⟩) ?_ ?_
     rotate_left
     ·intro w'; go_simp; with_reducible rfl
     rotate_left
     ·simp only [Act.put, zS, zZ, zC, i64_w, i32_w]
      rfl
     refine pure_ (i := 6) (N := some 39) (v := ?_) (a' := ?_) #[T, T, T, T, T, T, T, F, F, F, F, F, F, F, F, F, F] rfl rfl (any_of HT_.out (by kernel_rfl)) (fun _ _ _ h => h) (Or.inl ⟨by rfl, ?_⟩) ?_ ?_
     rotate_left
     ·intro w'; go_simp; with_reducible rfl
     rotate_left
     ·simp only [Act.put, zS, zZ, zC, i64_w, i32_w]
      rfl
     refine pure_ (i := 7) (N := some 40) (v := ?_) (a' := ?_) #[T, T, T, T, T, T, T, T, F, F, F, F, F, F, F, F, F] rfl rfl (any_of HT_.out (by kernel_rfl)) (fun _ _ _ h => h) (Or.inl ⟨by rfl, ?_⟩) ?_ ?_
     rotate_left
     ·intro w'; go_simp; with_reducible rfl
     rotate_left
     ·simp only [Act.put, zS, zZ, zC, i64_w, i32_w]
      rfl
     refine pure_ (i := 9) (N := some 42) (v := ?_) (a' := ?_) #[T, T, T, T, T, T, T, T, F, T, F, F, F, F, F, F, F] rfl rfl (any_of HT_.out (by kernel_rfl)) (fun _ _ _ h => h) (Or.inl ⟨by rfl, ?_⟩) ?_ ?_
     rotate_left
     ·intro w'; go_simp; with_reducible rfl
     rotate_left
     ·simp only [Act.put, zS, zZ, zC, i64_w, i32_w]
      rfl
     refine pure_ (i := 10) (N := some 43) (v := ?_) (a' := ?_) #[T, T, T, T, T, T, T, T, F, T, T, F, F, F, F, F, F] rfl rfl (any_of HT_.out (by kernel_rfl)) (fun _ _ _ h => h) (Or.inl ⟨by rfl, ?_⟩) ?_ ?_
     rotate_left
     ·intro w'; go_simp; with_reducible rfl
     rotate_left
     ·simp only [Act.put, zS, zZ, zC, i64_w, i32_w]
      rfl
     refine pure_ (i := 11) (N := some 44) (v := ?_) (a' := ?_) #[T, T, T, T, T, T, T, T, F, T, T, T, F, F, F, F, F] rfl rfl (any_of HT_.out (by kernel_rfl)) (fun _ _ _ h => h) (Or.inl ⟨by rfl, ?_⟩) ?_ ?_
     rotate_left
     ·intro w'; go_simp; with_reducible rfl
     rotate_left
     ·simp only [Act.put, zS, zZ, zC, i64_w, i32_w]
      rfl
     refine pure_ (i := 12) (N := some 45) (v := ?_) (a' := ?_) #[T, T, T, T, T, T, T, T, F, T, T, T, T, F, F, F, F] rfl rfl (any_of HT_.out (by kernel_rfl)) (fun _ _ _ h => h) (Or.inl ⟨by rfl, ?_⟩) ?_ ?_
     rotate_left
     ·intro w'; go_simp; with_reducible rfl
     rotate_left
     ·simp only [Act.put, zS, zZ, zC, i64_w, i32_w]
      rfl
     refine take_ (i := 8) (N := some 41) (v := ?_) (a' := ?_) #[T, T, T, T, T, T, T, T, T, T, T, T, T, F, F, F, F] rfl rfl (take_ofW HT_.out HW_.out (by kernel_rfl)) (fun _ _ _ h => h) (Or.inl ⟨by rfl, ?_⟩) hHeld ?_ ?_
     rotate_left
     ·rintro w' ⟨s0, s1, s2, s3, s4, s5, s6, s7⟩
      go_simp; with_reducible rfl
     rotate_left
     ·simp only [Act.put, zS, zZ, zC, i64_w, i32_w]
      rfl
     refine take_ (i := 13) (N := some 46) (v := ?_) (a' := ?_) #[T, T, T, T, T, T, T, T, T, T, T, T, T, T, F, F, F] rfl rfl (take_ofW HT_.out HW_.out (by kernel_rfl)) (fun _ _ _ h => h) (Or.inl ⟨by rfl, ?_⟩) hHeld ?_ ?_
     rotate_left
     ·rintro w' ⟨s0, s1, s2, s3, s4, s5, s6, s7⟩
      go_simp; with_reducible rfl
     rotate_left
     ·simp only [Act.put, zS, zZ, zC, i64_w, i32_w]
      rfl
     refine one_ (i := 14) (N := some 47) #[T, T, T, T, T, T, T, T, T, T, T, T, T, T, T, F, F] rfl rfl (one_of HT_.out (by kernel_rfl)) (by decide) (fun K hK => ?_)
     refine goes_ Tryd.func35 (by kernel_rfl) rfl #[.string ((rd_T45 l0 (ji14)).f0), .string ((rd_T45 l0 x4_2).f0)] (by rfl) rfl rfl (by (try simp only [List.map_toArray, List.map_cons, List.map_nil]); first | done | (simp only [hji14]; rfl) | rfl | (simp only [List.length_drop, List.length_take]; rfl)) ?_
     with_reducible refine (copseref02_Cmp.calls k2 ((rd_T45 l0 (ji14)).f0) ((rd_T45 l0 x4_2).f0) t265 _ A17.out).mono ?_
     rintro e w24 ⟨rfl, hb⟩
     refine ⟨_, rfl, ?_⟩
     have n0_ := zA (below_step (by repeat (first | (with_reducible first | exact HB.out | apply zL | apply zN | apply zD) | exact HB.out)) hb)
     clear HB; have HB := n0_; clear n0_
     (try clear hb)
     (try clear hb2)
     (try clear hk)
     (try clear hi)
     refine hK.out _ _ ⟨((HB.out.cell (zB w _ hw263_0)).trans hw263_0), ((HB.out.cell (zB w _ hw263_1)).trans hw263_1), ((HB.out.cell (zB w _ hw263_2)).trans hw263_2), ((HB.out.cell (zB w _ hw263_3)).trans hw263_3), ((HB.out.cell (zB w _ hw264_0)).trans hw264_0), ((HB.out.cell (zB w _ hw264_1)).trans hw264_1), ((HB.out.cell (zB w _ hw264_2)).trans hw264_2), ((HB.out.cell (zB w _ hw264_3)).trans hw264_3)⟩ (fun hHeld => ?_)
     clear hK K
     refine norm_ (a' := ?_) ?_ ?_
     rotate_left
     ·show Act.put _ (some 47) _ = _
      simp only [Act.put, zS, zZ, zC, i64_w, i32_w]
      rfl
     refine pure_ (i := 15) (N := some 48) (v := ?_) (a' := ?_) #[T, T, T, T, T, T, T, T, T, T, T, T, T, T, T, T, F] rfl rfl (any_of HT_.out (by kernel_rfl)) (fun _ _ _ h => h) (Or.inl ⟨by rfl, ?_⟩) ?_ ?_
     rotate_left
     ·intro w'; go_simp; with_reducible rfl
     rotate_left
     ·simp only [Act.put, zS, zZ, zC, i64_w, i32_w]
      rfl
     refine pure_ (i := 16) (N := some 49) (v := ?_) (a' := ?_) #[T, T, T, T, T, T, T, T, T, T, T, T, T, T, T, T, T] rfl rfl (any_of HT_.out (by kernel_rfl)) (fun _ _ _ h => h) (Or.inl ⟨by rfl, ?_⟩) ?_ ?_
     rotate_left
     ·intro w'; go_simp; with_reducible rfl
     rotate_left
     ·simp only [Act.put, zS, zZ, zC, i64_w, i32_w]
      rfl
     refine done_ (done_of HT_.out (by kernel_rfl)) ?_
     try go_wp2
     go_roundg k2
     case measure => have := HK1.out; have := HK2.out; omega
     case rel => exact ⟨(wrap64 (x4_2 + 1)), (by first | rfl | (simp; done) | (simp [*]; done)), H', ⟨by have := HK1.out; have := HK2.out; omega⟩, ⟨by repeat (first | (with_reducible first | exact HB.out | apply zL | apply zN | apply zD) | exact HB.out)⟩⟩
def copseref16_looked.f (k : Nat) (l0 : List (S45)) (l1 : List ByteArray) : Option (Int) := (copseref04_Valid.f k l0).bind fun t269 => (if t269 = 0 then ((copseref16_Cones.f k l1).bind fun t270 => (if t270 = true then (some t269) else (some 13))) else (some t269))
set_option maxHeartbeats 8000000 in
set_option maxRecDepth 100000 in
theorem copseref16_looked.calls (k : Nat) (A0 : Option Addr) (c0 : Nat) (l0 : List (S45)) (A1 : Option Addr) (c1 : Nat) (l1 : List ByteArray) (r : Int) (w : World) (hr0 : Kd.C k45 w A0 l0.length l0) (hc0 : l0.length ≤ c0) (hr1 : Kd.C Kd.string w A1 l1.length l1) (hc1 : l1.length ≤ c1) (h : copseref16_looked.f k l0 l1 = some r) :
  Calls Tryd.prog 26 #[.slice A0 l0.length c0, .slice A1 l1.length c1] w fun e w' => e = .returned (.int .i64 r) ∧ Below w.heap.size w w' := by
 have HR0 := zA hr0; have HC0 := zA hc0; clear hr0 hc0; have HR1 := zA hr1; have HC1 := zA hc1; clear hr1 hc1
 have HB := zA (Below.refl w.heap.size w)
 have H : ((copseref04_Valid.f k l0).bind fun t269 => (if t269 = 0 then ((copseref16_Cones.f k l1).bind fun t270 => (if t270 = true then (some t269) else (some 13))) else (some t269))) = some r := h
 clear h; replace H := Option.bind_eq_some_iff.mp H; obtain ⟨t269, A30, H⟩ := H
 replace H : (if t269 = 0 then ((copseref16_Cones.f k l1).bind fun t270 => (if t270 = true then (some t269) else (some 13))) else (some t269)) = some r := H
 have A3 := zA A30; clear A30
 by_cases c4 : t269 = 0
 rotate_left
 ·rw [if_neg c4] at H
  have c4b0 : (t269 == 0) = false := beq_eq_false_iff_ne.mpr c4
  have c4b1 : (t269 != 0) = true := bne_iff_ne.mpr c4
  obtain rfl := Option.some.inj H
  go_enter Tryd.func26, Tryd.ntmps26
  go_wp2_with (first | ((with_reducible refine gate_callee (f := 49) rfl ?_); refine goesL_ (some 7) rfl rfl Tryd.func49 (by kernel_rfl) rfl #[.slice A0 l0.length c0] rfl (by (try simp only [List.map_toArray, List.map_cons, List.map_nil]); first | done | rfl | (simp only [List.length_drop, List.length_take]; rfl)) ?_; (with_reducible refine (copseref04_Valid.calls k _ _ l0 t269 _ ?side1 ?side2 A3.out).mono ?_); (case side1 => repeat (first | exact HR0.out | (with_reducible refine Kd.C_alloc ?_ _) | (with_reducible refine Kd.C_drewN ?_ _) | (with_reducible refine Kd.C_drew ?_))); (case side2 => exact HC0.out); rintro e w11 ⟨rfl, hb⟩; refine ⟨_, rfl, ?_⟩; have n0_ := zA (below_step (by repeat (first | (with_reducible first | exact HB.out | apply zL | apply zN | apply zD) | exact HB.out)) hb); clear HB; have HB := n0_; clear n0_; (try clear hb); (try clear hb2); (try clear hk); (try clear hi)))
  go_ret
  exact ⟨by first | rfl | (simp [errW_none, errW_some] <;> rfl) | (simp [*, errW_none, errW_some] <;> rfl), by repeat (first | (with_reducible first | exact HB.out | apply zL | apply zN | apply zD) | exact HB.out)⟩
 rw [if_pos c4] at H
 have c4b0 : (t269 == 0) = true := beq_iff_eq.mpr c4
 have c4b1 : (t269 != 0) = false := bne_eq_false_iff_eq.mpr c4
 clear c4; replace H := Option.bind_eq_some_iff.mp H; obtain ⟨t270, A50, H⟩ := H
 replace H : (if t270 = true then (some t269) else (some 13)) = some r := H
 have A5 := zA A50; clear A50
 by_cases c6 : t270 = true
 ·subst c6
  have H1 : (some t269) = some r := by rw [if_pos rfl] at H; exact H
  clear H; have H := H1; clear H1; obtain rfl := Option.some.inj H
  go_enter Tryd.func26, Tryd.ntmps26
  go_wp2_with (first | ((with_reducible refine gate_callee (f := 49) rfl ?_); refine goesL_ (some 7) rfl rfl Tryd.func49 (by kernel_rfl) rfl #[.slice A0 l0.length c0] rfl (by (try simp only [List.map_toArray, List.map_cons, List.map_nil]); first | done | rfl | (simp only [List.length_drop, List.length_take]; rfl)) ?_; (with_reducible refine (copseref04_Valid.calls k _ _ l0 t269 _ ?side1 ?side2 A3.out).mono ?_); (case side1 => repeat (first | exact HR0.out | (with_reducible refine Kd.C_alloc ?_ _) | (with_reducible refine Kd.C_drewN ?_ _) | (with_reducible refine Kd.C_drew ?_))); (case side2 => exact HC0.out); rintro e w7 ⟨rfl, hb⟩; refine ⟨_, rfl, ?_⟩; have n0_ := zA (below_step (by repeat (first | (with_reducible first | exact HB.out | apply zL | apply zN | apply zD) | exact HB.out)) hb); clear HB; have HB := n0_; clear n0_; (try clear hb); (try clear hb2); (try clear hk); (try clear hi)) | (go_at_call 17; (with_reducible refine (copseref16_Cones.calls k _ _ l1 true _ ?side1 ?side2 A5.out).mono ?_); (case side1 => repeat (first | exact (Kd.C_below HR1.out HB.out) | (with_reducible refine Kd.C_alloc ?_ _) | (with_reducible refine Kd.C_drewN ?_ _) | (with_reducible refine Kd.C_drew ?_))); (case side2 => exact HC1.out); rintro e w8 ⟨rfl, hb⟩; have n0_ := zA (below_step (by repeat (first | (with_reducible first | exact HB.out | apply zL | apply zN | apply zD) | exact HB.out)) hb); clear HB; have HB := n0_; clear n0_; (try clear hb); (try clear hb2); (try clear hk); (try clear hi)))
  go_ret
  exact ⟨by first | rfl | (simp [errW_none, errW_some] <;> rfl) | (simp [*, errW_none, errW_some] <;> rfl), by repeat (first | (with_reducible first | exact HB.out | apply zL | apply zN | apply zD) | exact HB.out)⟩
 replace c6 := Bool.eq_false_iff.mpr c6
 subst c6
 have H1 : (some 13) = some r := by rw [if_neg (show ¬ (false = true) by decide)] at H; exact H
 clear H; have H := H1; clear H1; obtain rfl := Option.some.inj H
 go_enter Tryd.func26, Tryd.ntmps26
 go_wp2_with (first | ((with_reducible refine gate_callee (f := 49) rfl ?_); refine goesL_ (some 7) rfl rfl Tryd.func49 (by kernel_rfl) rfl #[.slice A0 l0.length c0] rfl (by (try simp only [List.map_toArray, List.map_cons, List.map_nil]); first | done | rfl | (simp only [List.length_drop, List.length_take]; rfl)) ?_; (with_reducible refine (copseref04_Valid.calls k _ _ l0 t269 _ ?side1 ?side2 A3.out).mono ?_); (case side1 => repeat (first | exact HR0.out | (with_reducible refine Kd.C_alloc ?_ _) | (with_reducible refine Kd.C_drewN ?_ _) | (with_reducible refine Kd.C_drew ?_))); (case side2 => exact HC0.out); rintro e w9 ⟨rfl, hb⟩; refine ⟨_, rfl, ?_⟩; have n0_ := zA (below_step (by repeat (first | (with_reducible first | exact HB.out | apply zL | apply zN | apply zD) | exact HB.out)) hb); clear HB; have HB := n0_; clear n0_; (try clear hb); (try clear hb2); (try clear hk); (try clear hi)) | (go_at_call 17; (with_reducible refine (copseref16_Cones.calls k _ _ l1 false _ ?side1 ?side2 A5.out).mono ?_); (case side1 => repeat (first | exact (Kd.C_below HR1.out HB.out) | (with_reducible refine Kd.C_alloc ?_ _) | (with_reducible refine Kd.C_drewN ?_ _) | (with_reducible refine Kd.C_drew ?_))); (case side2 => exact HC1.out); rintro e w10 ⟨rfl, hb⟩; have n0_ := zA (below_step (by repeat (first | (with_reducible first | exact HB.out | apply zL | apply zN | apply zD) | exact HB.out)) hb); clear HB; have HB := n0_; clear n0_; (try clear hb); (try clear hb2); (try clear hk); (try clear hi)))
 go_ret
 exact ⟨by first | rfl | (simp [errW_none, errW_some] <;> rfl) | (simp [*, errW_none, errW_some] <;> rfl), by repeat (first | (with_reducible first | exact HB.out | apply zL | apply zN | apply zD) | exact HB.out)⟩
def copseref02_Dir.f (k : Nat) (a0 : ByteArray) : Option (ByteArray) := (copseref02_last.f k a0).bind fun t271 => (if t271 < 0 then (some (⟨#[]⟩ : ByteArray)) else (if 0 ≤ t271 then (if t271 ≤ (a0.size : Int) then (some (a0.extract 0 (t271 : Int).toNat)) else (none)) else (none)))
set_option maxHeartbeats 8000000 in
set_option maxRecDepth 100000 in
theorem copseref02_Dir.calls (k : Nat) (a0 : ByteArray) (r : ByteArray) (w : World) (h : copseref02_Dir.f k a0 = some r) :
  Calls Tryd.prog 73 #[.string a0] w fun e w' => e = .returned (.string r) ∧ Drawn0 w w' := by
 have H : ((copseref02_last.f k a0).bind fun t271 => (if t271 < 0 then (some (⟨#[]⟩ : ByteArray)) else (if 0 ≤ t271 then (if t271 ≤ (a0.size : Int) then (some (a0.extract 0 (t271 : Int).toNat)) else (none)) else (none)))) = some r := h
 clear h; replace H := Option.bind_eq_some_iff.mp H; obtain ⟨t271, A20, H⟩ := H
 replace H : (if t271 < 0 then (some (⟨#[]⟩ : ByteArray)) else (if 0 ≤ t271 then (if t271 ≤ (a0.size : Int) then (some (a0.extract 0 (t271 : Int).toNat)) else (none)) else (none))) = some r := H
 have A2 := zA A20; clear A20
 by_cases c3 : t271 < 0
 ·rw [if_pos c3] at H
  have c3b0 : decide (t271 < 0) = true := decide_eq_true c3
  clear c3; obtain rfl := Option.some.inj H
  go_enter Tryd.func73, Tryd.ntmps73
  go_wp2_with (first | ((with_reducible refine gate_callee (f := 87) rfl ?_); refine goesL_ (some 5) rfl rfl Tryd.func87 (by kernel_rfl) rfl #[.string a0] rfl (by (try simp only [List.map_toArray, List.map_cons, List.map_nil]); first | done | rfl | (simp only [List.length_drop, List.length_take]; rfl)) ?_; (with_reducible refine (copseref02_last.calls k a0 t271 _ A2.out).mono ?_); rintro e w' ⟨rfl, ⟨nd, rfl⟩⟩; refine ⟨_, rfl, ?_⟩))
  go_ret
  exact ⟨by first | rfl | (simp; done) | (simp [*]; done), by repeat (first | exact Drawn0.refl _ | apply Drawn0.step)⟩
 rw [if_neg c3] at H
 have c3b0 : decide (t271 < 0) = false := decide_eq_false c3
 clear c3
 by_cases c4 : 0 ≤ t271
 rotate_left
 ·rw [if_neg c4] at H
  exact absurd H (by simp)
 rw [if_pos c4] at H
 have c4b0 := eq_true c4
 have c4b1 : decide (0 ≤ t271) = true := decide_eq_true c4
 clear c4
 by_cases c5 : t271 ≤ (a0.size : Int)
 rotate_left
 ·rw [if_neg c5] at H
  exact absurd H (by simp)
 rw [if_pos c5] at H
 have c5b0 := eq_true c5
 have c5b1 : decide (t271 ≤ (a0.size : Int)) = true := decide_eq_true c5
 clear c5; obtain rfl := Option.some.inj H
 go_enter Tryd.func73, Tryd.ntmps73
 go_wp2_with (first | ((with_reducible refine gate_callee (f := 87) rfl ?_); refine goesL_ (some 5) rfl rfl Tryd.func87 (by kernel_rfl) rfl #[.string a0] rfl (by (try simp only [List.map_toArray, List.map_cons, List.map_nil]); first | done | rfl | (simp only [List.length_drop, List.length_take]; rfl)) ?_; (with_reducible refine (copseref02_last.calls k a0 t271 _ A2.out).mono ?_); rintro e w' ⟨rfl, ⟨nd, rfl⟩⟩; refine ⟨_, rfl, ?_⟩))
 go_ret
 exact ⟨by first | rfl | (simp; done) | (simp [*]; done), by repeat (first | exact Drawn0.refl _ | apply Drawn0.step)⟩
def copseref16_shown.l0 : Nat → List ByteArray → ByteArray → Int → Option (Bool)
 | 0, _, _, _ => none
 | k + 1, x0, x5, x6 => if x6 < (x0.length : Int) then (if 0 ≤ x6 then (if x5.toList = (rdOf ByteArray.empty x0 x6).toList then (some true) else ((copseref02_Above.f k (rdOf ByteArray.empty x0 x6) x5).bind fun t275 => (if t275 = true then (some true) else ((copseref02_Above.f k x5 (rdOf ByteArray.empty x0 x6)).bind fun t277 => (if t277 = true then (some true) else (copseref16_shown.l0 k x0 x5 (wrap64 (x6 + 1)))))))) else (none)) else (some (x5.toList == ([] : List UInt8)))
def copseref16_shown.f (k : Nat) (l0 : List ByteArray) (a1 : ByteArray) : Option (Bool) := (copseref02_Dir.f k a1).bind fun t272 => (copseref16_shown.l0 k l0 t272 0)
set_option maxHeartbeats 8000000 in
set_option maxRecDepth 100000 in
theorem copseref16_shown.calls (k : Nat) (A0 : Option Addr) (c0 : Nat) (l0 : List ByteArray) (a1 : ByteArray) (r : Bool) (w : World) (hr0 : Kd.C Kd.string w A0 l0.length l0) (hc0 : l0.length ≤ c0) (h : copseref16_shown.f k l0 a1 = some r) :
  Calls Tryd.prog 50 #[.slice A0 l0.length c0, .string a1] w fun e w' => e = .returned (.bool r) ∧ Below w.heap.size w w' := by
 have HR0 := zA hr0; have HC0 := zA hc0; clear hr0 hc0
 have HB := zA (Below.refl w.heap.size w)
 have H : ((copseref02_Dir.f k a1).bind fun t272 => (copseref16_shown.l0 k l0 t272 0)) = some r := h
 clear h; replace H := Option.bind_eq_some_iff.mp H; obtain ⟨t272, A30, H⟩ := H
 replace H : (copseref16_shown.l0 k l0 t272 0) = some r := H
 have A3 := zA A30; clear A30
 have H' := zA H
 clear H
 go_enter Tryd.func50, Tryd.ntmps50
 go_wp2_with (first | ((with_reducible refine gate_callee (f := 73) rfl ?_); refine goesL_ (some 8) rfl rfl Tryd.func73 (by kernel_rfl) rfl #[.string a1] rfl (by (try simp only [List.map_toArray, List.map_cons, List.map_nil]); first | done | rfl | (simp only [List.length_drop, List.length_take]; rfl)) ?_; (with_reducible refine (copseref02_Dir.calls k a1 t272 _ A3.out).mono ?_); rintro e w' ⟨rfl, ⟨nd, rfl⟩⟩; refine ⟨_, rfl, ?_⟩))
 go_loopg [6] k (fun kq v6 w' => ∃ (x6_1 : Int), v6 = .int .i64 x6_1 ∧ Aside0 (copseref16_shown.l0 kq l0 t272 x6_1 = some r) ∧ Aside0 (kq ≤ k) ∧ Aside0 (Below w.heap.size w w'))
 case atStart => exact ⟨(0), (by first | rfl | (simp; done) | (simp [*]; done)), H', ⟨Nat.le_refl _⟩, ⟨by repeat (first | (with_reducible first | exact HB.out | apply zL | apply zN | apply zD) | exact HB.out)⟩⟩
 case round =>
  clear H'
  try clear p2
  obtain ⟨x6_1, rfl, HA, HK1, HB⟩ := hrel
  cases gk with
  | zero => exact absurd HA.out (by simp [copseref16_shown.l0])
  | succ k1 =>
   have H := HA.out
   clear HA
   simp only [copseref16_shown.l0] at H
   by_cases c4 : x6_1 < (l0.length : Int)
   rotate_left
   ·rw [if_neg c4] at H
    have c4b0 : decide (x6_1 < (l0.length : Int)) = false := decide_eq_false c4
    clear c4; obtain rfl := Option.some.inj H; go_wp2; go_ret
    exact ⟨by first | rfl | (simp [errW_none, errW_some] <;> rfl) | (simp [*, errW_none, errW_some] <;> rfl), by repeat (first | (with_reducible first | exact HB.out | apply zL | apply zN | apply zD) | exact HB.out)⟩
   rw [if_pos c4] at H
   have c4b0 : decide (x6_1 < (l0.length : Int)) = true := decide_eq_true c4
   clear c4
   by_cases c5 : 0 ≤ x6_1
   rotate_left
   ·rw [if_neg c5] at H
    exact absurd H (by simp)
   rw [if_pos c5] at H
   have c5b0 : decide (0 ≤ x6_1) = true := decide_eq_true c5
   clear c5
   by_cases c6 : t272.toList = (rdOf ByteArray.empty l0 x6_1).toList
   ·rw [if_pos c6] at H
    have c6b0 : (t272.toList == (rdOf ByteArray.empty l0 x6_1).toList) = true := beq_iff_eq.mpr c6
    have c6b1 : (t272.toList != (rdOf ByteArray.empty l0 x6_1).toList) = false := bne_eq_false_iff_eq.mpr c6
    clear c6; obtain rfl := Option.some.inj H
    have p273 : 0 ≤ (x6_1 : Int) := zO (by first | (with_reducible assumption) | assumption)
    have q273 : x6_1 < (l0.length : Int) := zO (by first | (with_reducible assumption) | assumption)
    obtain ⟨ad273, e273, hx273_0⟩ := Kd.at_string HR0.out x6_1 p273 q273
    cases e273
    replace hx273_0 := (HB.out.cell (zB w _ hx273_0)).trans hx273_0
    replace p273 := eq_true p273
    replace q273 := eq_true q273
    go_wp2; go_ret
    exact ⟨by first | rfl | (simp [errW_none, errW_some] <;> rfl) | (simp [*, errW_none, errW_some] <;> rfl), by repeat (first | (with_reducible first | exact HB.out | apply zL | apply zN | apply zD) | exact HB.out)⟩
   rw [if_neg c6] at H
   have c6b0 : (t272.toList == (rdOf ByteArray.empty l0 x6_1).toList) = false := beq_eq_false_iff_ne.mpr c6
   have c6b1 : (t272.toList != (rdOf ByteArray.empty l0 x6_1).toList) = true := bne_iff_ne.mpr c6
   replace H := Option.bind_eq_some_iff.mp H; obtain ⟨t275, A70, H⟩ := H
   replace H : (if t275 = true then (some true) else ((copseref02_Above.f k1 t272 (rdOf ByteArray.empty l0 x6_1)).bind fun t277 => (if t277 = true then (some true) else (copseref16_shown.l0 k1 l0 t272 (wrap64 (x6_1 + 1)))))) = some r := H
   have A7 := zA A70; clear A70
   by_cases c8 : t275 = true
   ·subst c8
    have H1 : (some true) = some r := by rw [if_pos rfl] at H; exact H
    clear H; have H := H1; clear H1; obtain rfl := Option.some.inj H
    have p273 : 0 ≤ (x6_1 : Int) := zO (by first | (with_reducible assumption) | assumption)
    have q273 : x6_1 < (l0.length : Int) := zO (by first | (with_reducible assumption) | assumption)
    obtain ⟨ad273, e273, hx273_0⟩ := Kd.at_string HR0.out x6_1 p273 q273
    cases e273
    replace hx273_0 := (HB.out.cell (zB w _ hx273_0)).trans hx273_0
    replace p273 := eq_true p273
    replace q273 := eq_true q273
    have p274 : 0 ≤ (x6_1 : Int) := zO (by first | (with_reducible assumption) | assumption)
    have q274 : x6_1 < (l0.length : Int) := zO (by first | (with_reducible assumption) | assumption)
    obtain ⟨ad274, e274, hx274_0⟩ := Kd.at_string HR0.out x6_1 p274 q274
    obtain rfl : ad273 = ad274 := (by injection e274)
    replace hx274_0 := (HB.out.cell (zB w _ hx274_0)).trans hx274_0
    replace p274 := eq_true p274
    replace q274 := eq_true q274
    go_wp2_with (first | (go_at_call 31; (with_reducible refine (copseref02_Above.calls k1 (rdOf ByteArray.empty l0 x6_1) t272 true _ A7.out).mono ?_); rintro e w9 ⟨rfl, hb⟩; have n0_ := zA (below_step (by repeat (first | (with_reducible first | exact HB.out | apply zL | apply zN | apply zD) | exact HB.out)) hb); clear HB; have HB := n0_; clear n0_; (try clear hb); (try clear hb2); (try clear hk); (try clear hi)))
    go_ret
    exact ⟨by first | rfl | (simp [errW_none, errW_some] <;> rfl) | (simp [*, errW_none, errW_some] <;> rfl), by repeat (first | (with_reducible first | exact HB.out | apply zL | apply zN | apply zD) | exact HB.out)⟩
   replace c8 := Bool.eq_false_iff.mpr c8
   subst c8
   have H1 : ((copseref02_Above.f k1 t272 (rdOf ByteArray.empty l0 x6_1)).bind fun t277 => (if t277 = true then (some true) else (copseref16_shown.l0 k1 l0 t272 (wrap64 (x6_1 + 1))))) = some r := by rw [if_neg (show ¬ (false = true) by decide)] at H; exact H
   clear H; have H := H1; clear H1; replace H := Option.bind_eq_some_iff.mp H; obtain ⟨t277, A100, H⟩ := H
   replace H : (if t277 = true then (some true) else (copseref16_shown.l0 k1 l0 t272 (wrap64 (x6_1 + 1)))) = some r := H
   have A10 := zA A100; clear A100
   by_cases c11 : t277 = true
   ·subst c11
    have H1 : (some true) = some r := by rw [if_pos rfl] at H; exact H
    clear H; have H := H1; clear H1; obtain rfl := Option.some.inj H
    have p273 : 0 ≤ (x6_1 : Int) := zO (by first | (with_reducible assumption) | assumption)
    have q273 : x6_1 < (l0.length : Int) := zO (by first | (with_reducible assumption) | assumption)
    obtain ⟨ad273, e273, hx273_0⟩ := Kd.at_string HR0.out x6_1 p273 q273
    cases e273
    replace hx273_0 := (HB.out.cell (zB w _ hx273_0)).trans hx273_0
    replace p273 := eq_true p273
    replace q273 := eq_true q273
    have p274 : 0 ≤ (x6_1 : Int) := zO (by first | (with_reducible assumption) | assumption)
    have q274 : x6_1 < (l0.length : Int) := zO (by first | (with_reducible assumption) | assumption)
    obtain ⟨ad274, e274, hx274_0⟩ := Kd.at_string HR0.out x6_1 p274 q274
    obtain rfl : ad273 = ad274 := (by injection e274)
    replace hx274_0 := (HB.out.cell (zB w _ hx274_0)).trans hx274_0
    replace p274 := eq_true p274
    replace q274 := eq_true q274
    go_wp2_with (first | (go_at_call 31; (with_reducible refine (copseref02_Above.calls k1 (rdOf ByteArray.empty l0 x6_1) t272 false _ A7.out).mono ?_); rintro e w12 ⟨rfl, hb⟩; have n0_ := zA (below_step (by repeat (first | (with_reducible first | exact HB.out | apply zL | apply zN | apply zD) | exact HB.out)) hb); clear HB; have HB := n0_; clear n0_; (try clear hb); (try clear hb2); (try clear hk); (try clear hi); have p276 : 0 ≤ (x6_1 : Int) := zO (by first | (with_reducible assumption) | assumption); have q276 : x6_1 < (l0.length : Int) := zO (by first | (with_reducible assumption) | assumption); obtain ⟨ad276, e276, hx276_0⟩ := Kd.at_string HR0.out x6_1 p276 q276; obtain rfl : ad273 = ad276 := (by injection e276); replace hx276_0 := (HB.out.cell (zB w _ hx276_0)).trans hx276_0; replace p276 := eq_true p276; replace q276 := eq_true q276) | (go_at_call 31; (with_reducible refine (copseref02_Above.calls k1 t272 (rdOf ByteArray.empty l0 x6_1) true _ A10.out).mono ?_); rintro e w13 ⟨rfl, hb⟩; have n0_ := zA (below_step (by repeat (first | (with_reducible first | exact HB.out | apply zL | apply zN | apply zD) | exact HB.out)) hb); clear HB; have HB := n0_; clear n0_; (try clear hb); (try clear hb2); (try clear hk); (try clear hi)))
    go_ret
    exact ⟨by first | rfl | (simp [errW_none, errW_some] <;> rfl) | (simp [*, errW_none, errW_some] <;> rfl), by repeat (first | (with_reducible first | exact HB.out | apply zL | apply zN | apply zD) | exact HB.out)⟩
   replace c11 := Bool.eq_false_iff.mpr c11
   subst c11
   have H1 : (copseref16_shown.l0 k1 l0 t272 (wrap64 (x6_1 + 1))) = some r := by rw [if_neg (show ¬ (false = true) by decide)] at H; exact H
   clear H; have H := H1; clear H1
   have H' := zA H
   clear H
   have p273 : 0 ≤ (x6_1 : Int) := zO (by first | (with_reducible assumption) | assumption)
   have q273 : x6_1 < (l0.length : Int) := zO (by first | (with_reducible assumption) | assumption)
   obtain ⟨ad273, e273, hx273_0⟩ := Kd.at_string HR0.out x6_1 p273 q273
   cases e273
   replace hx273_0 := (HB.out.cell (zB w _ hx273_0)).trans hx273_0
   replace p273 := eq_true p273
   replace q273 := eq_true q273
   have p274 : 0 ≤ (x6_1 : Int) := zO (by first | (with_reducible assumption) | assumption)
   have q274 : x6_1 < (l0.length : Int) := zO (by first | (with_reducible assumption) | assumption)
   obtain ⟨ad274, e274, hx274_0⟩ := Kd.at_string HR0.out x6_1 p274 q274
   obtain rfl : ad273 = ad274 := (by injection e274)
   replace hx274_0 := (HB.out.cell (zB w _ hx274_0)).trans hx274_0
   replace p274 := eq_true p274
   replace q274 := eq_true q274
   go_wp2_with (first | (go_at_call 31; (with_reducible refine (copseref02_Above.calls k1 (rdOf ByteArray.empty l0 x6_1) t272 false _ A7.out).mono ?_); rintro e w14 ⟨rfl, hb⟩; have n0_ := zA (below_step (by repeat (first | (with_reducible first | exact HB.out | apply zL | apply zN | apply zD) | exact HB.out)) hb); clear HB; have HB := n0_; clear n0_; (try clear hb); (try clear hb2); (try clear hk); (try clear hi); have p276 : 0 ≤ (x6_1 : Int) := zO (by first | (with_reducible assumption) | assumption); have q276 : x6_1 < (l0.length : Int) := zO (by first | (with_reducible assumption) | assumption); obtain ⟨ad276, e276, hx276_0⟩ := Kd.at_string HR0.out x6_1 p276 q276; obtain rfl : ad273 = ad276 := (by injection e276); replace hx276_0 := (HB.out.cell (zB w _ hx276_0)).trans hx276_0; replace p276 := eq_true p276; replace q276 := eq_true q276) | (go_at_call 31; (with_reducible refine (copseref02_Above.calls k1 t272 (rdOf ByteArray.empty l0 x6_1) false _ A10.out).mono ?_); rintro e w15 ⟨rfl, hb⟩; have n0_ := zA (below_step (by repeat (first | (with_reducible first | exact HB.out | apply zL | apply zN | apply zD) | exact HB.out)) hb); clear HB; have HB := n0_; clear n0_; (try clear hb); (try clear hb2); (try clear hk); (try clear hi)))
   go_roundg k1
   case measure => have := HK1.out; omega
   case rel => exact ⟨(wrap64 (x6_1 + 1)), (by first | rfl | (simp; done) | (simp [*]; done)), H', ⟨by have := HK1.out; omega⟩, ⟨by repeat (first | (with_reducible first | exact HB.out | apply zL | apply zN | apply zD) | exact HB.out)⟩⟩
def copseref16_cost.l0 : Nat → List (S45) → List ByteArray → Int → Int → Option (Int)
 | 0, _, _, _, _ => none
 | k + 1, x0, x1, x5, x6 => if x6 < (x0.length : Int) then (if 0 ≤ x6 then ((copseref16_shown.f k x1 ((rd_T45 x0 x6).f0)).bind fun t279 => (if t279 = true then (if x5 > (wrap64 (9223372036854775807 - ((rd_T45 x0 x6).f3))) then (some 9223372036854775807) else (copseref16_cost.l0 k x0 x1 (wrap64 (x5 + ((rd_T45 x0 x6).f3))) (wrap64 (x6 + 1)))) else (copseref16_cost.l0 k x0 x1 x5 (wrap64 (x6 + 1))))) else (none)) else (some x5)
def copseref16_cost.f (k : Nat) (l0 : List (S45)) (l1 : List ByteArray) : Option (Int) := copseref16_cost.l0 k l0 l1 0 0
set_option maxHeartbeats 8000000 in
set_option maxRecDepth 100000 in
theorem copseref16_cost.calls (k : Nat) (A0 : Option Addr) (c0 : Nat) (l0 : List (S45)) (A1 : Option Addr) (c1 : Nat) (l1 : List ByteArray) (r : Int) (w : World) (hr0 : Kd.C k45 w A0 l0.length l0) (hc0 : l0.length ≤ c0) (hr1 : Kd.C Kd.string w A1 l1.length l1) (hc1 : l1.length ≤ c1) (h : copseref16_cost.f k l0 l1 = some r) :
  Calls Tryd.prog 27 #[.slice A0 l0.length c0, .slice A1 l1.length c1] w fun e w' => e = .returned (.int .i64 r) ∧ Below w.heap.size w w' := by
 have HR0 := zA hr0; have HC0 := zA hc0; clear hr0 hc0; have HR1 := zA hr1; have HC1 := zA hc1; clear hr1 hc1
 have HB := zA (Below.refl w.heap.size w)
 have H : (copseref16_cost.l0 k l0 l1 0 0) = some r := h
 clear h
 have H' := zA H
 clear H
 go_enter Tryd.func27, Tryd.ntmps27
 go_wp2
 go_loopg [5, 6] k (fun kq v5 v6 w' => ∃ (x5_1 : Int) (x6_1 : Int), v5 = .int .i64 x5_1 ∧ v6 = .int .i64 x6_1 ∧ Aside0 (copseref16_cost.l0 kq l0 l1 x5_1 x6_1 = some r) ∧ Aside0 (kq ≤ k) ∧ Aside0 (Below w.heap.size w w'))
 case atStart => exact ⟨(0), (0), (by first | rfl | (simp; done) | (simp [*]; done)), (by first | rfl | (simp; done) | (simp [*]; done)), H', ⟨Nat.le_refl _⟩, ⟨by repeat (first | (with_reducible first | exact HB.out | apply zL | apply zN | apply zD) | exact HB.out)⟩⟩
 case round =>
  clear H'
  try clear c1
  try clear c2
  try clear p2
  obtain ⟨x5_1, x6_1, rfl, rfl, HA, HK1, HB⟩ := hrel
  cases gk with
  | zero => exact absurd HA.out (by simp [copseref16_cost.l0])
  | succ k1 =>
   have H := HA.out
   clear HA
   simp only [copseref16_cost.l0] at H
   by_cases c3 : x6_1 < (l0.length : Int)
   rotate_left
   ·rw [if_neg c3] at H
    have c3b0 : decide (x6_1 < (l0.length : Int)) = false := decide_eq_false c3
    clear c3; obtain rfl := Option.some.inj H; go_wp2; go_ret
    exact ⟨by first | rfl | (simp [errW_none, errW_some] <;> rfl) | (simp [*, errW_none, errW_some] <;> rfl), by repeat (first | (with_reducible first | exact HB.out | apply zL | apply zN | apply zD) | exact HB.out)⟩
   rw [if_pos c3] at H
   have c3b0 : decide (x6_1 < (l0.length : Int)) = true := decide_eq_true c3
   clear c3
   by_cases c4 : 0 ≤ x6_1
   rotate_left
   ·rw [if_neg c4] at H
    exact absurd H (by simp)
   rw [if_pos c4] at H
   have c4b0 : decide (0 ≤ x6_1) = true := decide_eq_true c4
   clear c4; replace H := Option.bind_eq_some_iff.mp H; obtain ⟨t279, A50, H⟩ := H
   replace H : (if t279 = true then (if x5_1 > (wrap64 (9223372036854775807 - ((rd_T45 l0 x6_1).f3))) then (some 9223372036854775807) else (copseref16_cost.l0 k1 l0 l1 (wrap64 (x5_1 + ((rd_T45 l0 x6_1).f3))) (wrap64 (x6_1 + 1)))) else (copseref16_cost.l0 k1 l0 l1 x5_1 (wrap64 (x6_1 + 1)))) = some r := H
   have A5 := zA A50; clear A50
   by_cases c6 : t279 = true
   rotate_left
   ·replace c6 := Bool.eq_false_iff.mpr c6
    subst c6
    have H1 : (copseref16_cost.l0 k1 l0 l1 x5_1 (wrap64 (x6_1 + 1))) = some r := by rw [if_neg (show ¬ (false = true) by decide)] at H; exact H
    clear H; have H := H1; clear H1
    have H' := zA H
    clear H
    have p278 : 0 ≤ (x6_1 : Int) := zO (by first | (with_reducible assumption) | assumption)
    have q278 : x6_1 < (l0.length : Int) := zO (by first | (with_reducible assumption) | assumption)
    obtain ⟨ad278, e278, hx278_0, hx278_1, hx278_2, hx278_3⟩ := at_T45 HR0.out x6_1 p278 q278
    cases e278
    replace hx278_0 := (HB.out.cell (zB w _ hx278_0)).trans hx278_0
    replace hx278_1 := (HB.out.cell (zB w _ hx278_1)).trans hx278_1
    replace hx278_2 := (HB.out.cell (zB w _ hx278_2)).trans hx278_2
    replace hx278_3 := (HB.out.cell (zB w _ hx278_3)).trans hx278_3
    replace p278 := eq_true p278
    replace q278 := eq_true q278
    go_wp2_with (first | ((with_reducible refine gate_callee (f := 50) rfl ?_); refine goesL_ (some 19) rfl rfl Tryd.func50 (by kernel_rfl) rfl #[.slice A1 l1.length c1, .string ((rd_T45 l0 x6_1).f0)] rfl (by (try simp only [List.map_toArray, List.map_cons, List.map_nil]); first | done | rfl | (simp only [List.length_drop, List.length_take]; rfl)) ?_; (with_reducible refine (copseref16_shown.calls k1 _ _ l1 ((rd_T45 l0 x6_1).f0) false _ ?side1 ?side2 A5.out).mono ?_); (case side1 => repeat (first | exact (Kd.C_below HR1.out HB.out) | (with_reducible refine Kd.C_alloc ?_ _) | (with_reducible refine Kd.C_drewN ?_ _) | (with_reducible refine Kd.C_drew ?_))); (case side2 => exact HC1.out); rintro e w10 ⟨rfl, hb⟩; refine ⟨_, rfl, ?_⟩; have n0_ := zA (below_step (by repeat (first | (with_reducible first | exact HB.out | apply zL | apply zN | apply zD) | exact HB.out)) hb); clear HB; have HB := n0_; clear n0_; (try clear hb); (try clear hb2); (try clear hk); (try clear hi)))
    go_roundg k1
    case measure => have := HK1.out; omega
    case rel => exact ⟨(x5_1), (wrap64 (x6_1 + 1)), (by first | rfl | (simp; done) | (simp [*]; done)), (by first | rfl | (simp; done) | (simp [*]; done)), H', ⟨by have := HK1.out; omega⟩, ⟨by repeat (first | (with_reducible first | exact HB.out | apply zL | apply zN | apply zD) | exact HB.out)⟩⟩
   subst c6
   have H1 : (if x5_1 > (wrap64 (9223372036854775807 - ((rd_T45 l0 x6_1).f3))) then (some 9223372036854775807) else (copseref16_cost.l0 k1 l0 l1 (wrap64 (x5_1 + ((rd_T45 l0 x6_1).f3))) (wrap64 (x6_1 + 1)))) = some r := by rw [if_pos rfl] at H; exact H
   clear H; have H := H1; clear H1
   by_cases c7 : x5_1 > (wrap64 (9223372036854775807 - ((rd_T45 l0 x6_1).f3)))
   ·rw [if_pos c7] at H
    have c7b0 : decide ((wrap64 (9223372036854775807 - ((rd_T45 l0 x6_1).f3))) < x5_1) = true := decide_eq_true c7
    clear c7; obtain rfl := Option.some.inj H
    have p278 : 0 ≤ (x6_1 : Int) := zO (by first | (with_reducible assumption) | assumption)
    have q278 : x6_1 < (l0.length : Int) := zO (by first | (with_reducible assumption) | assumption)
    obtain ⟨ad278, e278, hx278_0, hx278_1, hx278_2, hx278_3⟩ := at_T45 HR0.out x6_1 p278 q278
    cases e278
    replace hx278_0 := (HB.out.cell (zB w _ hx278_0)).trans hx278_0
    replace hx278_1 := (HB.out.cell (zB w _ hx278_1)).trans hx278_1
    replace hx278_2 := (HB.out.cell (zB w _ hx278_2)).trans hx278_2
    replace hx278_3 := (HB.out.cell (zB w _ hx278_3)).trans hx278_3
    replace p278 := eq_true p278
    replace q278 := eq_true q278
    go_wp2_with (first | ((with_reducible refine gate_callee (f := 50) rfl ?_); refine goesL_ (some 19) rfl rfl Tryd.func50 (by kernel_rfl) rfl #[.slice A1 l1.length c1, .string ((rd_T45 l0 x6_1).f0)] rfl (by (try simp only [List.map_toArray, List.map_cons, List.map_nil]); first | done | rfl | (simp only [List.length_drop, List.length_take]; rfl)) ?_; (with_reducible refine (copseref16_shown.calls k1 _ _ l1 ((rd_T45 l0 x6_1).f0) true _ ?side1 ?side2 A5.out).mono ?_); (case side1 => repeat (first | exact (Kd.C_below HR1.out HB.out) | (with_reducible refine Kd.C_alloc ?_ _) | (with_reducible refine Kd.C_drewN ?_ _) | (with_reducible refine Kd.C_drew ?_))); (case side2 => exact HC1.out); rintro e w8 ⟨rfl, hb⟩; refine ⟨_, rfl, ?_⟩; have n0_ := zA (below_step (by repeat (first | (with_reducible first | exact HB.out | apply zL | apply zN | apply zD) | exact HB.out)) hb); clear HB; have HB := n0_; clear n0_; (try clear hb); (try clear hb2); (try clear hk); (try clear hi); have p280 : 0 ≤ (x6_1 : Int) := zO (by first | (with_reducible assumption) | assumption); have q280 : x6_1 < (l0.length : Int) := zO (by first | (with_reducible assumption) | assumption); obtain ⟨ad280, e280, hx280_0, hx280_1, hx280_2, hx280_3⟩ := at_T45 HR0.out x6_1 p280 q280; obtain rfl : ad278 = ad280 := (by injection e280); replace hx280_0 := (HB.out.cell (zB w _ hx280_0)).trans hx280_0; replace hx280_1 := (HB.out.cell (zB w _ hx280_1)).trans hx280_1; replace hx280_2 := (HB.out.cell (zB w _ hx280_2)).trans hx280_2; replace hx280_3 := (HB.out.cell (zB w _ hx280_3)).trans hx280_3; replace p280 := eq_true p280; replace q280 := eq_true q280))
    go_ret
    exact ⟨by first | rfl | (simp [errW_none, errW_some] <;> rfl) | (simp [*, errW_none, errW_some] <;> rfl), by repeat (first | (with_reducible first | exact HB.out | apply zL | apply zN | apply zD) | exact HB.out)⟩
   rw [if_neg c7] at H
   have c7b0 : decide ((wrap64 (9223372036854775807 - ((rd_T45 l0 x6_1).f3))) < x5_1) = false := decide_eq_false c7
   clear c7
   have H' := zA H
   clear H
   have p278 : 0 ≤ (x6_1 : Int) := zO (by first | (with_reducible assumption) | assumption)
   have q278 : x6_1 < (l0.length : Int) := zO (by first | (with_reducible assumption) | assumption)
   obtain ⟨ad278, e278, hx278_0, hx278_1, hx278_2, hx278_3⟩ := at_T45 HR0.out x6_1 p278 q278
   cases e278
   replace hx278_0 := (HB.out.cell (zB w _ hx278_0)).trans hx278_0
   replace hx278_1 := (HB.out.cell (zB w _ hx278_1)).trans hx278_1
   replace hx278_2 := (HB.out.cell (zB w _ hx278_2)).trans hx278_2
   replace hx278_3 := (HB.out.cell (zB w _ hx278_3)).trans hx278_3
   replace p278 := eq_true p278
   replace q278 := eq_true q278
   go_wp2_with (first | ((with_reducible refine gate_callee (f := 50) rfl ?_); refine goesL_ (some 19) rfl rfl Tryd.func50 (by kernel_rfl) rfl #[.slice A1 l1.length c1, .string ((rd_T45 l0 x6_1).f0)] rfl (by (try simp only [List.map_toArray, List.map_cons, List.map_nil]); first | done | rfl | (simp only [List.length_drop, List.length_take]; rfl)) ?_; (with_reducible refine (copseref16_shown.calls k1 _ _ l1 ((rd_T45 l0 x6_1).f0) true _ ?side1 ?side2 A5.out).mono ?_); (case side1 => repeat (first | exact (Kd.C_below HR1.out HB.out) | (with_reducible refine Kd.C_alloc ?_ _) | (with_reducible refine Kd.C_drewN ?_ _) | (with_reducible refine Kd.C_drew ?_))); (case side2 => exact HC1.out); rintro e w9 ⟨rfl, hb⟩; refine ⟨_, rfl, ?_⟩; have n0_ := zA (below_step (by repeat (first | (with_reducible first | exact HB.out | apply zL | apply zN | apply zD) | exact HB.out)) hb); clear HB; have HB := n0_; clear n0_; (try clear hb); (try clear hb2); (try clear hk); (try clear hi); have p280 : 0 ≤ (x6_1 : Int) := zO (by first | (with_reducible assumption) | assumption); have q280 : x6_1 < (l0.length : Int) := zO (by first | (with_reducible assumption) | assumption); obtain ⟨ad280, e280, hx280_0, hx280_1, hx280_2, hx280_3⟩ := at_T45 HR0.out x6_1 p280 q280; obtain rfl : ad278 = ad280 := (by injection e280); replace hx280_0 := (HB.out.cell (zB w _ hx280_0)).trans hx280_0; replace hx280_1 := (HB.out.cell (zB w _ hx280_1)).trans hx280_1; replace hx280_2 := (HB.out.cell (zB w _ hx280_2)).trans hx280_2; replace hx280_3 := (HB.out.cell (zB w _ hx280_3)).trans hx280_3; replace p280 := eq_true p280; replace q280 := eq_true q280; have p281 : 0 ≤ (x6_1 : Int) := zO (by first | (with_reducible assumption) | assumption); have q281 : x6_1 < (l0.length : Int) := zO (by first | (with_reducible assumption) | assumption); obtain ⟨ad281, e281, hx281_0, hx281_1, hx281_2, hx281_3⟩ := at_T45 HR0.out x6_1 p281 q281; obtain rfl : ad278 = ad281 := (by injection e281); replace hx281_0 := (HB.out.cell (zB w _ hx281_0)).trans hx281_0; replace hx281_1 := (HB.out.cell (zB w _ hx281_1)).trans hx281_1; replace hx281_2 := (HB.out.cell (zB w _ hx281_2)).trans hx281_2; replace hx281_3 := (HB.out.cell (zB w _ hx281_3)).trans hx281_3; replace p281 := eq_true p281; replace q281 := eq_true q281))
   go_roundg k1
   case measure => have := HK1.out; omega
   case rel => exact ⟨(wrap64 (x5_1 + ((rd_T45 l0 x6_1).f3))), (wrap64 (x6_1 + 1)), (by first | rfl | (simp; done) | (simp [*]; done)), (by first | rfl | (simp; done) | (simp [*]; done)), H', ⟨by have := HK1.out; omega⟩, ⟨by repeat (first | (with_reducible first | exact HB.out | apply zL | apply zN | apply zD) | exact HB.out)⟩⟩
def copseref16_Cost.f (k : Nat) (l0 : List (S45)) (l1 : List ByteArray) : Option (Int × Int) := (copseref16_looked.f k l0 l1).bind fun t282 => (if t282 = 0 then ((copseref16_cost.f k l0 l1).bind fun t283 => (some (t283, 0))) else (some (0, t282)))
set_option maxHeartbeats 8000000 in
set_option maxRecDepth 100000 in
theorem copseref16_Cost.calls (k : Nat) (A0 : Option Addr) (c0 : Nat) (l0 : List (S45)) (A1 : Option Addr) (c1 : Nat) (l1 : List ByteArray) (r1 : Int) (r2 : Int) (w : World) (hr0 : Kd.C k45 w A0 l0.length l0) (hc0 : l0.length ≤ c0) (hr1 : Kd.C Kd.string w A1 l1.length l1) (hc1 : l1.length ≤ c1) (h : copseref16_Cost.f k l0 l1 = some (r1, r2)) :
  Calls Tryd.prog 9 #[.slice A0 l0.length c0, .slice A1 l1.length c1] w fun e w' => e = .returned (.tuple #[.int .i64 r1, .int .i64 r2]) ∧ Below w.heap.size w w' := by
 have HR0 := zA hr0; have HC0 := zA hc0; clear hr0 hc0; have HR1 := zA hr1; have HC1 := zA hc1; clear hr1 hc1
 have HB := zA (Below.refl w.heap.size w)
 have H : ((copseref16_looked.f k l0 l1).bind fun t282 => (if t282 = 0 then ((copseref16_cost.f k l0 l1).bind fun t283 => (some (t283, 0))) else (some (0, t282)))) = some (r1, r2) := h
 clear h; replace H := Option.bind_eq_some_iff.mp H; obtain ⟨t282, A30, H⟩ := H
 replace H : (if t282 = 0 then ((copseref16_cost.f k l0 l1).bind fun t283 => (some (t283, 0))) else (some (0, t282))) = some (r1, r2) := H
 have A3 := zA A30; clear A30
 by_cases c4 : t282 = 0
 rotate_left
 ·rw [if_neg c4] at H
  have c4b0 : (t282 == 0) = false := beq_eq_false_iff_ne.mpr c4
  have c4b1 : (t282 != 0) = true := bne_iff_ne.mpr c4
  simp only [Option.some.injEq, Prod.mk.injEq] at H
  obtain ⟨rfl, rfl⟩ := H
  go_enter Tryd.func9, Tryd.ntmps9
  go_wp2_with (first | ((with_reducible refine gate_callee (f := 26) rfl ?_); refine goesL_ (some 9) rfl rfl Tryd.func26 (by kernel_rfl) rfl #[.slice A0 l0.length c0, .slice A1 l1.length c1] rfl (by (try simp only [List.map_toArray, List.map_cons, List.map_nil]); first | done | rfl | (simp only [List.length_drop, List.length_take]; rfl)) ?_; (with_reducible refine (copseref16_looked.calls k _ _ l0 _ _ l1 t282 _ ?side1 ?side2 ?side3 ?side4 A3.out).mono ?_); (case side1 => repeat (first | exact HR0.out | (with_reducible refine Kd.C_alloc ?_ _) | (with_reducible refine Kd.C_drewN ?_ _) | (with_reducible refine Kd.C_drew ?_))); (case side2 => exact HC0.out); (case side3 => repeat (first | exact HR1.out | (with_reducible refine Kd.C_alloc ?_ _) | (with_reducible refine Kd.C_drewN ?_ _) | (with_reducible refine Kd.C_drew ?_))); (case side4 => exact HC1.out); rintro e w8 ⟨rfl, hb⟩; refine ⟨_, rfl, ?_⟩; have n0_ := zA (below_step (by repeat (first | (with_reducible first | exact HB.out | apply zL | apply zN | apply zD) | exact HB.out)) hb); clear HB; have HB := n0_; clear n0_; (try clear hb); (try clear hb2); (try clear hk); (try clear hi)))
  go_ret2
  exact ⟨by first | rfl | (simp [errW_none, errW_some] <;> rfl) | (simp [*, errW_none, errW_some] <;> rfl), by repeat (first | (with_reducible first | exact HB.out | apply zL | apply zN | apply zD) | exact HB.out)⟩
 rw [if_pos c4] at H
 have c4b0 : (t282 == 0) = true := beq_iff_eq.mpr c4
 have c4b1 : (t282 != 0) = false := bne_eq_false_iff_eq.mpr c4
 clear c4; replace H := Option.bind_eq_some_iff.mp H; obtain ⟨t283, A50, H⟩ := H
 replace H : (some (t283, 0)) = some (r1, r2) := H
 have A5 := zA A50; clear A50
 simp only [Option.some.injEq, Prod.mk.injEq] at H
 obtain ⟨rfl, rfl⟩ := H
 go_enter Tryd.func9, Tryd.ntmps9
 go_wp2_with (first | ((with_reducible refine gate_callee (f := 26) rfl ?_); refine goesL_ (some 9) rfl rfl Tryd.func26 (by kernel_rfl) rfl #[.slice A0 l0.length c0, .slice A1 l1.length c1] rfl (by (try simp only [List.map_toArray, List.map_cons, List.map_nil]); first | done | rfl | (simp only [List.length_drop, List.length_take]; rfl)) ?_; (with_reducible refine (copseref16_looked.calls k _ _ l0 _ _ l1 t282 _ ?side1 ?side2 ?side3 ?side4 A3.out).mono ?_); (case side1 => repeat (first | exact HR0.out | (with_reducible refine Kd.C_alloc ?_ _) | (with_reducible refine Kd.C_drewN ?_ _) | (with_reducible refine Kd.C_drew ?_))); (case side2 => exact HC0.out); (case side3 => repeat (first | exact HR1.out | (with_reducible refine Kd.C_alloc ?_ _) | (with_reducible refine Kd.C_drewN ?_ _) | (with_reducible refine Kd.C_drew ?_))); (case side4 => exact HC1.out); rintro e w6 ⟨rfl, hb⟩; refine ⟨_, rfl, ?_⟩; have n0_ := zA (below_step (by repeat (first | (with_reducible first | exact HB.out | apply zL | apply zN | apply zD) | exact HB.out)) hb); clear HB; have HB := n0_; clear n0_; (try clear hb); (try clear hb2); (try clear hk); (try clear hi)) | ((with_reducible refine gate_callee (f := 27) rfl ?_); refine goesL_ (some 15) rfl rfl Tryd.func27 (by kernel_rfl) rfl #[.slice A0 l0.length c0, .slice A1 l1.length c1] rfl (by (try simp only [List.map_toArray, List.map_cons, List.map_nil]); first | done | rfl | (simp only [List.length_drop, List.length_take]; rfl)) ?_; (with_reducible refine (copseref16_cost.calls k _ _ l0 _ _ l1 t283 _ ?side1 ?side2 ?side3 ?side4 A5.out).mono ?_); (case side1 => repeat (first | exact (Kd.C_below HR0.out HB.out) | (with_reducible refine Kd.C_alloc ?_ _) | (with_reducible refine Kd.C_drewN ?_ _) | (with_reducible refine Kd.C_drew ?_))); (case side2 => exact HC0.out); (case side3 => repeat (first | exact (Kd.C_below HR1.out HB.out) | (with_reducible refine Kd.C_alloc ?_ _) | (with_reducible refine Kd.C_drewN ?_ _) | (with_reducible refine Kd.C_drew ?_))); (case side4 => exact HC1.out); rintro e w7 ⟨rfl, hb⟩; refine ⟨_, rfl, ?_⟩; have n0_ := zA (below_step (by repeat (first | (with_reducible first | exact HB.out | apply zL | apply zN | apply zD) | exact HB.out)) hb); clear HB; have HB := n0_; clear n0_; (try clear hb); (try clear hb2); (try clear hk); (try clear hi)))
 go_ret2
 exact ⟨by first | rfl | (simp [errW_none, errW_some] <;> rfl) | (simp [*, errW_none, errW_some] <;> rfl), by repeat (first | (with_reducible first | exact HB.out | apply zL | apply zN | apply zD) | exact HB.out)⟩
mutual
def copseref16_At.l0 : Nat → List ByteArray → ByteArray → List ByteArray → Bool → Int → Option (List ByteArray × Int)
 | 0, _, _, _, _, _ => none
 | k + 1, x0, x1, x6, x7, x8 => if x8 < (x0.length : Int) then (if 0 ≤ x8 then (if (rdOf ByteArray.empty x0 x8).toList = x1.toList then (copseref16_At.j1 k x0 x1 x6 x7 x8 false) else ((copseref02_Above.f k x1 (rdOf ByteArray.empty x0 x8)).bind fun t288 => (copseref16_At.j1 k x0 x1 x6 x7 x8 (!t288)))) else (none)) else (some (x6, 0))
def copseref16_At.j1 : Nat → List ByteArray → ByteArray → List ByteArray → Bool → Int → Bool → Option (List ByteArray × Int)
 | 0, _, _, _, _, _, _ => none
 | k + 1, x0, x1, x6, x7, x8, x35 => if x35 = true then (if 0 ≤ x8 then (if x8 < (x0.length : Int) then (if x6.length < 8796093022208 then (copseref16_At.l0 k x0 x1 (x6 ++ [rdOf ByteArray.empty x0 x8]) x7 (wrap64 (x8 + 1))) else (none)) else (none)) else (none)) else (if x7 = true then (copseref16_At.l0 k x0 x1 x6 true (wrap64 (x8 + 1))) else (if x6.length < 8796093022208 then (copseref16_At.l0 k x0 x1 (x6 ++ [x1]) true (wrap64 (x8 + 1))) else (none)))
end
def copseref16_At.f (k : Nat) (l0 : List ByteArray) (a1 : ByteArray) : Option (List ByteArray × Int) := (copseref16_Cones.f k l0).bind fun t284 => (if t284 = true then ((copseref02_Valid.f k a1).bind fun t285 => (if t285 = true then (copseref16_At.l0 k l0 a1 ([] : List ByteArray) false 0) else (some (([] : List ByteArray), 7)))) else (some (([] : List ByteArray), 13)))
set_option maxHeartbeats 8000000 in
set_option maxRecDepth 100000 in
theorem copseref16_At.calls (k : Nat) (A0 : Option Addr) (c0 : Nat) (l0 : List ByteArray) (a1 : ByteArray) (r1 : List ByteArray) (r2 : Int) (w : World) (hr0 : Kd.C Kd.string w A0 l0.length l0) (hc0 : l0.length ≤ c0) (h : copseref16_At.f k l0 a1 = some (r1, r2)) :
  Calls Tryd.prog 11 #[.slice A0 l0.length c0, .string a1] w fun e w' => ∃ v0_ : Value, e = .returned (.tuple #[v0_, .int .i64 r2]) ∧ Kd.R Kd.string 9 w' w.heap.size (fun _ => True) v0_ r1 ∧ Below w.heap.size w w' := by
 have HR0 := zA hr0; have HC0 := zA hc0; clear hr0 hc0
 have HB := zA (Below.refl w.heap.size w)
 have H : ((copseref16_Cones.f k l0).bind fun t284 => (if t284 = true then ((copseref02_Valid.f k a1).bind fun t285 => (if t285 = true then (copseref16_At.l0 k l0 a1 ([] : List ByteArray) false 0) else (some (([] : List ByteArray), 7)))) else (some (([] : List ByteArray), 13)))) = some (r1, r2) := h
 clear h; replace H := Option.bind_eq_some_iff.mp H; obtain ⟨t284, A30, H⟩ := H
 replace H : (if t284 = true then ((copseref02_Valid.f k a1).bind fun t285 => (if t285 = true then (copseref16_At.l0 k l0 a1 ([] : List ByteArray) false 0) else (some (([] : List ByteArray), 7)))) else (some (([] : List ByteArray), 13))) = some (r1, r2) := H
 have A3 := zA A30; clear A30
 by_cases c4 : t284 = true
 rotate_left
 ·replace c4 := Bool.eq_false_iff.mpr c4
  subst c4
  have H1 : (some (([] : List ByteArray), 13)) = some (r1, r2) := by rw [if_neg (show ¬ (false = true) by decide)] at H; exact H
  clear H; have H := H1; clear H1
  simp only [Option.some.injEq, Prod.mk.injEq] at H
  obtain ⟨rfl, rfl⟩ := H
  go_enter Tryd.func11, Tryd.ntmps11
  go_wp2_with (first | ((with_reducible refine gate_callee (f := 17) rfl ?_); refine goesL_ (some 10) rfl rfl Tryd.func17 (by kernel_rfl) rfl #[.slice A0 l0.length c0] rfl (by (try simp only [List.map_toArray, List.map_cons, List.map_nil]); first | done | rfl | (simp only [List.length_drop, List.length_take]; rfl)) ?_; (with_reducible refine (copseref16_Cones.calls k _ _ l0 false _ ?side1 ?side2 A3.out).mono ?_); (case side1 => repeat (first | exact HR0.out | (with_reducible refine Kd.C_alloc ?_ _) | (with_reducible refine Kd.C_drewN ?_ _) | (with_reducible refine Kd.C_drew ?_))); (case side2 => exact HC0.out); rintro e w25 ⟨rfl, hb⟩; refine ⟨_, rfl, ?_⟩; have n0_ := zA (below_step (by repeat (first | (with_reducible first | exact HB.out | apply zL | apply zN | apply zD) | exact HB.out)) hb); clear HB; have HB := n0_; clear n0_; (try clear hb); (try clear hb2); (try clear hk); (try clear hi)))
  go_ret2
  exact ⟨_, by first | rfl | (simp [errW_none, errW_some] <;> rfl) | (simp [*, errW_none, errW_some] <;> rfl), by first | exact Kd.R_nil _ _ _ _ _ | exact Kd.N_nil _ _ _ _ _ | exact Kd.V_nil _ _ _ _ _ | exact Kd.Q_nil _ _ _ _ _ | exact Kd.S_nil _ _ _ _ _, by repeat (first | (with_reducible first | exact HB.out | apply zL | apply zN | apply zD) | exact HB.out)⟩
 subst c4
 have H1 : ((copseref02_Valid.f k a1).bind fun t285 => (if t285 = true then (copseref16_At.l0 k l0 a1 ([] : List ByteArray) false 0) else (some (([] : List ByteArray), 7)))) = some (r1, r2) := by rw [if_pos rfl] at H; exact H
 clear H; have H := H1; clear H1; replace H := Option.bind_eq_some_iff.mp H; obtain ⟨t285, A50, H⟩ := H
 replace H : (if t285 = true then (copseref16_At.l0 k l0 a1 ([] : List ByteArray) false 0) else (some (([] : List ByteArray), 7))) = some (r1, r2) := H
 have A5 := zA A50; clear A50
 by_cases c6 : t285 = true
 rotate_left
 ·replace c6 := Bool.eq_false_iff.mpr c6
  subst c6
  have H1 : (some (([] : List ByteArray), 7)) = some (r1, r2) := by rw [if_neg (show ¬ (false = true) by decide)] at H; exact H
  clear H; have H := H1; clear H1
  simp only [Option.some.injEq, Prod.mk.injEq] at H
  obtain ⟨rfl, rfl⟩ := H
  go_enter Tryd.func11, Tryd.ntmps11
  go_wp2_with (first | ((with_reducible refine gate_callee (f := 17) rfl ?_); refine goesL_ (some 10) rfl rfl Tryd.func17 (by kernel_rfl) rfl #[.slice A0 l0.length c0] rfl (by (try simp only [List.map_toArray, List.map_cons, List.map_nil]); first | done | rfl | (simp only [List.length_drop, List.length_take]; rfl)) ?_; (with_reducible refine (copseref16_Cones.calls k _ _ l0 true _ ?side1 ?side2 A3.out).mono ?_); (case side1 => repeat (first | exact HR0.out | (with_reducible refine Kd.C_alloc ?_ _) | (with_reducible refine Kd.C_drewN ?_ _) | (with_reducible refine Kd.C_drew ?_))); (case side2 => exact HC0.out); rintro e w23 ⟨rfl, hb⟩; refine ⟨_, rfl, ?_⟩; have n0_ := zA (below_step (by repeat (first | (with_reducible first | exact HB.out | apply zL | apply zN | apply zD) | exact HB.out)) hb); clear HB; have HB := n0_; clear n0_; (try clear hb); (try clear hb2); (try clear hk); (try clear hi)) | ((with_reducible refine gate_callee (f := 30) rfl ?_); refine goesL_ (some 13) rfl rfl Tryd.func30 (by kernel_rfl) rfl #[.string a1] rfl (by (try simp only [List.map_toArray, List.map_cons, List.map_nil]); first | done | rfl | (simp only [List.length_drop, List.length_take]; rfl)) ?_; (with_reducible refine (copseref02_Valid.calls k a1 false _ A5.out).mono ?_); rintro e w24 ⟨rfl, hb⟩; refine ⟨_, rfl, ?_⟩; have n0_ := zA (below_step (by repeat (first | (with_reducible first | exact HB.out | apply zL | apply zN | apply zD) | exact HB.out)) hb); clear HB; have HB := n0_; clear n0_; (try clear hb); (try clear hb2); (try clear hk); (try clear hi)))
  go_ret2
  exact ⟨_, by first | rfl | (simp [errW_none, errW_some] <;> rfl) | (simp [*, errW_none, errW_some] <;> rfl), by first | exact Kd.R_nil _ _ _ _ _ | exact Kd.N_nil _ _ _ _ _ | exact Kd.V_nil _ _ _ _ _ | exact Kd.Q_nil _ _ _ _ _ | exact Kd.S_nil _ _ _ _ _, by repeat (first | (with_reducible first | exact HB.out | apply zL | apply zN | apply zD) | exact HB.out)⟩
 subst c6
 have H1 : (copseref16_At.l0 k l0 a1 ([] : List ByteArray) false 0) = some (r1, r2) := by rw [if_pos rfl] at H; exact H
 clear H; have H := H1; clear H1
 have H' := zA H
 clear H
 go_enter Tryd.func11, Tryd.ntmps11
 go_wp2_with (first | ((with_reducible refine gate_callee (f := 17) rfl ?_); refine goesL_ (some 10) rfl rfl Tryd.func17 (by kernel_rfl) rfl #[.slice A0 l0.length c0] rfl (by (try simp only [List.map_toArray, List.map_cons, List.map_nil]); first | done | rfl | (simp only [List.length_drop, List.length_take]; rfl)) ?_; (with_reducible refine (copseref16_Cones.calls k _ _ l0 true _ ?side1 ?side2 A3.out).mono ?_); (case side1 => repeat (first | exact HR0.out | (with_reducible refine Kd.C_alloc ?_ _) | (with_reducible refine Kd.C_drewN ?_ _) | (with_reducible refine Kd.C_drew ?_))); (case side2 => exact HC0.out); rintro e w7 ⟨rfl, hb⟩; refine ⟨_, rfl, ?_⟩; have n0_ := zA (below_step (by repeat (first | (with_reducible first | exact HB.out | apply zL | apply zN | apply zD) | exact HB.out)) hb); clear HB; have HB := n0_; clear n0_; (try clear hb); (try clear hb2); (try clear hk); (try clear hi)) | ((with_reducible refine gate_callee (f := 30) rfl ?_); refine goesL_ (some 13) rfl rfl Tryd.func30 (by kernel_rfl) rfl #[.string a1] rfl (by (try simp only [List.map_toArray, List.map_cons, List.map_nil]); first | done | rfl | (simp only [List.length_drop, List.length_take]; rfl)) ?_; (with_reducible refine (copseref02_Valid.calls k a1 true _ A5.out).mono ?_); rintro e w8 ⟨rfl, hb⟩; refine ⟨_, rfl, ?_⟩; have n0_ := zA (below_step (by repeat (first | (with_reducible first | exact HB.out | apply zL | apply zN | apply zD) | exact HB.out)) hb); clear HB; have HB := n0_; clear n0_; (try clear hb); (try clear hb2); (try clear hk); (try clear hi)))
 go_loopg [6, 7, 8] k (fun kq v6 v7 v8 w' => ∃ (x6_1 : List ByteArray) (x7_1 : Bool) (x8_1 : Int), v7 = .bool x7_1 ∧ v8 = .int .i64 x8_1 ∧ Aside0 (copseref16_At.l0 kq l0 a1 x6_1 x7_1 x8_1 = some (r1, r2)) ∧ Aside0 (kq ≤ k) ∧ Aside0 (Kd.R Kd.string 9 w' w.heap.size (fun _ => True) v6 x6_1) ∧ Aside0 (Below w.heap.size w w'))
 case atStart => exact ⟨(([] : List ByteArray)), (false), (0), (by first | rfl | (simp; done) | (simp [*]; done)), (by first | rfl | (simp; done) | (simp [*]; done)), H', ⟨Nat.le_refl _⟩, ⟨by first | exact Kd.R_nil _ _ _ _ _ | exact Kd.N_nil _ _ _ _ _ | exact Kd.V_nil _ _ _ _ _ | exact Kd.Q_nil _ _ _ _ _ | exact Kd.S_nil _ _ _ _ _⟩, ⟨by repeat (first | (with_reducible first | exact HB.out | apply zL | apply zN | apply zD) | exact HB.out)⟩⟩
 case round =>
  clear H'
  try clear c1
  try clear p2
  try clear c3
  try clear c4
  try clear c6
  obtain ⟨x6_1, x7_1, x8_1, rfl, rfl, HA, HK1, HO_6, HB⟩ := hrel
  cases gk with
  | zero => exact absurd HA.out (by simp [copseref16_At.l0])
  | succ k1 =>
   have H := HA.out
   clear HA
   simp only [copseref16_At.l0] at H
   by_cases c9 : x8_1 < (l0.length : Int)
   rotate_left
   ·rw [if_neg c9] at H
    have c9b0 : decide (x8_1 < (l0.length : Int)) = false := decide_eq_false c9
    clear c9
    simp only [Option.some.injEq, Prod.mk.injEq] at H
    obtain ⟨rfl, rfl⟩ := H; go_wp2; go_ret2
    exact ⟨_, by first | rfl | (simp [errW_none, errW_some] <;> rfl) | (simp [*, errW_none, errW_some] <;> rfl), by (with_reducible repeat (first | apply Kd.R_alloc | apply Kd.R_drewN | apply Kd.R_drew)); exact HO_6.out, by repeat (first | (with_reducible first | exact HB.out | apply zL | apply zN | apply zD) | exact HB.out)⟩
   rw [if_pos c9] at H
   have c9b0 : decide (x8_1 < (l0.length : Int)) = true := decide_eq_true c9
   clear c9; have HC10 := zA H; clear H
   go_upto_region 10 with (fail)
   go_cut [35] (fun v35 wc => ∃ (kq : Nat) (x35_9 : Bool), v35 = .bool x35_9 ∧ Aside0 (copseref16_At.j1 kq l0 a1 x6_1 x7_1 x8_1 x35_9 = some (r1, r2)) ∧ Aside0 (kq ≤ k1) ∧ Aside0 (Kd.R Kd.string 9 wc w.heap.size (fun _ => True) u6 x6_1) ∧ Aside0 (Below w.heap.size w wc))
   case first =>
    have H := HC10.out
    clear HC10
    by_cases c11 : 0 ≤ x8_1
    rotate_left
    ·rw [if_neg c11] at H
     exact absurd H (by simp)
    rw [if_pos c11] at H
    have c11b0 : decide (0 ≤ x8_1) = true := decide_eq_true c11
    clear c11
    (first | rw [c11b0] | (simp only [i64_w, i32_w]; rw [c11b0]) | skip)
    by_cases c12 : (rdOf ByteArray.empty l0 x8_1).toList = a1.toList
    ·rw [if_pos c12] at H
     have c12b0 : ((rdOf ByteArray.empty l0 x8_1).toList == a1.toList) = true := beq_iff_eq.mpr c12
     have c12b1 : ((rdOf ByteArray.empty l0 x8_1).toList != a1.toList) = false := bne_eq_false_iff_eq.mpr c12
     clear c12
     have H' := zA H
     clear H
     have p286 : 0 ≤ (x8_1 : Int) := zO (by first | (with_reducible assumption) | assumption)
     have q286 : x8_1 < (l0.length : Int) := zO (by first | (with_reducible assumption) | assumption)
     obtain ⟨ad286, e286, hx286_0⟩ := Kd.at_string HR0.out x8_1 p286 q286
     cases e286
     replace hx286_0 := (HB.out.cell (zB w _ hx286_0)).trans hx286_0
     replace p286 := eq_true p286
     replace q286 := eq_true q286
     go_wp2
     go_meet
     case rel => exact ⟨_, (false), (by first | rfl | (simp; done) | (simp [*]; done)), H', ⟨by have := HK1.out; first | omega | exact Nat.le_refl _⟩, ⟨by (with_reducible repeat (first | apply Kd.R_alloc | apply Kd.R_drewN | apply Kd.R_drew)); exact HO_6.out⟩, ⟨by repeat (first | (with_reducible first | exact HB.out | apply zL | apply zN | apply zD) | exact HB.out)⟩⟩
    rw [if_neg c12] at H
    have c12b0 : ((rdOf ByteArray.empty l0 x8_1).toList == a1.toList) = false := beq_eq_false_iff_ne.mpr c12
    have c12b1 : ((rdOf ByteArray.empty l0 x8_1).toList != a1.toList) = true := bne_iff_ne.mpr c12
    replace H := Option.bind_eq_some_iff.mp H; obtain ⟨t288, A130, H⟩ := H
    replace H : (copseref16_At.j1 k1 l0 a1 x6_1 x7_1 x8_1 (!t288)) = some (r1, r2) := H
    have A13 := zA A130; clear A130
    have H' := zA H
    clear H
    have p286 : 0 ≤ (x8_1 : Int) := zO (by first | (with_reducible assumption) | assumption)
    have q286 : x8_1 < (l0.length : Int) := zO (by first | (with_reducible assumption) | assumption)
    obtain ⟨ad286, e286, hx286_0⟩ := Kd.at_string HR0.out x8_1 p286 q286
    cases e286
    replace hx286_0 := (HB.out.cell (zB w _ hx286_0)).trans hx286_0
    replace p286 := eq_true p286
    replace q286 := eq_true q286
    have p287 : 0 ≤ (x8_1 : Int) := zO (by first | (with_reducible assumption) | assumption)
    have q287 : x8_1 < (l0.length : Int) := zO (by first | (with_reducible assumption) | assumption)
    obtain ⟨ad287, e287, hx287_0⟩ := Kd.at_string HR0.out x8_1 p287 q287
    obtain rfl : ad286 = ad287 := (by injection e287)
    replace hx287_0 := (HB.out.cell (zB w _ hx287_0)).trans hx287_0
    replace p287 := eq_true p287
    replace q287 := eq_true q287
    go_wp2_with (first | (go_at_call 31; (with_reducible refine (copseref02_Above.calls k1 a1 (rdOf ByteArray.empty l0 x8_1) t288 _ A13.out).mono ?_); rintro e w14 ⟨rfl, hb⟩; have n0_ := zA (Kd.R_below (by (with_reducible repeat (first | apply Kd.R_alloc | apply Kd.R_drewN | apply Kd.R_drew)); exact HO_6.out) hb); have n1_ := zA (below_step (by repeat (first | (with_reducible first | exact HB.out | apply zL | apply zN | apply zD) | exact HB.out)) hb); clear HO_6; clear HB; have HO_6 := n0_; have HB := n1_; clear n0_ n1_; (try clear hb); (try clear hb2); (try clear hk); (try clear hi)))
    go_meet
    case rel => exact ⟨_, (!t288), (by first | rfl | (simp; done) | (simp [*]; done)), H', ⟨by have := HK1.out; first | omega | exact Nat.le_refl _⟩, ⟨by (with_reducible repeat (first | apply Kd.R_alloc | apply Kd.R_drewN | apply Kd.R_drew)); exact HO_6.out⟩, ⟨by repeat (first | (with_reducible first | exact HB.out | apply zL | apply zN | apply zD) | exact HB.out)⟩⟩
   case rest =>
    clear HC10
    try clear c1
    try clear p2
    try clear q2
    try clear hx2
    try clear c3
    try clear c4
    try clear c6
    try clear c9
    try clear c9b0
    try clear c11
    try clear c11b0
    try clear c12
    try clear c12b0
    try clear c12b1
    try clear hx286_0
    try clear hx287_0
    try clear p2
    try clear p286
    try clear p287
    try clear q286
    try clear q287
    obtain ⟨kq, x35_9, rfl, HA, HJ9, HO_6, HB⟩ := hcut
    cases kq with
    | zero => exact absurd HA.out (by simp [copseref16_At.j1])
    | succ kj9 =>
     have H := HA.out
     clear HA
     simp only [copseref16_At.j1] at H
     by_cases c15 : x35_9 = true
     ·subst c15
      have H1 : (if 0 ≤ x8_1 then (if x8_1 < (l0.length : Int) then (if x6_1.length < 8796093022208 then (copseref16_At.l0 kj9 l0 a1 (x6_1 ++ [rdOf ByteArray.empty l0 x8_1]) x7_1 (wrap64 (x8_1 + 1))) else (none)) else (none)) else (none)) = some (r1, r2) := by rw [if_pos rfl] at H; exact H
      clear H; have H := H1; clear H1
      by_cases c16 : 0 ≤ x8_1
      rotate_left
      ·rw [if_neg c16] at H
       exact absurd H (by simp)
      rw [if_pos c16] at H
      have c16b0 : decide (0 ≤ x8_1) = true := decide_eq_true c16
      clear c16
      by_cases c17 : x8_1 < (l0.length : Int)
      rotate_left
      ·rw [if_neg c17] at H
       exact absurd H (by simp)
      rw [if_pos c17] at H
      have c17b0 : decide (x8_1 < (l0.length : Int)) = true := decide_eq_true c17
      clear c17
      by_cases c18 : x6_1.length < 8796093022208
      rotate_left
      ·rw [if_neg c18] at H
       exact absurd H (by simp)
      rw [if_pos c18] at H; have LMc18 := zA c18; clear c18
      obtain ⟨y290, hy290⟩ : ∃ y_ : List ByteArray, y_ = (x6_1 ++ [rdOf ByteArray.empty l0 x8_1]) := ⟨_, rfl⟩
      replace H : (copseref16_At.l0 kj9 l0 a1 y290 x7_1 (wrap64 (x8_1 + 1))) = some (r1, r2) := by first | (rw [hy290]; with_reducible exact H) | (have H2_ := (Option.bind_some _ _).symm.trans H; rw [hy290]; with_reducible exact H2_) | (have H2_ := (Option.bind_some _ _).symm.trans H; with_reducible exact H2_) | with_reducible exact H | (rw [hy290]; exact H) | exact H
      have Ny290 := zA hy290; clear hy290
      have H' := zA H
      clear H
      have p289 : 0 ≤ (x8_1 : Int) := zO (by first | (with_reducible assumption) | assumption)
      have q289 : x8_1 < (l0.length : Int) := zO (by first | (with_reducible assumption) | assumption)
      obtain ⟨ad289, e289, hx289_0⟩ := Kd.at_string HR0.out x8_1 p289 q289
      cases e289
      replace hx289_0 := (HB.out.cell (zB w _ hx289_0)).trans hx289_0
      replace p289 := eq_true p289
      replace q289 := eq_true q289
      go_wp2_with (first | ((with_reducible refine gate_builtin (b := .append) (xs := #[.tmp 36, .tmp 41]) rfl ?_); at_builtin; refine Kd.R_append Kd.string (w0 := w) w.heap.size rfl (.tmp 36) (.tmp 41) 23 9 (.string ⟨#[]⟩) 16 rfl Tryd.underlying23 info9 rfl (by decide) (by omega) u6 x6_1 (rdOf ByteArray.empty l0 x8_1) [.string (rdOf ByteArray.empty l0 x8_1)] (fun _ => True) (fun _ => False) rfl rfl ?aP (fun _ hk => hk.elim) ?aF ?aO ?aB ?aS ?aL ?_; (case aP => exact rfl); (case aB => exact (by repeat (first | (with_reducible first | exact HB.out | apply zL | apply zN | apply zD) | exact HB.out))); (case aF => exact (fun _ _ => trivial)); (case aO => exact (by (with_reducible repeat (first | apply Kd.R_alloc | apply Kd.R_drewN | apply Kd.R_drew)); exact HO_6.out)); (case aS => exact (below_size (by repeat (first | (with_reducible first | exact HB.out | apply zL | apply zN | apply zD) | exact HB.out)))); (case aL => have := LMc18.out; omega); intro v291 w19 ho hb hg hat; rw [← Ny290.out] at ho; have n0_ := zA (hb); have n1_ := zA (ho); clear HB; clear HO_6; have HB := n0_; have HO292 := n1_; clear n0_ n1_; clear ho hb hg hat))
      go_roundg kj9
      case measure => have := HK1.out; have := HJ9.out; omega
      case rel => exact ⟨(y290), (x7_1), (wrap64 (x8_1 + 1)), (by first | rfl | (simp; done) | (simp [*]; done)), (by first | rfl | (simp; done) | (simp [*]; done)), H', ⟨by have := HK1.out; have := HJ9.out; omega⟩, ⟨by (with_reducible repeat (first | apply Kd.R_alloc | apply Kd.R_drewN | apply Kd.R_drew)); exact HO292.out⟩, ⟨by repeat (first | (with_reducible first | exact HB.out | apply zL | apply zN | apply zD) | exact HB.out)⟩⟩
     replace c15 := Bool.eq_false_iff.mpr c15
     subst c15
     have H1 : (if x7_1 = true then (copseref16_At.l0 kj9 l0 a1 x6_1 true (wrap64 (x8_1 + 1))) else (if x6_1.length < 8796093022208 then (copseref16_At.l0 kj9 l0 a1 (x6_1 ++ [a1]) true (wrap64 (x8_1 + 1))) else (none))) = some (r1, r2) := by rw [if_neg (show ¬ (false = true) by decide)] at H; exact H
     clear H; have H := H1; clear H1
     by_cases c20 : x7_1 = true
     ·subst c20
      have H1 : (copseref16_At.l0 kj9 l0 a1 x6_1 true (wrap64 (x8_1 + 1))) = some (r1, r2) := by rw [if_pos rfl] at H; exact H
      clear H; have H := H1; clear H1
      have H' := zA H
      clear H; go_wp2
      go_roundg kj9
      case measure => have := HK1.out; have := HJ9.out; omega
      case rel => exact ⟨(x6_1), (true), (wrap64 (x8_1 + 1)), (by first | rfl | (simp; done) | (simp [*]; done)), (by first | rfl | (simp; done) | (simp [*]; done)), H', ⟨by have := HK1.out; have := HJ9.out; omega⟩, ⟨by (with_reducible repeat (first | apply Kd.R_alloc | apply Kd.R_drewN | apply Kd.R_drew)); exact HO_6.out⟩, ⟨by repeat (first | (with_reducible first | exact HB.out | apply zL | apply zN | apply zD) | exact HB.out)⟩⟩
     replace c20 := Bool.eq_false_iff.mpr c20
     subst c20
     have H1 : (if x6_1.length < 8796093022208 then (copseref16_At.l0 kj9 l0 a1 (x6_1 ++ [a1]) true (wrap64 (x8_1 + 1))) else (none)) = some (r1, r2) := by rw [if_neg (show ¬ (false = true) by decide)] at H; exact H
     clear H; have H := H1; clear H1
     by_cases c21 : x6_1.length < 8796093022208
     rotate_left
     ·rw [if_neg c21] at H
      exact absurd H (by simp)
     rw [if_pos c21] at H; have LMc21 := zA c21; clear c21
     obtain ⟨y293, hy293⟩ : ∃ y_ : List ByteArray, y_ = (x6_1 ++ [a1]) := ⟨_, rfl⟩
     replace H : (copseref16_At.l0 kj9 l0 a1 y293 true (wrap64 (x8_1 + 1))) = some (r1, r2) := by first | (rw [hy293]; with_reducible exact H) | (have H2_ := (Option.bind_some _ _).symm.trans H; rw [hy293]; with_reducible exact H2_) | (have H2_ := (Option.bind_some _ _).symm.trans H; with_reducible exact H2_) | with_reducible exact H | (rw [hy293]; exact H) | exact H
     have Ny293 := zA hy293; clear hy293
     have H' := zA H
     clear H
     go_wp2_with (first | ((with_reducible refine gate_builtin (b := .append) (xs := #[.tmp 45, .tmp 47]) rfl ?_); at_builtin; refine Kd.R_append Kd.string (w0 := w) w.heap.size rfl (.tmp 45) (.tmp 47) 23 9 (.string ⟨#[]⟩) 16 rfl Tryd.underlying23 info9 rfl (by decide) (by omega) u6 x6_1 a1 [.string a1] (fun _ => True) (fun _ => False) rfl rfl ?aP (fun _ hk => hk.elim) ?aF ?aO ?aB ?aS ?aL ?_; (case aP => exact rfl); (case aB => exact (by repeat (first | (with_reducible first | exact HB.out | apply zL | apply zN | apply zD) | exact HB.out))); (case aF => exact (fun _ _ => trivial)); (case aO => exact (by (with_reducible repeat (first | apply Kd.R_alloc | apply Kd.R_drewN | apply Kd.R_drew)); exact HO_6.out)); (case aS => exact (below_size (by repeat (first | (with_reducible first | exact HB.out | apply zL | apply zN | apply zD) | exact HB.out)))); (case aL => have := LMc21.out; omega); intro v294 w22 ho hb hg hat; rw [← Ny293.out] at ho; have n0_ := zA (hb); have n1_ := zA (ho); clear HB; clear HO_6; have HB := n0_; have HO295 := n1_; clear n0_ n1_; clear ho hb hg hat))
     go_roundg kj9
     case measure => have := HK1.out; have := HJ9.out; omega
     case rel => exact ⟨(y293), (true), (wrap64 (x8_1 + 1)), (by first | rfl | (simp; done) | (simp [*]; done)), (by first | rfl | (simp; done) | (simp [*]; done)), H', ⟨by have := HK1.out; have := HJ9.out; omega⟩, ⟨by (with_reducible repeat (first | apply Kd.R_alloc | apply Kd.R_drewN | apply Kd.R_drew)); exact HO295.out⟩, ⟨by repeat (first | (with_reducible first | exact HB.out | apply zL | apply zN | apply zD) | exact HB.out)⟩⟩
end Go.Proofs.YtnfolcefjkannaaDoor.G
