/- This session's texts, joined by a program of this session's: contracts of functions, printed and typed, and plain laws; what nothing needs is left out. -/
import Derived.Test.YtnfolcefjkannaaDoorMA5
set_option linter.unusedVariables false
set_option linter.unusedSectionVars false
set_option linter.unusedSimpArgs false
namespace Go.Proofs.YtnfolcefjkannaaDoor.G
open Go Go.RowKit Go.Proofs.YtnfolcefjkannaaDoorW.PrintWords Go.Proofs.YtnfolcefjkannaaDoorW.PrintLast Go.Proofs.YtnfolcefjkannaaDoorW.PrintMore Go.Proofs.YtnfolcefjkannaaDoor.Base
abbrev Cand := S81
def betterP (p : ByteArray) (c : Int) (q : ByteArray) (d : Int) : Bool := if c = d then (if (sp p).length = (sp q).length then decide (cmpP p q < 0) else decide ((sp p).length > (sp q).length)) else decide (c < d)
def bestP (b : ByteArray) (c : Int) : List Cand → ByteArray × Int
  | [] => (b, c)
  | x :: xs => if betterP x.f0 x.f1 b c = true then bestP x.f0 x.f1 xs else bestP b c xs
def candP (l : List File) (x : List ByteArray) (i : Nat) : Cand := ⟨commonP (rdB x i) (rdB x (i + 1)), toldN (totalF l (atP (commonP (rdB x i) (rdB x (i + 1))) false x))⟩
def candsP (l : List File) (x : List ByteArray) : Nat → Nat → List Cand
  | 0, _ => []
  | m + 1, i => candP l x i :: candsP l x m (i + 1)
def stepP (l : List File) (x : List ByteArray) : List ByteArray := atP (bestP (candP l x 0).f0 (candP l x 0).f1 (candsP l x (x.length - 2) 1)).1 false x
theorem better_sp (p : ByteArray) (c : Int) (q : ByteArray) (d : Int) (hp : Short p) (hq : Short q) : Ev (fun k => merge_step_1.f k p c q d) (betterP p c q d) := by
  have h1 := path_Depth_sp p (by unfold Short at hp; omega)
  have h2 := path_Depth_sp q (by unfold Short at hq; omega)
  unfold betterP
  by_cases h : c = d
  · rw [if_pos h]
    by_cases h3 : (sp p).length = (sp q).length
    · rw [if_pos h3]
      refine Ev.congr (Ev.bind (F := fun _ t => some (decide (t < 0))) (path_Cmp_sp p q hp hq) (Ev.of rfl)) (fun k => ?_)
      unfold merge_step_1.f
      rw [if_pos h, h1, h2]
      simp only [Option.bind_some]
      rw [if_pos (by omega)]
    · rw [if_neg h3]
      refine Ev.congr (Ev.of (X := some (decide ((sp p).length > (sp q).length))) rfl) (fun k => ?_)
      unfold merge_step_1.f
      rw [if_pos h, h1, h2]
      simp only [Option.bind_some]
      rw [if_neg (by omega)]
      by_cases h4 : (sp p).length > (sp q).length
      · rw [decide_eq_true h4, decide_eq_true (by omega)]
      · rw [decide_eq_false h4, decide_eq_false (by omega)]
  · rw [if_neg h]
    refine Ev.congr (Ev.of rfl) (fun k => ?_)
    unfold merge_step_1.f
    rw [if_neg h]
theorem best_go (xs : List Cand) : ∀ (b : ByteArray) (c : Int), Short b → (∀ x ∈ xs, Short x.f0) → Ev (fun k => merge_candidate.go k b c xs) (bestP b c xs) := by
  induction xs with
  | nil => intro b c _ _; exact Ev.of rfl
  | cons x xs ih =>
    intro b c hb hx
    have hx0 := hx x (by simp)
    have hxs : ∀ y ∈ xs, Short y.f0 := fun y hy => hx y (by simp [hy])
    refine Ev.bind (better_sp x.f0 x.f1 b c hx0 hb) ?_
    unfold bestP
    cases betterP x.f0 x.f1 b c with
    | true => simpa using ih x.f0 x.f1 hx0 hxs
    | false => simpa using ih b c hb hxs
theorem bestP_mem (xs : List Cand) : ∀ (b : ByteArray) (c : Int), (bestP b c xs).1 = b ∨ ∃ x ∈ xs, (bestP b c xs).1 = x.f0 := by
  induction xs with
  | nil => intro b c; exact .inl rfl
  | cons x xs ih =>
    intro b c
    unfold bestP
    cases betterP x.f0 x.f1 b c with
    | true =>
      rw [if_pos rfl]
      rcases ih x.f0 x.f1 with h | ⟨y, hy, h⟩
      · exact .inr ⟨x, by simp, h⟩
      · exact .inr ⟨y, by simp [hy], h⟩
    | false =>
      rw [if_neg (by decide)]
      rcases ih b c with h | ⟨y, hy, h⟩
      · exact .inl h
      · exact .inr ⟨y, by simp [hy], h⟩
theorem candsP_mem (l : List File) (x : List ByteArray) : ∀ (m i : Nat) (c : Cand), c ∈ candsP l x m i → ∃ j, i ≤ j ∧ j < i + m ∧ c = candP l x j
  | 0, _, _, h => by cases h
  | m + 1, i, c, h => by
    unfold candsP at h
    rcases List.mem_cons.1 h with rfl | h
    · exact ⟨i, by omega, by omega, rfl⟩
    · obtain ⟨j, h1, h2, h3⟩ := candsP_mem l x m (i + 1) c h
      exact ⟨j, by omega, by omega, h3⟩
theorem candsP_len (l : List File) (x : List ByteArray) : ∀ (m i : Nat), (candsP l x m i).length = m
  | 0, _ => rfl
  | m + 1, i => by unfold candsP; rw [List.length_cons, candsP_len l x m (i + 1)]
theorem candsP_snoc (l : List File) (x : List ByteArray) : ∀ (m i : Nat), candsP l x (m + 1) i = candsP l x m i ++ [candP l x (i + m)]
  | 0, i => rfl
  | m + 1, i => by
    have := candsP_snoc l x m (i + 1)
    rw [candsP, this, candsP, List.cons_append, show i + 1 + m = i + (m + 1) by omega]
section
variable (l : List File) (hf : ShortF l) (hl : l.length ≤ 2147483649) (h3 : ∀ f ∈ l, 0 ≤ f.f3 ∧ f.f3 ≤ 4611686018427387904) (x : List ByteArray) (hx : ConesG x) (hxl : x.length ≤ 2147483649)
include hf hl h3 hx hxl
omit hf hl h3 hxl in
theorem at_ok (i : Nat) (hi : i + 1 < x.length) : ConesG (atP (commonP (rdB x i) (rdB x (i + 1))) false x) ∧ (atP (commonP (rdB x i) (rdB x (i + 1))) false x).length < x.length ∧ validP (commonP (rdB x i) (rdB x (i + 1))) = true := by
  have v := valid_common (hx.1 _ (rdOf_mem x i (by omega))) (rdB x (i + 1))
  exact ⟨atP_cones _ x (place_common x hx i hi) v hx, at_shorter x hx i hi, v⟩
theorem code_step_l0 : ∀ (m i : Nat), i + m = x.length → 1 ≤ i → 2 ≤ x.length → Ev (fun k => merge_step.l0 k (gh0 l) x (candsP l x (i - 1) 0) (i : Int)) (stepP l x) := by
  intro m
  induction m with
  | zero =>
    intro i hm h1 h2
    have sh : ∀ c ∈ candsP l x (i - 1) 0, Short c.f0 := by
      intro c hc
      obtain ⟨j, _, h5, rfl⟩ := candsP_mem l x _ _ c hc
      exact Short.of_valid (at_ok x hx j (by omega)).2.2
    have e : candsP l x (i - 1) 0 = candP l x 0 :: candsP l x (x.length - 2) 1 := by
      rw [show i - 1 = (x.length - 2) + 1 by omega]; rfl
    have sv : ∀ y, ((bestP (candP l x 0).f0 (candP l x 0).f1 (candsP l x (x.length - 2) 1)).1 = y) → Short y := by
      intro y hy
      rw [e] at sh
      rcases bestP_mem (candsP l x (x.length - 2) 1) (candP l x 0).f0 (candP l x 0).f1 with h | ⟨z, hz, h⟩
      · rw [← hy, h]; exact sh _ (by simp)
      · rw [← hy, h]; exact sh z (by simp [hz])
    refine Ev.step (Y := fun k => (merge_candidate.f k (candsP l x (i - 1) 0) (.func (.func 57) #[] #[])).bind fun b => (merge_at.f k x b.1).bind fun t => some t) (Ev.bind (a := bestP (candP l x 0).f0 (candP l x 0).f1 (candsP l x (x.length - 2) 1)) ?_ (Ev.bind (F := fun _ t => some t) (code_at _ (sv _ rfl) x (fun c hc => Short.of_valid (hx.1 c hc)) hxl) (Ev.of rfl))) (fun k => ?_)
    · have hlen := candsP_len l x (i - 1) 0
      rw [e] at sh hlen ⊢
      refine Ev.congr (best_go _ _ _ (sh _ (by simp)) (fun y hy => sh y (by simp [hy]))) (fun k => ?_)
      unfold merge_candidate.f
      rw [if_pos ⟨rfl, by omega⟩]
    · simp only [merge_step.l0]
      rw [if_neg (by omega)]
  | succ m ih =>
    intro i hm h1 h2
    have IH := ih (i + 1) (by omega) (by omega) h2
    have w1 : wrap64 ((i : Int) + 1) = ((i + 1 : Nat) : Int) := by rw [wrap_id (by omega) (by omega)]; omega
    have w2 : wrap64 ((i : Int) - 1) = ((i - 1 : Nat) : Int) := by rw [wrap_id (by omega) (by omega)]; omega
    obtain ⟨ok, lt, v⟩ := at_ok x hx (i - 1) (by omega)
    have hi1 : i - 1 + 1 = i := by omega
    rw [hi1] at ok lt v
    have V := Short.of_valid v
    have e : candsP l x (i + 1 - 1) 0 = candsP l x (i - 1) 0 ++ [(⟨commonP (rdB x (i - 1)) (rdB x i), toldN (totalF l (atP (commonP (rdB x (i - 1)) (rdB x i)) false x))⟩ : Cand)] := by
      rw [show i + 1 - 1 = (i - 1) + 1 by omega, candsP_snoc, Nat.zero_add]
      unfold candP
      rw [hi1]
    rw [e] at IH
    have hlen := candsP_len l x (i - 1) 0
    refine Ev.step (Y := fun k => (merge_at.f k x (commonP (rdB x (i - 1)) (rdB x i))).bind fun y => (merge_cost.f k (gh0 l) y).bind fun t => merge_step.l0 k (gh0 l) x (candsP l x (i - 1) 0 ++ [(⟨commonP (rdB x (i - 1)) (rdB x i), t⟩ : Cand)]) ((i + 1 : Nat) : Int)) (Ev.bind (code_at _ V x (fun c hc => Short.of_valid (hx.1 c hc)) hxl) (Ev.bind (code_cost_sp l (fun f h => (hf f h).1) _ ok (by omega)) IH)) (fun k => ?_)
    simp only [merge_step.l0]
    have sa := Short.of_valid (hx.1 _ (rdOf_mem x (i - 1) (by omega)))
    have sb := Short.of_valid (hx.1 _ (rdOf_mem x i (by omega)))
    rw [w2, w1, if_pos (by omega), if_pos (by omega), if_pos (by omega), if_pos (by omega), path_Common_sp _ _ sa sb]
    simp only [Option.bind_some]
    congr 1
    funext y
    congr 1
    funext t
    rw [if_pos (by omega)]
theorem code_step_sp (h2 : 2 ≤ x.length) : Ev (fun k => merge_step.f k (gh0 l) x) (stepP l x) := code_step_l0 l hf hl h3 x hx hxl (x.length - 1) 1 (by omega) (by omega) h2
omit hf hl h3 in
theorem ref_at_ok (p : ByteArray) (hv : validP p = true) : Ev (fun k => copseref16_At.f k x p) (atP p false x, 0) := by
  have := ref_At_sp p (Short.of_valid hv) x (fun c hc => Short.of_valid (hx.1 c hc)) hxl
  unfold AtP at this
  rw [if_pos ((conesP_iff x).2 hx), if_pos hv] at this
  exact this
theorem ref_step_l0 : ∀ (m i : Nat) (b : ByteArray) (c : Int), i + m + 1 = x.length → 1 ≤ i → validP b = true → Ev (fun k => copseref16_step.l0 k l x b c (i : Int)) (atP (bestP b c (candsP l x m i)).1 false x) := by
  intro m
  induction m with
  | zero =>
    intro i b c hm h1 hv
    refine Ev.step (Ev.bind (F := fun _ (t : List ByteArray × Int) => some t.1) (ref_at_ok x hx hxl b hv) (Ev.of rfl)) (fun k => ?_)
    simp only [copseref16_step.l0]
    rw [wrap_id (i := (i : Int) + 1) (by omega) (by omega), if_neg (by omega)]
  | succ m ih =>
    intro i b c hm h1 hv
    have w1 : wrap64 ((i : Int) + 1) = ((i + 1 : Nat) : Int) := by rw [wrap_id (by omega) (by omega)]; omega
    obtain ⟨ok, lt, v⟩ := at_ok x hx i (by omega)
    have V := Short.of_valid v
    have B := Short.of_valid hv
    have sa := Short.of_valid (hx.1 _ (rdOf_mem x i (by omega)))
    have sb := Short.of_valid (hx.1 _ (rdOf_mem x (i + 1) (by omega)))
    have lt' : (atP (commonP (rdB x i) (rdB x (i + 1))) false x).length ≤ 2147483649 := by omega
    have yes := ih (i + 1) (candP l x i).f0 (candP l x i).f1 (by omega) (by omega) v
    have no := ih (i + 1) b c (by omega) (by omega) hv
    refine Ev.step (Y := fun k => (copseref02_Common.f k (rdB x i) (rdB x (i + 1))).bind fun t316 => (copseref16_At.f k x t316).bind fun bt317 => (copseref16_cost.f k l bt317.1).bind fun t321 => (copseref02_Split.f k t316).bind fun t322 => (copseref02_Split.f k b).bind fun t325 => if t321 < c then copseref16_step.l0 k l x t316 t321 ((i + 1 : Nat) : Int) else if t321 = c then (if (t322.length : Int) > (t325.length : Int) then copseref16_step.l0 k l x t316 t321 ((i + 1 : Nat) : Int) else if (t322.length : Int) = (t325.length : Int) then (copseref02_Cmp.f k t316 b).bind fun t328 => if t328 < 0 then copseref16_step.l0 k l x t316 t321 ((i + 1 : Nat) : Int) else copseref16_step.l0 k l x b c ((i + 1 : Nat) : Int) else copseref16_step.l0 k l x b c ((i + 1 : Nat) : Int)) else copseref16_step.l0 k l x b c ((i + 1 : Nat) : Int)) ?_ (fun k => ?_)
    · refine Ev.bind (ref_Common_sp _ _ sa sb) (Ev.bind (ref_at_ok x hx hxl _ v) (Ev.bind (ref_cost_sp l hf hl h3 _ (fun c hc => Short.of_valid (ok.1 c hc)) lt') (Ev.bind (ref_Split_sp _ (by unfold Short at V; omega)) (Ev.bind (ref_Split_sp b (by unfold Short at B; omega)) ?_))))
      show Ev (fun k => if (candP l x i).f1 < c then copseref16_step.l0 k l x (candP l x i).f0 (candP l x i).f1 ((i + 1 : Nat) : Int) else if (candP l x i).f1 = c then (if ((sp (candP l x i).f0).length : Int) > ((sp b).length : Int) then copseref16_step.l0 k l x (candP l x i).f0 (candP l x i).f1 ((i + 1 : Nat) : Int) else if ((sp (candP l x i).f0).length : Int) = ((sp b).length : Int) then (copseref02_Cmp.f k (candP l x i).f0 b).bind fun t328 => if t328 < 0 then copseref16_step.l0 k l x (candP l x i).f0 (candP l x i).f1 ((i + 1 : Nat) : Int) else copseref16_step.l0 k l x b c ((i + 1 : Nat) : Int) else copseref16_step.l0 k l x b c ((i + 1 : Nat) : Int)) else copseref16_step.l0 k l x b c ((i + 1 : Nat) : Int)) _
      have V' : Short (candP l x i).f0 := V
      rw [candsP, bestP]
      generalize candP l x i = z at *
      unfold betterP
      by_cases g1 : z.f1 < c
      · rw [if_neg (show ¬ z.f1 = c by omega), decide_eq_true g1, if_pos rfl]
        exact Ev.congr yes (fun k => by rw [if_pos g1])
      · by_cases g2 : z.f1 = c
        · rw [if_pos g2]
          by_cases g3 : (sp z.f0).length > (sp b).length
          · rw [if_neg (show ¬ (sp z.f0).length = (sp b).length by omega), decide_eq_true g3, if_pos rfl]
            exact Ev.congr yes (fun k => by rw [if_neg g1, if_pos g2, if_pos (by omega)])
          · by_cases g4 : (sp z.f0).length = (sp b).length
            · rw [if_pos g4]
              refine Ev.congr (Ev.bind (ref_Cmp_sp z.f0 b V' B) (F := fun k t => if t < 0 then copseref16_step.l0 k l x z.f0 z.f1 ((i + 1 : Nat) : Int) else copseref16_step.l0 k l x b c ((i + 1 : Nat) : Int)) ?_) (fun k => by rw [if_neg g1, if_pos g2, if_neg (by omega), if_pos (by omega)])
              by_cases g5 : cmpP z.f0 b < 0
              · rw [decide_eq_true g5, if_pos rfl]
                exact Ev.congr yes (fun k => by rw [if_pos g5])
              · rw [decide_eq_false g5, if_neg (by decide)]
                exact Ev.congr no (fun k => by rw [if_neg g5])
            · rw [if_neg g4, decide_eq_false g3, if_neg (by decide)]
              exact Ev.congr no (fun k => by rw [if_neg g1, if_pos g2, if_neg (by omega), if_neg (by omega)])
        · rw [if_neg g2, decide_eq_false g1, if_neg (by decide)]
          exact Ev.congr no (fun k => by rw [if_neg g1, if_neg g2])
    · simp only [copseref16_step.l0]
      rw [w1, if_pos (by omega), if_pos (by omega), if_pos (by omega), if_pos (by omega)]
      congr 1
      funext t316
      congr 1
      funext bt317
      congr 1
      funext t321
      congr 1
      funext t322
      congr 1
      funext t325
      rw [if_neg (by omega)]
theorem ref_step_sp (h2 : 2 ≤ x.length) : Ev (fun k => copseref16_step.f k l x) (stepP l x) := by
  obtain ⟨ok, lt, v⟩ := at_ok x hx 0 (by omega)
  rw [Nat.zero_add] at ok lt v
  have lt' : (atP (commonP (rdB x 0) (rdB x 1)) false x).length ≤ 2147483649 := by omega
  have V := Short.of_valid v
  have sa := Short.of_valid (hx.1 _ (rdOf_mem x 0 (by omega)))
  have sb := Short.of_valid (hx.1 _ (rdOf_mem x 1 (by omega)))
  have yes := ref_step_l0 l hf hl h3 x hx hxl (x.length - 2) 1 (candP l x 0).f0 (candP l x 0).f1 (by omega) (by omega) v
  refine Ev.congr (Ev.step (X := fun k => copseref16_step.l0 k l x (⟨#[]⟩ : ByteArray) 0 0) (Y := fun k => (copseref02_Common.f k (rdB x 0) (rdB x 1)).bind fun t316 => (copseref16_At.f k x t316).bind fun bt317 => (copseref16_cost.f k l bt317.1).bind fun t321 => (copseref02_Split.f k t316).bind fun t322 => (copseref02_Split.f k (⟨#[]⟩ : ByteArray)).bind fun t325 => copseref16_step.l0 k l x t316 t321 ((1 : Nat) : Int)) ?_ (fun k => ?_)) (fun k => rfl)
  · refine Ev.bind (ref_Common_sp _ _ sa sb) (Ev.bind (ref_at_ok x hx hxl _ v) (Ev.bind (ref_cost_sp l hf hl h3 _ (fun c hc => Short.of_valid (ok.1 c hc)) lt') (Ev.bind (ref_Split_sp _ (by unfold Short at V; omega)) (Ev.bind (ref_Split_sp _ (by decide)) ?_))))
    exact yes
  · simp only [copseref16_step.l0]
    rw [wrap_id (i := (0 : Int) + 1) (by omega) (by omega), if_pos (by omega), if_pos (by omega), if_pos (by omega), if_pos (by omega)]
    rfl
theorem stepP_ok (h2 : 2 ≤ x.length) : ConesG (stepP l x) ∧ (stepP l x).length < x.length := by
  unfold stepP
  obtain ⟨j, hj, e⟩ : ∃ j, j + 1 < x.length ∧ (bestP (candP l x 0).f0 (candP l x 0).f1 (candsP l x (x.length - 2) 1)).1 = (candP l x j).f0 := by
    rcases bestP_mem (candsP l x (x.length - 2) 1) (candP l x 0).f0 (candP l x 0).f1 with h | ⟨z, hz, h⟩
    · exact ⟨0, by omega, h⟩
    · obtain ⟨j, h4, h5, rfl⟩ := candsP_mem l x _ _ z hz
      exact ⟨j, by omega, h⟩
  rw [e]
  have := at_ok x hx j hj
  exact ⟨this.1, this.2.1⟩
end
def downP (l : List File) (b : Int) : Nat → List ByteArray → List ByteArray
  | 0, x => x
  | n + 1, x => if b < (x.length : Int) then downP l b n (stepP l x) else x
theorem down_sp (l : List File) (hf : ShortF l) (hl : l.length ≤ 2147483649) (h3 : ∀ f ∈ l, 0 ≤ f.f3 ∧ f.f3 ≤ 4611686018427387904) (b : Int) (hb : 1 ≤ b) : ∀ (n : Nat) (x : List ByteArray), ConesG x → x.length ≤ n → n ≤ 2147483649 → Ev (fun k => merge_Down.go k l x b) (downP l b n x) ∧ Ev (fun k => copseref16_Down.go k l x b) (downP l b n x)
  | 0, x, hx, hn, _ => by
    have e : x = [] := List.eq_nil_of_length_eq_zero (by omega)
    subst e
    constructor
    · refine Ev.step (Ev.of (X := some []) rfl) (fun k => ?_)
      simp only [merge_Down.go]
      rw [if_neg (by simp; omega)]
    · refine Ev.step (Ev.of (X := some []) rfl) (fun k => ?_)
      simp only [copseref16_Down.go]
      rw [if_neg (by simp; omega)]
  | n + 1, x, hx, hn, hN => by
    unfold downP
    by_cases h : b < (x.length : Int)
    · rw [if_pos h]
      have ok := stepP_ok l hf hl h3 x hx (by omega) (by omega)
      have IH := down_sp l hf hl h3 b hb n (stepP l x) ok.1 (by omega) (by omega)
      constructor
      · refine Ev.step (Ev.bind (F := fun k y => merge_Down.go k l y b) (code_step_sp l hf hl h3 x hx (by omega) (by omega)) IH.1) (fun k => ?_)
        simp only [merge_Down.go]
        rw [if_pos h]
      · refine Ev.step (Ev.bind (F := fun k y => copseref16_Down.go k l y b) (ref_step_sp l hf hl h3 x hx (by omega) (by omega)) IH.2) (fun k => ?_)
        simp only [copseref16_Down.go]
        rw [if_pos h]
    · rw [if_neg h]
      constructor
      · refine Ev.step (Ev.of (X := some x) rfl) (fun k => ?_)
        simp only [merge_Down.go]
        rw [if_neg h]
      · refine Ev.step (Ev.of (X := some x) rfl) (fun k => ?_)
        simp only [copseref16_Down.go]
        rw [if_neg h]
theorem same_l0 (x : List ByteArray) (hl : x.length ≤ 2147483649) : ∀ (m i : Nat), i + m = x.length → Ev (fun k => copselaw16_same.l0 k x x (i : Int)) true := by
  intro m
  induction m with
  | zero =>
    intro i hm
    refine Ev.step (Ev.of (X := some true) rfl) (fun k => ?_)
    simp only [copselaw16_same.l0]
    rw [if_neg (by omega)]
  | succ m ih =>
    intro i hm
    refine Ev.step (ih (i + 1) (by omega)) (fun k => ?_)
    simp only [copselaw16_same.l0]
    rw [if_pos (by omega), if_pos (by omega), if_pos (by omega), if_pos trivial, wrap_id (by omega) (by omega)]
    rfl
theorem same_sp (x : List ByteArray) (hl : x.length ≤ 2147483649) : Ev (fun k => copselaw16_same.f k x x) true := by
  refine Ev.congr (same_l0 x hl x.length 0 (by omega)) (fun k => ?_)
  unfold copselaw16_same.f
  rw [if_pos rfl]
  rfl
theorem clone_sp (x : List ByteArray) (h : x.length ≤ 2147483649) : slices_Clone_string_string.f x = some x := by
  unfold slices_Clone_string_string.f
  rw [if_pos (by omega)]
section
variable (l : List File) (hf : ShortF l) (hl : l.length ≤ 2147483649) (x : List ByteArray) (hx : ∀ c ∈ x, Short c) (hxl : x.length ≤ 2147483647)
include hf hl hx hxl
theorem looked_zero (h : lookedP l x = 0) : ConesG x ∧ ∀ f ∈ l, 0 ≤ f.f3 ∧ f.f3 ≤ 4611686018427387904 := by
  unfold lookedP at h
  by_cases h1 : snapP l = 0
  · rw [if_pos h1] at h
    by_cases h2 : conesP x = true
    · exact ⟨(conesP_iff x).1 h2, fun f hm => ((snapP_zero hf h1).2 f hm).2⟩
    · rw [if_neg h2] at h; omega
  · rw [if_neg h1] at h; exact absurd h h1
def CostP (l : List File) (x : List ByteArray) : Int × Int := if lookedP l x = 0 then (toldN (totalF l x), 0) else (0, lookedP l x)
def StepP (l : List File) (x : List ByteArray) : List ByteArray × Int := if lookedP l x = 0 then (if x.length < 2 then (x, 0) else (stepP l x, 0)) else ([], lookedP l x)
def DownP (l : List File) (x : List ByteArray) (b : Int) : List ByteArray × Int := if lookedP l x = 0 then (if b < 1 then ([], 6) else (downP l b x.length x, 0)) else ([], lookedP l x)
theorem merge_Cost_sp : Ev (fun k => merge_Cost.f k l x) (CostP l x) := by
  refine Ev.bind (looked_sp l x hf hl hx (by omega)) ?_
  unfold CostP
  by_cases h : lookedP l x = 0
  · simp only [if_pos h]
    exact Ev.bind (F := fun _ c => some (c, 0)) (code_cost_sp l (fun f hm => (hf f hm).1) x (looked_zero l hf hl x hx hxl h).1 (by omega)) (Ev.of rfl)
  · simp only [if_neg h]
    exact Ev.of rfl
theorem ref_Cost_sp : Ev (fun k => copseref16_Cost.f k l x) (CostP l x) := by
  refine Ev.bind (ref_looked_sp l x hf hl hx (by omega)) ?_
  unfold CostP
  by_cases h : lookedP l x = 0
  · simp only [if_pos h]
    exact Ev.bind (F := fun _ c => some (c, 0)) (ref_cost_sp l hf hl (looked_zero l hf hl x hx hxl h).2 x hx (by omega)) (Ev.of rfl)
  · simp only [if_neg h]
    exact Ev.of rfl
theorem merge_Step_sp : Ev (fun k => merge_Step.f k l x) (StepP l x) := by
  refine Ev.bind (looked_sp l x hf hl hx (by omega)) ?_
  unfold StepP
  by_cases h : lookedP l x = 0
  · simp only [if_pos h]
    obtain ⟨g, h3⟩ := looked_zero l hf hl x hx hxl h
    by_cases h2 : x.length < 2
    · simp only [if_pos h2]
      exact Ev.of (by rw [clone_sp x (by omega)]; rfl)
    · simp only [if_neg h2]
      exact Ev.bind (F := fun _ c => some (c, 0)) (code_step_sp l hf hl h3 x g (by omega) (by omega)) (Ev.of rfl)
  · simp only [if_neg h]
    exact Ev.of rfl
theorem ref_Step_sp : Ev (fun k => copseref16_Step.f k l x) (StepP l x) := by
  refine Ev.bind (ref_looked_sp l x hf hl hx (by omega)) ?_
  unfold StepP
  by_cases h : lookedP l x = 0
  · simp only [if_pos h]
    obtain ⟨g, h3⟩ := looked_zero l hf hl x hx hxl h
    by_cases h2 : x.length < 2
    · simp only [if_pos h2]
      exact Ev.of rfl
    · simp only [if_neg h2]
      exact Ev.bind (F := fun _ c => some (c, 0)) (ref_step_sp l hf hl h3 x g (by omega) (by omega)) (Ev.of rfl)
  · simp only [if_neg h]
    exact Ev.of rfl
theorem merge_Down_sp (b : Int) : Ev (fun k => merge_Down.f k l x b) (DownP l x b) := by
  refine Ev.bind (looked_sp l x hf hl hx (by omega)) ?_
  unfold DownP
  by_cases h : lookedP l x = 0
  · simp only [if_pos h]
    obtain ⟨g, h3⟩ := looked_zero l hf hl x hx hxl h
    by_cases h2 : b < 1
    · simp only [if_pos h2]
      exact Ev.of rfl
    · simp only [if_neg h2]
      refine Ev.bind (Ev.of (clone_sp x (by omega))) ?_
      exact Ev.bind (F := fun _ c => some (c, 0)) (down_sp l hf hl h3 b (by omega) x.length x g (by omega) (by omega)).1 (Ev.of rfl)
  · simp only [if_neg h]
    exact Ev.of rfl
theorem ref_Down_sp (b : Int) : Ev (fun k => copseref16_Down.f k l x b) (DownP l x b) := by
  refine Ev.bind (ref_looked_sp l x hf hl hx (by omega)) ?_
  unfold DownP
  by_cases h : lookedP l x = 0
  · simp only [if_pos h]
    obtain ⟨g, h3⟩ := looked_zero l hf hl x hx hxl h
    by_cases h2 : b < 1
    · simp only [if_pos h2]
      exact Ev.of rfl
    · simp only [if_neg h2]
      exact Ev.bind (F := fun _ c => some (c, 0)) (down_sp l hf hl h3 b (by omega) x.length x g (by omega) (by omega)).2 (Ev.of rfl)
  · simp only [if_neg h]
    exact Ev.of rfl
omit hf hl hx hxl in
theorem downP_len (b : Int) : ∀ (n : Nat) (x : List ByteArray), ConesG x → 1 ≤ b → (downP l b n x).length ≤ x.length
  | 0, x, _, _ => Nat.le_refl _
  | n + 1, x, hg, hb => by
    unfold downP
    by_cases h : b < (x.length : Int)
    · rw [if_pos h]
      obtain ⟨j, hj, e⟩ : ∃ j, j + 1 < x.length ∧ (bestP (candP l x 0).f0 (candP l x 0).f1 (candsP l x (x.length - 2) 1)).1 = (candP l x j).f0 := by
        rcases bestP_mem (candsP l x (x.length - 2) 1) (candP l x 0).f0 (candP l x 0).f1 with h | ⟨z, hz, h⟩
        · exact ⟨0, by omega, h⟩
        · obtain ⟨j, h4, h5, rfl⟩ := candsP_mem l x _ _ z hz
          exact ⟨j, by omega, h⟩
      have ok := at_ok x hg j hj
      have e2 : stepP l x = atP (candP l x j).f0 false x := by unfold stepP; rw [e]
      have IH := downP_len b n (stepP l x) (by rw [e2]; exact ok.1) hb
      have : (stepP l x).length < x.length := by rw [e2]; exact ok.2.1
      omega
    · rw [if_neg h]; exact Nat.le_refl _
theorem mergeAll_pure (p : ByteArray) (hp : Short p) (b : Int) : ∃ k, merge_Cost.f k l x = some (CostP l x) ∧ copseref16_Cost.f k l x = some (CostP l x) ∧ merge_At.f k x p = some (AtP x p) ∧ copseref16_At.f k x p = some (AtP x p) ∧ copselaw16_same.f k (AtP x p).1 (AtP x p).1 = some true ∧
    merge_Step.f k l x = some (StepP l x) ∧ copseref16_Step.f k l x = some (StepP l x) ∧ copselaw16_same.f k (StepP l x).1 (StepP l x).1 = some true ∧
    merge_Down.f k l x b = some (DownP l x b) ∧ copseref16_Down.f k l x b = some (DownP l x b) ∧ copselaw16_same.f k (DownP l x b).1 (DownP l x b).1 = some true := by
  have a1 : (AtP x p).1.length ≤ 2147483649 := by
    have := atP_len p x false
    simp only [Bool.false_eq_true, if_false] at this
    unfold AtP
    split
    · split
      · show (atP p false x).length ≤ _; omega
      · simp
    · simp
  have a2 : (StepP l x).1.length ≤ 2147483649 := by
    unfold StepP
    by_cases h : lookedP l x = 0
    · rw [if_pos h]
      obtain ⟨g, h3⟩ := looked_zero l hf hl x hx hxl h
      by_cases h2 : x.length < 2
      · rw [if_pos h2]; show x.length ≤ _; omega
      · rw [if_neg h2]
        have := (stepP_ok l hf hl h3 x g (by omega) (by omega)).2
        show (stepP l x).length ≤ _
        omega
    · rw [if_neg h]; simp
  have a3 : (DownP l x b).1.length ≤ 2147483649 := by
    unfold DownP
    by_cases h : lookedP l x = 0
    · rw [if_pos h]
      obtain ⟨g, h3⟩ := looked_zero l hf hl x hx hxl h
      by_cases h2 : b < 1
      · rw [if_pos h2]; simp
      · rw [if_neg h2]
        have := downP_len l b x.length x g (by omega)
        show (downP l b x.length x).length ≤ _
        omega
    · rw [if_neg h]; simp
  obtain ⟨k1, h1⟩ := (merge_Cost_sp l hf hl x hx hxl).two (ref_Cost_sp l hf hl x hx hxl)
  obtain ⟨k2, h2⟩ := (merge_At_sp p hp x hx (by omega)).two (ref_At_sp p hp x hx (by omega))
  obtain ⟨k3, h3⟩ := (merge_Step_sp l hf hl x hx hxl).two (ref_Step_sp l hf hl x hx hxl)
  obtain ⟨k4, h4⟩ := (merge_Down_sp l hf hl x hx hxl b).two (ref_Down_sp l hf hl x hx hxl b)
  obtain ⟨k5, h5⟩ := (same_sp _ a1).two (same_sp _ a2)
  obtain ⟨k6, h6⟩ := same_sp _ a3
  let K := k1 + k2 + k3 + k4 + k5 + k6
  exact ⟨K, (h1 K (by omega)).1, (h1 K (by omega)).2, (h2 K (by omega)).1, (h2 K (by omega)).2, (h5 K (by omega)).1, (h3 K (by omega)).1, (h3 K (by omega)).2, (h5 K (by omega)).2, (h4 K (by omega)).1, (h4 K (by omega)).2, h6 K (by omega)⟩
end
end Go.Proofs.YtnfolcefjkannaaDoor.G
namespace Go.Proofs.YtnfolcefjkannaaDoor.G
open Go.RowKit Go.Proofs.YtnfolcefjkannaaDoorW.PrintWords Go.Proofs.YtnfolcefjkannaaDoorW.PrintLast Go.Proofs.YtnfolcefjkannaaDoorW.PrintMore
attribute [local go_sem] max2_int min2_int max_two min_two max_three min_three max_four min_four
set_option linter.unusedVariables false
set_option linter.unusedSimpArgs false
def copselaw16_head.f (k : Nat)  : Option (Bool) := (copselaw16_example.f).bind fun t222 => ((merge_Cost.f k t222 (([(⟨#[97, 47, 120]⟩ : ByteArray)] : List ByteArray))).bind fun bt228 => ((merge_Cost.f k t222 ([] : List ByteArray)).bind fun bt230 => ((merge_Step.f k t222 (([(⟨#[97, 47, 120]⟩ : ByteArray), (⟨#[97, 47, 121]⟩ : ByteArray), (⟨#[98]⟩ : ByteArray)] : List ByteArray))).bind fun bt235 => ((merge_Down.f k t222 (([(⟨#[97, 47, 120]⟩ : ByteArray), (⟨#[97, 47, 121]⟩ : ByteArray), (⟨#[98]⟩ : ByteArray)] : List ByteArray)) 1).bind fun bt242 => ((merge_At.f k (([(⟨#[97, 47, 120]⟩ : ByteArray), (⟨#[97, 47, 121]⟩ : ByteArray), (⟨#[98]⟩ : ByteArray)] : List ByteArray)) (⟨#[97]⟩ : ByteArray)).bind fun bt249 => ((merge_Down.f k t222 (([(⟨#[98]⟩ : ByteArray), (⟨#[97]⟩ : ByteArray)] : List ByteArray)) 0).bind fun bt256 => (if bt228.2 = 0 then (if bt230.2 = 0 then (if bt235.2 = 0 then (if bt242.2 = 0 then (if bt249.2 = 0 then (if bt256.2 = 13 then (if bt228.1 = 8 then (if bt230.1 = 3 then ((copselaw16_same.f k bt235.1 (([(⟨#[97]⟩ : ByteArray), (⟨#[98]⟩ : ByteArray)] : List ByteArray))).bind fun t263 => (if t263 = true then ((copselaw16_same.f k bt242.1 (([(⟨#[]⟩ : ByteArray)] : List ByteArray))).bind fun t267 => (if t267 = true then ((copselaw16_same.f k bt249.1 (([(⟨#[97]⟩ : ByteArray), (⟨#[98]⟩ : ByteArray)] : List ByteArray))).bind fun t271 => (some t271)) else (some false))) else (some false))) else (some false)) else (some false)) else (some false)) else (some false)) else (some false)) else (some false)) else (some false)) else (some false))))))))
set_option maxHeartbeats 8000000 in
set_option maxRecDepth 100000 in
theorem copselaw16_head.calls (k : Nat)  (w : World) (h : copselaw16_head.f k  = some true) :
    Calls Tryd.prog 6 #[] w fun e w' => e = .returned (.bool true) ∧ Below w.heap.size w w' := by
  have HB := zA (Below.refl w.heap.size w)
  have H : ((copselaw16_example.f).bind fun t222 => ((merge_Cost.f k t222 (([(⟨#[97, 47, 120]⟩ : ByteArray)] : List ByteArray))).bind fun bt228 => ((merge_Cost.f k t222 ([] : List ByteArray)).bind fun bt230 => ((merge_Step.f k t222 (([(⟨#[97, 47, 120]⟩ : ByteArray), (⟨#[97, 47, 121]⟩ : ByteArray), (⟨#[98]⟩ : ByteArray)] : List ByteArray))).bind fun bt235 => ((merge_Down.f k t222 (([(⟨#[97, 47, 120]⟩ : ByteArray), (⟨#[97, 47, 121]⟩ : ByteArray), (⟨#[98]⟩ : ByteArray)] : List ByteArray)) 1).bind fun bt242 => ((merge_At.f k (([(⟨#[97, 47, 120]⟩ : ByteArray), (⟨#[97, 47, 121]⟩ : ByteArray), (⟨#[98]⟩ : ByteArray)] : List ByteArray)) (⟨#[97]⟩ : ByteArray)).bind fun bt249 => ((merge_Down.f k t222 (([(⟨#[98]⟩ : ByteArray), (⟨#[97]⟩ : ByteArray)] : List ByteArray)) 0).bind fun bt256 => (if bt228.2 = 0 then (if bt230.2 = 0 then (if bt235.2 = 0 then (if bt242.2 = 0 then (if bt249.2 = 0 then (if bt256.2 = 13 then (if bt228.1 = 8 then (if bt230.1 = 3 then ((copselaw16_same.f k bt235.1 (([(⟨#[97]⟩ : ByteArray), (⟨#[98]⟩ : ByteArray)] : List ByteArray))).bind fun t263 => (if t263 = true then ((copselaw16_same.f k bt242.1 (([(⟨#[]⟩ : ByteArray)] : List ByteArray))).bind fun t267 => (if t267 = true then ((copselaw16_same.f k bt249.1 (([(⟨#[97]⟩ : ByteArray), (⟨#[98]⟩ : ByteArray)] : List ByteArray))).bind fun t271 => (some t271)) else (some false))) else (some false))) else (some false)) else (some false)) else (some false)) else (some false)) else (some false)) else (some false)) else (some false)) else (some false))))))))) = some true := h
  clear h
  replace H := Option.bind_eq_some_iff.mp H
  obtain ⟨t222, A10, H⟩ := H
  replace H : ((merge_Cost.f k t222 (([(⟨#[97, 47, 120]⟩ : ByteArray)] : List ByteArray))).bind fun bt228 => ((merge_Cost.f k t222 ([] : List ByteArray)).bind fun bt230 => ((merge_Step.f k t222 (([(⟨#[97, 47, 120]⟩ : ByteArray), (⟨#[97, 47, 121]⟩ : ByteArray), (⟨#[98]⟩ : ByteArray)] : List ByteArray))).bind fun bt235 => ((merge_Down.f k t222 (([(⟨#[97, 47, 120]⟩ : ByteArray), (⟨#[97, 47, 121]⟩ : ByteArray), (⟨#[98]⟩ : ByteArray)] : List ByteArray)) 1).bind fun bt242 => ((merge_At.f k (([(⟨#[97, 47, 120]⟩ : ByteArray), (⟨#[97, 47, 121]⟩ : ByteArray), (⟨#[98]⟩ : ByteArray)] : List ByteArray)) (⟨#[97]⟩ : ByteArray)).bind fun bt249 => ((merge_Down.f k t222 (([(⟨#[98]⟩ : ByteArray), (⟨#[97]⟩ : ByteArray)] : List ByteArray)) 0).bind fun bt256 => (if bt228.2 = 0 then (if bt230.2 = 0 then (if bt235.2 = 0 then (if bt242.2 = 0 then (if bt249.2 = 0 then (if bt256.2 = 13 then (if bt228.1 = 8 then (if bt230.1 = 3 then ((copselaw16_same.f k bt235.1 (([(⟨#[97]⟩ : ByteArray), (⟨#[98]⟩ : ByteArray)] : List ByteArray))).bind fun t263 => (if t263 = true then ((copselaw16_same.f k bt242.1 (([(⟨#[]⟩ : ByteArray)] : List ByteArray))).bind fun t267 => (if t267 = true then ((copselaw16_same.f k bt249.1 (([(⟨#[97]⟩ : ByteArray), (⟨#[98]⟩ : ByteArray)] : List ByteArray))).bind fun t271 => (some t271)) else (some false))) else (some false))) else (some false)) else (some false)) else (some false)) else (some false)) else (some false)) else (some false)) else (some false)) else (some false)))))))) = some true := H
  have A1 := zA A10
  clear A10
  obtain ⟨y225, hy225⟩ : ∃ y_ : List ByteArray, y_ = (([(⟨#[97, 47, 120]⟩ : ByteArray)] : List ByteArray)) := ⟨_, rfl⟩
  replace H : ((merge_Cost.f k t222 y225).bind fun bt228 => ((merge_Cost.f k t222 ([] : List ByteArray)).bind fun bt230 => ((merge_Step.f k t222 (([(⟨#[97, 47, 120]⟩ : ByteArray), (⟨#[97, 47, 121]⟩ : ByteArray), (⟨#[98]⟩ : ByteArray)] : List ByteArray))).bind fun bt235 => ((merge_Down.f k t222 (([(⟨#[97, 47, 120]⟩ : ByteArray), (⟨#[97, 47, 121]⟩ : ByteArray), (⟨#[98]⟩ : ByteArray)] : List ByteArray)) 1).bind fun bt242 => ((merge_At.f k (([(⟨#[97, 47, 120]⟩ : ByteArray), (⟨#[97, 47, 121]⟩ : ByteArray), (⟨#[98]⟩ : ByteArray)] : List ByteArray)) (⟨#[97]⟩ : ByteArray)).bind fun bt249 => ((merge_Down.f k t222 (([(⟨#[98]⟩ : ByteArray), (⟨#[97]⟩ : ByteArray)] : List ByteArray)) 0).bind fun bt256 => (if bt228.2 = 0 then (if bt230.2 = 0 then (if bt235.2 = 0 then (if bt242.2 = 0 then (if bt249.2 = 0 then (if bt256.2 = 13 then (if bt228.1 = 8 then (if bt230.1 = 3 then ((copselaw16_same.f k bt235.1 (([(⟨#[97]⟩ : ByteArray), (⟨#[98]⟩ : ByteArray)] : List ByteArray))).bind fun t263 => (if t263 = true then ((copselaw16_same.f k bt242.1 (([(⟨#[]⟩ : ByteArray)] : List ByteArray))).bind fun t267 => (if t267 = true then ((copselaw16_same.f k bt249.1 (([(⟨#[97]⟩ : ByteArray), (⟨#[98]⟩ : ByteArray)] : List ByteArray))).bind fun t271 => (some t271)) else (some false))) else (some false))) else (some false)) else (some false)) else (some false)) else (some false)) else (some false)) else (some false)) else (some false)) else (some false)))))))) = some true := by first | (rw [hy225]; with_reducible exact H) | (have H2_ := (Option.bind_some _ _).symm.trans H; rw [hy225]; with_reducible exact H2_) | (have H2_ := (Option.bind_some _ _).symm.trans H; with_reducible exact H2_) | with_reducible exact H | (rw [hy225]; exact H) | exact H
  have Ny225 := zA hy225
  clear hy225
  replace H := Option.bind_eq_some_iff.mp H
  obtain ⟨⟨t228, t229⟩, A20, H⟩ := H
  replace H : ((merge_Cost.f k t222 ([] : List ByteArray)).bind fun bt230 => ((merge_Step.f k t222 (([(⟨#[97, 47, 120]⟩ : ByteArray), (⟨#[97, 47, 121]⟩ : ByteArray), (⟨#[98]⟩ : ByteArray)] : List ByteArray))).bind fun bt235 => ((merge_Down.f k t222 (([(⟨#[97, 47, 120]⟩ : ByteArray), (⟨#[97, 47, 121]⟩ : ByteArray), (⟨#[98]⟩ : ByteArray)] : List ByteArray)) 1).bind fun bt242 => ((merge_At.f k (([(⟨#[97, 47, 120]⟩ : ByteArray), (⟨#[97, 47, 121]⟩ : ByteArray), (⟨#[98]⟩ : ByteArray)] : List ByteArray)) (⟨#[97]⟩ : ByteArray)).bind fun bt249 => ((merge_Down.f k t222 (([(⟨#[98]⟩ : ByteArray), (⟨#[97]⟩ : ByteArray)] : List ByteArray)) 0).bind fun bt256 => (if t229 = 0 then (if bt230.2 = 0 then (if bt235.2 = 0 then (if bt242.2 = 0 then (if bt249.2 = 0 then (if bt256.2 = 13 then (if t228 = 8 then (if bt230.1 = 3 then ((copselaw16_same.f k bt235.1 (([(⟨#[97]⟩ : ByteArray), (⟨#[98]⟩ : ByteArray)] : List ByteArray))).bind fun t263 => (if t263 = true then ((copselaw16_same.f k bt242.1 (([(⟨#[]⟩ : ByteArray)] : List ByteArray))).bind fun t267 => (if t267 = true then ((copselaw16_same.f k bt249.1 (([(⟨#[97]⟩ : ByteArray), (⟨#[98]⟩ : ByteArray)] : List ByteArray))).bind fun t271 => (some t271)) else (some false))) else (some false))) else (some false)) else (some false)) else (some false)) else (some false)) else (some false)) else (some false)) else (some false)) else (some false))))))) = some true := H
  have A2 := zA A20
  clear A20
  replace H := Option.bind_eq_some_iff.mp H
  obtain ⟨⟨t230, t231⟩, A30, H⟩ := H
  replace H : ((merge_Step.f k t222 (([(⟨#[97, 47, 120]⟩ : ByteArray), (⟨#[97, 47, 121]⟩ : ByteArray), (⟨#[98]⟩ : ByteArray)] : List ByteArray))).bind fun bt235 => ((merge_Down.f k t222 (([(⟨#[97, 47, 120]⟩ : ByteArray), (⟨#[97, 47, 121]⟩ : ByteArray), (⟨#[98]⟩ : ByteArray)] : List ByteArray)) 1).bind fun bt242 => ((merge_At.f k (([(⟨#[97, 47, 120]⟩ : ByteArray), (⟨#[97, 47, 121]⟩ : ByteArray), (⟨#[98]⟩ : ByteArray)] : List ByteArray)) (⟨#[97]⟩ : ByteArray)).bind fun bt249 => ((merge_Down.f k t222 (([(⟨#[98]⟩ : ByteArray), (⟨#[97]⟩ : ByteArray)] : List ByteArray)) 0).bind fun bt256 => (if t229 = 0 then (if t231 = 0 then (if bt235.2 = 0 then (if bt242.2 = 0 then (if bt249.2 = 0 then (if bt256.2 = 13 then (if t228 = 8 then (if t230 = 3 then ((copselaw16_same.f k bt235.1 (([(⟨#[97]⟩ : ByteArray), (⟨#[98]⟩ : ByteArray)] : List ByteArray))).bind fun t263 => (if t263 = true then ((copselaw16_same.f k bt242.1 (([(⟨#[]⟩ : ByteArray)] : List ByteArray))).bind fun t267 => (if t267 = true then ((copselaw16_same.f k bt249.1 (([(⟨#[97]⟩ : ByteArray), (⟨#[98]⟩ : ByteArray)] : List ByteArray))).bind fun t271 => (some t271)) else (some false))) else (some false))) else (some false)) else (some false)) else (some false)) else (some false)) else (some false)) else (some false)) else (some false)) else (some false)))))) = some true := H
  have A3 := zA A30
  clear A30
  obtain ⟨y232, hy232⟩ : ∃ y_ : List ByteArray, y_ = (([(⟨#[97, 47, 120]⟩ : ByteArray), (⟨#[97, 47, 121]⟩ : ByteArray), (⟨#[98]⟩ : ByteArray)] : List ByteArray)) := ⟨_, rfl⟩
  replace H : ((merge_Step.f k t222 y232).bind fun bt235 => ((merge_Down.f k t222 (([(⟨#[97, 47, 120]⟩ : ByteArray), (⟨#[97, 47, 121]⟩ : ByteArray), (⟨#[98]⟩ : ByteArray)] : List ByteArray)) 1).bind fun bt242 => ((merge_At.f k (([(⟨#[97, 47, 120]⟩ : ByteArray), (⟨#[97, 47, 121]⟩ : ByteArray), (⟨#[98]⟩ : ByteArray)] : List ByteArray)) (⟨#[97]⟩ : ByteArray)).bind fun bt249 => ((merge_Down.f k t222 (([(⟨#[98]⟩ : ByteArray), (⟨#[97]⟩ : ByteArray)] : List ByteArray)) 0).bind fun bt256 => (if t229 = 0 then (if t231 = 0 then (if bt235.2 = 0 then (if bt242.2 = 0 then (if bt249.2 = 0 then (if bt256.2 = 13 then (if t228 = 8 then (if t230 = 3 then ((copselaw16_same.f k bt235.1 (([(⟨#[97]⟩ : ByteArray), (⟨#[98]⟩ : ByteArray)] : List ByteArray))).bind fun t263 => (if t263 = true then ((copselaw16_same.f k bt242.1 (([(⟨#[]⟩ : ByteArray)] : List ByteArray))).bind fun t267 => (if t267 = true then ((copselaw16_same.f k bt249.1 (([(⟨#[97]⟩ : ByteArray), (⟨#[98]⟩ : ByteArray)] : List ByteArray))).bind fun t271 => (some t271)) else (some false))) else (some false))) else (some false)) else (some false)) else (some false)) else (some false)) else (some false)) else (some false)) else (some false)) else (some false)))))) = some true := by first | (rw [hy232]; with_reducible exact H) | (have H2_ := (Option.bind_some _ _).symm.trans H; rw [hy232]; with_reducible exact H2_) | (have H2_ := (Option.bind_some _ _).symm.trans H; with_reducible exact H2_) | with_reducible exact H | (rw [hy232]; exact H) | exact H
  have Ny232 := zA hy232
  clear hy232
  replace H := Option.bind_eq_some_iff.mp H
  obtain ⟨⟨t235, t236⟩, A40, H⟩ := H
  replace H : ((merge_Down.f k t222 (([(⟨#[97, 47, 120]⟩ : ByteArray), (⟨#[97, 47, 121]⟩ : ByteArray), (⟨#[98]⟩ : ByteArray)] : List ByteArray)) 1).bind fun bt242 => ((merge_At.f k (([(⟨#[97, 47, 120]⟩ : ByteArray), (⟨#[97, 47, 121]⟩ : ByteArray), (⟨#[98]⟩ : ByteArray)] : List ByteArray)) (⟨#[97]⟩ : ByteArray)).bind fun bt249 => ((merge_Down.f k t222 (([(⟨#[98]⟩ : ByteArray), (⟨#[97]⟩ : ByteArray)] : List ByteArray)) 0).bind fun bt256 => (if t229 = 0 then (if t231 = 0 then (if t236 = 0 then (if bt242.2 = 0 then (if bt249.2 = 0 then (if bt256.2 = 13 then (if t228 = 8 then (if t230 = 3 then ((copselaw16_same.f k t235 (([(⟨#[97]⟩ : ByteArray), (⟨#[98]⟩ : ByteArray)] : List ByteArray))).bind fun t263 => (if t263 = true then ((copselaw16_same.f k bt242.1 (([(⟨#[]⟩ : ByteArray)] : List ByteArray))).bind fun t267 => (if t267 = true then ((copselaw16_same.f k bt249.1 (([(⟨#[97]⟩ : ByteArray), (⟨#[98]⟩ : ByteArray)] : List ByteArray))).bind fun t271 => (some t271)) else (some false))) else (some false))) else (some false)) else (some false)) else (some false)) else (some false)) else (some false)) else (some false)) else (some false)) else (some false))))) = some true := H
  have A4 := zA A40
  clear A40
  obtain ⟨y239, hy239⟩ : ∃ y_ : List ByteArray, y_ = (([(⟨#[97, 47, 120]⟩ : ByteArray), (⟨#[97, 47, 121]⟩ : ByteArray), (⟨#[98]⟩ : ByteArray)] : List ByteArray)) := ⟨_, rfl⟩
  replace H : ((merge_Down.f k t222 y239 1).bind fun bt242 => ((merge_At.f k (([(⟨#[97, 47, 120]⟩ : ByteArray), (⟨#[97, 47, 121]⟩ : ByteArray), (⟨#[98]⟩ : ByteArray)] : List ByteArray)) (⟨#[97]⟩ : ByteArray)).bind fun bt249 => ((merge_Down.f k t222 (([(⟨#[98]⟩ : ByteArray), (⟨#[97]⟩ : ByteArray)] : List ByteArray)) 0).bind fun bt256 => (if t229 = 0 then (if t231 = 0 then (if t236 = 0 then (if bt242.2 = 0 then (if bt249.2 = 0 then (if bt256.2 = 13 then (if t228 = 8 then (if t230 = 3 then ((copselaw16_same.f k t235 (([(⟨#[97]⟩ : ByteArray), (⟨#[98]⟩ : ByteArray)] : List ByteArray))).bind fun t263 => (if t263 = true then ((copselaw16_same.f k bt242.1 (([(⟨#[]⟩ : ByteArray)] : List ByteArray))).bind fun t267 => (if t267 = true then ((copselaw16_same.f k bt249.1 (([(⟨#[97]⟩ : ByteArray), (⟨#[98]⟩ : ByteArray)] : List ByteArray))).bind fun t271 => (some t271)) else (some false))) else (some false))) else (some false)) else (some false)) else (some false)) else (some false)) else (some false)) else (some false)) else (some false)) else (some false))))) = some true := by first | (rw [hy239]; with_reducible exact H) | (have H2_ := (Option.bind_some _ _).symm.trans H; rw [hy239]; with_reducible exact H2_) | (have H2_ := (Option.bind_some _ _).symm.trans H; with_reducible exact H2_) | with_reducible exact H | (rw [hy239]; exact H) | exact H
  have Ny239 := zA hy239
  clear hy239
  replace H := Option.bind_eq_some_iff.mp H
  obtain ⟨⟨t242, t243⟩, A50, H⟩ := H
  replace H : ((merge_At.f k (([(⟨#[97, 47, 120]⟩ : ByteArray), (⟨#[97, 47, 121]⟩ : ByteArray), (⟨#[98]⟩ : ByteArray)] : List ByteArray)) (⟨#[97]⟩ : ByteArray)).bind fun bt249 => ((merge_Down.f k t222 (([(⟨#[98]⟩ : ByteArray), (⟨#[97]⟩ : ByteArray)] : List ByteArray)) 0).bind fun bt256 => (if t229 = 0 then (if t231 = 0 then (if t236 = 0 then (if t243 = 0 then (if bt249.2 = 0 then (if bt256.2 = 13 then (if t228 = 8 then (if t230 = 3 then ((copselaw16_same.f k t235 (([(⟨#[97]⟩ : ByteArray), (⟨#[98]⟩ : ByteArray)] : List ByteArray))).bind fun t263 => (if t263 = true then ((copselaw16_same.f k t242 (([(⟨#[]⟩ : ByteArray)] : List ByteArray))).bind fun t267 => (if t267 = true then ((copselaw16_same.f k bt249.1 (([(⟨#[97]⟩ : ByteArray), (⟨#[98]⟩ : ByteArray)] : List ByteArray))).bind fun t271 => (some t271)) else (some false))) else (some false))) else (some false)) else (some false)) else (some false)) else (some false)) else (some false)) else (some false)) else (some false)) else (some false)))) = some true := H
  have A5 := zA A50
  clear A50
  obtain ⟨y246, hy246⟩ : ∃ y_ : List ByteArray, y_ = (([(⟨#[97, 47, 120]⟩ : ByteArray), (⟨#[97, 47, 121]⟩ : ByteArray), (⟨#[98]⟩ : ByteArray)] : List ByteArray)) := ⟨_, rfl⟩
  replace H : ((merge_At.f k y246 (⟨#[97]⟩ : ByteArray)).bind fun bt249 => ((merge_Down.f k t222 (([(⟨#[98]⟩ : ByteArray), (⟨#[97]⟩ : ByteArray)] : List ByteArray)) 0).bind fun bt256 => (if t229 = 0 then (if t231 = 0 then (if t236 = 0 then (if t243 = 0 then (if bt249.2 = 0 then (if bt256.2 = 13 then (if t228 = 8 then (if t230 = 3 then ((copselaw16_same.f k t235 (([(⟨#[97]⟩ : ByteArray), (⟨#[98]⟩ : ByteArray)] : List ByteArray))).bind fun t263 => (if t263 = true then ((copselaw16_same.f k t242 (([(⟨#[]⟩ : ByteArray)] : List ByteArray))).bind fun t267 => (if t267 = true then ((copselaw16_same.f k bt249.1 (([(⟨#[97]⟩ : ByteArray), (⟨#[98]⟩ : ByteArray)] : List ByteArray))).bind fun t271 => (some t271)) else (some false))) else (some false))) else (some false)) else (some false)) else (some false)) else (some false)) else (some false)) else (some false)) else (some false)) else (some false)))) = some true := by first | (rw [hy246]; with_reducible exact H) | (have H2_ := (Option.bind_some _ _).symm.trans H; rw [hy246]; with_reducible exact H2_) | (have H2_ := (Option.bind_some _ _).symm.trans H; with_reducible exact H2_) | with_reducible exact H | (rw [hy246]; exact H) | exact H
  have Ny246 := zA hy246
  clear hy246
  replace H := Option.bind_eq_some_iff.mp H
  obtain ⟨⟨t249, t250⟩, A60, H⟩ := H
  replace H : ((merge_Down.f k t222 (([(⟨#[98]⟩ : ByteArray), (⟨#[97]⟩ : ByteArray)] : List ByteArray)) 0).bind fun bt256 => (if t229 = 0 then (if t231 = 0 then (if t236 = 0 then (if t243 = 0 then (if t250 = 0 then (if bt256.2 = 13 then (if t228 = 8 then (if t230 = 3 then ((copselaw16_same.f k t235 (([(⟨#[97]⟩ : ByteArray), (⟨#[98]⟩ : ByteArray)] : List ByteArray))).bind fun t263 => (if t263 = true then ((copselaw16_same.f k t242 (([(⟨#[]⟩ : ByteArray)] : List ByteArray))).bind fun t267 => (if t267 = true then ((copselaw16_same.f k t249 (([(⟨#[97]⟩ : ByteArray), (⟨#[98]⟩ : ByteArray)] : List ByteArray))).bind fun t271 => (some t271)) else (some false))) else (some false))) else (some false)) else (some false)) else (some false)) else (some false)) else (some false)) else (some false)) else (some false)) else (some false))) = some true := H
  have A6 := zA A60
  clear A60
  obtain ⟨y253, hy253⟩ : ∃ y_ : List ByteArray, y_ = (([(⟨#[98]⟩ : ByteArray), (⟨#[97]⟩ : ByteArray)] : List ByteArray)) := ⟨_, rfl⟩
  replace H : ((merge_Down.f k t222 y253 0).bind fun bt256 => (if t229 = 0 then (if t231 = 0 then (if t236 = 0 then (if t243 = 0 then (if t250 = 0 then (if bt256.2 = 13 then (if t228 = 8 then (if t230 = 3 then ((copselaw16_same.f k t235 (([(⟨#[97]⟩ : ByteArray), (⟨#[98]⟩ : ByteArray)] : List ByteArray))).bind fun t263 => (if t263 = true then ((copselaw16_same.f k t242 (([(⟨#[]⟩ : ByteArray)] : List ByteArray))).bind fun t267 => (if t267 = true then ((copselaw16_same.f k t249 (([(⟨#[97]⟩ : ByteArray), (⟨#[98]⟩ : ByteArray)] : List ByteArray))).bind fun t271 => (some t271)) else (some false))) else (some false))) else (some false)) else (some false)) else (some false)) else (some false)) else (some false)) else (some false)) else (some false)) else (some false))) = some true := by first | (rw [hy253]; with_reducible exact H) | (have H2_ := (Option.bind_some _ _).symm.trans H; rw [hy253]; with_reducible exact H2_) | (have H2_ := (Option.bind_some _ _).symm.trans H; with_reducible exact H2_) | with_reducible exact H | (rw [hy253]; exact H) | exact H
  have Ny253 := zA hy253
  clear hy253
  replace H := Option.bind_eq_some_iff.mp H
  obtain ⟨⟨t256, t257⟩, A70, H⟩ := H
  replace H : (if t229 = 0 then (if t231 = 0 then (if t236 = 0 then (if t243 = 0 then (if t250 = 0 then (if t257 = 13 then (if t228 = 8 then (if t230 = 3 then ((copselaw16_same.f k t235 (([(⟨#[97]⟩ : ByteArray), (⟨#[98]⟩ : ByteArray)] : List ByteArray))).bind fun t263 => (if t263 = true then ((copselaw16_same.f k t242 (([(⟨#[]⟩ : ByteArray)] : List ByteArray))).bind fun t267 => (if t267 = true then ((copselaw16_same.f k t249 (([(⟨#[97]⟩ : ByteArray), (⟨#[98]⟩ : ByteArray)] : List ByteArray))).bind fun t271 => (some t271)) else (some false))) else (some false))) else (some false)) else (some false)) else (some false)) else (some false)) else (some false)) else (some false)) else (some false)) else (some false)) = some true := H
  have A7 := zA A70
  clear A70
  by_cases c8 : t229 = 0
  · rw [if_pos c8] at H
    have c8b0 : (t229 == 0) = true := beq_iff_eq.mpr c8
    have c8b1 : (t229 != 0) = false := bne_eq_false_iff_eq.mpr c8
    clear c8
    by_cases c9 : t231 = 0
    · rw [if_pos c9] at H
      have c9b0 : (t231 == 0) = true := beq_iff_eq.mpr c9
      have c9b1 : (t231 != 0) = false := bne_eq_false_iff_eq.mpr c9
      clear c9
      by_cases c10 : t236 = 0
      · rw [if_pos c10] at H
        have c10b0 : (t236 == 0) = true := beq_iff_eq.mpr c10
        have c10b1 : (t236 != 0) = false := bne_eq_false_iff_eq.mpr c10
        clear c10
        by_cases c11 : t243 = 0
        · rw [if_pos c11] at H
          have c11b0 : (t243 == 0) = true := beq_iff_eq.mpr c11
          have c11b1 : (t243 != 0) = false := bne_eq_false_iff_eq.mpr c11
          clear c11
          by_cases c12 : t250 = 0
          · rw [if_pos c12] at H
            have c12b0 : (t250 == 0) = true := beq_iff_eq.mpr c12
            have c12b1 : (t250 != 0) = false := bne_eq_false_iff_eq.mpr c12
            clear c12
            by_cases c13 : t257 = 13
            · rw [if_pos c13] at H
              have c13b0 : (t257 == 13) = true := beq_iff_eq.mpr c13
              have c13b1 : (t257 != 13) = false := bne_eq_false_iff_eq.mpr c13
              clear c13
              by_cases c14 : t228 = 8
              · rw [if_pos c14] at H
                have c14b0 : (t228 == 8) = true := beq_iff_eq.mpr c14
                have c14b1 : (t228 != 8) = false := bne_eq_false_iff_eq.mpr c14
                clear c14
                by_cases c15 : t230 = 3
                · rw [if_pos c15] at H
                  have c15b0 : (t230 == 3) = true := beq_iff_eq.mpr c15
                  have c15b1 : (t230 != 3) = false := bne_eq_false_iff_eq.mpr c15
                  clear c15
                  obtain ⟨y260, hy260⟩ : ∃ y_ : List ByteArray, y_ = (([(⟨#[97]⟩ : ByteArray), (⟨#[98]⟩ : ByteArray)] : List ByteArray)) := ⟨_, rfl⟩
                  replace H : ((copselaw16_same.f k t235 y260).bind fun t263 => (if t263 = true then ((copselaw16_same.f k t242 (([(⟨#[]⟩ : ByteArray)] : List ByteArray))).bind fun t267 => (if t267 = true then ((copselaw16_same.f k t249 (([(⟨#[97]⟩ : ByteArray), (⟨#[98]⟩ : ByteArray)] : List ByteArray))).bind fun t271 => (some t271)) else (some false))) else (some false))) = some true := by first | (rw [hy260]; with_reducible exact H) | (have H2_ := (Option.bind_some _ _).symm.trans H; rw [hy260]; with_reducible exact H2_) | (have H2_ := (Option.bind_some _ _).symm.trans H; with_reducible exact H2_) | with_reducible exact H | (rw [hy260]; exact H) | exact H
                  have Ny260 := zA hy260
                  clear hy260
                  replace H := Option.bind_eq_some_iff.mp H
                  obtain ⟨t263, A160, H⟩ := H
                  replace H : (if t263 = true then ((copselaw16_same.f k t242 (([(⟨#[]⟩ : ByteArray)] : List ByteArray))).bind fun t267 => (if t267 = true then ((copselaw16_same.f k t249 (([(⟨#[97]⟩ : ByteArray), (⟨#[98]⟩ : ByteArray)] : List ByteArray))).bind fun t271 => (some t271)) else (some false))) else (some false)) = some true := H
                  have A16 := zA A160
                  clear A160
                  by_cases c17 : t263 = true
                  · subst c17
                    have H1 : ((copselaw16_same.f k t242 (([(⟨#[]⟩ : ByteArray)] : List ByteArray))).bind fun t267 => (if t267 = true then ((copselaw16_same.f k t249 (([(⟨#[97]⟩ : ByteArray), (⟨#[98]⟩ : ByteArray)] : List ByteArray))).bind fun t271 => (some t271)) else (some false))) = some true := by rw [if_pos rfl] at H; exact H
                    clear H
                    have H := H1
                    clear H1
                    obtain ⟨y264, hy264⟩ : ∃ y_ : List ByteArray, y_ = (([(⟨#[]⟩ : ByteArray)] : List ByteArray)) := ⟨_, rfl⟩
                    replace H : ((copselaw16_same.f k t242 y264).bind fun t267 => (if t267 = true then ((copselaw16_same.f k t249 (([(⟨#[97]⟩ : ByteArray), (⟨#[98]⟩ : ByteArray)] : List ByteArray))).bind fun t271 => (some t271)) else (some false))) = some true := by first | (rw [hy264]; with_reducible exact H) | (have H2_ := (Option.bind_some _ _).symm.trans H; rw [hy264]; with_reducible exact H2_) | (have H2_ := (Option.bind_some _ _).symm.trans H; with_reducible exact H2_) | with_reducible exact H | (rw [hy264]; exact H) | exact H
                    have Ny264 := zA hy264
                    clear hy264
                    replace H := Option.bind_eq_some_iff.mp H
                    obtain ⟨t267, A180, H⟩ := H
                    replace H : (if t267 = true then ((copselaw16_same.f k t249 (([(⟨#[97]⟩ : ByteArray), (⟨#[98]⟩ : ByteArray)] : List ByteArray))).bind fun t271 => (some t271)) else (some false)) = some true := H
                    have A18 := zA A180
                    clear A180
                    by_cases c19 : t267 = true
                    · subst c19
                      have H1 : ((copselaw16_same.f k t249 (([(⟨#[97]⟩ : ByteArray), (⟨#[98]⟩ : ByteArray)] : List ByteArray))).bind fun t271 => (some t271)) = some true := by rw [if_pos rfl] at H; exact H
                      clear H
                      have H := H1
                      clear H1
                      obtain ⟨y268, hy268⟩ : ∃ y_ : List ByteArray, y_ = (([(⟨#[97]⟩ : ByteArray), (⟨#[98]⟩ : ByteArray)] : List ByteArray)) := ⟨_, rfl⟩
                      replace H : ((copselaw16_same.f k t249 y268).bind fun t271 => (some t271)) = some true := by first | (rw [hy268]; with_reducible exact H) | (have H2_ := (Option.bind_some _ _).symm.trans H; rw [hy268]; with_reducible exact H2_) | (have H2_ := (Option.bind_some _ _).symm.trans H; with_reducible exact H2_) | with_reducible exact H | (rw [hy268]; exact H) | exact H
                      have Ny268 := zA hy268
                      clear hy268
                      replace H := Option.bind_eq_some_iff.mp H
                      obtain ⟨t271, A200, H⟩ := H
                      replace H : (some t271) = some true := H
                      have A20 := zA A200
                      clear A200
                      obtain rfl := Option.some.inj H
                      go_enter Tryd.func6, Tryd.ntmps6
                      go_wp2_with (first | ((with_reducible refine gate_callee (f := 23) rfl ?_); refine goesL_ (some 14) rfl rfl Tryd.func23 (by kernel_rfl) rfl #[] rfl (by (try simp only [List.map_toArray, List.map_cons, List.map_nil]); first | done | rfl | (simp only [List.length_drop, List.length_take]; rfl)) ?_; (with_reducible refine (copselaw16_example.calls  t222 _ A1.out).mono ?_); rintro e w21 ⟨v223, rfl, ho0, hb⟩; refine ⟨_, rfl, ?_⟩; have n0_ := zA (Kd.R_lower ho0 (below_size (by repeat (first | (with_reducible first | exact HB.out | apply zL | apply zN | apply zD) | exact HB.out)))); have n1_ := zA (below_step (by repeat (first | (with_reducible first | exact HB.out | apply zL | apply zN | apply zD) | exact HB.out)) hb); clear HB; have HO224 := n0_; have HB := n1_; clear n0_ n1_; (try clear hb); (try clear hb2); (try clear hk); (try clear hi); (try clear ho0)) | ((with_reducible refine gate_dst (N := 17) rfl ?_); (try (refine gate_guard (by rfl) ?_; dsimp only)); refine Kd.R_lit Kd.string _ 9 ?hg (N := 17) ?hd (xs := ([(⟨#[97, 47, 120]⟩ : ByteArray)] : List ByteArray)) (inner := [.string (⟨#[97, 47, 120]⟩ : ByteArray)]) (ok := fun _ => True) (okp := fun _ => True) ?hr ?hp (fun _ hk => hk) trivial (Below.refl _ _) (Nat.le_refl _) (by simp) ?_; (case hd => rfl); (case hg => rfl); (case hr => first | (go_simp; done) | (go_simp; rfl)); (case hp => exact (Reps.one (show Kd.M Kd.string _ _ _ (⟨#[97, 47, 120]⟩ : ByteArray) [.string (⟨#[97, 47, 120]⟩ : ByteArray)] from rfl) (Reps.none _ _))); intro v226 w22 ho23 hb hg_ hnew_; clear hg_ hnew_; (first | rw [← Ny225.out] at ho23 | (simp only [Int.reduceToNat] at ho23; rw [← Ny225.out] at ho23)); have n0_ := zA (Kd.R_below (by (with_reducible repeat (first | apply Kd.R_alloc | apply Kd.R_drewN | apply Kd.R_drew)); exact HO224.out) hb); have n1_ := zA (Kd.R_lower ho23 (below_size (by repeat (first | (with_reducible first | exact HB.out | apply zL | apply zN | apply zD) | exact HB.out)))); have n2_ := zA (below_step (by repeat (first | (with_reducible first | exact HB.out | apply zL | apply zN | apply zD) | exact HB.out)) hb); clear HO224; clear HB; have HO224 := n0_; have HO227 := n1_; have HB := n2_; clear n0_ n1_ n2_; clear hb ho23; obtain ⟨Ao24, co24, eo24⟩ := Kd.R_slice HO224.out; subst eo24; obtain ⟨Ao25, co25, eo25⟩ := Kd.R_slice HO227.out; subst eo25) | ((with_reducible refine gate_callee (f := 8) rfl ?_); refine goesL_ (some 18) rfl rfl Tryd.func8 (by kernel_rfl) rfl #[.slice Ao24 t222.length co24, .slice Ao25 y225.length co25] rfl (by (try simp only [List.map_toArray, List.map_cons, List.map_nil]); first | done | rfl | (simp only [List.length_drop, List.length_take]; rfl)) ?_; (with_reducible refine (merge_Cost.calls k _ _ t222 _ _ y225 t228 t229 _ ?side1 ?side2 ?side3 ?side4 A2.out).mono ?_); (case side1 => repeat (first | exact (Kd.R_reads' HO224.out).2.2 | (with_reducible refine Kd.C_alloc ?_ _) | (with_reducible refine Kd.C_drewN ?_ _) | (with_reducible refine Kd.C_drew ?_))); (case side2 => exact (Kd.R_reads' HO224.out).2.1); (case side3 => repeat (first | exact (Kd.R_reads' HO227.out).2.2 | (with_reducible refine Kd.C_alloc ?_ _) | (with_reducible refine Kd.C_drewN ?_ _) | (with_reducible refine Kd.C_drew ?_))); (case side4 => exact (Kd.R_reads' HO227.out).2.1); rintro e w26 ⟨rfl, hb⟩; refine ⟨_, rfl, ?_⟩; have n0_ := zA (Kd.R_below (by (with_reducible repeat (first | apply Kd.R_alloc | apply Kd.R_drewN | apply Kd.R_drew)); exact HO224.out) hb); have n1_ := zA (Kd.R_below (by (with_reducible repeat (first | apply Kd.R_alloc | apply Kd.R_drewN | apply Kd.R_drew)); exact HO227.out) hb); have n2_ := zA (below_step (by repeat (first | (with_reducible first | exact HB.out | apply zL | apply zN | apply zD) | exact HB.out)) hb); clear HO224; clear HO227; clear HB; have HO224 := n0_; have HO227 := n1_; have HB := n2_; clear n0_ n1_ n2_; (try clear hb); (try clear hb2); (try clear hk); (try clear hi)) | ((with_reducible refine gate_callee (f := 8) rfl ?_); refine goesL_ (some 23) rfl rfl Tryd.func8 (by kernel_rfl) rfl #[.slice Ao24 t222.length co24, .slice none 0 0] rfl (by (try simp only [List.map_toArray, List.map_cons, List.map_nil]); first | done | rfl | (simp only [List.length_drop, List.length_take]; rfl)) ?_; (refine (merge_Cost.calls k _ _ t222 _ _ ([] : List ByteArray) t230 t231 _ ?side1 ?side2 ?side3 ?side4 A3.out).mono ?_); (case side1 => repeat (first | exact (Kd.R_reads' HO224.out).2.2 | (with_reducible refine Kd.C_alloc ?_ _) | (with_reducible refine Kd.C_drewN ?_ _) | (with_reducible refine Kd.C_drew ?_))); (case side2 => exact (Kd.R_reads' HO224.out).2.1); (case side3 => exact Kd.C_nil _ _); (case side4 => exact Nat.le_refl _); rintro e w27 ⟨rfl, hb⟩; refine ⟨_, rfl, ?_⟩; have n0_ := zA (Kd.R_below (by (with_reducible repeat (first | apply Kd.R_alloc | apply Kd.R_drewN | apply Kd.R_drew)); exact HO224.out) hb); have n1_ := zA (Kd.R_below (by (with_reducible repeat (first | apply Kd.R_alloc | apply Kd.R_drewN | apply Kd.R_drew)); exact HO227.out) hb); have n2_ := zA (below_step (by repeat (first | (with_reducible first | exact HB.out | apply zL | apply zN | apply zD) | exact HB.out)) hb); clear HO224; clear HO227; clear HB; have HO224 := n0_; have HO227 := n1_; have HB := n2_; clear n0_ n1_ n2_; (try clear hb); (try clear hb2); (try clear hk); (try clear hi)) | ((with_reducible refine gate_dst (N := 28) rfl ?_); (try (refine gate_guard (by rfl) ?_; dsimp only)); refine Kd.R_lit Kd.string _ 9 ?hg (N := 28) ?hd (xs := ([(⟨#[97, 47, 120]⟩ : ByteArray), (⟨#[97, 47, 121]⟩ : ByteArray), (⟨#[98]⟩ : ByteArray)] : List ByteArray)) (inner := [.string (⟨#[97, 47, 120]⟩ : ByteArray), .string (⟨#[97, 47, 121]⟩ : ByteArray), .string (⟨#[98]⟩ : ByteArray)]) (ok := fun _ => True) (okp := fun _ => True) ?hr ?hp (fun _ hk => hk) trivial (Below.refl _ _) (Nat.le_refl _) (by simp) ?_; (case hd => rfl); (case hg => rfl); (case hr => first | (go_simp; done) | (go_simp; rfl)); (case hp => exact (Reps.one (show Kd.M Kd.string _ _ _ (⟨#[97, 47, 120]⟩ : ByteArray) [.string (⟨#[97, 47, 120]⟩ : ByteArray)] from rfl) (Reps.one (show Kd.M Kd.string _ _ _ (⟨#[97, 47, 121]⟩ : ByteArray) [.string (⟨#[97, 47, 121]⟩ : ByteArray)] from rfl) (Reps.one (show Kd.M Kd.string _ _ _ (⟨#[98]⟩ : ByteArray) [.string (⟨#[98]⟩ : ByteArray)] from rfl) (Reps.none _ _))))); intro v233 w28 ho29 hb hg_ hnew_; clear hg_ hnew_; (first | rw [← Ny232.out] at ho29 | (simp only [Int.reduceToNat] at ho29; rw [← Ny232.out] at ho29)); have n0_ := zA (Kd.R_below (by (with_reducible repeat (first | apply Kd.R_alloc | apply Kd.R_drewN | apply Kd.R_drew)); exact HO224.out) hb); have n1_ := zA (Kd.R_elder' (by (with_reducible repeat (first | apply Kd.R_alloc | apply Kd.R_drewN | apply Kd.R_drew)); exact HO227.out) (Kd.R_base ho29) hb); have n2_ := zA (Kd.R_lower (Kd.R_new' ho29 (Kd.R_lt (by (with_reducible repeat (first | apply Kd.R_alloc | apply Kd.R_drewN | apply Kd.R_drew)); exact HO227.out))) (below_size (by repeat (first | (with_reducible first | exact HB.out | apply zL | apply zN | apply zD) | exact HB.out)))); have n3_ := zA (below_step (by repeat (first | (with_reducible first | exact HB.out | apply zL | apply zN | apply zD) | exact HB.out)) hb); clear HO224; clear HO227; clear HB; have HO224 := n0_; have HO227 := n1_; have HO234 := n2_; have HB := n3_; clear n0_ n1_ n2_ n3_; clear hb ho29; obtain ⟨Ao30, co30, eo30⟩ := Kd.R_slice HO234.out; subst eo30) | ((with_reducible refine gate_callee (f := 13) rfl ?_); refine goesL_ (some 29) rfl rfl Tryd.func13 (by kernel_rfl) rfl #[.slice Ao24 t222.length co24, .slice Ao30 y232.length co30] rfl (by (try simp only [List.map_toArray, List.map_cons, List.map_nil]); first | done | rfl | (simp only [List.length_drop, List.length_take]; rfl)) ?_; (with_reducible refine (merge_Step.calls k _ _ t222 _ _ y232 t235 t236 _ ?side1 ?side2 ?side3 ?side4 A4.out).mono ?_); (case side1 => repeat (first | exact (Kd.R_reads' HO224.out).2.2 | (with_reducible refine Kd.C_alloc ?_ _) | (with_reducible refine Kd.C_drewN ?_ _) | (with_reducible refine Kd.C_drew ?_))); (case side2 => exact (Kd.R_reads' HO224.out).2.1); (case side3 => repeat (first | exact (Kd.R_reads' HO234.out).2.2 | (with_reducible refine Kd.C_alloc ?_ _) | (with_reducible refine Kd.C_drewN ?_ _) | (with_reducible refine Kd.C_drew ?_))); (case side4 => exact (Kd.R_reads' HO234.out).2.1); rintro e w31 ⟨v237, rfl, ho0, hb⟩; refine ⟨_, rfl, ?_⟩; have n0_ := zA (Kd.R_below (by (with_reducible repeat (first | apply Kd.R_alloc | apply Kd.R_drewN | apply Kd.R_drew)); exact HO224.out) hb); have n1_ := zA (Kd.R_elder' (by (with_reducible repeat (first | apply Kd.R_alloc | apply Kd.R_drewN | apply Kd.R_drew)); exact HO227.out) (Kd.R_base ho0) hb); have n2_ := zA (Kd.R_elder' (by (with_reducible repeat (first | apply Kd.R_alloc | apply Kd.R_drewN | apply Kd.R_drew)); exact HO234.out) (Kd.R_base ho0) hb); have n3_ := zA (Kd.R_lower (Kd.R_new' (Kd.R_new' ho0 (Kd.R_lt (by (with_reducible repeat (first | apply Kd.R_alloc | apply Kd.R_drewN | apply Kd.R_drew)); exact HO227.out))) (Kd.R_lt (by (with_reducible repeat (first | apply Kd.R_alloc | apply Kd.R_drewN | apply Kd.R_drew)); exact HO234.out))) (below_size (by repeat (first | (with_reducible first | exact HB.out | apply zL | apply zN | apply zD) | exact HB.out)))); have n4_ := zA (below_step (by repeat (first | (with_reducible first | exact HB.out | apply zL | apply zN | apply zD) | exact HB.out)) hb); clear HO224; clear HO227; clear HO234; clear HB; have HO224 := n0_; have HO227 := n1_; have HO234 := n2_; have HO238 := n3_; have HB := n4_; clear n0_ n1_ n2_ n3_ n4_; (try clear hb); (try clear hb2); (try clear hk); (try clear hi); (try clear ho0)) | ((with_reducible refine gate_dst (N := 34) rfl ?_); (try (refine gate_guard (by rfl) ?_; dsimp only)); refine Kd.R_lit Kd.string _ 9 ?hg (N := 34) ?hd (xs := ([(⟨#[97, 47, 120]⟩ : ByteArray), (⟨#[97, 47, 121]⟩ : ByteArray), (⟨#[98]⟩ : ByteArray)] : List ByteArray)) (inner := [.string (⟨#[97, 47, 120]⟩ : ByteArray), .string (⟨#[97, 47, 121]⟩ : ByteArray), .string (⟨#[98]⟩ : ByteArray)]) (ok := fun _ => True) (okp := fun _ => True) ?hr ?hp (fun _ hk => hk) trivial (Below.refl _ _) (Nat.le_refl _) (by simp) ?_; (case hd => rfl); (case hg => rfl); (case hr => first | (go_simp; done) | (go_simp; rfl)); (case hp => exact (Reps.one (show Kd.M Kd.string _ _ _ (⟨#[97, 47, 120]⟩ : ByteArray) [.string (⟨#[97, 47, 120]⟩ : ByteArray)] from rfl) (Reps.one (show Kd.M Kd.string _ _ _ (⟨#[97, 47, 121]⟩ : ByteArray) [.string (⟨#[97, 47, 121]⟩ : ByteArray)] from rfl) (Reps.one (show Kd.M Kd.string _ _ _ (⟨#[98]⟩ : ByteArray) [.string (⟨#[98]⟩ : ByteArray)] from rfl) (Reps.none _ _))))); intro v240 w32 ho33 hb hg_ hnew_; clear hg_ hnew_; (first | rw [← Ny239.out] at ho33 | (simp only [Int.reduceToNat] at ho33; rw [← Ny239.out] at ho33)); have n0_ := zA (Kd.R_below (by (with_reducible repeat (first | apply Kd.R_alloc | apply Kd.R_drewN | apply Kd.R_drew)); exact HO224.out) hb); have n1_ := zA (Kd.R_elder' (by (with_reducible repeat (first | apply Kd.R_alloc | apply Kd.R_drewN | apply Kd.R_drew)); exact HO227.out) (Kd.R_base ho33) hb); have n2_ := zA (Kd.R_elder' (by (with_reducible repeat (first | apply Kd.R_alloc | apply Kd.R_drewN | apply Kd.R_drew)); exact HO234.out) (Kd.R_base ho33) hb); have n3_ := zA (Kd.R_elder' (by (with_reducible repeat (first | apply Kd.R_alloc | apply Kd.R_drewN | apply Kd.R_drew)); exact HO238.out) (Kd.R_base ho33) hb); have n4_ := zA (Kd.R_lower (Kd.R_new' (Kd.R_new' (Kd.R_new' ho33 (Kd.R_lt (by (with_reducible repeat (first | apply Kd.R_alloc | apply Kd.R_drewN | apply Kd.R_drew)); exact HO227.out))) (Kd.R_lt (by (with_reducible repeat (first | apply Kd.R_alloc | apply Kd.R_drewN | apply Kd.R_drew)); exact HO234.out))) (Kd.R_lt (by (with_reducible repeat (first | apply Kd.R_alloc | apply Kd.R_drewN | apply Kd.R_drew)); exact HO238.out))) (below_size (by repeat (first | (with_reducible first | exact HB.out | apply zL | apply zN | apply zD) | exact HB.out)))); have n5_ := zA (below_step (by repeat (first | (with_reducible first | exact HB.out | apply zL | apply zN | apply zD) | exact HB.out)) hb); clear HO224; clear HO227; clear HO234; clear HO238; clear HB; have HO224 := n0_; have HO227 := n1_; have HO234 := n2_; have HO238 := n3_; have HO241 := n4_; have HB := n5_; clear n0_ n1_ n2_ n3_ n4_ n5_; clear hb ho33; obtain ⟨Ao34, co34, eo34⟩ := Kd.R_slice HO241.out; subst eo34) | ((with_reducible refine gate_callee (f := 15) rfl ?_); refine goesL_ (some 35) rfl rfl Tryd.func15 (by kernel_rfl) rfl #[.slice Ao24 t222.length co24, .slice Ao34 y239.length co34, .int .i64 1] rfl (by (try simp only [List.map_toArray, List.map_cons, List.map_nil]); first | done | rfl | (simp only [List.length_drop, List.length_take]; rfl)) ?_; (with_reducible refine (merge_Down.calls k _ _ t222 _ _ y239 1 t242 t243 _ ?side1 ?side2 ?side3 ?side4 A5.out).mono ?_); (case side1 => repeat (first | exact (Kd.R_reads' HO224.out).2.2 | (with_reducible refine Kd.C_alloc ?_ _) | (with_reducible refine Kd.C_drewN ?_ _) | (with_reducible refine Kd.C_drew ?_))); (case side2 => exact (Kd.R_reads' HO224.out).2.1); (case side3 => repeat (first | exact (Kd.R_reads' HO241.out).2.2 | (with_reducible refine Kd.C_alloc ?_ _) | (with_reducible refine Kd.C_drewN ?_ _) | (with_reducible refine Kd.C_drew ?_))); (case side4 => exact (Kd.R_reads' HO241.out).2.1); rintro e w35 ⟨v244, rfl, ho0, hb⟩; refine ⟨_, rfl, ?_⟩; have n0_ := zA (Kd.R_below (by (with_reducible repeat (first | apply Kd.R_alloc | apply Kd.R_drewN | apply Kd.R_drew)); exact HO224.out) hb); have n1_ := zA (Kd.R_elder' (by (with_reducible repeat (first | apply Kd.R_alloc | apply Kd.R_drewN | apply Kd.R_drew)); exact HO227.out) (Kd.R_base ho0) hb); have n2_ := zA (Kd.R_elder' (by (with_reducible repeat (first | apply Kd.R_alloc | apply Kd.R_drewN | apply Kd.R_drew)); exact HO234.out) (Kd.R_base ho0) hb); have n3_ := zA (Kd.R_elder' (by (with_reducible repeat (first | apply Kd.R_alloc | apply Kd.R_drewN | apply Kd.R_drew)); exact HO238.out) (Kd.R_base ho0) hb); have n4_ := zA (Kd.R_elder' (by (with_reducible repeat (first | apply Kd.R_alloc | apply Kd.R_drewN | apply Kd.R_drew)); exact HO241.out) (Kd.R_base ho0) hb); have n5_ := zA (Kd.R_lower (Kd.R_new' (Kd.R_new' (Kd.R_new' (Kd.R_new' ho0 (Kd.R_lt (by (with_reducible repeat (first | apply Kd.R_alloc | apply Kd.R_drewN | apply Kd.R_drew)); exact HO227.out))) (Kd.R_lt (by (with_reducible repeat (first | apply Kd.R_alloc | apply Kd.R_drewN | apply Kd.R_drew)); exact HO234.out))) (Kd.R_lt (by (with_reducible repeat (first | apply Kd.R_alloc | apply Kd.R_drewN | apply Kd.R_drew)); exact HO238.out))) (Kd.R_lt (by (with_reducible repeat (first | apply Kd.R_alloc | apply Kd.R_drewN | apply Kd.R_drew)); exact HO241.out))) (below_size (by repeat (first | (with_reducible first | exact HB.out | apply zL | apply zN | apply zD) | exact HB.out)))); have n6_ := zA (below_step (by repeat (first | (with_reducible first | exact HB.out | apply zL | apply zN | apply zD) | exact HB.out)) hb); clear HO224; clear HO227; clear HO234; clear HO238; clear HO241; clear HB; have HO224 := n0_; have HO227 := n1_; have HO234 := n2_; have HO238 := n3_; have HO241 := n4_; have HO245 := n5_; have HB := n6_; clear n0_ n1_ n2_ n3_ n4_ n5_ n6_; (try clear hb); (try clear hb2); (try clear hk); (try clear hi); (try clear ho0)) | ((with_reducible refine gate_dst (N := 39) rfl ?_); (try (refine gate_guard (by rfl) ?_; dsimp only)); refine Kd.R_lit Kd.string _ 9 ?hg (N := 39) ?hd (xs := ([(⟨#[97, 47, 120]⟩ : ByteArray), (⟨#[97, 47, 121]⟩ : ByteArray), (⟨#[98]⟩ : ByteArray)] : List ByteArray)) (inner := [.string (⟨#[97, 47, 120]⟩ : ByteArray), .string (⟨#[97, 47, 121]⟩ : ByteArray), .string (⟨#[98]⟩ : ByteArray)]) (ok := fun _ => True) (okp := fun _ => True) ?hr ?hp (fun _ hk => hk) trivial (Below.refl _ _) (Nat.le_refl _) (by simp) ?_; (case hd => rfl); (case hg => rfl); (case hr => first | (go_simp; done) | (go_simp; rfl)); (case hp => exact (Reps.one (show Kd.M Kd.string _ _ _ (⟨#[97, 47, 120]⟩ : ByteArray) [.string (⟨#[97, 47, 120]⟩ : ByteArray)] from rfl) (Reps.one (show Kd.M Kd.string _ _ _ (⟨#[97, 47, 121]⟩ : ByteArray) [.string (⟨#[97, 47, 121]⟩ : ByteArray)] from rfl) (Reps.one (show Kd.M Kd.string _ _ _ (⟨#[98]⟩ : ByteArray) [.string (⟨#[98]⟩ : ByteArray)] from rfl) (Reps.none _ _))))); intro v247 w36 ho37 hb hg_ hnew_; clear hg_ hnew_; (first | rw [← Ny246.out] at ho37 | (simp only [Int.reduceToNat] at ho37; rw [← Ny246.out] at ho37)); have n0_ := zA (Kd.R_below (by (with_reducible repeat (first | apply Kd.R_alloc | apply Kd.R_drewN | apply Kd.R_drew)); exact HO224.out) hb); have n1_ := zA (Kd.R_elder' (by (with_reducible repeat (first | apply Kd.R_alloc | apply Kd.R_drewN | apply Kd.R_drew)); exact HO227.out) (Kd.R_base ho37) hb); have n2_ := zA (Kd.R_elder' (by (with_reducible repeat (first | apply Kd.R_alloc | apply Kd.R_drewN | apply Kd.R_drew)); exact HO234.out) (Kd.R_base ho37) hb); have n3_ := zA (Kd.R_elder' (by (with_reducible repeat (first | apply Kd.R_alloc | apply Kd.R_drewN | apply Kd.R_drew)); exact HO238.out) (Kd.R_base ho37) hb); have n4_ := zA (Kd.R_elder' (by (with_reducible repeat (first | apply Kd.R_alloc | apply Kd.R_drewN | apply Kd.R_drew)); exact HO241.out) (Kd.R_base ho37) hb); have n5_ := zA (Kd.R_elder' (by (with_reducible repeat (first | apply Kd.R_alloc | apply Kd.R_drewN | apply Kd.R_drew)); exact HO245.out) (Kd.R_base ho37) hb); have n6_ := zA (Kd.R_lower (Kd.R_new' (Kd.R_new' (Kd.R_new' (Kd.R_new' (Kd.R_new' ho37 (Kd.R_lt (by (with_reducible repeat (first | apply Kd.R_alloc | apply Kd.R_drewN | apply Kd.R_drew)); exact HO227.out))) (Kd.R_lt (by (with_reducible repeat (first | apply Kd.R_alloc | apply Kd.R_drewN | apply Kd.R_drew)); exact HO234.out))) (Kd.R_lt (by (with_reducible repeat (first | apply Kd.R_alloc | apply Kd.R_drewN | apply Kd.R_drew)); exact HO238.out))) (Kd.R_lt (by (with_reducible repeat (first | apply Kd.R_alloc | apply Kd.R_drewN | apply Kd.R_drew)); exact HO241.out))) (Kd.R_lt (by (with_reducible repeat (first | apply Kd.R_alloc | apply Kd.R_drewN | apply Kd.R_drew)); exact HO245.out))) (below_size (by repeat (first | (with_reducible first | exact HB.out | apply zL | apply zN | apply zD) | exact HB.out)))); have n7_ := zA (below_step (by repeat (first | (with_reducible first | exact HB.out | apply zL | apply zN | apply zD) | exact HB.out)) hb); clear HO224; clear HO227; clear HO234; clear HO238; clear HO241; clear HO245; clear HB; have HO224 := n0_; have HO227 := n1_; have HO234 := n2_; have HO238 := n3_; have HO241 := n4_; have HO245 := n5_; have HO248 := n6_; have HB := n7_; clear n0_ n1_ n2_ n3_ n4_ n5_ n6_ n7_; clear hb ho37; obtain ⟨Ao38, co38, eo38⟩ := Kd.R_slice HO248.out; subst eo38) | ((with_reducible refine gate_callee (f := 10) rfl ?_); refine goesL_ (some 40) rfl rfl Tryd.func10 (by kernel_rfl) rfl #[.slice Ao38 y246.length co38, .string (⟨#[97]⟩ : ByteArray)] rfl (by (try simp only [List.map_toArray, List.map_cons, List.map_nil]); first | done | rfl | (simp only [List.length_drop, List.length_take]; rfl)) ?_; (with_reducible refine (merge_At.calls k _ _ y246 (⟨#[97]⟩ : ByteArray) t249 t250 _ ?side1 ?side2 A6.out).mono ?_); (case side1 => repeat (first | exact (Kd.R_reads' HO248.out).2.2 | (with_reducible refine Kd.C_alloc ?_ _) | (with_reducible refine Kd.C_drewN ?_ _) | (with_reducible refine Kd.C_drew ?_))); (case side2 => exact (Kd.R_reads' HO248.out).2.1); rintro e w39 ⟨v251, rfl, ho0, hb⟩; refine ⟨_, rfl, ?_⟩; have n0_ := zA (Kd.R_below (by (with_reducible repeat (first | apply Kd.R_alloc | apply Kd.R_drewN | apply Kd.R_drew)); exact HO224.out) hb); have n1_ := zA (Kd.R_elder' (by (with_reducible repeat (first | apply Kd.R_alloc | apply Kd.R_drewN | apply Kd.R_drew)); exact HO227.out) (Kd.R_base ho0) hb); have n2_ := zA (Kd.R_elder' (by (with_reducible repeat (first | apply Kd.R_alloc | apply Kd.R_drewN | apply Kd.R_drew)); exact HO234.out) (Kd.R_base ho0) hb); have n3_ := zA (Kd.R_elder' (by (with_reducible repeat (first | apply Kd.R_alloc | apply Kd.R_drewN | apply Kd.R_drew)); exact HO238.out) (Kd.R_base ho0) hb); have n4_ := zA (Kd.R_elder' (by (with_reducible repeat (first | apply Kd.R_alloc | apply Kd.R_drewN | apply Kd.R_drew)); exact HO241.out) (Kd.R_base ho0) hb); have n5_ := zA (Kd.R_elder' (by (with_reducible repeat (first | apply Kd.R_alloc | apply Kd.R_drewN | apply Kd.R_drew)); exact HO245.out) (Kd.R_base ho0) hb); have n6_ := zA (Kd.R_elder' (by (with_reducible repeat (first | apply Kd.R_alloc | apply Kd.R_drewN | apply Kd.R_drew)); exact HO248.out) (Kd.R_base ho0) hb); have n7_ := zA (Kd.R_lower (Kd.R_new' (Kd.R_new' (Kd.R_new' (Kd.R_new' (Kd.R_new' (Kd.R_new' ho0 (Kd.R_lt (by (with_reducible repeat (first | apply Kd.R_alloc | apply Kd.R_drewN | apply Kd.R_drew)); exact HO227.out))) (Kd.R_lt (by (with_reducible repeat (first | apply Kd.R_alloc | apply Kd.R_drewN | apply Kd.R_drew)); exact HO234.out))) (Kd.R_lt (by (with_reducible repeat (first | apply Kd.R_alloc | apply Kd.R_drewN | apply Kd.R_drew)); exact HO238.out))) (Kd.R_lt (by (with_reducible repeat (first | apply Kd.R_alloc | apply Kd.R_drewN | apply Kd.R_drew)); exact HO241.out))) (Kd.R_lt (by (with_reducible repeat (first | apply Kd.R_alloc | apply Kd.R_drewN | apply Kd.R_drew)); exact HO245.out))) (Kd.R_lt (by (with_reducible repeat (first | apply Kd.R_alloc | apply Kd.R_drewN | apply Kd.R_drew)); exact HO248.out))) (below_size (by repeat (first | (with_reducible first | exact HB.out | apply zL | apply zN | apply zD) | exact HB.out)))); have n8_ := zA (below_step (by repeat (first | (with_reducible first | exact HB.out | apply zL | apply zN | apply zD) | exact HB.out)) hb); clear HO224; clear HO227; clear HO234; clear HO238; clear HO241; clear HO245; clear HO248; clear HB; have HO224 := n0_; have HO227 := n1_; have HO234 := n2_; have HO238 := n3_; have HO241 := n4_; have HO245 := n5_; have HO248 := n6_; have HO252 := n7_; have HB := n8_; clear n0_ n1_ n2_ n3_ n4_ n5_ n6_ n7_ n8_; (try clear hb); (try clear hb2); (try clear hk); (try clear hi); (try clear ho0)) | ((with_reducible refine gate_dst (N := 45) rfl ?_); (try (refine gate_guard (by rfl) ?_; dsimp only)); refine Kd.R_lit Kd.string _ 9 ?hg (N := 45) ?hd (xs := ([(⟨#[98]⟩ : ByteArray), (⟨#[97]⟩ : ByteArray)] : List ByteArray)) (inner := [.string (⟨#[98]⟩ : ByteArray), .string (⟨#[97]⟩ : ByteArray)]) (ok := fun _ => True) (okp := fun _ => True) ?hr ?hp (fun _ hk => hk) trivial (Below.refl _ _) (Nat.le_refl _) (by simp) ?_; (case hd => rfl); (case hg => rfl); (case hr => first | (go_simp; done) | (go_simp; rfl)); (case hp => exact (Reps.one (show Kd.M Kd.string _ _ _ (⟨#[98]⟩ : ByteArray) [.string (⟨#[98]⟩ : ByteArray)] from rfl) (Reps.one (show Kd.M Kd.string _ _ _ (⟨#[97]⟩ : ByteArray) [.string (⟨#[97]⟩ : ByteArray)] from rfl) (Reps.none _ _)))); intro v254 w40 ho41 hb hg_ hnew_; clear hg_ hnew_; (first | rw [← Ny253.out] at ho41 | (simp only [Int.reduceToNat] at ho41; rw [← Ny253.out] at ho41)); have n0_ := zA (Kd.R_below (by (with_reducible repeat (first | apply Kd.R_alloc | apply Kd.R_drewN | apply Kd.R_drew)); exact HO224.out) hb); have n1_ := zA (Kd.R_elder' (by (with_reducible repeat (first | apply Kd.R_alloc | apply Kd.R_drewN | apply Kd.R_drew)); exact HO227.out) (Kd.R_base ho41) hb); have n2_ := zA (Kd.R_elder' (by (with_reducible repeat (first | apply Kd.R_alloc | apply Kd.R_drewN | apply Kd.R_drew)); exact HO234.out) (Kd.R_base ho41) hb); have n3_ := zA (Kd.R_elder' (by (with_reducible repeat (first | apply Kd.R_alloc | apply Kd.R_drewN | apply Kd.R_drew)); exact HO238.out) (Kd.R_base ho41) hb); have n4_ := zA (Kd.R_elder' (by (with_reducible repeat (first | apply Kd.R_alloc | apply Kd.R_drewN | apply Kd.R_drew)); exact HO241.out) (Kd.R_base ho41) hb); have n5_ := zA (Kd.R_elder' (by (with_reducible repeat (first | apply Kd.R_alloc | apply Kd.R_drewN | apply Kd.R_drew)); exact HO245.out) (Kd.R_base ho41) hb); have n6_ := zA (Kd.R_elder' (by (with_reducible repeat (first | apply Kd.R_alloc | apply Kd.R_drewN | apply Kd.R_drew)); exact HO248.out) (Kd.R_base ho41) hb); have n7_ := zA (Kd.R_elder' (by (with_reducible repeat (first | apply Kd.R_alloc | apply Kd.R_drewN | apply Kd.R_drew)); exact HO252.out) (Kd.R_base ho41) hb); have n8_ := zA (Kd.R_lower (Kd.R_new' (Kd.R_new' (Kd.R_new' (Kd.R_new' (Kd.R_new' (Kd.R_new' (Kd.R_new' ho41 (Kd.R_lt (by (with_reducible repeat (first | apply Kd.R_alloc | apply Kd.R_drewN | apply Kd.R_drew)); exact HO227.out))) (Kd.R_lt (by (with_reducible repeat (first | apply Kd.R_alloc | apply Kd.R_drewN | apply Kd.R_drew)); exact HO234.out))) (Kd.R_lt (by (with_reducible repeat (first | apply Kd.R_alloc | apply Kd.R_drewN | apply Kd.R_drew)); exact HO238.out))) (Kd.R_lt (by (with_reducible repeat (first | apply Kd.R_alloc | apply Kd.R_drewN | apply Kd.R_drew)); exact HO241.out))) (Kd.R_lt (by (with_reducible repeat (first | apply Kd.R_alloc | apply Kd.R_drewN | apply Kd.R_drew)); exact HO245.out))) (Kd.R_lt (by (with_reducible repeat (first | apply Kd.R_alloc | apply Kd.R_drewN | apply Kd.R_drew)); exact HO248.out))) (Kd.R_lt (by (with_reducible repeat (first | apply Kd.R_alloc | apply Kd.R_drewN | apply Kd.R_drew)); exact HO252.out))) (below_size (by repeat (first | (with_reducible first | exact HB.out | apply zL | apply zN | apply zD) | exact HB.out)))); have n9_ := zA (below_step (by repeat (first | (with_reducible first | exact HB.out | apply zL | apply zN | apply zD) | exact HB.out)) hb); clear HO224; clear HO227; clear HO234; clear HO238; clear HO241; clear HO245; clear HO248; clear HO252; clear HB; have HO224 := n0_; have HO227 := n1_; have HO234 := n2_; have HO238 := n3_; have HO241 := n4_; have HO245 := n5_; have HO248 := n6_; have HO252 := n7_; have HO255 := n8_; have HB := n9_; clear n0_ n1_ n2_ n3_ n4_ n5_ n6_ n7_ n8_ n9_; clear hb ho41; obtain ⟨Ao42, co42, eo42⟩ := Kd.R_slice HO255.out; subst eo42) | ((with_reducible refine gate_callee (f := 15) rfl ?_); refine goesL_ (some 46) rfl rfl Tryd.func15 (by kernel_rfl) rfl #[.slice Ao24 t222.length co24, .slice Ao42 y253.length co42, .int .i64 0] rfl (by (try simp only [List.map_toArray, List.map_cons, List.map_nil]); first | done | rfl | (simp only [List.length_drop, List.length_take]; rfl)) ?_; (with_reducible refine (merge_Down.calls k _ _ t222 _ _ y253 0 t256 t257 _ ?side1 ?side2 ?side3 ?side4 A7.out).mono ?_); (case side1 => repeat (first | exact (Kd.R_reads' HO224.out).2.2 | (with_reducible refine Kd.C_alloc ?_ _) | (with_reducible refine Kd.C_drewN ?_ _) | (with_reducible refine Kd.C_drew ?_))); (case side2 => exact (Kd.R_reads' HO224.out).2.1); (case side3 => repeat (first | exact (Kd.R_reads' HO255.out).2.2 | (with_reducible refine Kd.C_alloc ?_ _) | (with_reducible refine Kd.C_drewN ?_ _) | (with_reducible refine Kd.C_drew ?_))); (case side4 => exact (Kd.R_reads' HO255.out).2.1); rintro e w43 ⟨v258, rfl, ho0, hb⟩; refine ⟨_, rfl, ?_⟩; have n0_ := zA (Kd.R_below (by (with_reducible repeat (first | apply Kd.R_alloc | apply Kd.R_drewN | apply Kd.R_drew)); exact HO224.out) hb); have n1_ := zA (Kd.R_elder' (by (with_reducible repeat (first | apply Kd.R_alloc | apply Kd.R_drewN | apply Kd.R_drew)); exact HO227.out) (Kd.R_base ho0) hb); have n2_ := zA (Kd.R_elder' (by (with_reducible repeat (first | apply Kd.R_alloc | apply Kd.R_drewN | apply Kd.R_drew)); exact HO234.out) (Kd.R_base ho0) hb); have n3_ := zA (Kd.R_elder' (by (with_reducible repeat (first | apply Kd.R_alloc | apply Kd.R_drewN | apply Kd.R_drew)); exact HO238.out) (Kd.R_base ho0) hb); have n4_ := zA (Kd.R_elder' (by (with_reducible repeat (first | apply Kd.R_alloc | apply Kd.R_drewN | apply Kd.R_drew)); exact HO241.out) (Kd.R_base ho0) hb); have n5_ := zA (Kd.R_elder' (by (with_reducible repeat (first | apply Kd.R_alloc | apply Kd.R_drewN | apply Kd.R_drew)); exact HO245.out) (Kd.R_base ho0) hb); have n6_ := zA (Kd.R_elder' (by (with_reducible repeat (first | apply Kd.R_alloc | apply Kd.R_drewN | apply Kd.R_drew)); exact HO248.out) (Kd.R_base ho0) hb); have n7_ := zA (Kd.R_elder' (by (with_reducible repeat (first | apply Kd.R_alloc | apply Kd.R_drewN | apply Kd.R_drew)); exact HO252.out) (Kd.R_base ho0) hb); have n8_ := zA (Kd.R_elder' (by (with_reducible repeat (first | apply Kd.R_alloc | apply Kd.R_drewN | apply Kd.R_drew)); exact HO255.out) (Kd.R_base ho0) hb); have n9_ := zA (Kd.R_lower (Kd.R_new' (Kd.R_new' (Kd.R_new' (Kd.R_new' (Kd.R_new' (Kd.R_new' (Kd.R_new' (Kd.R_new' ho0 (Kd.R_lt (by (with_reducible repeat (first | apply Kd.R_alloc | apply Kd.R_drewN | apply Kd.R_drew)); exact HO227.out))) (Kd.R_lt (by (with_reducible repeat (first | apply Kd.R_alloc | apply Kd.R_drewN | apply Kd.R_drew)); exact HO234.out))) (Kd.R_lt (by (with_reducible repeat (first | apply Kd.R_alloc | apply Kd.R_drewN | apply Kd.R_drew)); exact HO238.out))) (Kd.R_lt (by (with_reducible repeat (first | apply Kd.R_alloc | apply Kd.R_drewN | apply Kd.R_drew)); exact HO241.out))) (Kd.R_lt (by (with_reducible repeat (first | apply Kd.R_alloc | apply Kd.R_drewN | apply Kd.R_drew)); exact HO245.out))) (Kd.R_lt (by (with_reducible repeat (first | apply Kd.R_alloc | apply Kd.R_drewN | apply Kd.R_drew)); exact HO248.out))) (Kd.R_lt (by (with_reducible repeat (first | apply Kd.R_alloc | apply Kd.R_drewN | apply Kd.R_drew)); exact HO252.out))) (Kd.R_lt (by (with_reducible repeat (first | apply Kd.R_alloc | apply Kd.R_drewN | apply Kd.R_drew)); exact HO255.out))) (below_size (by repeat (first | (with_reducible first | exact HB.out | apply zL | apply zN | apply zD) | exact HB.out)))); have n10_ := zA (below_step (by repeat (first | (with_reducible first | exact HB.out | apply zL | apply zN | apply zD) | exact HB.out)) hb); clear HO224; clear HO227; clear HO234; clear HO238; clear HO241; clear HO245; clear HO248; clear HO252; clear HO255; clear HB; have HO224 := n0_; have HO227 := n1_; have HO234 := n2_; have HO238 := n3_; have HO241 := n4_; have HO245 := n5_; have HO248 := n6_; have HO252 := n7_; have HO255 := n8_; have HO259 := n9_; have HB := n10_; clear n0_ n1_ n2_ n3_ n4_ n5_ n6_ n7_ n8_ n9_ n10_; (try clear hb); (try clear hb2); (try clear hk); (try clear hi); (try clear ho0)) | ((with_reducible refine gate_dst (N := 81) rfl ?_); (try (refine gate_guard (by rfl) ?_; dsimp only)); refine Kd.R_lit Kd.string _ 9 ?hg (N := 81) ?hd (xs := ([(⟨#[97]⟩ : ByteArray), (⟨#[98]⟩ : ByteArray)] : List ByteArray)) (inner := [.string (⟨#[97]⟩ : ByteArray), .string (⟨#[98]⟩ : ByteArray)]) (ok := fun _ => True) (okp := fun _ => True) ?hr ?hp (fun _ hk => hk) trivial (Below.refl _ _) (Nat.le_refl _) (by simp) ?_; (case hd => rfl); (case hg => rfl); (case hr => first | (go_simp; done) | (go_simp; rfl)); (case hp => exact (Reps.one (show Kd.M Kd.string _ _ _ (⟨#[97]⟩ : ByteArray) [.string (⟨#[97]⟩ : ByteArray)] from rfl) (Reps.one (show Kd.M Kd.string _ _ _ (⟨#[98]⟩ : ByteArray) [.string (⟨#[98]⟩ : ByteArray)] from rfl) (Reps.none _ _)))); intro v261 w44 ho45 hb hg_ hnew_; clear hg_ hnew_; (first | rw [← Ny260.out] at ho45 | (simp only [Int.reduceToNat] at ho45; rw [← Ny260.out] at ho45)); have n0_ := zA (Kd.R_below (by (with_reducible repeat (first | apply Kd.R_alloc | apply Kd.R_drewN | apply Kd.R_drew)); exact HO224.out) hb); have n1_ := zA (Kd.R_elder' (by (with_reducible repeat (first | apply Kd.R_alloc | apply Kd.R_drewN | apply Kd.R_drew)); exact HO227.out) (Kd.R_base ho45) hb); have n2_ := zA (Kd.R_elder' (by (with_reducible repeat (first | apply Kd.R_alloc | apply Kd.R_drewN | apply Kd.R_drew)); exact HO234.out) (Kd.R_base ho45) hb); have n3_ := zA (Kd.R_elder' (by (with_reducible repeat (first | apply Kd.R_alloc | apply Kd.R_drewN | apply Kd.R_drew)); exact HO238.out) (Kd.R_base ho45) hb); have n4_ := zA (Kd.R_elder' (by (with_reducible repeat (first | apply Kd.R_alloc | apply Kd.R_drewN | apply Kd.R_drew)); exact HO241.out) (Kd.R_base ho45) hb); have n5_ := zA (Kd.R_elder' (by (with_reducible repeat (first | apply Kd.R_alloc | apply Kd.R_drewN | apply Kd.R_drew)); exact HO245.out) (Kd.R_base ho45) hb); have n6_ := zA (Kd.R_elder' (by (with_reducible repeat (first | apply Kd.R_alloc | apply Kd.R_drewN | apply Kd.R_drew)); exact HO248.out) (Kd.R_base ho45) hb); have n7_ := zA (Kd.R_elder' (by (with_reducible repeat (first | apply Kd.R_alloc | apply Kd.R_drewN | apply Kd.R_drew)); exact HO252.out) (Kd.R_base ho45) hb); have n8_ := zA (Kd.R_elder' (by (with_reducible repeat (first | apply Kd.R_alloc | apply Kd.R_drewN | apply Kd.R_drew)); exact HO255.out) (Kd.R_base ho45) hb); have n9_ := zA (Kd.R_elder' (by (with_reducible repeat (first | apply Kd.R_alloc | apply Kd.R_drewN | apply Kd.R_drew)); exact HO259.out) (Kd.R_base ho45) hb); have n10_ := zA (Kd.R_lower (Kd.R_new' (Kd.R_new' (Kd.R_new' (Kd.R_new' (Kd.R_new' (Kd.R_new' (Kd.R_new' (Kd.R_new' (Kd.R_new' ho45 (Kd.R_lt (by (with_reducible repeat (first | apply Kd.R_alloc | apply Kd.R_drewN | apply Kd.R_drew)); exact HO227.out))) (Kd.R_lt (by (with_reducible repeat (first | apply Kd.R_alloc | apply Kd.R_drewN | apply Kd.R_drew)); exact HO234.out))) (Kd.R_lt (by (with_reducible repeat (first | apply Kd.R_alloc | apply Kd.R_drewN | apply Kd.R_drew)); exact HO238.out))) (Kd.R_lt (by (with_reducible repeat (first | apply Kd.R_alloc | apply Kd.R_drewN | apply Kd.R_drew)); exact HO241.out))) (Kd.R_lt (by (with_reducible repeat (first | apply Kd.R_alloc | apply Kd.R_drewN | apply Kd.R_drew)); exact HO245.out))) (Kd.R_lt (by (with_reducible repeat (first | apply Kd.R_alloc | apply Kd.R_drewN | apply Kd.R_drew)); exact HO248.out))) (Kd.R_lt (by (with_reducible repeat (first | apply Kd.R_alloc | apply Kd.R_drewN | apply Kd.R_drew)); exact HO252.out))) (Kd.R_lt (by (with_reducible repeat (first | apply Kd.R_alloc | apply Kd.R_drewN | apply Kd.R_drew)); exact HO255.out))) (Kd.R_lt (by (with_reducible repeat (first | apply Kd.R_alloc | apply Kd.R_drewN | apply Kd.R_drew)); exact HO259.out))) (below_size (by repeat (first | (with_reducible first | exact HB.out | apply zL | apply zN | apply zD) | exact HB.out)))); have n11_ := zA (below_step (by repeat (first | (with_reducible first | exact HB.out | apply zL | apply zN | apply zD) | exact HB.out)) hb); clear HO224; clear HO227; clear HO234; clear HO238; clear HO241; clear HO245; clear HO248; clear HO252; clear HO255; clear HO259; clear HB; have HO224 := n0_; have HO227 := n1_; have HO234 := n2_; have HO238 := n3_; have HO241 := n4_; have HO245 := n5_; have HO248 := n6_; have HO252 := n7_; have HO255 := n8_; have HO259 := n9_; have HO262 := n10_; have HB := n11_; clear n0_ n1_ n2_ n3_ n4_ n5_ n6_ n7_ n8_ n9_ n10_ n11_; clear hb ho45; obtain ⟨Ao46, co46, eo46⟩ := Kd.R_slice HO238.out; subst eo46; obtain ⟨Ao47, co47, eo47⟩ := Kd.R_slice HO262.out; subst eo47) | (go_at_call 12; (with_reducible refine (copselaw16_same.calls k _ _ t235 _ _ y260 true _ ?side1 ?side2 ?side3 ?side4 A16.out).mono ?_); (case side1 => repeat (first | exact (Kd.R_reads' HO238.out).2.2 | (with_reducible refine Kd.C_alloc ?_ _) | (with_reducible refine Kd.C_drewN ?_ _) | (with_reducible refine Kd.C_drew ?_))); (case side2 => exact (Kd.R_reads' HO238.out).2.1); (case side3 => repeat (first | exact (Kd.R_reads' HO262.out).2.2 | (with_reducible refine Kd.C_alloc ?_ _) | (with_reducible refine Kd.C_drewN ?_ _) | (with_reducible refine Kd.C_drew ?_))); (case side4 => exact (Kd.R_reads' HO262.out).2.1); rintro e w' ⟨rfl, ⟨nd, rfl⟩⟩) | ((with_reducible refine gate_dst (N := 86) rfl ?_); (try (refine gate_guard (by rfl) ?_; dsimp only)); refine Kd.R_lit Kd.string _ 9 ?hg (N := 86) ?hd (xs := ([(⟨#[]⟩ : ByteArray)] : List ByteArray)) (inner := [.string (⟨#[]⟩ : ByteArray)]) (ok := fun _ => True) (okp := fun _ => True) ?hr ?hp (fun _ hk => hk) trivial (Below.refl _ _) (Nat.le_refl _) (by simp) ?_; (case hd => rfl); (case hg => rfl); (case hr => first | (go_simp; done) | (go_simp; rfl)); (case hp => exact (Reps.one (show Kd.M Kd.string _ _ _ (⟨#[]⟩ : ByteArray) [.string (⟨#[]⟩ : ByteArray)] from rfl) (Reps.none _ _))); intro v265 w48 ho49 hb hg_ hnew_; clear hg_ hnew_; (first | rw [← Ny264.out] at ho49 | (simp only [Int.reduceToNat] at ho49; rw [← Ny264.out] at ho49)); have n0_ := zA (Kd.R_below (by (with_reducible repeat (first | apply Kd.R_alloc | apply Kd.R_drewN | apply Kd.R_drew)); exact HO224.out) hb); have n1_ := zA (Kd.R_elder' (by (with_reducible repeat (first | apply Kd.R_alloc | apply Kd.R_drewN | apply Kd.R_drew)); exact HO227.out) (Kd.R_base ho49) hb); have n2_ := zA (Kd.R_elder' (by (with_reducible repeat (first | apply Kd.R_alloc | apply Kd.R_drewN | apply Kd.R_drew)); exact HO234.out) (Kd.R_base ho49) hb); have n3_ := zA (Kd.R_elder' (by (with_reducible repeat (first | apply Kd.R_alloc | apply Kd.R_drewN | apply Kd.R_drew)); exact HO238.out) (Kd.R_base ho49) hb); have n4_ := zA (Kd.R_elder' (by (with_reducible repeat (first | apply Kd.R_alloc | apply Kd.R_drewN | apply Kd.R_drew)); exact HO241.out) (Kd.R_base ho49) hb); have n5_ := zA (Kd.R_elder' (by (with_reducible repeat (first | apply Kd.R_alloc | apply Kd.R_drewN | apply Kd.R_drew)); exact HO245.out) (Kd.R_base ho49) hb); have n6_ := zA (Kd.R_elder' (by (with_reducible repeat (first | apply Kd.R_alloc | apply Kd.R_drewN | apply Kd.R_drew)); exact HO248.out) (Kd.R_base ho49) hb); have n7_ := zA (Kd.R_elder' (by (with_reducible repeat (first | apply Kd.R_alloc | apply Kd.R_drewN | apply Kd.R_drew)); exact HO252.out) (Kd.R_base ho49) hb); have n8_ := zA (Kd.R_elder' (by (with_reducible repeat (first | apply Kd.R_alloc | apply Kd.R_drewN | apply Kd.R_drew)); exact HO255.out) (Kd.R_base ho49) hb); have n9_ := zA (Kd.R_elder' (by (with_reducible repeat (first | apply Kd.R_alloc | apply Kd.R_drewN | apply Kd.R_drew)); exact HO259.out) (Kd.R_base ho49) hb); have n10_ := zA (Kd.R_elder' (by (with_reducible repeat (first | apply Kd.R_alloc | apply Kd.R_drewN | apply Kd.R_drew)); exact HO262.out) (Kd.R_base ho49) hb); have n11_ := zA (Kd.R_lower (Kd.R_new' (Kd.R_new' (Kd.R_new' (Kd.R_new' (Kd.R_new' (Kd.R_new' (Kd.R_new' (Kd.R_new' (Kd.R_new' (Kd.R_new' ho49 (Kd.R_lt (by (with_reducible repeat (first | apply Kd.R_alloc | apply Kd.R_drewN | apply Kd.R_drew)); exact HO227.out))) (Kd.R_lt (by (with_reducible repeat (first | apply Kd.R_alloc | apply Kd.R_drewN | apply Kd.R_drew)); exact HO234.out))) (Kd.R_lt (by (with_reducible repeat (first | apply Kd.R_alloc | apply Kd.R_drewN | apply Kd.R_drew)); exact HO238.out))) (Kd.R_lt (by (with_reducible repeat (first | apply Kd.R_alloc | apply Kd.R_drewN | apply Kd.R_drew)); exact HO241.out))) (Kd.R_lt (by (with_reducible repeat (first | apply Kd.R_alloc | apply Kd.R_drewN | apply Kd.R_drew)); exact HO245.out))) (Kd.R_lt (by (with_reducible repeat (first | apply Kd.R_alloc | apply Kd.R_drewN | apply Kd.R_drew)); exact HO248.out))) (Kd.R_lt (by (with_reducible repeat (first | apply Kd.R_alloc | apply Kd.R_drewN | apply Kd.R_drew)); exact HO252.out))) (Kd.R_lt (by (with_reducible repeat (first | apply Kd.R_alloc | apply Kd.R_drewN | apply Kd.R_drew)); exact HO255.out))) (Kd.R_lt (by (with_reducible repeat (first | apply Kd.R_alloc | apply Kd.R_drewN | apply Kd.R_drew)); exact HO259.out))) (Kd.R_lt (by (with_reducible repeat (first | apply Kd.R_alloc | apply Kd.R_drewN | apply Kd.R_drew)); exact HO262.out))) (below_size (by repeat (first | (with_reducible first | exact HB.out | apply zL | apply zN | apply zD) | exact HB.out)))); have n12_ := zA (below_step (by repeat (first | (with_reducible first | exact HB.out | apply zL | apply zN | apply zD) | exact HB.out)) hb); clear HO224; clear HO227; clear HO234; clear HO238; clear HO241; clear HO245; clear HO248; clear HO252; clear HO255; clear HO259; clear HO262; clear HB; have HO224 := n0_; have HO227 := n1_; have HO234 := n2_; have HO238 := n3_; have HO241 := n4_; have HO245 := n5_; have HO248 := n6_; have HO252 := n7_; have HO255 := n8_; have HO259 := n9_; have HO262 := n10_; have HO266 := n11_; have HB := n12_; clear n0_ n1_ n2_ n3_ n4_ n5_ n6_ n7_ n8_ n9_ n10_ n11_ n12_; clear hb ho49; obtain ⟨Ao50, co50, eo50⟩ := Kd.R_slice HO245.out; subst eo50; obtain ⟨Ao51, co51, eo51⟩ := Kd.R_slice HO266.out; subst eo51) | (go_at_call 12; (with_reducible refine (copselaw16_same.calls k _ _ t242 _ _ y264 true _ ?side1 ?side2 ?side3 ?side4 A18.out).mono ?_); (case side1 => repeat (first | exact (Kd.R_reads' HO245.out).2.2 | (with_reducible refine Kd.C_alloc ?_ _) | (with_reducible refine Kd.C_drewN ?_ _) | (with_reducible refine Kd.C_drew ?_))); (case side2 => exact (Kd.R_reads' HO245.out).2.1); (case side3 => repeat (first | exact (Kd.R_reads' HO266.out).2.2 | (with_reducible refine Kd.C_alloc ?_ _) | (with_reducible refine Kd.C_drewN ?_ _) | (with_reducible refine Kd.C_drew ?_))); (case side4 => exact (Kd.R_reads' HO266.out).2.1); rintro e w' ⟨rfl, ⟨nd, rfl⟩⟩) | ((with_reducible refine gate_dst (N := 91) rfl ?_); (try (refine gate_guard (by rfl) ?_; dsimp only)); refine Kd.R_lit Kd.string _ 9 ?hg (N := 91) ?hd (xs := ([(⟨#[97]⟩ : ByteArray), (⟨#[98]⟩ : ByteArray)] : List ByteArray)) (inner := [.string (⟨#[97]⟩ : ByteArray), .string (⟨#[98]⟩ : ByteArray)]) (ok := fun _ => True) (okp := fun _ => True) ?hr ?hp (fun _ hk => hk) trivial (Below.refl _ _) (Nat.le_refl _) (by simp) ?_; (case hd => rfl); (case hg => rfl); (case hr => first | (go_simp; done) | (go_simp; rfl)); (case hp => exact (Reps.one (show Kd.M Kd.string _ _ _ (⟨#[97]⟩ : ByteArray) [.string (⟨#[97]⟩ : ByteArray)] from rfl) (Reps.one (show Kd.M Kd.string _ _ _ (⟨#[98]⟩ : ByteArray) [.string (⟨#[98]⟩ : ByteArray)] from rfl) (Reps.none _ _)))); intro v269 w52 ho53 hb hg_ hnew_; clear hg_ hnew_; (first | rw [← Ny268.out] at ho53 | (simp only [Int.reduceToNat] at ho53; rw [← Ny268.out] at ho53)); have n0_ := zA (Kd.R_below (by (with_reducible repeat (first | apply Kd.R_alloc | apply Kd.R_drewN | apply Kd.R_drew)); exact HO224.out) hb); have n1_ := zA (Kd.R_elder' (by (with_reducible repeat (first | apply Kd.R_alloc | apply Kd.R_drewN | apply Kd.R_drew)); exact HO227.out) (Kd.R_base ho53) hb); have n2_ := zA (Kd.R_elder' (by (with_reducible repeat (first | apply Kd.R_alloc | apply Kd.R_drewN | apply Kd.R_drew)); exact HO234.out) (Kd.R_base ho53) hb); have n3_ := zA (Kd.R_elder' (by (with_reducible repeat (first | apply Kd.R_alloc | apply Kd.R_drewN | apply Kd.R_drew)); exact HO238.out) (Kd.R_base ho53) hb); have n4_ := zA (Kd.R_elder' (by (with_reducible repeat (first | apply Kd.R_alloc | apply Kd.R_drewN | apply Kd.R_drew)); exact HO241.out) (Kd.R_base ho53) hb); have n5_ := zA (Kd.R_elder' (by (with_reducible repeat (first | apply Kd.R_alloc | apply Kd.R_drewN | apply Kd.R_drew)); exact HO245.out) (Kd.R_base ho53) hb); have n6_ := zA (Kd.R_elder' (by (with_reducible repeat (first | apply Kd.R_alloc | apply Kd.R_drewN | apply Kd.R_drew)); exact HO248.out) (Kd.R_base ho53) hb); have n7_ := zA (Kd.R_elder' (by (with_reducible repeat (first | apply Kd.R_alloc | apply Kd.R_drewN | apply Kd.R_drew)); exact HO252.out) (Kd.R_base ho53) hb); have n8_ := zA (Kd.R_elder' (by (with_reducible repeat (first | apply Kd.R_alloc | apply Kd.R_drewN | apply Kd.R_drew)); exact HO255.out) (Kd.R_base ho53) hb); have n9_ := zA (Kd.R_elder' (by (with_reducible repeat (first | apply Kd.R_alloc | apply Kd.R_drewN | apply Kd.R_drew)); exact HO259.out) (Kd.R_base ho53) hb); have n10_ := zA (Kd.R_elder' (by (with_reducible repeat (first | apply Kd.R_alloc | apply Kd.R_drewN | apply Kd.R_drew)); exact HO262.out) (Kd.R_base ho53) hb); have n11_ := zA (Kd.R_elder' (by (with_reducible repeat (first | apply Kd.R_alloc | apply Kd.R_drewN | apply Kd.R_drew)); exact HO266.out) (Kd.R_base ho53) hb); have n12_ := zA (Kd.R_lower (Kd.R_new' (Kd.R_new' (Kd.R_new' (Kd.R_new' (Kd.R_new' (Kd.R_new' (Kd.R_new' (Kd.R_new' (Kd.R_new' (Kd.R_new' (Kd.R_new' ho53 (Kd.R_lt (by (with_reducible repeat (first | apply Kd.R_alloc | apply Kd.R_drewN | apply Kd.R_drew)); exact HO227.out))) (Kd.R_lt (by (with_reducible repeat (first | apply Kd.R_alloc | apply Kd.R_drewN | apply Kd.R_drew)); exact HO234.out))) (Kd.R_lt (by (with_reducible repeat (first | apply Kd.R_alloc | apply Kd.R_drewN | apply Kd.R_drew)); exact HO238.out))) (Kd.R_lt (by (with_reducible repeat (first | apply Kd.R_alloc | apply Kd.R_drewN | apply Kd.R_drew)); exact HO241.out))) (Kd.R_lt (by (with_reducible repeat (first | apply Kd.R_alloc | apply Kd.R_drewN | apply Kd.R_drew)); exact HO245.out))) (Kd.R_lt (by (with_reducible repeat (first | apply Kd.R_alloc | apply Kd.R_drewN | apply Kd.R_drew)); exact HO248.out))) (Kd.R_lt (by (with_reducible repeat (first | apply Kd.R_alloc | apply Kd.R_drewN | apply Kd.R_drew)); exact HO252.out))) (Kd.R_lt (by (with_reducible repeat (first | apply Kd.R_alloc | apply Kd.R_drewN | apply Kd.R_drew)); exact HO255.out))) (Kd.R_lt (by (with_reducible repeat (first | apply Kd.R_alloc | apply Kd.R_drewN | apply Kd.R_drew)); exact HO259.out))) (Kd.R_lt (by (with_reducible repeat (first | apply Kd.R_alloc | apply Kd.R_drewN | apply Kd.R_drew)); exact HO262.out))) (Kd.R_lt (by (with_reducible repeat (first | apply Kd.R_alloc | apply Kd.R_drewN | apply Kd.R_drew)); exact HO266.out))) (below_size (by repeat (first | (with_reducible first | exact HB.out | apply zL | apply zN | apply zD) | exact HB.out)))); have n13_ := zA (below_step (by repeat (first | (with_reducible first | exact HB.out | apply zL | apply zN | apply zD) | exact HB.out)) hb); clear HO224; clear HO227; clear HO234; clear HO238; clear HO241; clear HO245; clear HO248; clear HO252; clear HO255; clear HO259; clear HO262; clear HO266; clear HB; have HO224 := n0_; have HO227 := n1_; have HO234 := n2_; have HO238 := n3_; have HO241 := n4_; have HO245 := n5_; have HO248 := n6_; have HO252 := n7_; have HO255 := n8_; have HO259 := n9_; have HO262 := n10_; have HO266 := n11_; have HO270 := n12_; have HB := n13_; clear n0_ n1_ n2_ n3_ n4_ n5_ n6_ n7_ n8_ n9_ n10_ n11_ n12_ n13_; clear hb ho53; obtain ⟨Ao54, co54, eo54⟩ := Kd.R_slice HO252.out; subst eo54; obtain ⟨Ao55, co55, eo55⟩ := Kd.R_slice HO270.out; subst eo55) | (go_at_call 12; (with_reducible refine (copselaw16_same.calls k _ _ t249 _ _ y268 true _ ?side1 ?side2 ?side3 ?side4 A20.out).mono ?_); (case side1 => repeat (first | exact (Kd.R_reads' HO252.out).2.2 | (with_reducible refine Kd.C_alloc ?_ _) | (with_reducible refine Kd.C_drewN ?_ _) | (with_reducible refine Kd.C_drew ?_))); (case side2 => exact (Kd.R_reads' HO252.out).2.1); (case side3 => repeat (first | exact (Kd.R_reads' HO270.out).2.2 | (with_reducible refine Kd.C_alloc ?_ _) | (with_reducible refine Kd.C_drewN ?_ _) | (with_reducible refine Kd.C_drew ?_))); (case side4 => exact (Kd.R_reads' HO270.out).2.1); rintro e w' ⟨rfl, ⟨nd, rfl⟩⟩))
                      go_ret
                      exact ⟨by first | rfl | (simp [errW_none, errW_some] <;> rfl) | (simp [*, errW_none, errW_some] <;> rfl), by repeat (first | (with_reducible first | exact HB.out | apply zL | apply zN | apply zD) | exact HB.out)⟩
                    · replace c19 := Bool.eq_false_iff.mpr c19
                      subst c19
                      have H1 : (some false) = some true := by rw [if_neg (show ¬ (false = true) by decide)] at H; exact H
                      cases H1
                  · replace c17 := Bool.eq_false_iff.mpr c17
                    subst c17
                    have H1 : (some false) = some true := by rw [if_neg (show ¬ (false = true) by decide)] at H; exact H
                    cases H1
                · rw [if_neg c15] at H; cases H
              · rw [if_neg c14] at H; cases H
            · rw [if_neg c13] at H; cases H
          · rw [if_neg c12] at H; cases H
        · rw [if_neg c11] at H; cases H
      · rw [if_neg c10] at H; cases H
    · rw [if_neg c9] at H; cases H
  · rw [if_neg c8] at H; cases H
end Go.Proofs.YtnfolcefjkannaaDoor.G
namespace Go.Proofs.YtnfolcefjkannaaDoor.G
open Go Go.RowKit Go.Proofs.YtnfolcefjkannaaDoorW.PrintWords Go.Proofs.YtnfolcefjkannaaDoorW.PrintLast Go.Proofs.YtnfolcefjkannaaDoorW.PrintMore Go.Proofs.YtnfolcefjkannaaDoor.Base
def exF : List File := [(⟨(⟨#[97, 47, 120, 47, 49]⟩ : ByteArray), (⟨#[]⟩ : ByteArray), 0, 5⟩ : File), (⟨(⟨#[97, 47, 121, 47, 50]⟩ : ByteArray), (⟨#[]⟩ : ByteArray), 0, 7⟩ : File), (⟨(⟨#[97, 47, 122, 47, 51]⟩ : ByteArray), (⟨#[]⟩ : ByteArray), 0, 100⟩ : File), (⟨(⟨#[98, 47, 52]⟩ : ByteArray), (⟨#[]⟩ : ByteArray), 0, 1⟩ : File), (⟨(⟨#[114]⟩ : ByteArray), (⟨#[]⟩ : ByteArray), 0, 3⟩ : File)]
abbrev bA : ByteArray := ⟨#[97]⟩
abbrev bB : ByteArray := ⟨#[98]⟩
abbrev bAX : ByteArray := ⟨#[97, 47, 120]⟩
abbrev bAY : ByteArray := ⟨#[97, 47, 121]⟩
theorem ex1 : CostP exF [bAX] = (8, 0) := by kernel_rfl
theorem ex2 : CostP exF [] = (3, 0) := by kernel_rfl
theorem ex3 : StepP exF [bAX, bAY, bB] = ([bA, bB], 0) := by kernel_rfl
theorem ex4 : DownP exF [bAX, bAY, bB] 1 = ([⟨#[]⟩], 0) := by kernel_rfl
theorem ex5 : AtP [bAX, bAY, bB] bA = ([bA, bB], 0) := by kernel_rfl
theorem ex6 : (DownP exF [bB, bA] 0).2 = 13 := by kernel_rfl
theorem short_lit {p : ByteArray} (h : decide (p.size ≤ 2147483648) = true) : Short p := by unfold Short; exact of_decide_eq_true h
theorem exF_short : ShortF exF := by
  intro f hf
  unfold exF at hf
  simp only [List.mem_cons, List.not_mem_nil, or_false] at hf
  rcases hf with rfl | rfl | rfl | rfl | rfl <;> exact ⟨short_lit (by kernel_rfl), short_lit (by kernel_rfl)⟩
theorem ex_cones {c : ByteArray} (h : c = bAX ∨ c = bAY ∨ c = bB ∨ c = bA) : Short c := by
  rcases h with rfl | rfl | rfl | rfl <;> exact short_lit (by kernel_rfl)
theorem head_pure : ∃ k, copselaw16_head.f k = some true := by
  have hs := exF_short
  have hl : exF.length ≤ 2147483649 := by unfold exF; simp
  have c1 : ∀ c ∈ [bAX], Short c := fun c hc => ex_cones (.inl (List.mem_singleton.1 hc))
  have c2 : ∀ c ∈ ([] : List ByteArray), Short c := by simp
  have c3 : ∀ c ∈ [bAX, bAY, bB], Short c := by
    intro c hc
    simp only [List.mem_cons, List.not_mem_nil, or_false] at hc
    exact ex_cones (by rcases hc with h | h | h <;> simp [h])
  have c4 : ∀ c ∈ [bB, bA], Short c := by
    intro c hc
    simp only [List.mem_cons, List.not_mem_nil, or_false] at hc
    exact ex_cones (by rcases hc with h | h <;> simp [h])
  have E : Ev (fun k => copselaw16_head.f k) true := by
    refine Ev.bind (a := exF) (Ev.of rfl) ?_
    refine Ev.bind (merge_Cost_sp exF hs hl [bAX] c1 (by simp)) ?_
    refine Ev.bind (merge_Cost_sp exF hs hl [] c2 (by simp)) ?_
    refine Ev.bind (merge_Step_sp exF hs hl [bAX, bAY, bB] c3 (by simp)) ?_
    refine Ev.bind (merge_Down_sp exF hs hl [bAX, bAY, bB] c3 (by simp) 1) ?_
    refine Ev.bind (merge_At_sp bA (short_lit (by kernel_rfl)) [bAX, bAY, bB] c3 (by simp)) ?_
    refine Ev.bind (merge_Down_sp exF hs hl [bB, bA] c4 (by simp) 0) ?_
    rw [ex1, ex2, ex3, ex4, ex5, ex6]
    have s1 := same_sp [bA, bB] (by simp)
    have s2 := same_sp [(⟨#[]⟩ : ByteArray)] (by simp)
    simp only [if_true]
    refine Ev.bind s1 ?_
    simp only [if_true]
    refine Ev.bind s2 ?_
    simp only [if_true]
    exact Ev.bind (F := fun _ t => some t) s1 (Ev.of rfl)
  obtain ⟨K, h⟩ := E
  exact ⟨K, h K (Nat.le_refl _)⟩
end Go.Proofs.YtnfolcefjkannaaDoor.G
namespace Go.Proofs.YtnfolcefjkannaaDoor.G
open Go.RowKit Go.Proofs.YtnfolcefjkannaaDoorW.PrintWords Go.Proofs.YtnfolcefjkannaaDoorW.PrintLast Go.Proofs.YtnfolcefjkannaaDoorW.PrintMore
attribute [local go_sem] max2_int min2_int max_two min_two max_three min_three max_four min_four
set_option linter.unusedVariables false
set_option linter.unusedSimpArgs false
open Go.Proofs.YtnfolcefjkannaaDoor.TrieM Go.Proofs.YtnfolcefjkannaaDoor.Wl Go.Proofs.YtnfolcefjkannaaDoor.MapLaws
def small.T1 : Bool × List (List Nat × List Nat) := (true, [([], []), ([], []), ([1], [1]), ([2], [2]), ([0, 3], [0, 3]), ([], []), ([], []), ([6], [6]), ([7], [7]), ([5, 8], [5, 8]), ([4, 0, 1, 2, 3, 4], [4]), ([9, 10, 0, 1, 2, 3, 4, 5, 6, 7, 8, 9, 10], [9])])
def small.B1 : List Nat := [0, 0, 2, 6, 15, 0, 0, 64, 192, 480, 31, 2047]
theorem small.tab1 : rtab .any (opsOf Tryd.f7 1) = small.T1 := by kernel_rfl
theorem small.bits1 : waitsOk small.T1.2 small.B1 = true := by kernel_rfl
theorem small_calls (A0 : Option Addr) (n0 c0 : Nat) (A1 : Option Addr) (n1 c1 : Nat) (w : World) (h0 : n0 ≤ c0) (h1 : n1 ≤ c1) :
    Calls Tryd.prog 7 #[.slice A0 n0 c0, .slice A1 n1 c1] w fun e w' => e = .returned (.tuple #[.slice A0 (min 120 n0) c0, .slice A1 (min 16 n1) c1]) ∧ w' = w.drew := by
  go_enter Tryd.func7, Tryd.ntmps7
  have hA : (0 ≤ if (120 : Int) < (n0 : Int) then (120 : Int) else (n0 : Int)) ∧ (if (120 : Int) < (n0 : Int) then (120 : Int) else (n0 : Int)) ≤ (c0 : Int) := by split <;> omega
  have hB : (0 ≤ if (16 : Int) < (n1 : Int) then (16 : Int) else (n1 : Int)) ∧ (if (16 : Int) < (n1 : Int) then (16 : Int) else (n1 : Int)) ≤ (c1 : Int) := by split <;> omega
  have eA : (if (120 : Int) < (n0 : Int) then (120 : Int) else (n0 : Int)).toNat = min 120 n0 := by split <;> omega
  have eB : (if (16 : Int) < (n1 : Int) then (16 : Int) else (n1 : Int)).toNat = min 16 n1 := by split <;> omega
  go_wp2
  refine start_ (n := 12) (S := fun _ => True) (ds := []) #[F, F, F, F, F, F, F, F, F, F, F, F] (by kernel_rfl) rfl rfl trivial (fun hHeld => ?_)
  refine with_tabW small.tab1 small.bits1 (fun HT_ HW_ => ?_)
  refine pure_ (i := 0) (N := some 6) (v := ?_) (a' := ?_) #[T, F, F, F, F, F, F, F, F, F, F, F] rfl rfl (any_of HT_.out (by kernel_rfl)) (fun _ _ _ h => h) (Or.inl ⟨by rfl, ?_⟩) ?_ ?_
  rotate_left
  · intro w'
    go_simp
    with_reducible rfl
  rotate_left
  · simp only [Act.put, zS, zZ, zC, i64_w, i32_w]
    rfl
  refine pure_ (i := 1) (N := some 7) (v := ?_) (a' := ?_) #[T, T, F, F, F, F, F, F, F, F, F, F] rfl rfl (any_of HT_.out (by kernel_rfl)) (fun _ _ _ h => h) (Or.inl ⟨by rfl, ?_⟩) ?_ ?_
  rotate_left
  · intro w'
    go_simp
    with_reducible rfl
  rotate_left
  · simp only [Act.put, zS, zZ, zC, i64_w, i32_w]
    rfl
  refine pure_ (i := 2) (N := some 8) (v := ?_) (a' := ?_) #[T, T, T, F, F, F, F, F, F, F, F, F] rfl rfl (any_of HT_.out (by kernel_rfl)) (fun _ _ _ h => h) (Or.inl ⟨by rfl, ?_⟩) ?_ ?_
  rotate_left
  · intro w'
    go_simp
    with_reducible rfl
  rotate_left
  · simp only [Act.put, zS, zZ, zC, i64_w, i32_w]
    rfl
  refine pure_ (i := 3) (N := some 9) (v := ?_) (a' := ?_) #[T, T, T, T, F, F, F, F, F, F, F, F] rfl rfl (any_of HT_.out (by kernel_rfl)) (fun _ _ _ h => h) (Or.inl ⟨by rfl, ?_⟩) ?_ ?_
  rotate_left
  · intro w'
    go_simp
    with_reducible rfl
  rotate_left
  · simp only [Act.put, zS, zZ, zC, i64_w, i32_w]
    rfl
  refine pure_ (i := 5) (N := some 11) (v := ?_) (a' := ?_) #[T, T, T, T, F, T, F, F, F, F, F, F] rfl rfl (any_of HT_.out (by kernel_rfl)) (fun _ _ _ h => h) (Or.inl ⟨by rfl, ?_⟩) ?_ ?_
  rotate_left
  · intro w'
    go_simp
    with_reducible rfl
  rotate_left
  · simp only [Act.put, zS, zZ, zC, i64_w, i32_w]
    rfl
  refine pure_ (i := 6) (N := some 12) (v := ?_) (a' := ?_) #[T, T, T, T, F, T, T, F, F, F, F, F] rfl rfl (any_of HT_.out (by kernel_rfl)) (fun _ _ _ h => h) (Or.inl ⟨by rfl, ?_⟩) ?_ ?_
  rotate_left
  · intro w'
    go_simp
    with_reducible rfl
  rotate_left
  · simp only [Act.put, zS, zZ, zC, i64_w, i32_w]
    rfl
  refine pure_ (i := 7) (N := some 13) (v := ?_) (a' := ?_) #[T, T, T, T, F, T, T, T, F, F, F, F] rfl rfl (any_of HT_.out (by kernel_rfl)) (fun _ _ _ h => h) (Or.inl ⟨by rfl, ?_⟩) ?_ ?_
  rotate_left
  · intro w'
    go_simp
    with_reducible rfl
  rotate_left
  · simp only [Act.put, zS, zZ, zC, i64_w, i32_w]
    rfl
  refine pure_ (i := 8) (N := some 14) (v := ?_) (a' := ?_) #[T, T, T, T, F, T, T, T, T, F, F, F] rfl rfl (any_of HT_.out (by kernel_rfl)) (fun _ _ _ h => h) (Or.inl ⟨by rfl, ?_⟩) ?_ ?_
  rotate_left
  · intro w'
    go_simp
    with_reducible rfl
  rotate_left
  · simp only [Act.put, zS, zZ, zC, i64_w, i32_w]
    rfl
  refine take_ (i := 4) (N := some 10) (v := ?_) (a' := ?_) #[T, T, T, T, T, T, T, T, T, F, F, F] rfl rfl (take_ofW HT_.out HW_.out (by kernel_rfl)) (fun _ _ _ h => h) (Or.inl ⟨by rfl, ?_⟩) hHeld ?_ ?_
  rotate_left
  · rintro w' _hs
    go_simp
    with_reducible rfl
  rotate_left
  · simp only [Act.put, zS, zZ, zC, i64_w, i32_w]
    rfl
  refine pure_ (i := 10) (N := some 4) (v := ?_) (a' := ?_) #[T, T, T, T, T, T, T, T, T, F, T, F] rfl rfl (any_of HT_.out (by kernel_rfl)) (fun _ _ _ h => h) (Or.inl ⟨by rfl, ?_⟩) ?_ ?_
  rotate_left
  · intro w'
    go_simp
    with_reducible rfl
  rotate_left
  · simp only [Act.put, zS, zZ, zC, i64_w, i32_w]
    rfl
  refine take_ (i := 9) (N := some 15) (v := ?_) (a' := ?_) #[T, T, T, T, T, T, T, T, T, T, T, F] rfl rfl (take_ofW HT_.out HW_.out (by kernel_rfl)) (fun _ _ _ h => h) (Or.inl ⟨by rfl, ?_⟩) hHeld ?_ ?_
  rotate_left
  · rintro w' _hs
    go_simp
    with_reducible rfl
  rotate_left
  · simp only [Act.put, zS, zZ, zC, i64_w, i32_w]
    rfl
  refine pure_ (i := 11) (N := some 5) (v := ?_) (a' := ?_) #[T, T, T, T, T, T, T, T, T, T, T, T] rfl rfl (any_of HT_.out (by kernel_rfl)) (fun _ _ _ h => h) (Or.inl ⟨by rfl, ?_⟩) ?_ ?_
  rotate_left
  · intro w'
    go_simp
    with_reducible rfl
  rotate_left
  · simp only [Act.put, zS, zZ, zC, i64_w, i32_w]
    rfl
  refine done_ (done_of HT_.out (by kernel_rfl)) ?_
  clear hHeld HT_ HW_ hA hB eA eB
  go_wp2
  all_goals (go_ret2; exact ⟨rfl, rfl⟩)
theorem drawn_below {w w' : World} (h : Drawn0 w w') : Below w.heap.size w w' := by
  obtain ⟨n, rfl⟩ := h
  exact zN (Below.refl _ _) n
set_option maxHeartbeats 4000000 in
set_option maxRecDepth 100000 in
theorem mergeAll_walk (k : Nat) (A0 : Option Addr) (c0 : Nat) (l0 : List S45) (A1 : Option Addr) (c1 : Nat) (l1 : List ByteArray) (p : ByteArray) (bud : Int) (w : World) (hr0 : Kd.C k45 w A0 l0.length l0) (hc0 : l0.length ≤ c0) (hr1 : Kd.C Kd.string w A1 l1.length l1) (hc1 : l1.length ≤ c1)
    (hhead : ∀ w, Calls Tryd.prog 6 #[] w fun e w' => e = .returned (.bool true) ∧ Below w.heap.size w w')
    (a e1 : Int) (h1 : merge_Cost.f k (l0.take 120) (l1.take 16) = some (a, e1)) (h2 : copseref16_Cost.f k (l0.take 120) (l1.take 16) = some (a, e1))
    (x : List ByteArray) (e2 : Int) (h3 : merge_At.f k (l1.take 16) p = some (x, e2)) (h4 : copseref16_At.f k (l1.take 16) p = some (x, e2)) (h5 : copselaw16_same.f k x x = some true)
    (y : List ByteArray) (e3 : Int) (h6 : merge_Step.f k (l0.take 120) (l1.take 16) = some (y, e3)) (h7 : copseref16_Step.f k (l0.take 120) (l1.take 16) = some (y, e3)) (h8 : copselaw16_same.f k y y = some true)
    (z : List ByteArray) (e4 : Int) (h9 : merge_Down.f k (l0.take 120) (l1.take 16) bud = some (z, e4)) (h10 : copseref16_Down.f k (l0.take 120) (l1.take 16) bud = some (z, e4)) (h11 : copselaw16_same.f k z z = some true) :
    Calls Tryd.prog 3 #[.slice A0 l0.length c0, .slice A1 l1.length c1, .agg #[.string p, .int .i64 bud]] w fun e w' => e = .returned (.bool true) ∧ Below w.heap.size w w' := by
  have t0 : (l0.take 120).length ≤ c0 := by rw [List.length_take]; omega
  have t1 : (l1.take 16).length ≤ c1 := by rw [List.length_take]; omega
  have R0 := Kd.C_take hr0 (m := min 120 l0.length) (by omega)
  have R1 := Kd.C_take hr1 (m := min 16 l1.length) (by omega)
  rw [List.take_eq_take_min.symm] at R0 R1
  have el0 : min 120 l0.length = (l0.take 120).length := by rw [List.length_take]
  have el1 : min 16 l1.length = (l1.take 16).length := by rw [List.length_take]
  generalize l0.take 120 = m0 at *
  generalize l1.take 16 = m1 at *
  have HH := zA hhead
  have HC0 := zA hc0
  have HC1 := zA hc1
  have T0 := zA t0
  have T1 := zA t1
  have R0 := zA R0
  have R1 := zA R1
  have H1 := zA h1
  have H2 := zA h2
  have H3 := zA h3
  have H4 := zA h4
  have H5 := zA h5
  have H6 := zA h6
  have H7 := zA h7
  have H8 := zA h8
  have H9 := zA h9
  have H10 := zA h10
  have H11 := zA h11
  have EL0 := zA el0
  have EL1 := zA el1
  have hO : (w.alloc (Obj.cells #[Value.string p, Value.int IntKind.i64 bud] 25)).heap[w.heap.size]? = some (Obj.cells #[Value.string p, Value.int IntKind.i64 bud] 25 (0, 0)) := heap_alloc_new w _
  have q1 := (blkCells (cs := [Value.string p, Value.int IntKind.i64 bud]) hO 0 _ rfl).1
  have q2 := (blkCells (cs := [Value.string p, Value.int IntKind.i64 bud]) hO 1 _ rfl).1
  have HB := zA (zL (Below.refl w.heap.size w) (Obj.cells #[Value.string p, Value.int IntKind.i64 bud] 25))
  clear el0 el1 hhead hc0 hc1 t0 t1 hr0 hr1 h1 h2 h3 h4 h5 h6 h7 h8 h9 h10 h11 hO
  go_enter Tryd.func3, Tryd.ntmps3
  go_wp2_with (first
    | (go_at_call 6; refine (HH.out _).mono ?_; rintro e w1 ⟨rfl, hb⟩; replace q1 := cellBelow hb q1; replace q2 := cellBelow hb q2; have n0_ := zA (below_step (by repeat (first | (with_reducible first | exact HB.out | apply zL | apply zN | apply zD) | exact HB.out)) hb); clear HB; have HB := n0_; clear n0_; clear hb)
    | (go_at_call 7; refine (small_calls _ _ _ _ _ _ _ HC0.out HC1.out).mono ?_; rintro e w2 ⟨rfl, rfl⟩; rw [EL0.out, EL1.out])
    | (go_at_call 8; refine (merge_Cost.calls k _ _ m0 _ _ m1 a e1 _ (Kd.C_below R0.out (by repeat (first | (with_reducible first | exact HB.out | apply zL | apply zN | apply zD) | exact HB.out))) T0.out (Kd.C_below R1.out (by repeat (first | (with_reducible first | exact HB.out | apply zL | apply zN | apply zD) | exact HB.out))) T1.out H1.out).mono ?_; rintro e w3 ⟨rfl, hb⟩; replace q1 := cellBelow hb q1; replace q2 := cellBelow hb q2; have n0_ := zA (below_step (by repeat (first | (with_reducible first | exact HB.out | apply zL | apply zN | apply zD) | exact HB.out)) hb); clear HB; have HB := n0_; clear n0_; clear hb)
    | (go_at_call 9; refine (copseref16_Cost.calls k _ _ m0 _ _ m1 a e1 _ (Kd.C_below R0.out (by repeat (first | (with_reducible first | exact HB.out | apply zL | apply zN | apply zD) | exact HB.out))) T0.out (Kd.C_below R1.out (by repeat (first | (with_reducible first | exact HB.out | apply zL | apply zN | apply zD) | exact HB.out))) T1.out H2.out).mono ?_; rintro e w4 ⟨rfl, hb⟩; replace q1 := cellBelow hb q1; replace q2 := cellBelow hb q2; have n0_ := zA (below_step (by repeat (first | (with_reducible first | exact HB.out | apply zL | apply zN | apply zD) | exact HB.out)) hb); clear HB; have HB := n0_; clear n0_; clear hb)
    | (go_at_call 10; refine (merge_At.calls k _ _ m1 p x e2 _ (Kd.C_below R1.out (by repeat (first | (with_reducible first | exact HB.out | apply zL | apply zN | apply zD) | exact HB.out))) T1.out H3.out).mono ?_; rintro e w5 ⟨v5, rfl, hR, hb⟩; replace q1 := cellBelow hb q1; replace q2 := cellBelow hb q2; have n0_ := zA (below_step (by repeat (first | (with_reducible first | exact HB.out | apply zL | apply zN | apply zD) | exact HB.out)) hb); clear HB; have HB := n0_; clear n0_; clear hb; obtain ⟨Ax, cx, rfl, hcx, hCx⟩ := RowC.of_R hR; have KX := zA hcx; have CX := zA hCx; clear hcx hCx hR)
    | (go_at_call 11; refine (copseref16_At.calls k _ _ m1 p x e2 _ (Kd.C_below R1.out (by repeat (first | (with_reducible first | exact HB.out | apply zL | apply zN | apply zD) | exact HB.out))) T1.out H4.out).mono ?_; rintro e w6 ⟨v6, rfl, hR, hb⟩; replace q1 := cellBelow hb q1; replace q2 := cellBelow hb q2; have n0_ := zA (below_step (by repeat (first | (with_reducible first | exact HB.out | apply zL | apply zN | apply zD) | exact HB.out)) hb); clear HB; have HB := n0_; clear n0_; have CX2 := zA (Kd.C_below CX.out hb); clear hb; obtain ⟨Ax2, cx2, rfl, hcx, hCx⟩ := RowC.of_R hR; have KXX := zA hcx; have CXX := zA hCx; clear hcx hCx hR)
    | (go_at_call 12; (with_reducible refine (copselaw16_same.calls k _ _ x _ _ x true _ CX2.out KX.out CXX.out KXX.out H5.out).mono ?_); rintro e w7 ⟨rfl, hd⟩; have hb := drawn_below hd; clear hd; replace q1 := cellBelow hb q1; replace q2 := cellBelow hb q2; have n0_ := zA (below_step (by repeat (first | (with_reducible first | exact HB.out | apply zL | apply zN | apply zD) | exact HB.out)) hb); clear HB; have HB := n0_; clear n0_; clear hb)
    | (go_at_call 13; refine (merge_Step.calls k _ _ m0 _ _ m1 y e3 _ (Kd.C_below R0.out (by repeat (first | (with_reducible first | exact HB.out | apply zL | apply zN | apply zD) | exact HB.out))) T0.out (Kd.C_below R1.out (by repeat (first | (with_reducible first | exact HB.out | apply zL | apply zN | apply zD) | exact HB.out))) T1.out H6.out).mono ?_; rintro e w8 ⟨v8, rfl, hR, hb⟩; replace q1 := cellBelow hb q1; replace q2 := cellBelow hb q2; have n0_ := zA (below_step (by repeat (first | (with_reducible first | exact HB.out | apply zL | apply zN | apply zD) | exact HB.out)) hb); clear HB; have HB := n0_; clear n0_; clear hb; obtain ⟨Ay, cy, rfl, hcx, hCx⟩ := RowC.of_R hR; have KY := zA hcx; have CY := zA hCx; clear hcx hCx hR)
    | (go_at_call 14; refine (copseref16_Step.calls k _ _ m0 _ _ m1 y e3 _ (Kd.C_below R0.out (by repeat (first | (with_reducible first | exact HB.out | apply zL | apply zN | apply zD) | exact HB.out))) T0.out (Kd.C_below R1.out (by repeat (first | (with_reducible first | exact HB.out | apply zL | apply zN | apply zD) | exact HB.out))) T1.out H7.out).mono ?_; rintro e w9 ⟨v9, rfl, hR, hb⟩; replace q1 := cellBelow hb q1; replace q2 := cellBelow hb q2; have n0_ := zA (below_step (by repeat (first | (with_reducible first | exact HB.out | apply zL | apply zN | apply zD) | exact HB.out)) hb); clear HB; have HB := n0_; clear n0_; have CY2 := zA (Kd.C_below CY.out hb); clear hb; obtain ⟨Ay2, cy2, rfl, hcx, hCx⟩ := hR; have KYY := zA hcx; have CYY := zA hCx; clear hcx hCx)
    | (go_at_call 12; (with_reducible refine (copselaw16_same.calls k _ _ y _ _ y true _ CY2.out KY.out CYY.out KYY.out H8.out).mono ?_); rintro e w10 ⟨rfl, hd⟩; have hb := drawn_below hd; clear hd; replace q1 := cellBelow hb q1; replace q2 := cellBelow hb q2; have n0_ := zA (below_step (by repeat (first | (with_reducible first | exact HB.out | apply zL | apply zN | apply zD) | exact HB.out)) hb); clear HB; have HB := n0_; clear n0_; clear hb)
    | (go_at_call 15; refine (merge_Down.calls k _ _ m0 _ _ m1 bud z e4 _ (Kd.C_below R0.out (by repeat (first | (with_reducible first | exact HB.out | apply zL | apply zN | apply zD) | exact HB.out))) T0.out (Kd.C_below R1.out (by repeat (first | (with_reducible first | exact HB.out | apply zL | apply zN | apply zD) | exact HB.out))) T1.out H9.out).mono ?_; rintro e w11 ⟨v11, rfl, hR, hb⟩; replace q1 := cellBelow hb q1; replace q2 := cellBelow hb q2; have n0_ := zA (below_step (by repeat (first | (with_reducible first | exact HB.out | apply zL | apply zN | apply zD) | exact HB.out)) hb); clear HB; have HB := n0_; clear n0_; clear hb; obtain ⟨Az, cz, rfl, hcx, hCx⟩ := RowC.of_R hR; have KZ := zA hcx; have CZ := zA hCx; clear hcx hCx hR)
    | (go_at_call 16; refine (copseref16_Down.calls k _ _ m0 _ _ m1 bud z e4 _ (Kd.C_below R0.out (by repeat (first | (with_reducible first | exact HB.out | apply zL | apply zN | apply zD) | exact HB.out))) T0.out (Kd.C_below R1.out (by repeat (first | (with_reducible first | exact HB.out | apply zL | apply zN | apply zD) | exact HB.out))) T1.out H10.out).mono ?_; rintro e w12 ⟨v12, rfl, hR, hb⟩; replace q1 := cellBelow hb q1; replace q2 := cellBelow hb q2; have n0_ := zA (below_step (by repeat (first | (with_reducible first | exact HB.out | apply zL | apply zN | apply zD) | exact HB.out)) hb); clear HB; have HB := n0_; clear n0_; have CZ2 := zA (Kd.C_below CZ.out hb); clear hb; obtain ⟨Az2, cz2, rfl, hcx, hCx⟩ := hR; have KZZ := zA hcx; have CZZ := zA hCx; clear hcx hCx)
    | (go_at_call 12; (with_reducible refine (copselaw16_same.calls k _ _ z _ _ z true _ CZ2.out KZ.out CZZ.out KZZ.out H11.out).mono ?_); rintro e w13 ⟨rfl, hd⟩; have hb := drawn_below hd; clear hd; replace q1 := cellBelow hb q1; replace q2 := cellBelow hb q2; have n0_ := zA (below_step (by repeat (first | (with_reducible first | exact HB.out | apply zL | apply zN | apply zD) | exact HB.out)) hb); clear HB; have HB := n0_; clear n0_; clear hb))
  go_ret
  exact ⟨rfl, (by repeat (first | (with_reducible first | exact HB.out | apply zL | apply zN | apply zD) | exact HB.out))⟩
end Go.Proofs.YtnfolcefjkannaaDoor.G
