/- This session's texts, joined by a program of this session's: contracts of functions, printed and typed, and plain laws; what nothing needs is left out. -/
import Derived.Test.YtnfolcefjkannaaDoorMF4
namespace Go.Proofs.YtnfolcefjkannaaDoor.G
set_option linter.unusedSectionVars false
set_option linter.unusedVariables false
set_option linter.unusedSimpArgs false
open Go Go.RowKit Go.Proofs.YtnfolcefjkannaaDoorW.PrintWords Go.Proofs.YtnfolcefjkannaaDoorW.PrintLast Go.Proofs.YtnfolcefjkannaaDoorW.PrintMore Go.Proofs.YtnfolcefjkannaaDoor.Base
theorem glue_sp (p : ByteArray) : glue 47 ((sp p).map (·.data.toList)) = p.data.toList := by
  unfold sp
  by_cases h : p.data.toList = []
  · rw [if_pos h, h]; rfl
  · rw [if_neg h]
    have e : ((pieces 47 p.data.toList).map mkB).map (·.data.toList) = pieces 47 p.data.toList := by
      rw [List.map_map]
      have : ((fun x : ByteArray => x.data.toList) ∘ mkB) = id := by funext l; exact mkB_data l
      rw [this, List.map_id]
    rw [e, glue_pieces]
theorem sp_inj {p q : ByteArray} (h : sp p = sp q) : p = q := by
  apply data_inj
  rw [← glue_sp p, ← glue_sp q, h]
theorem sp_no (p : ByteArray) : ∀ c ∈ sp p, 47 ∉ c.data.toList := by
  unfold sp
  split
  · simp
  · intro c hc
    obtain ⟨l, hl, rfl⟩ := List.mem_map.1 hc
    rw [mkB_data]
    exact pieces_no 47 _ l hl
theorem sp_empty : sp (⟨#[]⟩ : ByteArray) = [] := by unfold sp; exact if_pos rfl
theorem sp_nil {p : ByteArray} : sp p = [] ↔ p.data.toList = [] := by
  unfold sp
  by_cases h : p.data.toList = []
  · rw [if_pos h]; simp [h]
  · rw [if_neg h]
    have := pieces_ne 47 p.data.toList
    simp [h, this]
theorem glue_ne {ps : List B} (h : ∀ c ∈ ps, c ≠ []) (h0 : ps ≠ []) : glue 47 ps ≠ [] := by
  cases ps with
  | nil => exact absurd rfl h0
  | cons p r =>
    have hp := h p (by simp)
    cases r with
    | nil => exact hp
    | cons q r => rw [glue_cons _ _ _ (by simp)]; simp
theorem sp_mk (ps : Pc) (h : ∀ c ∈ ps, c.data.toList ≠ []) (hn : ∀ c ∈ ps, 47 ∉ c.data.toList) : sp (mkB (glue 47 (ps.map (·.data.toList)))) = ps := by
  unfold sp
  rw [mkB_data]
  by_cases h0 : ps = []
  · subst h0; rfl
  · have hm : ps.map (·.data.toList) ≠ [] := by simpa using h0
    rw [if_neg (glue_ne (by intro c hc; obtain ⟨x, hx, rfl⟩ := List.mem_map.1 hc; exact h x hx) hm)]
    rw [pieces_glue 47 _ (by intro c hc; obtain ⟨x, hx, rfl⟩ := List.mem_map.1 hc; exact hn x hx) hm]
    exact map_mkB ps
def Full (p : ByteArray) : Prop := ∀ c ∈ sp p, c.data.toList ≠ []
theorem full_of_valid {p : ByteArray} (h : validP p = true) : Full p := by
  intro c hc e
  unfold validP at h
  simp only [Bool.and_eq_true, List.all_eq_true] at h
  have := h.2 c hc
  unfold compP at this
  simp only [Bool.and_eq_true, decide_eq_true_eq] at this
  have s := size_data c
  rw [e] at s
  have := this.1.1.1.1.1
  rw [List.length_nil] at s
  omega
theorem short_of_valid {p : ByteArray} (h : validP p = true) : p.size ≤ 120 := by
  unfold validP at h
  simp only [Bool.and_eq_true, decide_eq_true_eq] at h
  exact h.1.1
theorem Short.of_valid {p : ByteArray} (h : validP p = true) : Short p := by
  have := short_of_valid h
  unfold Short
  omega
theorem sp_of_valid {p : ByteArray} (h : validP p = true) : (sp p).length ≤ 12 := by
  unfold validP at h
  simp only [Bool.and_eq_true, decide_eq_true_eq] at h
  exact h.1.2
theorem sp_pre {p : ByteArray} (h : Full p) {n : Nat} : sp (mkB (glue 47 (((sp p).take n).map (·.data.toList)))) = (sp p).take n :=
  sp_mk _ (fun c hc => h c (List.mem_of_mem_take hc)) (fun c hc => sp_no p c (List.mem_of_mem_take hc))
theorem valid_pre {p : ByteArray} (h : validP p = true) {n : Nat} : validP (mkB (glue 47 (((sp p).take n).map (·.data.toList)))) = true := by
  have e := sp_pre (full_of_valid h) (n := n)
  have s := glue_sp_le p n
  unfold validP at h ⊢
  rw [e, mkB_size]
  simp only [Bool.and_eq_true, decide_eq_true_eq, List.all_eq_true] at h ⊢
  exact ⟨⟨by omega, by rw [List.length_take]; omega⟩, fun c hc => h.2 c (List.mem_of_mem_take hc)⟩
theorem sp_common {p : ByteArray} (h : Full p) (q : ByteArray) : sp (commonP p q) = (sp p).take (SumA.comLen (sp p) (sp q)) := sp_pre h
theorem valid_common {p : ByteArray} (h : validP p = true) (q : ByteArray) : validP (commonP p q) = true := valid_pre h
theorem common_left {p : ByteArray} (h : Full p) (q : ByteArray) : sp (commonP p q) <+: sp p := by rw [sp_common h]; exact List.take_prefix _ _
theorem common_right {p : ByteArray} (h : Full p) (q : ByteArray) : sp (commonP p q) <+: sp q := by rw [sp_common h]; exact comLen_take _ _
theorem aboveP_iff (p q : ByteArray) : aboveP p q = true ↔ sp p <+: sp q ∧ sp p ≠ sp q := by
  unfold aboveP
  rw [Bool.and_eq_true, decide_eq_true_eq, beq_iff_eq, comLen_prefix]
  constructor
  · rintro ⟨h1, h2⟩
    exact ⟨h2, fun e => by rw [e] at h1; omega⟩
  · rintro ⟨h1, h2⟩
    refine ⟨?_, h1⟩
    have := h1.length_le
    by_cases e : (sp p).length = (sp q).length
    · exact absurd (h1.eq_of_length e) h2
    · omega
theorem lastTo_none (l : List UInt8) (h : 47 ∉ l) : ∀ i, lastTo l i = -1
  | 0 => rfl
  | i + 1 => by
    unfold lastTo
    rw [if_neg (fun e => h (List.mem_of_getElem? e)), lastTo_none l h i]
theorem lastTo_at (a b : List UInt8) (h : 47 ∉ b) : ∀ n, n ≤ b.length → lastTo (a ++ 47 :: b) (a.length + 1 + n) = (a.length : Int)
  | 0, _ => by
    rw [Nat.add_zero]
    unfold lastTo
    rw [if_pos (by rw [List.getElem?_append_right (Nat.le_refl _)]; simp)]
  | n + 1, hn => by
    rw [show a.length + 1 + (n + 1) = (a.length + 1 + n) + 1 by omega]
    unfold lastTo
    rw [if_neg, lastTo_at a b h n (by omega)]
    intro e
    rw [List.getElem?_append_right (by omega), show a.length + 1 + n - a.length = n + 1 by omega, List.getElem?_cons_succ] at e
    exact h (List.mem_of_getElem? e)
theorem sp_dir {p : ByteArray} (h : Full p) : sp (dirP p) = (sp p).dropLast := by
  have g := glue_sp p
  by_cases h0 : sp p = []
  · rw [sp_nil] at h0
    unfold dirP dirL
    rw [h0]
    have e : sp p = [] := sp_nil.2 h0
    rw [e]
    simp only [List.take_nil]
    exact sp_nil.2 (by rw [mkB_data])
  · obtain ⟨c, hc⟩ : ∃ c, sp p = (sp p).dropLast ++ [c] := ⟨(sp p).getLast h0, (List.dropLast_concat_getLast h0).symm⟩
    have hcm : c ∈ sp p := by rw [hc]; simp
    have hno := sp_no p c hcm
    have sub : ∀ x ∈ (sp p).dropLast, x ∈ sp p := fun x hx => (List.dropLast_sublist _).mem hx
    generalize hD : (sp p).dropLast = D at *
    by_cases hd : D = []
    · subst hd
      rw [hc] at g
      simp only [List.nil_append, List.map_cons, List.map_nil, glue] at g
      unfold dirP dirL
      rw [lastTo_none _ (by rw [← g]; exact hno)]
      exact sp_nil.2 (by rw [mkB_data]; rfl)
    · have hdm : D.map (·.data.toList) ≠ [] := by simpa using hd
      rw [hc, List.map_append, List.map_cons, List.map_nil, glue_snoc _ _ _ hdm] at g
      have e : dirP p = mkB (glue 47 (D.map (·.data.toList))) := by
        unfold dirP dirL
        have L := lastTo_at (glue 47 (D.map (·.data.toList))) c.data.toList hno c.data.toList.length (Nat.le_refl _)
        have hl : p.data.toList.length = (glue 47 (D.map (·.data.toList))).length + 1 + c.data.toList.length := by rw [← g]; simp; omega
        rw [← g] at hl ⊢
        rw [hl, L, Int.toNat_natCast, List.take_left]
      rw [e]
      exact sp_mk D (fun x hx => h x (sub x hx)) (fun x hx => sp_no p x (sub x hx))
theorem full_dir {p : ByteArray} (h : Full p) : Full (dirP p) := by
  intro c hc
  rw [sp_dir h] at hc
  exact h c ((List.dropLast_sublist _).mem hc)
abbrev rdB (x : List ByteArray) (i : Nat) : ByteArray := rdOf ByteArray.empty x (i : Int)
def coneAt (x : List ByteArray) (i : Nat) : Bool := validP (rdB x i) && (decide (i = 0) || (decide (cmpP (rdB x (i - 1)) (rdB x i) < 0) && !aboveP (rdB x (i - 1)) (rdB x i)))
def conesFrom (x : List ByteArray) : Nat → Nat → Bool
  | 0, _ => true
  | m + 1, i => coneAt x i && conesFrom x m (i + 1)
def conesP (x : List ByteArray) : Bool := conesFrom x x.length 0
theorem code_Cones_l0 (x : List ByteArray) (hx : ∀ c ∈ x, Short c) (hl : x.length ≤ 2147483649) : ∀ (m i : Nat), i + m = x.length → Ev (fun k => cone_Valid.l0 k x x (x.length : Int) (i : Int)) (if conesFrom x m i = true then 0 else 13) := by
  intro m
  induction m with
  | zero =>
    intro i hm
    refine Ev.step (Y := fun _ => some 0) (Ev.of rfl) (fun k => ?_)
    simp only [cone_Valid.l0]
    rw [if_neg (by omega)]
  | succ m ih =>
    intro i hm
    have IH := ih (i + 1) (by omega)
    have si := hx _ (rdOf_mem x i (by omega))
    have V := path_Valid_sp _ si
    have bad : Ev (fun _ => some (13 : Int)) (if false = true then (0 : Int) else 13) := Ev.of rfl
    unfold conesFrom coneAt
    refine Ev.step (Y := fun k => (path_Valid.f k (rdOf ByteArray.empty x (i : Int))).bind fun t => if t = true then (if (i : Int) > 0 then (path_Cmp.f k (rdB x (i - 1)) (rdB x i)).bind fun t134 => if t134 ≥ 0 then some 13 else (path_Above.f (rdB x (i - 1)) (rdB x i)).bind fun t136 => if t136 = true then some 13 else cone_Valid.l0 k x x (x.length : Int) ((i + 1 : Nat) : Int) else cone_Valid.l0 k x x (x.length : Int) ((i + 1 : Nat) : Int)) else some 13) (Ev.bind V ?_) (fun k => ?_)
    · cases hv : validP (rdB x i) with
      | false => simpa using bad
      | true =>
        by_cases h0 : i = 0
        · subst h0
          simpa using IH
        · have sp1 := hx _ (rdOf_mem x (i - 1) (by omega))
          have hi : (i : Int) > 0 := by omega
          simp only [if_true, if_pos hi, decide_eq_false h0, Bool.false_or, Bool.true_and]
          refine Ev.bind (path_Cmp_sp _ _ sp1 si) ?_
          by_cases hc : cmpP (rdB x (i - 1)) (rdB x i) < 0
          · rw [decide_eq_true hc, Bool.true_and]
            refine Ev.congr (Ev.bind (Ev.of (path_Above_sp _ _ sp1 si)) (F := fun k t => if t = true then some 13 else cone_Valid.l0 k x x (x.length : Int) ((i + 1 : Nat) : Int)) ?_) (fun k => by rw [if_neg (by omega)])
            cases aboveP (rdB x (i - 1)) (rdB x i) with
            | true => simpa using bad
            | false => simpa using IH
          · rw [decide_eq_false hc, Bool.false_and, Bool.false_and]
            exact Ev.congr bad (fun k => by rw [if_pos (by omega)])
    · simp only [cone_Valid.l0]
      rw [if_pos (by omega), if_pos (by omega), if_pos (by omega), wrap_id (i := (i : Int) + 1) (by omega) (by omega)]
      congr 1
      funext t
      by_cases h0 : (i : Int) > 0
      · have e : wrap64 ((i : Int) - 1) = ((i - 1 : Nat) : Int) := by rw [wrap_id (by omega) (by omega)]; omega
        rw [if_pos h0, if_pos h0, e, if_pos (show (0 : Int) ≤ ((i - 1 : Nat) : Int) by omega), if_pos (show ((i - 1 : Nat) : Int) < (x.length : Int) by omega)]
        rfl
      · rw [if_neg h0, if_neg h0]
        rfl
theorem cone_Valid_sp (x : List ByteArray) (hx : ∀ c ∈ x, Short c) (hl : x.length ≤ 2147483649) : Ev (fun k => cone_Valid.f k x) (if conesP x = true then 0 else 13) := code_Cones_l0 x hx hl x.length 0 (by omega)
theorem ref_Cones_l0 (x : List ByteArray) (hx : ∀ c ∈ x, Short c) (hl : x.length ≤ 2147483649) : ∀ (m i : Nat), i + m = x.length → Ev (fun k => copseref16_Cones.l0 k x (i : Int)) (conesFrom x m i) := by
  intro m
  induction m with
  | zero =>
    intro i hm
    refine Ev.step (Y := fun _ => some true) (Ev.of rfl) (fun k => ?_)
    simp only [copseref16_Cones.l0]
    rw [if_neg (by omega)]
  | succ m ih =>
    intro i hm
    have IH := ih (i + 1) (by omega)
    have si := hx _ (rdOf_mem x i (by omega))
    have V := ref_Valid_sp _ si
    have bad : Ev (fun _ => some false) false := Ev.of rfl
    unfold conesFrom coneAt
    refine Ev.step (Y := fun k => (copseref02_Valid.f k (rdOf ByteArray.empty x (i : Int))).bind fun t => if t = true then (if (i : Int) > 0 then (copseref02_Cmp.f k (rdB x (i - 1)) (rdB x i)).bind fun t134 => if t134 ≥ 0 then some false else (copseref02_Above.f k (rdB x (i - 1)) (rdB x i)).bind fun t136 => if t136 = true then some false else copseref16_Cones.l0 k x ((i + 1 : Nat) : Int) else copseref16_Cones.l0 k x ((i + 1 : Nat) : Int)) else some false) (Ev.bind V ?_) (fun k => ?_)
    · cases hv : validP (rdB x i) with
      | false => simpa using bad
      | true =>
        by_cases h0 : i = 0
        · subst h0
          simpa using IH
        · have sp1 := hx _ (rdOf_mem x (i - 1) (by omega))
          have hi : (i : Int) > 0 := by omega
          simp only [if_true, if_pos hi, decide_eq_false h0, Bool.false_or, Bool.true_and]
          refine Ev.bind (ref_Cmp_sp _ _ sp1 si) ?_
          by_cases hc : cmpP (rdB x (i - 1)) (rdB x i) < 0
          · rw [decide_eq_true hc, Bool.true_and]
            refine Ev.congr (Ev.bind (ref_Above_sp _ _ sp1 si) (F := fun k t => if t = true then some false else copseref16_Cones.l0 k x ((i + 1 : Nat) : Int)) ?_) (fun k => by rw [if_neg (by omega)])
            cases aboveP (rdB x (i - 1)) (rdB x i) with
            | true => simpa using bad
            | false => simpa using IH
          · rw [decide_eq_false hc, Bool.false_and, Bool.false_and]
            exact Ev.congr bad (fun k => by rw [if_pos (by omega)])
    · simp only [copseref16_Cones.l0]
      rw [if_pos (by omega), if_pos (by omega), wrap_id (i := (i : Int) + 1) (by omega) (by omega)]
      congr 1
      funext t
      by_cases h0 : (i : Int) > 0
      · have e : wrap64 ((i : Int) - 1) = ((i - 1 : Nat) : Int) := by rw [wrap_id (by omega) (by omega)]; omega
        rw [if_pos h0, if_pos h0, e, if_pos (show (0 : Int) ≤ ((i - 1 : Nat) : Int) by omega), if_pos (show ((i - 1 : Nat) : Int) < (x.length : Int) by omega)]
        rfl
      · rw [if_neg h0, if_neg h0]
        rfl
theorem ref_Cones_sp (x : List ByteArray) (hx : ∀ c ∈ x, Short c) (hl : x.length ≤ 2147483649) : Ev (fun k => copseref16_Cones.f k x) (conesP x) := ref_Cones_l0 x hx hl x.length 0 (by omega)
theorem conesFrom_iff (x : List ByteArray) : ∀ m i, conesFrom x m i = true ↔ ∀ j, i ≤ j → j < i + m → coneAt x j = true
  | 0, i => by simp [conesFrom]; intro j h1 h2; omega
  | m + 1, i => by
    unfold conesFrom
    rw [Bool.and_eq_true, conesFrom_iff x m (i + 1)]
    constructor
    · rintro ⟨h1, h2⟩ j hj1 hj2
      by_cases e : j = i
      · rw [e]; exact h1
      · exact h2 j (by omega) (by omega)
    · intro h
      exact ⟨h i (by omega) (by omega), fun j h1 h2 => h j (by omega) (by omega)⟩
theorem cmpP_lt {p q : ByteArray} : cmpP p q < 0 ↔ ltL (sp p) (sp q) := by
  unfold cmpP ltL
  rcases cmpL_cases (sp p) (sp q) with h | h | h <;> rw [h] <;> decide
theorem apart_iff {p q : ByteArray} : (cmpP p q < 0 ∧ aboveP p q = false) ↔ Apart (sp p) (sp q) := by
  rw [cmpP_lt]
  unfold Apart
  constructor
  · rintro ⟨h1, h2⟩
    refine ⟨h1, fun h => ?_⟩
    have : aboveP p q = true := (aboveP_iff p q).2 ⟨h, fun e => ltL_irrefl _ (by rw [e] at h1; exact h1)⟩
    rw [h2] at this; cases this
  · rintro ⟨h1, h2⟩
    refine ⟨h1, ?_⟩
    cases ha : aboveP p q with
    | false => rfl
    | true => exact absurd ((aboveP_iff p q).1 ha).1 h2
def ConesG (x : List ByteArray) : Prop := (∀ c ∈ x, validP c = true) ∧ x.Pairwise fun a b => Apart (sp a) (sp b)
theorem rdB_get (x : List ByteArray) (i : Nat) (h : i < x.length) : rdB x i = x[i] := by
  simp [rdB, rdOf, List.getD_eq_getElem?_getD, List.getElem?_eq_getElem h]
theorem conesP_iff (x : List ByteArray) : conesP x = true ↔ ConesG x := by
  unfold conesP
  rw [conesFrom_iff]
  constructor
  · intro h
    have hv : ∀ i (hi : i < x.length), validP x[i] = true ∧ (0 < i → Apart (sp (x[i - 1]'(by omega))) (sp x[i])) := by
      intro i hi
      have := h i (by omega) (by omega)
      unfold coneAt at this
      rw [rdB_get x i hi, Bool.and_eq_true] at this
      refine ⟨this.1, fun h0 => ?_⟩
      rw [rdB_get x (i - 1) (by omega), decide_eq_false (by omega), Bool.false_or, Bool.and_eq_true, decide_eq_true_eq] at this
      exact apart_iff.1 ⟨this.2.1, by simpa using this.2.2⟩
    constructor
    · intro c hc
      obtain ⟨i, hi, rfl⟩ := List.mem_iff_getElem.1 hc
      exact (hv i hi).1
    · rw [List.pairwise_iff_getElem]
      intro i j hi hj hij
      induction j with
      | zero => omega
      | succ j ih =>
        have a := (hv (j + 1) hj).2 (by omega)
        by_cases e : i = j
        · subst e; exact a
        · exact (ih (by omega) (by omega)).trans a
  · rintro ⟨h1, h2⟩ j _ hj
    have hj' : j < x.length := by omega
    unfold coneAt
    rw [rdB_get x j hj', Bool.and_eq_true]
    refine ⟨h1 _ (List.getElem_mem hj'), ?_⟩
    by_cases h0 : j = 0
    · subst h0; rfl
    · rw [decide_eq_false h0, Bool.false_or, Bool.and_eq_true, decide_eq_true_eq, rdB_get x (j - 1) (by omega)]
      rw [List.pairwise_iff_getElem] at h2
      have := apart_iff.2 (h2 (j - 1) j (by omega) hj' (by omega))
      exact ⟨this.1, by simpa using this.2⟩
abbrev File := S45
def placedP (f : File) : Bool := !(f.f0.toList == ([] : List UInt8)) && validP f.f0
def restP (f : File) : Bool := if (baseP f.f0).toList = ([84, 65, 82, 71, 69, 84, 83] : List UInt8) then decide (f.f2 = 0) && decide (f.f3 = (f.f1.size : Int)) else decide (f.f1.toList = ([] : List UInt8)) && (decide (0 ≤ f.f2) && (decide (f.f2 ≤ 1152921504606846976) && (decide (0 ≤ f.f3) && decide (f.f3 ≤ 4611686018427387904))))
def fileP (f : File) : Int := if placedP f = true then (if restP f = true then 0 else 8) else 7
theorem snap_placed_sp (f : File) (h : Short f.f0) : Ev (fun k => snap_placed.f k f.f0 f.f1 f.f2 f.f3) (placedP f) := by
  unfold placedP
  by_cases h0 : f.f0.toList = []
  · refine Ev.congr (Ev.of (X := some false) (by simp [h0])) (fun k => ?_)
    unfold snap_placed.f
    rw [if_pos h0]
  · refine Ev.congr (Ev.bind (F := fun _ t => some t) (path_Valid_sp _ h) (Ev.of (by simp [h0]))) (fun k => ?_)
    unfold snap_placed.f
    rw [if_neg h0]
theorem rest_tail (f : File) : (if f.f1.toList = ([] : List UInt8) then (if f.f2 < 0 then (some 8) else (if f.f2 > 1152921504606846976 then (some 8) else (if f.f3 < 0 then (some 8) else (if f.f3 > 4611686018427387904 then (some 8) else (some 0))))) else (some (8 : Int))) = some (if (decide (f.f1.toList = ([] : List UInt8)) && (decide (0 ≤ f.f2) && (decide (f.f2 ≤ 1152921504606846976) && (decide (0 ≤ f.f3) && decide (f.f3 ≤ 4611686018427387904))))) = true then 0 else 8) := by
  by_cases h1 : f.f1.toList = []
  · rw [if_pos h1, decide_eq_true h1, Bool.true_and]
    by_cases h2 : f.f2 < 0
    · rw [if_pos h2, decide_eq_false (by omega)]; rfl
    · rw [if_neg h2, decide_eq_true (by omega), Bool.true_and]
      by_cases h3 : f.f2 > 1152921504606846976
      · rw [if_pos h3, decide_eq_false (by omega)]; rfl
      · rw [if_neg h3, decide_eq_true (by omega), Bool.true_and]
        by_cases h4 : f.f3 < 0
        · rw [if_pos h4, decide_eq_false (by omega)]; rfl
        · rw [if_neg h4, decide_eq_true (by omega), Bool.true_and]
          by_cases h5 : f.f3 > 4611686018427387904
          · rw [if_pos h5, decide_eq_false (by omega)]; rfl
          · rw [if_neg h5, decide_eq_true (by omega)]; rfl
  · rw [if_neg h1, decide_eq_false h1]; rfl
theorem snap_File_sp (f : File) (h : Short f.f0) : Ev (fun k => snap_File.f k f.f0 f.f1 f.f2 f.f3) (fileP f) := by
  refine Ev.bind (snap_placed_sp f h) ?_
  unfold fileP
  cases hp : placedP f with
  | false => exact Ev.of rfl
  | true =>
    rw [if_pos rfl]
    simp only [if_true]
    refine Ev.bind (path_Base_sp _ h) ?_
    unfold restP
    by_cases hb : (baseP f.f0).toList = ([84, 65, 82, 71, 69, 84, 83] : List UInt8)
    · rw [if_pos hb]
      by_cases h2 : f.f2 = 0
      · rw [decide_eq_true h2, Bool.true_and]
        refine Ev.congr (Ev.step (X := fun k => snap_File.j0 k (f.f3 != (f.f1.size : Int))) (Ev.of (X := some (if decide (f.f3 = (f.f1.size : Int)) = true then 0 else 8)) rfl) (fun k => ?_)) (fun k => by rw [if_pos hb, if_pos h2])
        simp only [snap_File.j0]
        by_cases h3 : f.f3 = (f.f1.size : Int)
        · rw [decide_eq_true h3, if_pos rfl, if_neg (by simp [h3])]
        · rw [decide_eq_false h3, if_pos (by simp [h3]), if_neg (by decide)]
      · rw [decide_eq_false h2, Bool.false_and]
        refine Ev.congr (Ev.step (X := fun k => snap_File.j0 k true) (Ev.of (X := some 8) rfl) (fun k => ?_)) (fun k => by rw [if_pos hb, if_neg h2])
        simp only [snap_File.j0]
        rw [if_pos trivial]
    · rw [if_neg hb]
      refine Ev.congr (Ev.of (rest_tail f)) (fun k => ?_)
      rw [if_neg hb]
abbrev rdF (x : List File) (i : Nat) : File := rd_T45 x (i : Int)
theorem rdF_mem (x : List File) (i : Nat) (h : i < x.length) : rdF x i ∈ x := by
  simp [rdF, rd_T45, List.getD_eq_getElem?_getD, List.getElem?_eq_getElem h]
theorem rdF_get (x : List File) (i : Nat) (h : i < x.length) : rdF x i = x[i] := by
  simp [rdF, rd_T45, List.getD_eq_getElem?_getD, List.getElem?_eq_getElem h]
def allF (P : Nat → Bool) : Nat → Nat → Bool
  | 0, _ => true
  | m + 1, i => P i && allF P m (i + 1)
theorem allF_succ (P : Nat → Bool) (m i : Nat) : allF P (m + 1) i = (P i && allF P m (i + 1)) := rfl
theorem allF_zero (P : Nat → Bool) (i : Nat) : allF P 0 i = true := rfl
theorem allF_iff (P : Nat → Bool) : ∀ m i, allF P m i = true ↔ ∀ j, i ≤ j → j < i + m → P j = true
  | 0, i => by simp [allF]; intro j h1 h2; omega
  | m + 1, i => by
    unfold allF
    rw [Bool.and_eq_true, allF_iff P m (i + 1)]
    constructor
    · rintro ⟨h1, h2⟩ j hj1 hj2
      by_cases e : j = i
      · rw [e]; exact h1
      · exact h2 j (by omega) (by omega)
    · intro h
      exact ⟨h i (by omega) (by omega), fun j h1 h2 => h j (by omega) (by omega)⟩
def sortF (l : List File) (i : Nat) : Bool := decide (i = 0) || decide (cmpP (rdF l (i - 1)).f0 (rdF l i).f0 < 0)
def notF (l : List File) (i : Nat) : Bool := decide (i = 0) || !aboveP (rdF l (i - 1)).f0 (rdF l i).f0
def okF (l : List File) (i : Nat) : Bool := decide (fileP (rdF l i) = 0) && (sortF l i && notF l i)
def snapP (l : List File) : Int := if allF (fun i => placedP (rdF l i)) l.length 0 = true then (if l.length ≤ 512 then (if allF (okF l) l.length 0 = true then 0 else 8) else 8) else 7
theorem sortF_at (l : List File) (i : Nat) : sortF l i = (decide (i = 0) || decide (cmpP (rdF l (i - 1)).f0 (rdF l i).f0 < 0)) := rfl
theorem notF_at (l : List File) (i : Nat) : notF l i = (decide (i = 0) || !aboveP (rdF l (i - 1)).f0 (rdF l i).f0) := rfl
theorem okF_at (l : List File) (i : Nat) : okF l i = (decide (fileP (rdF l i) = 0) && (sortF l i && notF l i)) := rfl
theorem code_snap_l1 (x : List File) (hx : ∀ f ∈ x, Short f.f0) (hl : x.length ≤ 2147483649) : ∀ (m i : Nat), i + m = x.length → Ev (fun k => snap_Valid.l1 k x x (x.length : Int) (i : Int)) (if allF (okF x) m i = true then 0 else 8) := by
  intro m
  induction m with
  | zero =>
    intro i hm
    refine Ev.step (Ev.of (X := some 0) rfl) (fun k => ?_)
    simp only [snap_Valid.l1]
    rw [if_neg (by omega)]
  | succ m ih =>
    intro i hm
    have IH := ih (i + 1) (by omega)
    have si := hx _ (rdF_mem x i (by omega))
    have bad : Ev (fun _ => some (8 : Int)) (if false = true then (0 : Int) else 8) := Ev.of rfl
    rw [allF_succ]
    refine Ev.step (Y := fun k => (snap_File.f k (rdF x i).f0 (rdF x i).f1 (rdF x i).f2 (rdF x i).f3).bind fun t => if t = 0 then (if (i : Int) > 0 then (path_Cmp.f k (rdF x (i - 1)).f0 (rdF x i).f0).bind fun t134 => if t134 ≥ 0 then some 8 else (path_Above.f (rdF x (i - 1)).f0 (rdF x i).f0).bind fun t136 => if t136 = true then some 8 else snap_Valid.l1 k x x (x.length : Int) ((i + 1 : Nat) : Int) else snap_Valid.l1 k x x (x.length : Int) ((i + 1 : Nat) : Int)) else some 8) (Ev.bind (snap_File_sp _ si) ?_) (fun k => ?_)
    · rw [okF_at, sortF_at, notF_at]
      by_cases hf : fileP (rdF x i) = 0
      · simp only [if_pos hf, decide_eq_true hf, Bool.true_and]
        by_cases h0 : i = 0
        · subst h0
          simpa using IH
        · have sp1 := hx _ (rdF_mem x (i - 1) (by omega))
          have hi : (i : Int) > 0 := by omega
          simp only [if_pos hi, decide_eq_false h0, Bool.false_or]
          refine Ev.bind (path_Cmp_sp _ _ sp1 si) ?_
          by_cases hc : cmpP (rdF x (i - 1)).f0 (rdF x i).f0 < 0
          · rw [decide_eq_true hc, Bool.true_and]
            refine Ev.congr (Ev.bind (Ev.of (path_Above_sp _ _ sp1 si)) (F := fun k t => if t = true then some 8 else snap_Valid.l1 k x x (x.length : Int) ((i + 1 : Nat) : Int)) ?_) (fun k => by rw [if_neg (by omega)])
            cases aboveP (rdF x (i - 1)).f0 (rdF x i).f0 with
            | true => simpa using bad
            | false => simpa using IH
          · rw [decide_eq_false hc, Bool.false_and, Bool.false_and]
            exact Ev.congr bad (fun k => by rw [if_pos (by omega)])
      · simp only [if_neg hf, decide_eq_false hf, Bool.false_and]
        exact bad
    · simp only [snap_Valid.l1]
      rw [if_pos (by omega), if_pos (by omega), if_pos (by omega), wrap_id (i := (i : Int) + 1) (by omega) (by omega)]
      congr 1
      funext t
      by_cases h0 : (i : Int) > 0
      · have e : wrap64 ((i : Int) - 1) = ((i - 1 : Nat) : Int) := by rw [wrap_id (by omega) (by omega)]; omega
        rw [if_pos h0, if_pos h0, e, if_pos (show (0 : Int) ≤ ((i - 1 : Nat) : Int) by omega), if_pos (show ((i - 1 : Nat) : Int) < (x.length : Int) by omega)]
        rfl
      · rw [if_neg h0, if_neg h0]
        rfl
theorem code_snap_l0 (x : List File) (hx : ∀ f ∈ x, Short f.f0) (hl : x.length ≤ 2147483649) : ∀ (m i : Nat), i + m = x.length → Ev (fun k => snap_Valid.l0 k x x (x.length : Int) (i : Int)) (if allF (fun i => placedP (rdF x i)) m i = true then (if x.length ≤ 512 then (if allF (okF x) x.length 0 = true then 0 else 8) else 8) else 7) := by
  intro m
  induction m with
  | zero =>
    intro i hm
    refine Ev.step (Y := fun k => if (x.length : Int) > 512 then some 8 else snap_Valid.l1 k x x (x.length : Int) 0) ?_ (fun k => ?_)
    · rw [allF_zero, if_pos rfl]
      by_cases h : x.length ≤ 512
      · rw [if_pos h]
        exact Ev.congr (code_snap_l1 x hx hl x.length 0 (by omega)) (fun k => by rw [if_neg (by omega)]; rfl)
      · rw [if_neg h]
        exact Ev.congr (Ev.of (X := some 8) rfl) (fun k => by rw [if_pos (by omega)])
    · simp only [snap_Valid.l0]
      rw [if_neg (by omega)]
  | succ m ih =>
    intro i hm
    have IH := ih (i + 1) (by omega)
    have si := hx _ (rdF_mem x i (by omega))
    rw [allF_succ]
    refine Ev.step (Y := fun k => (snap_placed.f k (rdF x i).f0 (rdF x i).f1 (rdF x i).f2 (rdF x i).f3).bind fun t => if t = true then snap_Valid.l0 k x x (x.length : Int) ((i + 1 : Nat) : Int) else some 7) (Ev.bind (snap_placed_sp _ si) ?_) (fun k => ?_)
    · cases placedP (rdF x i) with
      | true => simpa using IH
      | false => simpa using (Ev.of (X := some (7 : Int)) rfl)
    · simp only [snap_Valid.l0]
      rw [if_pos (by omega), if_pos (by omega), if_pos (by omega), wrap_id (i := (i : Int) + 1) (by omega) (by omega)]
      rfl
theorem snap_Valid_sp (x : List File) (hx : ∀ f ∈ x, Short f.f0) (hl : x.length ≤ 2147483649) : Ev (fun k => snap_Valid.f k x) (snapP x) := code_snap_l0 x hx hl x.length 0 (by omega)
def ShortF (x : List File) : Prop := ∀ f ∈ x, Short f.f0 ∧ Short f.f1
def lookedP (l : List File) (x : List ByteArray) : Int := if snapP l = 0 then (if conesP x = true then 0 else 13) else snapP l
theorem snapP_zero {l : List File} (hs : ShortF l) (h : snapP l = 0) : l.length ≤ 512 ∧ ∀ f ∈ l, validP f.f0 = true ∧ 0 ≤ f.f3 ∧ f.f3 ≤ 4611686018427387904 := by
  unfold snapP at h
  by_cases h1 : allF (fun i => placedP (rdF l i)) l.length 0 = true
  · rw [if_pos h1] at h
    by_cases h2 : l.length ≤ 512
    · rw [if_pos h2] at h
      refine ⟨h2, fun f hf => ?_⟩
      obtain ⟨i, hi, rfl⟩ := List.mem_iff_getElem.1 hf
      by_cases h3 : allF (okF l) l.length 0 = true
      · have := (allF_iff _ _ _).1 h3 i (by omega) (by omega)
        rw [okF_at, Bool.and_eq_true, decide_eq_true_eq, rdF_get l i hi] at this
        have z := this.1
        unfold fileP at z
        by_cases hp : placedP l[i] = true
        · rw [if_pos hp] at z
          by_cases hr : restP l[i] = true
          · unfold placedP at hp
            rw [Bool.and_eq_true] at hp
            refine ⟨hp.2, ?_⟩
            unfold restP at hr
            split at hr
            · simp only [Bool.and_eq_true, decide_eq_true_eq] at hr
              have := (hs _ hf).2
              unfold Short at this
              omega
            · simp only [Bool.and_eq_true, decide_eq_true_eq] at hr
              exact ⟨hr.2.2.2.1, hr.2.2.2.2⟩
          · rw [if_neg hr] at z; omega
        · rw [if_neg hp] at z; omega
      · rw [if_neg h3] at h; omega
    · rw [if_neg h2] at h; omega
  · rw [if_neg h1] at h; omega
theorem Dsp_eq {x : File} (h : Short x.f0) : Dsp x = sp (dirP x.f0) := by
  have e : (⟨(dirL x.f0.toList).toArray⟩ : ByteArray) = dirP x.f0 := by unfold dirP mkB; rw [toList_eq_data]
  have hd := dir_short x.f0 h
  unfold Dsp
  rw [e, path_Split_sp _ (by unfold Short at hd; omega)]
  rfl
theorem fileOk_sp (f : File) (hs : Short f.f0) (h : 0 ≤ f.f3 ∧ f.f3 ≤ 4611686018427387904) : Ev (fun k => some (fileOk k f)) true := by
  obtain ⟨K, hK⟩ := (path_Dir_sp f.f0 hs).two (path_Base_sp f.f0 hs)
  refine ⟨K, fun k hk => congrArg some ?_⟩
  obtain ⟨h1, h2⟩ := hK k hk
  have hd := dir_short f.f0 hs
  unfold fileOk
  rw [h1, h2]
  have e : path_Split.f (dirP f.f0) = some (Dsp f) := by rw [Dsp_eq hs, path_Split_sp _ (by unfold Short at hd; omega)]
  simp [e, h.1, h.2]
theorem filesOk_sp (l : List File) (hl : l.length ≤ 512) (h : ∀ f ∈ l, Short f.f0 ∧ 0 ≤ f.f3 ∧ f.f3 ≤ 4611686018427387904) : Ev (fun k => some (filesOk k l)) true := by
  have A : ∀ m : List File, (∀ f ∈ m, Short f.f0 ∧ 0 ≤ f.f3 ∧ f.f3 ≤ 4611686018427387904) → Ev (fun k => some (m.all (fileOk k))) true := by
    intro m
    induction m with
    | nil => intro _; exact Ev.of rfl
    | cons f m ih =>
      intro hm
      obtain ⟨K, hK⟩ := (fileOk_sp f (hm f (by simp)).1 (hm f (by simp)).2).two (ih (fun g hg => hm g (by simp [hg])))
      refine ⟨K, fun k hk => ?_⟩
      have e1 := Option.some.inj (hK k hk).1
      have e2 := Option.some.inj (hK k hk).2
      show some ((f :: m).all (fileOk k)) = some true
      rw [List.all_cons, e1, e2]; rfl
  obtain ⟨K, hK⟩ := A l h
  refine ⟨K, fun k hk => ?_⟩
  have e := Option.some.inj (hK k hk)
  show some (filesOk k l) = some true
  unfold filesOk
  rw [e, decide_eq_true hl]; rfl
theorem looked_sp (l : List File) (x : List ByteArray) (hf : ShortF l) (hl : l.length ≤ 2147483649) (hx : ∀ c ∈ x, Short c) (hxl : x.length ≤ 2147483649) : Ev (fun k => looked.e k l x) (lookedP l x) := by
  refine Ev.bind (snap_Valid_sp l (fun f h => (hf f h).1) hl) ?_
  unfold lookedP
  by_cases h : snapP l = 0
  · obtain ⟨h2, h3⟩ := snapP_zero hf h
    simp only [if_pos h]
    obtain ⟨K, hK⟩ := (filesOk_sp l h2 (fun f hm => ⟨(hf f hm).1, (h3 f hm).2⟩)).two (cone_Valid_sp x hx hxl)
    refine ⟨K, fun k hk => ?_⟩
    obtain ⟨e1, e2⟩ := hK k hk
    have e1 := Option.some.inj e1
    show (if filesOk k l = true then cone_Valid.f k x else none) = _
    rw [if_pos e1, e2]
  · simp only [if_neg h]
    exact Ev.of rfl
def atP (p : ByteArray) : Bool → List ByteArray → List ByteArray
  | _, [] => []
  | d, c :: r => if sp p <+: sp c then (if d = true then atP p true r else p :: atP p true r) else c :: atP p d r
theorem block_eq (p c : ByteArray) : (c.toList = p.toList ∨ aboveP p c = true) ↔ sp p <+: sp c := by
  rw [aboveP_iff, toList_eq_data, toList_eq_data]
  constructor
  · rintro (h | h)
    · rw [data_inj h]; exact List.prefix_refl _
    · exact h.1
  · intro h
    by_cases e : sp p = sp c
    · left; rw [sp_inj e]
    · right; exact ⟨h, e⟩
theorem drop_rdB (x : List ByteArray) (i : Nat) (h : i < x.length) : x.drop i = rdB x i :: x.drop (i + 1) := rdOf_drop x i h
theorem code_at_l0 (p : ByteArray) (hp : Short p) (x : List ByteArray) (hx : ∀ c ∈ x, Short c) (hl : x.length ≤ 2147483649) : ∀ (m i : Nat) (acc : List ByteArray) (d : Bool), i + m = x.length → acc.length ≤ i → Ev (fun k => merge_at.l0 k p acc d x (x.length : Int) (i : Int)) (acc ++ atP p d (x.drop i)) := by
  intro m
  induction m with
  | zero =>
    intro i acc d hm ha
    rw [List.drop_eq_nil_of_le (by omega)]
    refine Ev.step (Ev.of (X := some (acc ++ [])) rfl) (fun k => ?_)
    simp only [merge_at.l0]
    rw [if_neg (by omega), List.append_nil]
  | succ m ih =>
    intro i acc d hm ha
    have sc := hx _ (rdOf_mem x i (by omega))
    rw [drop_rdB x i (by omega)]
    have w1 : wrap64 ((i : Int) + 1) = ((i + 1 : Nat) : Int) := by rw [wrap_id (by omega) (by omega)]; omega
    have J1 : ¬ sp p <+: sp (rdB x i) → Ev (fun k => merge_at.j1 k p acc d (rdB x i) x (x.length : Int) (i : Int) true) (acc ++ atP p d (rdB x i :: x.drop (i + 1))) := by
      intro hn
      have IH := ih (i + 1) (acc ++ [rdB x i]) d (by omega) (by simp; omega)
      rw [List.append_assoc] at IH
      unfold atP
      rw [if_neg hn]
      refine Ev.step IH (fun k => ?_)
      simp only [merge_at.j1]
      rw [if_pos trivial, if_pos (by omega), w1]
    have J2 : sp p <+: sp (rdB x i) → Ev (fun k => merge_at.j1 k p acc d (rdB x i) x (x.length : Int) (i : Int) false) (acc ++ atP p d (rdB x i :: x.drop (i + 1))) := by
      intro hn
      unfold atP
      rw [if_pos hn]
      cases d with
      | true =>
        have IH := ih (i + 1) acc true (by omega) (by omega)
        rw [if_pos rfl]
        refine Ev.step IH (fun k => ?_)
        simp only [merge_at.j1]
        rw [if_neg (by decide), if_pos trivial, w1]
      | false =>
        have IH := ih (i + 1) (acc ++ [p]) true (by omega) (by simp; omega)
        rw [List.append_assoc] at IH
        rw [if_neg (by decide)]
        refine Ev.step IH (fun k => ?_)
        simp only [merge_at.j1]
        rw [if_neg (by decide), if_neg (by decide), if_pos (by omega), w1]
    by_cases he : (rdB x i).toList = p.toList
    · refine Ev.step (J2 ((block_eq p _).1 (.inl he))) (fun k => ?_)
      simp only [merge_at.l0]
      rw [if_pos (by omega), if_pos (by omega), if_pos (by omega), if_pos he]
    · refine Ev.step (Y := fun k => merge_at.j1 k p acc d (rdB x i) x (x.length : Int) (i : Int) (!aboveP p (rdB x i))) ?_ (fun k => ?_)
      · cases ha : aboveP p (rdB x i) with
        | true => exact J2 ((block_eq p _).1 (.inr ha))
        | false => exact J1 (fun h => by rcases (block_eq p _).2 h with h | h; exact he h; rw [ha] at h; cases h)
      · simp only [merge_at.l0]
        rw [if_pos (by omega), if_pos (by omega), if_pos (by omega), if_neg he, path_Above_sp _ _ hp sc]
        rfl
theorem code_at (p : ByteArray) (hp : Short p) (x : List ByteArray) (hx : ∀ c ∈ x, Short c) (hl : x.length ≤ 2147483649) : Ev (fun k => merge_at.f k x p) (atP p false x) := code_at_l0 p hp x hx hl x.length 0 [] false (by omega) (by simp)
theorem ref_at_l0 (p : ByteArray) (hp : Short p) (x : List ByteArray) (hx : ∀ c ∈ x, Short c) (hl : x.length ≤ 2147483649) : ∀ (m i : Nat) (acc : List ByteArray) (d : Bool), i + m = x.length → acc.length ≤ i → Ev (fun k => copseref16_At.l0 k x p acc d (i : Int)) (acc ++ atP p d (x.drop i), 0) := by
  intro m
  induction m with
  | zero =>
    intro i acc d hm ha
    rw [List.drop_eq_nil_of_le (by omega)]
    refine Ev.step (Ev.of (X := some (acc ++ [], 0)) rfl) (fun k => ?_)
    simp only [copseref16_At.l0]
    rw [if_neg (by omega), List.append_nil]
  | succ m ih =>
    intro i acc d hm ha
    have sc := hx _ (rdOf_mem x i (by omega))
    rw [drop_rdB x i (by omega)]
    have w1 : wrap64 ((i : Int) + 1) = ((i + 1 : Nat) : Int) := by rw [wrap_id (by omega) (by omega)]; omega
    have J1 : ¬ sp p <+: sp (rdB x i) → Ev (fun k => copseref16_At.j1 k x p acc d (i : Int) true) (acc ++ atP p d (rdB x i :: x.drop (i + 1)), 0) := by
      intro hn
      have IH := ih (i + 1) (acc ++ [rdB x i]) d (by omega) (by simp; omega)
      rw [List.append_assoc] at IH
      unfold atP
      rw [if_neg hn]
      refine Ev.step IH (fun k => ?_)
      simp only [copseref16_At.j1]
      rw [if_pos trivial, if_pos (by omega), if_pos (by omega), if_pos (by omega), w1]
    have J2 : sp p <+: sp (rdB x i) → Ev (fun k => copseref16_At.j1 k x p acc d (i : Int) false) (acc ++ atP p d (rdB x i :: x.drop (i + 1)), 0) := by
      intro hn
      unfold atP
      rw [if_pos hn]
      cases d with
      | true =>
        have IH := ih (i + 1) acc true (by omega) (by omega)
        rw [if_pos rfl]
        refine Ev.step IH (fun k => ?_)
        simp only [copseref16_At.j1]
        rw [if_neg (by decide), if_pos trivial, w1]
      | false =>
        have IH := ih (i + 1) (acc ++ [p]) true (by omega) (by simp; omega)
        rw [List.append_assoc] at IH
        rw [if_neg (by decide)]
        refine Ev.step IH (fun k => ?_)
        simp only [copseref16_At.j1]
        rw [if_neg (by decide), if_neg (by decide), if_pos (by omega), w1]
    by_cases he : (rdB x i).toList = p.toList
    · refine Ev.step (J2 ((block_eq p _).1 (.inl he))) (fun k => ?_)
      simp only [copseref16_At.l0]
      rw [if_pos (by omega), if_pos (by omega), if_pos he]
    · refine Ev.step (Y := fun k => (copseref02_Above.f k p (rdB x i)).bind fun t => copseref16_At.j1 k x p acc d (i : Int) (!t)) (Ev.bind (ref_Above_sp _ _ hp sc) ?_) (fun k => ?_)
      · cases ha : aboveP p (rdB x i) with
        | true => exact J2 ((block_eq p _).1 (.inr ha))
        | false => exact J1 (fun h => by rcases (block_eq p _).2 h with h | h; exact he h; rw [ha] at h; cases h)
      · simp only [copseref16_At.l0]
        rw [if_pos (by omega), if_pos (by omega), if_neg he]
def AtP (x : List ByteArray) (p : ByteArray) : List ByteArray × Int := if conesP x = true then (if validP p = true then (atP p false x, 0) else ([], 7)) else ([], 13)
theorem ref_At_sp (p : ByteArray) (hp : Short p) (x : List ByteArray) (hx : ∀ c ∈ x, Short c) (hl : x.length ≤ 2147483649) : Ev (fun k => copseref16_At.f k x p) (AtP x p) := by
  refine Ev.bind (ref_Cones_sp x hx hl) ?_
  unfold AtP
  cases conesP x with
  | false => exact Ev.of rfl
  | true =>
    simp only [if_true]
    refine Ev.bind (ref_Valid_sp p hp) ?_
    cases validP p with
    | false => exact Ev.of rfl
    | true => exact ref_at_l0 p hp x hx hl x.length 0 [] false (by omega) (by simp)
theorem merge_At_sp (p : ByteArray) (hp : Short p) (x : List ByteArray) (hx : ∀ c ∈ x, Short c) (hl : x.length ≤ 2147483649) : Ev (fun k => merge_At.f k x p) (AtP x p) := by
  refine Ev.bind (cone_Valid_sp x hx hl) ?_
  unfold AtP
  cases conesP x with
  | false => exact Ev.of rfl
  | true =>
    simp only [if_true]
    refine Ev.bind (path_Valid_sp p hp) ?_
    cases validP p with
    | false => exact Ev.of rfl
    | true => exact Ev.bind (F := fun _ t => some (t, 0)) (code_at p hp x hx hl) (Ev.of rfl)
theorem atP_mem (p : ByteArray) : ∀ (x : List ByteArray) (d : Bool) (c : ByteArray), c ∈ atP p d x → (c ∈ x ∧ ¬ sp p <+: sp c) ∨ (c = p ∧ d = false ∧ ∃ b ∈ x, sp p <+: sp b)
  | [], _, _, h => by simp [atP] at h
  | a :: x, d, c, h => by
    unfold atP at h
    by_cases hb : sp p <+: sp a
    · rw [if_pos hb] at h
      cases d with
      | true =>
        rw [if_pos rfl] at h
        rcases atP_mem p x true c h with h | ⟨_, h, _⟩
        · exact .inl ⟨by simp [h.1], h.2⟩
        · cases h
      | false =>
        rw [if_neg (by decide)] at h
        rcases List.mem_cons.1 h with rfl | h
        · exact .inr ⟨rfl, rfl, a, by simp, hb⟩
        · rcases atP_mem p x true c h with h | ⟨_, h, _⟩
          · exact .inl ⟨by simp [h.1], h.2⟩
          · cases h
    · rw [if_neg hb] at h
      rcases List.mem_cons.1 h with rfl | h
      · exact .inl ⟨by simp, hb⟩
      · rcases atP_mem p x d c h with h | ⟨h1, h2, b, h3, h4⟩
        · exact .inl ⟨by simp [h.1], h.2⟩
        · exact .inr ⟨h1, h2, b, by simp [h3], h4⟩
theorem atP_len (p : ByteArray) : ∀ (x : List ByteArray) (d : Bool), (atP p d x).length + (x.filter fun c => decide (sp p <+: sp c)).length ≤ x.length + (if d = true then 0 else 1)
  | [], d => by cases d <;> simp [atP]
  | a :: x, d => by
    unfold atP
    by_cases hb : sp p <+: sp a
    · rw [if_pos hb, List.filter_cons_of_pos (by simpa using hb)]
      have := atP_len p x true
      cases d with
      | true => rw [if_pos rfl] at this ⊢; simp only [List.length_cons] at *; simp at this ⊢; omega
      | false => rw [if_neg (by decide)]; simp only [List.length_cons] at *; simp at this ⊢; omega
    · rw [if_neg hb, List.filter_cons_of_neg (by simpa using hb)]
      have := atP_len p x d
      simp only [List.length_cons] at *
      omega
def Place (p : ByteArray) (x : List ByteArray) : Prop := ∀ c ∈ x, sp c <+: sp p → sp c = sp p
theorem atP_apart (p : ByteArray) : ∀ (x : List ByteArray) (d : Bool), Place p x → (x.Pairwise fun a b => Apart (sp a) (sp b)) → (atP p d x).Pairwise fun a b => Apart (sp a) (sp b)
  | [], _, _, _ => by simp [atP]
  | a :: x, d, hp, h => by
    rw [List.pairwise_cons] at h
    have hp' : Place p x := fun c hc => hp c (by simp [hc])
    have free : ∀ c ∈ x, ¬ sp p <+: sp c → ¬ sp c <+: sp p := fun c hc h1 h2 => h1 (by rw [hp' c hc h2]; exact List.prefix_refl _)
    unfold atP
    by_cases hb : sp p <+: sp a
    · rw [if_pos hb]
      cases d with
      | true => rw [if_pos rfl]; exact atP_apart p x true hp' h.2
      | false =>
        rw [if_neg (by decide), List.pairwise_cons]
        refine ⟨fun c hc => ?_, atP_apart p x true hp' h.2⟩
        rcases atP_mem p x true c hc with ⟨h1, h2⟩ | ⟨_, h2, _⟩
        · exact ⟨(ltL_block hb h2 (free c h1 h2)).2.1 (h.1 c h1).1, h2⟩
        · cases h2
    · rw [if_neg hb, List.pairwise_cons]
      refine ⟨fun c hc => ?_, atP_apart p x d hp' h.2⟩
      rcases atP_mem p x d c hc with ⟨h1, h2⟩ | ⟨h1, h2, b, h3, h4⟩
      · exact h.1 c h1
      · subst h1
        have hn : ¬ sp a <+: sp c := fun k => hb (by rw [hp a (by simp) k]; exact List.prefix_refl _)
        exact ⟨(ltL_block h4 hb hn).1.1 (h.1 b h3).1, hn⟩
theorem atP_cones (p : ByteArray) (x : List ByteArray) (hp : Place p x) (hv : validP p = true) (h : ConesG x) : ConesG (atP p false x) := by
  refine ⟨fun c hc => ?_, atP_apart p x false hp h.2⟩
  rcases atP_mem p x false c hc with ⟨h1, _⟩ | ⟨h1, _⟩
  · exact h.1 c h1
  · rw [h1]; exact hv
theorem place_common (x : List ByteArray) (h : ConesG x) (i : Nat) (hi : i + 1 < x.length) : Place (commonP (rdB x i) (rdB x (i + 1))) x := by
  intro c hc hpre
  rw [rdB_get x i (by omega), rdB_get x (i + 1) hi] at hpre ⊢
  have va := full_of_valid (h.1 _ (List.getElem_mem (show i < x.length by omega)))
  have l1 := common_left va (x[i + 1])
  have l2 := common_right va (x[i + 1])
  have hpw := List.pairwise_iff_getElem.1 h.2
  obtain ⟨j, hj, rfl⟩ := List.mem_iff_getElem.1 hc
  have key : ∀ k (hk : k < x.length), sp x[j] <+: sp x[k] → j = k := by
    intro k hk hh
    rcases Nat.lt_trichotomy j k with hlt | he | hgt
    · exact absurd hh (hpw j k hj hk hlt).2
    · exact he
    · exact absurd hh (hpw k j hk hj hgt).not_prefix
  have e1 := key i (by omega) (hpre.trans l1)
  have e2 := key (i + 1) hi (hpre.trans l2)
  omega
theorem at_shorter (x : List ByteArray) (h : ConesG x) (i : Nat) (hi : i + 1 < x.length) : (atP (commonP (rdB x i) (rdB x (i + 1))) false x).length < x.length := by
  have va := full_of_valid (h.1 _ (rdOf_mem x i (by omega)))
  have l1 := common_left va (rdB x (i + 1))
  have l2 := common_right va (rdB x (i + 1))
  have := atP_len (commonP (rdB x i) (rdB x (i + 1))) x false
  have two : 2 ≤ (x.filter fun c => decide (sp (commonP (rdB x i) (rdB x (i + 1))) <+: sp c)).length := by
    have e : x = x.take i ++ rdB x i :: rdB x (i + 1) :: x.drop (i + 2) := by
      rw [← drop_rdB x (i + 1) hi, ← drop_rdB x i (by omega), List.take_append_drop]
    generalize hq : (fun c : ByteArray => decide (sp (commonP (rdB x i) (rdB x (i + 1))) <+: sp c)) = q
    have q1 : q (rdB x i) = true := by rw [← hq]; exact decide_eq_true l1
    have q2 : q (rdB x (i + 1)) = true := by rw [← hq]; exact decide_eq_true l2
    rw [e, List.filter_append, List.filter_cons_of_pos q1, List.filter_cons_of_pos q2, List.length_append, List.length_cons, List.length_cons]
    omega
  simp at this
  omega
def shownB (x : List ByteArray) (d : Pc) : Bool := x.any (fun c => decide (sp c <+: d) || decide (d <+: sp c)) || decide (d = [])
def totalF (l : List File) (x : List ByteArray) : Nat := (l.map fun f => if shownB x (sp (dirP f.f0)) = true then f.f3.toNat else 0).sum
theorem ref_shown_l0 (x : List ByteArray) (hx : ∀ c ∈ x, Short c) (hl : x.length ≤ 2147483649) (d : ByteArray) (hd : Short d) : ∀ (m i : Nat), i + m = x.length → Ev (fun k => copseref16_shown.l0 k x d (i : Int)) (shownB (x.drop i) (sp d)) := by
  intro m
  induction m with
  | zero =>
    intro i hm
    rw [List.drop_eq_nil_of_le (by omega)]
    refine Ev.step (Ev.of (X := some (d.toList == ([] : List UInt8))) ?_) (fun k => ?_)
    · have := sp_nil (p := d)
      unfold shownB
      rw [List.any_nil, Bool.false_or, toList_eq_data]
      by_cases h : d.data.toList = []
      · rw [decide_eq_true (this.2 h), h]; rfl
      · rw [decide_eq_false (fun e => h (this.1 e))]; exact congrArg some (beq_eq_false_iff_ne.mpr h)
    · simp only [copseref16_shown.l0]
      rw [if_neg (by omega)]
  | succ m ih =>
    intro i hm
    have IH := ih (i + 1) (by omega)
    have sc := hx _ (rdOf_mem x i (by omega))
    rw [drop_rdB x i (by omega)]
    have w1 : wrap64 ((i : Int) + 1) = ((i + 1 : Nat) : Int) := by rw [wrap_id (by omega) (by omega)]; omega
    by_cases he : d.toList = (rdB x i).toList
    · have e : shownB (rdB x i :: x.drop (i + 1)) (sp d) = true := by
        have e2 : d = rdB x i := data_inj (by rw [← toList_eq_data, ← toList_eq_data]; exact he)
        unfold shownB
        rw [List.any_cons, e2, decide_eq_true (List.prefix_refl _)]; rfl
      rw [e]
      refine Ev.step (Ev.of (X := some true) rfl) (fun k => ?_)
      simp only [copseref16_shown.l0]
      rw [if_pos (by omega), if_pos (by omega), if_pos he]
    · refine Ev.step (Y := fun k => (copseref02_Above.f k (rdB x i) d).bind fun t => if t = true then some true else (copseref02_Above.f k d (rdB x i)).bind fun t2 => if t2 = true then some true else copseref16_shown.l0 k x d ((i + 1 : Nat) : Int)) (Ev.bind (ref_Above_sp _ _ sc hd) ?_) (fun k => ?_)
      · have hs : shownB (rdB x i :: x.drop (i + 1)) (sp d) = ((decide (sp (rdB x i) <+: sp d) || decide (sp d <+: sp (rdB x i))) || shownB (x.drop (i + 1)) (sp d)) := by
          unfold shownB
          rw [List.any_cons, Bool.or_assoc]
        rw [hs]
        cases h1 : aboveP (rdB x i) d with
        | true =>
          rw [decide_eq_true ((aboveP_iff _ _).1 h1).1]
          exact Ev.of rfl
        | false =>
          have hn : ¬ sp (rdB x i) <+: sp d := fun h => by
            by_cases e : sp (rdB x i) = sp d
            · exact he (by rw [sp_inj e])
            · rw [(aboveP_iff _ _).2 ⟨h, e⟩] at h1; cases h1
          rw [decide_eq_false hn, Bool.false_or]
          simp only [Bool.false_eq_true, if_false]
          refine Ev.bind (ref_Above_sp _ _ hd sc) ?_
          cases h2 : aboveP d (rdB x i) with
          | true =>
            rw [decide_eq_true ((aboveP_iff _ _).1 h2).1]
            exact Ev.of rfl
          | false =>
            have hn2 : ¬ sp d <+: sp (rdB x i) := fun h => by
              by_cases e : sp d = sp (rdB x i)
              · exact he (by rw [sp_inj e])
              · rw [(aboveP_iff _ _).2 ⟨h, e⟩] at h2; cases h2
            rw [decide_eq_false hn2, Bool.false_or]
            simp only [Bool.false_eq_true, if_false]
            exact IH
      · simp only [copseref16_shown.l0]
        rw [if_pos (by omega), if_pos (by omega), if_neg he, w1]
theorem ref_shown (x : List ByteArray) (hx : ∀ c ∈ x, Short c) (hl : x.length ≤ 2147483649) (p : ByteArray) (hp : Short p) : Ev (fun k => copseref16_shown.f k x p) (shownB x (sp (dirP p))) :=
  Ev.bind (ref_Dir_sp p hp) (ref_shown_l0 x hx hl (dirP p) (dir_short p hp) x.length 0 (by omega))
theorem ref_cost_l0 (l : List File) (hf : ShortF l) (hl : l.length ≤ 2147483649) (h3 : ∀ f ∈ l, 0 ≤ f.f3 ∧ f.f3 ≤ 4611686018427387904) (x : List ByteArray) (hx : ∀ c ∈ x, Short c) (hxl : x.length ≤ 2147483649) : ∀ (m i : Nat) (n : Nat), i + m = l.length → n ≤ 9223372036854775807 → Ev (fun k => copseref16_cost.l0 k l x (n : Int) (i : Int)) (toldN (n + totalF (l.drop i) x)) := by
  intro m
  induction m with
  | zero =>
    intro i n hm hn
    rw [List.drop_eq_nil_of_le (by omega)]
    refine Ev.step (Ev.of (X := some (n : Int)) ?_) (fun k => ?_)
    · unfold totalF toldN
      rw [List.map_nil, List.sum_nil, Nat.add_zero, if_pos hn]
    · simp only [copseref16_cost.l0]
      rw [if_neg (by omega)]
  | succ m ih =>
    intro i n hm hn
    have hmem := rdF_mem l i (by omega)
    have sc := (hf _ hmem).1
    have b3 := h3 _ hmem
    have hd : l.drop i = rdF l i :: l.drop (i + 1) := by rw [List.drop_eq_getElem_cons (by omega), rdF_get l i (by omega)]
    rw [hd]
    have w1 : wrap64 ((i : Int) + 1) = ((i + 1 : Nat) : Int) := by rw [wrap_id (by omega) (by omega)]; omega
    have ht : totalF (rdF l i :: l.drop (i + 1)) x = (if shownB x (sp (dirP (rdF l i).f0)) = true then (rdF l i).f3.toNat else 0) + totalF (l.drop (i + 1)) x := by unfold totalF; rw [List.map_cons, List.sum_cons]
    rw [ht]
    refine Ev.step (Y := fun k => (copseref16_shown.f k x (rdF l i).f0).bind fun t => if t = true then (if (n : Int) > 9223372036854775807 - (rdF l i).f3 then some 9223372036854775807 else copseref16_cost.l0 k l x (n + (rdF l i).f3) ((i + 1 : Nat) : Int)) else copseref16_cost.l0 k l x (n : Int) ((i + 1 : Nat) : Int)) (Ev.bind (ref_shown x hx hxl _ sc) ?_) (fun k => ?_)
    · cases shownB x (sp (dirP (rdF l i).f0)) with
      | false =>
        have IH := ih (i + 1) n (by omega) hn
        simp only [Bool.false_eq_true, if_false]
        rw [Nat.zero_add]
        exact IH
      | true =>
        simp only [if_true]
        by_cases hg : (n : Int) > 9223372036854775807 - (rdF l i).f3
        · refine Ev.congr (Ev.of (X := some 9223372036854775807) ?_) (fun k => by rw [if_pos hg])
          unfold toldN
          rw [if_neg (by omega)]
        · have IH := ih (i + 1) (n + (rdF l i).f3.toNat) (by omega) (by omega)
          rw [Nat.add_assoc] at IH
          refine Ev.congr IH (fun k => ?_)
          rw [if_neg hg]
          congr 1
          omega
    · simp only [copseref16_cost.l0]
      rw [if_pos (by omega), if_pos (by omega), w1, wrap_id (i := 9223372036854775807 - (rdF l i).f3) (by omega) (by omega)]
      congr 1
      funext t
      by_cases hg : (n : Int) > 9223372036854775807 - (rdF l i).f3
      · rw [if_pos hg, if_pos hg]
      · rw [if_neg hg, if_neg hg, wrap_id (i := (n : Int) + (rdF l i).f3) (by omega) (by omega)]
theorem ref_cost_sp (l : List File) (hf : ShortF l) (hl : l.length ≤ 2147483649) (h3 : ∀ f ∈ l, 0 ≤ f.f3 ∧ f.f3 ≤ 4611686018427387904) (x : List ByteArray) (hx : ∀ c ∈ x, Short c) (hxl : x.length ≤ 2147483649) : Ev (fun k => copseref16_cost.f k l x) (toldN (totalF l x)) := by
  have := ref_cost_l0 l hf hl h3 x hx hxl l.length 0 0 (by omega) (by omega)
  rw [Nat.zero_add, List.drop_zero] at this
  exact this
theorem toldN_range (n : Nat) : 0 ≤ toldN n ∧ toldN n ≤ 9223372036854775807 := by unfold toldN; split <;> omega
theorem sum_sp (a b : Nat) : merge_sum.f (toldN a) (toldN b) = some (toldN (a + b)) := by
  have hb := toldN_range b
  have ha := toldN_range a
  unfold merge_sum.f
  rw [wrap_id (i := 9223372036854775807 - toldN b) (by omega) (by omega)]
  by_cases h : toldN a > 9223372036854775807 - toldN b
  · rw [if_pos h]
    unfold toldN at h ⊢
    rw [if_neg (by split at h <;> split at h <;> omega)]
  · rw [if_neg h, wrap_id (by omega) (by omega)]
    unfold toldN at h ⊢
    by_cases h1 : a ≤ 9223372036854775807 <;> by_cases h2 : b ≤ 9223372036854775807 <;> simp only [h1, h2, if_true, if_false] at h ⊢
    · rw [if_pos (by omega)]; congr 1
    · have : a = 0 := by omega
      subst this
      rw [if_neg (by omega)]; rfl
    · have : b = 0 := by omega
      subst this
      rw [if_neg (by omega)]; rfl
    · omega
theorem Size_sp (l : List File) (c : ByteArray) (hc : Short c) : trie_Trie_Size.f (gh0 l) c = some (toldN (szOf Dsp l (sp c))) := by
  have h2 := sp_len c hc
  unfold Short at hc
  unfold trie_Trie_Size.f
  rw [path_Split_sp c (by omega), path_Depth_sp c (by omega)]
  simp only [Option.bind_some]
  rw [if_pos ⟨trivial, by omega⟩]
  rfl
theorem Own_sp (l : List File) (c : ByteArray) (hc : Short c) : trie_Trie_Own.f (gh0 l) c = some (toldN (ownOf Dsp l (sp c))) := by
  have h2 := sp_len c hc
  unfold Short at hc
  unfold trie_Trie_Own.f
  rw [path_Split_sp c (by omega), path_Depth_sp c (by omega)]
  simp only [Option.bind_some]
  rw [if_pos ⟨trivial, by omega⟩]
  rfl
def climbP : Nat → List ByteArray → ByteArray → List ByteArray
  | 0, acc, _ => acc
  | n + 1, acc, d => if ∃ a, a ∈ acc ∧ a = dirP d then acc else climbP n (acc ++ [dirP d]) (dirP d)
def aboveL (x : List ByteArray) (acc : List ByteArray) : List ByteArray := x.foldl (fun a c => climbP (sp c).length a c) acc
theorem climbP_len : ∀ (n : Nat) (acc : List ByteArray) (d : ByteArray), (climbP n acc d).length ≤ acc.length + n
  | 0, _, _ => by simp [climbP]
  | n + 1, acc, d => by
    unfold climbP
    split
    · omega
    · have := climbP_len n (acc ++ [dirP d]) (dirP d)
      simp only [List.length_append, List.length_singleton] at this
      omega
theorem contains_l0 (x : List ByteArray) (hl : x.length ≤ 9007199254740992) (c : ByteArray) : ∀ (m i : Nat), i + m = x.length → (∀ j, j < i → (rdB x j).toList ≠ c.toList) → Ev (fun k => (slices_Index_string_string.l0 k x c (x.length : Int) (i : Int)).bind fun t => some (decide (t ≥ 0))) (decide (∃ a, a ∈ x ∧ a = c)) := by
  intro m
  induction m with
  | zero =>
    intro i hm hno
    refine Ev.step (Ev.of (X := some (decide ((-1 : Int) ≥ 0))) ?_) (fun k => ?_)
    · rw [decide_eq_false (by omega), decide_eq_false]
      rintro ⟨a, ha, rfl⟩
      obtain ⟨j, hj, e⟩ := List.mem_iff_getElem.1 ha
      exact hno j (by omega) (by rw [rdB_get x j hj, e])
    · simp only [slices_Index_string_string.l0]
      rw [if_neg (by omega)]
      rfl
  | succ m ih =>
    intro i hm hno
    have w1 : wrap64 ((i : Int) + 1) = ((i + 1 : Nat) : Int) := by rw [wrap_id (by omega) (by omega)]; omega
    by_cases he : c.toList = (rdB x i).toList
    · refine Ev.step (Ev.of (X := some (decide ((i : Int) ≥ 0))) ?_) (fun k => ?_)
      · rw [decide_eq_true (by omega), decide_eq_true]
        exact ⟨rdB x i, rdOf_mem x i (by omega), data_inj (by rw [← toList_eq_data, ← toList_eq_data]; exact he.symm)⟩
      · simp only [slices_Index_string_string.l0]
        rw [if_pos (by omega), if_pos (by omega), if_pos (by omega), if_pos he]
        rfl
    · refine Ev.step (ih (i + 1) (by omega) (fun j hj => ?_)) (fun k => ?_)
      · by_cases e : j = i
        · rw [e]; exact fun k => he k.symm
        · exact hno j (by omega)
      · simp only [slices_Index_string_string.l0]
        rw [if_pos (by omega), if_pos (by omega), if_pos (by omega), if_neg he, w1]
theorem contains_sp (x : List ByteArray) (hl : x.length ≤ 9007199254740992) (c : ByteArray) : Ev (fun k => slices_Contains_string_string.f k x c) (decide (∃ a, a ∈ x ∧ a = c)) := contains_l0 x hl c x.length 0 (by omega) (fun j hj => by omega)
theorem cost_l2 (l : List File) (y : List ByteArray) (hy : ∀ c ∈ y, Short c) (hl : y.length ≤ 9007199254740992) : ∀ (m i n : Nat), i + m = y.length → Ev (fun k => merge_cost.l2 k (gh0 l) (toldN n) y (y.length : Int) (i : Int)) (toldN (n + ((y.drop i).map fun c => ownOf Dsp l (sp c)).sum)) := by
  intro m
  induction m with
  | zero =>
    intro i n hm
    rw [List.drop_eq_nil_of_le (by omega)]
    refine Ev.step (Ev.of (X := some (toldN n)) (by simp)) (fun k => ?_)
    simp only [merge_cost.l2]
    rw [if_neg (by omega)]
  | succ m ih =>
    intro i n hm
    have IH := ih (i + 1) (n + ownOf Dsp l (sp (rdB y i))) (by omega)
    have sc := hy _ (rdOf_mem y i (by omega))
    have w1 : wrap64 ((i : Int) + 1) = ((i + 1 : Nat) : Int) := by rw [wrap_id (by omega) (by omega)]; omega
    rw [drop_rdB y i (by omega), List.map_cons, List.sum_cons, ← Nat.add_assoc]
    refine Ev.step IH (fun k => ?_)
    simp only [merge_cost.l2]
    rw [if_pos (by omega), if_pos (by omega), if_pos (by omega), Own_sp l _ sc]
    simp only [Option.bind_some]
    rw [sum_sp]
    simp only [Option.bind_some]
    rw [w1]
theorem climb_valid : ∀ (n : Nat) (acc : List ByteArray) (d : ByteArray), (∀ a ∈ acc, Short a) → Short d → ∀ a ∈ climbP n acc d, Short a
  | 0, _, _, h, _ => h
  | n + 1, acc, d, h, hd => by
    unfold climbP
    split
    · exact h
    · refine climb_valid n _ _ (fun a ha => ?_) (dir_short d hd)
      rcases List.mem_append.1 ha with ha | ha
      · exact h a ha
      · rw [List.mem_singleton.1 ha]; exact dir_short d hd
theorem cost_l1 (l : List File) (x0 : List ByteArray) (n : Int) (x : List ByteArray) (i : Nat) (hx : x.length ≤ 2147483649) (hi : i < x.length) : ∀ (m : Nat) (acc : List ByteArray) (d : ByteArray), Full d → Short d → (sp d).length = m → acc.length + m ≤ 8589934592000 → (v : Int) →
    Ev (fun k => merge_cost.l0 k (gh0 l) x0 n (climbP m acc d) x (x.length : Int) ((i + 1 : Nat) : Int)) v → Ev (fun k => merge_cost.l1 k (gh0 l) x0 n acc d x (x.length : Int) (i : Int)) v := by
  have w1 : wrap64 ((i : Int) + 1) = ((i + 1 : Nat) : Int) := by rw [wrap_id (by omega) (by omega)]; omega
  intro m
  induction m with
  | zero =>
    intro acc d hf hs hm ha v h
    refine Ev.step h (fun k => ?_)
    simp only [merge_cost.l1]
    rw [if_pos (by rw [toList_eq_data]; exact sp_nil.1 (List.eq_nil_of_length_eq_zero hm)), w1]
    rfl
  | succ m ih =>
    intro acc d hf hs hm ha v h
    have hne : d.toList ≠ [] := by
      rw [toList_eq_data]
      intro e
      have := sp_nil.2 e
      rw [this] at hm
      simp at hm
    refine Ev.step (Y := fun k => (path_Dir.f k d).bind fun t => (slices_Contains_string_string.f k acc t).bind fun t2 => if t2 = true then merge_cost.l0 k (gh0 l) x0 n acc x (x.length : Int) ((i + 1 : Nat) : Int) else merge_cost.l1 k (gh0 l) x0 n (acc ++ [t]) t x (x.length : Int) (i : Int)) (Ev.bind (path_Dir_sp d hs) (Ev.bind (contains_sp acc (by omega) (dirP d)) ?_)) (fun k => ?_)
    · unfold climbP at h
      by_cases hc : ∃ a, a ∈ acc ∧ a = dirP d
      · rw [decide_eq_true hc]
        rw [if_pos hc] at h
        simp only [if_true]
        exact h
      · rw [decide_eq_false hc]
        rw [if_neg hc] at h
        simp only [Bool.false_eq_true, if_false]
        refine ih (acc ++ [dirP d]) (dirP d) (full_dir hf) (dir_short d hs) ?_ (by simp; omega) v h
        rw [sp_dir hf, List.length_dropLast, hm]
        rfl
    · simp only [merge_cost.l1]
      rw [if_neg hne, w1]
      congr 1
      funext t
      congr 1
      funext t2
      rw [if_pos (show acc.length < 8796093022208 by omega)]
def sumSz (l : List File) (x : List ByteArray) : Nat := (x.map fun c => szOf Dsp l (sp c)).sum
def sumOwn (l : List File) (x : List ByteArray) : Nat := (x.map fun c => ownOf Dsp l (sp c)).sum
theorem cost_l0 (l : List File) (x : List ByteArray) (hx : ∀ c ∈ x, Short c ∧ Full c ∧ (sp c).length ≤ 12) (hl : x.length ≤ 2147483649) : ∀ (m i : Nat) (acc : List ByteArray) (n : Nat), i + m = x.length → acc.length ≤ 12 * i → (∀ a ∈ acc, Short a) →
    Ev (fun k => merge_cost.l0 k (gh0 l) x (toldN n) acc x (x.length : Int) (i : Int)) (toldN (n + sumSz l (x.drop i) + sumOwn l (if x = [] then [⟨#[]⟩] else aboveL (x.drop i) acc))) := by
  intro m
  induction m with
  | zero =>
    intro i acc n hm ha hs
    rw [List.drop_eq_nil_of_le (by omega)]
    have e0 : n + sumSz l [] = n := by simp [sumSz]
    rw [e0]
    refine Ev.step (Y := fun k => if (x.length : Int) = 0 then merge_cost.j2 k (gh0 l) (toldN n) (acc ++ [(⟨#[]⟩ : ByteArray)]) else merge_cost.j2 k (gh0 l) (toldN n) acc) ?_ (fun k => ?_)
    · by_cases h : x = []
      · subst h
        have ha0 : acc = [] := List.eq_nil_of_length_eq_zero (by simp at hm; omega)
        subst ha0
        rw [if_pos rfl]
        refine Ev.congr (Ev.step (X := fun k => merge_cost.j2 k (gh0 l) (toldN n) [(⟨#[]⟩ : ByteArray)]) (cost_l2 l [(⟨#[]⟩ : ByteArray)] (by intro c hc; rw [List.mem_singleton.1 hc]; unfold Short; decide) (by simp) 1 0 n rfl) (fun k => ?_)) (fun k => rfl)
        simp only [merge_cost.j2]
        rfl
      · have hx0 : ¬ (x.length : Int) = 0 := by
          have := List.length_pos_iff.2 h
          omega
        rw [if_neg h]
        refine Ev.congr (Ev.step (X := fun k => merge_cost.j2 k (gh0 l) (toldN n) acc) (cost_l2 l acc hs (by omega) acc.length 0 n (by omega)) (fun k => ?_)) (fun k => by rw [if_neg hx0])
        simp only [merge_cost.j2]
        rfl
    · simp only [merge_cost.l0]
      rw [if_neg (by omega)]
      by_cases h : (x.length : Int) = 0
      · rw [if_pos h, if_pos h, if_pos (by omega)]
      · rw [if_neg h, if_neg h]
  | succ m ih =>
    intro i acc n hm ha hs
    obtain ⟨sc, fc, lc⟩ : Short (rdB x i) ∧ Full (rdB x i) ∧ (sp (rdB x i)).length ≤ 12 := hx _ (rdOf_mem x i (by omega))
    have cl := climbP_len (sp (rdB x i)).length acc (rdB x i)
    have IH := ih (i + 1) (climbP (sp (rdB x i)).length acc (rdB x i)) (n + szOf Dsp l (sp (rdB x i))) (by omega) (by omega) (climb_valid _ _ _ hs sc)
    have hd := drop_rdB x i (by omega)
    have e1 : n + sumSz l (x.drop i) = n + szOf Dsp l (sp (rdB x i)) + sumSz l (x.drop (i + 1)) := by rw [hd]; unfold sumSz; rw [List.map_cons, List.sum_cons]; omega
    have e2 : aboveL (x.drop i) acc = aboveL (x.drop (i + 1)) (climbP (sp (rdB x i)).length acc (rdB x i)) := by rw [hd]; rfl
    rw [e1, e2]
    refine Ev.step (cost_l1 l x _ x i hl (by omega) (sp (rdB x i)).length acc (rdB x i) fc sc rfl (by omega) _ IH) (fun k => ?_)
    simp only [merge_cost.l0]
    rw [if_pos (by omega), if_pos (by omega), if_pos (by omega), Size_sp l _ sc]
    simp only [Option.bind_some]
    rw [sum_sp]
    rfl
def Strict (x : List ByteArray) (D : Pc) : Prop := ∃ c ∈ x, D <+: sp c ∧ D ≠ sp c
theorem prefix_dropLast {D P : Pc} (h : D <+: P) (hn : D ≠ P) : D <+: P.dropLast := by
  rw [List.prefix_iff_eq_take] at h ⊢
  have : D.length < P.length := by
    have h1 : D.length ≤ P.length := by rw [h, List.length_take]; omega
    by_cases e : D.length = P.length
    · exact absurd (by rw [h, e, List.take_length]) hn
    · omega
  rw [List.dropLast_eq_take, List.take_take, Nat.min_eq_left (by omega)]
  exact h
theorem climb_inv (K : List ByteArray) (c : ByteArray) : ∀ (n : Nat) (acc : List ByteArray) (d : ByteArray), Full d → (sp d).length = n → sp d <+: sp c → (∀ a ∈ acc, Full a) → (acc.map sp).Nodup → (∀ D, D ∈ acc.map sp ↔ Strict K D ∨ (sp d <+: D ∧ D <+: sp c ∧ D ≠ sp c)) →
    (∀ a ∈ climbP n acc d, Full a) ∧ ((climbP n acc d).map sp).Nodup ∧ ∀ D, D ∈ (climbP n acc d).map sp ↔ Strict K D ∨ Strict [c] D := by
  have S1 : ∀ D, Strict [c] D ↔ (D <+: sp c ∧ D ≠ sp c) := fun D => by simp [Strict]
  intro n
  induction n with
  | zero =>
    intro acc d fd hl hd hf hn hm
    refine ⟨hf, hn, fun D => ?_⟩
    have e : sp d = [] := List.eq_nil_of_length_eq_zero hl
    show D ∈ acc.map sp ↔ _
    rw [hm D, S1, e]
    simp
  | succ n ih =>
    intro acc d fd hl hd hf hn hm
    have hdl := sp_dir fd
    have hll : (sp (dirP d)).length = n := by rw [hdl, List.length_dropLast, hl]; rfl
    have hpd : sp (dirP d) <+: sp d := by rw [hdl]; exact List.dropLast_prefix _
    have hne : sp (dirP d) ≠ sp d := fun e => by rw [e, hl] at hll; omega
    have hnc : sp (dirP d) ≠ sp c := fun e => by
      have h1 := hd.length_le
      rw [← e, hll, hl] at h1
      omega
    unfold climbP
    by_cases hc : ∃ a, a ∈ acc ∧ a = dirP d
    · rw [if_pos hc]
      refine ⟨hf, hn, fun D => ?_⟩
      obtain ⟨a, ha, rfl⟩ := hc
      have hin : sp (dirP d) ∈ acc.map sp := List.mem_map.2 ⟨_, ha, rfl⟩
      have hk : Strict K (sp (dirP d)) := by
        rcases (hm _).1 hin with h | h
        · exact h
        · exact absurd (List.IsPrefix.eq_of_length h.1 (by have := h.1.length_le; have := hpd.length_le; omega)) (fun e => hne e.symm)
      rw [hm D, S1]
      constructor
      · rintro (h | h)
        · exact .inl h
        · exact .inr h.2
      · rintro (h | ⟨h1, h2⟩)
        · exact .inl h
        · rcases List.prefix_or_prefix_of_prefix h1 hd with h | h
          · by_cases e : D = sp d
            · right; rw [e] at h2 ⊢; exact ⟨List.prefix_refl _, hd, h2⟩
            · left
              obtain ⟨b, hb, hb1, hb2⟩ := hk
              have hp : D <+: sp (dirP d) := by rw [hdl]; exact prefix_dropLast h e
              refine ⟨b, hb, hp.trans hb1, fun e2 => ?_⟩
              rw [e2] at hp
              exact hb2 (List.IsPrefix.eq_of_length hb1 (by have := hb1.length_le; have := hp.length_le; omega))
          · exact .inr ⟨h, h1, h2⟩
    · rw [if_neg hc]
      refine ih (acc ++ [dirP d]) (dirP d) (full_dir fd) hll (hpd.trans hd) ?_ ?_ ?_
      · intro a ha
        rcases List.mem_append.1 ha with ha | ha
        · exact hf a ha
        · rw [List.mem_singleton.1 ha]; exact full_dir fd
      · rw [List.map_append, List.map_cons, List.map_nil, List.nodup_append]
        refine ⟨hn, by simp, ?_⟩
        intro a ha b hb e
        rw [List.mem_singleton.1 hb] at e
        obtain ⟨z, hz, hz2⟩ := List.mem_map.1 ha
        exact hc ⟨z, hz, sp_inj (by rw [hz2, e])⟩
      · intro D
        rw [List.map_append, List.mem_append, hm D, List.map_cons, List.map_nil, List.mem_singleton]
        constructor
        · rintro ((h | ⟨h1, h2⟩) | h)
          · exact .inl h
          · exact .inr ⟨hpd.trans h1, h2⟩
          · rw [h]; exact .inr ⟨List.prefix_refl _, hpd.trans hd, hnc⟩
        · rintro (h | ⟨h1, h2, h3⟩)
          · exact .inl (.inl h)
          · rcases List.prefix_or_prefix_of_prefix h2 hd with h | h
            · by_cases e : D = sp d
              · left; right; rw [e] at h3 ⊢; exact ⟨List.prefix_refl _, hd, h3⟩
              · right
                have hp : D <+: sp (dirP d) := by rw [hdl]; exact prefix_dropLast h e
                exact List.IsPrefix.eq_of_length hp (by have := h1.length_le; have := hp.length_le; omega)
            · exact .inl (.inr ⟨h, h2, h3⟩)
theorem aboveL_inv : ∀ (x K acc : List ByteArray), (∀ c ∈ x, Full c) → (∀ a ∈ acc, Full a) → (acc.map sp).Nodup → (∀ D, D ∈ acc.map sp ↔ Strict K D) →
    (∀ a ∈ aboveL x acc, Full a) ∧ ((aboveL x acc).map sp).Nodup ∧ ∀ D, D ∈ (aboveL x acc).map sp ↔ Strict (x ++ K) D
  | [], K, acc, _, hf, hn, hm => ⟨hf, hn, hm⟩
  | c :: x, K, acc, hx, hf, hn, hm => by
    have fc := hx c (by simp)
    obtain ⟨h1, h2, h3⟩ := climb_inv K c (sp c).length acc c fc rfl (List.prefix_refl _) hf hn (fun D => by
      rw [hm D]
      constructor
      · exact .inl
      · rintro (h | ⟨h1, h2, h3⟩)
        · exact h
        · exact absurd (List.IsPrefix.eq_of_length h2 (by have := h1.length_le; have := h2.length_le; omega)) h3)
    have IH := aboveL_inv x (c :: K) (climbP (sp c).length acc c) (fun a ha => hx a (by simp [ha])) h1 h2 (fun D => by
      rw [h3 D]
      unfold Strict
      constructor
      · rintro (⟨b, hb, h⟩ | ⟨b, hb, h⟩)
        · exact ⟨b, by simp [hb], h⟩
        · exact ⟨b, by rw [List.mem_singleton.1 hb]; simp, h⟩
      · rintro ⟨b, hb, h⟩
        rcases List.mem_cons.1 hb with rfl | hb
        · exact .inr ⟨b, by simp, h⟩
        · exact .inl ⟨b, hb, h⟩)
    refine ⟨IH.1, IH.2.1, fun D => ?_⟩
    show D ∈ (aboveL x (climbP (sp c).length acc c)).map sp ↔ _
    rw [IH.2.2 D]
    unfold Strict
    simp only [List.mem_append, List.mem_cons, List.cons_append]
    constructor
    · rintro ⟨b, hb, h⟩; exact ⟨b, by rcases hb with hb | hb | hb <;> simp [hb], h⟩
    · rintro ⟨b, hb, h⟩; exact ⟨b, by rcases hb with hb | hb | hb <;> simp [hb], h⟩
theorem sum_none {α : Type} (P : α → Prop) [DecidablePred P] (s : Nat) : ∀ (L : List α), (∀ a ∈ L, ¬ P a) → (L.map fun a => if P a then s else 0).sum = 0
  | [], _ => rfl
  | a :: L, h => by rw [List.map_cons, List.sum_cons, if_neg (h a (by simp)), sum_none P s L (fun b hb => h b (by simp [hb]))]
theorem sum_one {α : Type} (P : α → Prop) [DecidablePred P] (s : Nat) : ∀ (L : List α), (L.Pairwise fun a b => ¬ (P a ∧ P b)) → (∃ a ∈ L, P a) → (L.map fun a => if P a then s else 0).sum = s
  | [], _, h => by obtain ⟨_, h, _⟩ := h; cases h
  | a :: L, hp, h => by
    rw [List.pairwise_cons] at hp
    rw [List.map_cons, List.sum_cons]
    by_cases ha : P a
    · rw [if_pos ha, sum_none P s L (fun b hb hPb => hp.1 b hb ⟨ha, hPb⟩)]; rfl
    · rw [if_neg ha, sum_one P s L hp.2, Nat.zero_add]
      obtain ⟨b, hb, h⟩ := h
      rcases List.mem_cons.1 hb with rfl | hb
      · exact absurd h ha
      · exact ⟨b, hb, h⟩
theorem sum_add {α : Type} (A B : α → Nat) : ∀ (L : List α), (L.map fun a => A a + B a).sum = (L.map A).sum + (L.map B).sum
  | [] => rfl
  | a :: L => by rw [List.map_cons, List.sum_cons, sum_add A B L, List.map_cons, List.sum_cons, List.map_cons, List.sum_cons]; omega
theorem shownB_iff (x : List ByteArray) (D : Pc) : shownB x D = true ↔ (∃ c ∈ x, sp c <+: D ∨ D <+: sp c) ∨ D = [] := by
  unfold shownB
  simp only [Bool.or_eq_true, List.any_eq_true, decide_eq_true_eq]
theorem count_one (x ab : List ByteArray) (hx : ConesG x) (hn : (ab.map sp).Nodup) (hm : ∀ D, D ∈ ab.map sp ↔ if x = [] then D = [] else Strict x D) (D : Pc) (s : Nat) :
    (x.map fun c => if sp c <+: D then s else 0).sum + (ab.map fun a => if sp a = D then s else 0).sum = if shownB x D = true then s else 0 := by
  have pw : x.Pairwise fun a b => ¬ (sp a <+: D ∧ sp b <+: D) := hx.2.imp (fun {a b} h k => by
    rcases List.prefix_or_prefix_of_prefix k.1 k.2 with g | g
    · exact h.2 g
    · exact h.not_prefix g)
  have pn : ab.Pairwise fun a b => ¬ (sp a = D ∧ sp b = D) := by
    have := List.pairwise_map.1 hn
    exact this.imp (fun {a b} h k => h (by rw [k.1, k.2]))
  have key : ∀ c ∈ x, ∀ c' ∈ x, sp c <+: sp c' → sp c = sp c' := by
    intro c hc c' hc' h
    obtain ⟨i, hi, rfl⟩ := List.mem_iff_getElem.1 hc
    obtain ⟨j, hj, rfl⟩ := List.mem_iff_getElem.1 hc'
    have hp := List.pairwise_iff_getElem.1 hx.2
    rcases Nat.lt_trichotomy i j with g | g | g
    · exact absurd h (hp i j hi hj g).2
    · subst g; rfl
    · exact absurd h (hp j i hj hi g).not_prefix
  by_cases h1 : ∃ c ∈ x, sp c <+: D
  · rw [sum_one (fun c => sp c <+: D) s x pw h1]
    obtain ⟨c, hc, hcD⟩ := h1
    have hne : x ≠ [] := fun e => by rw [e] at hc; cases hc
    rw [if_pos ((shownB_iff x D).2 (.inl ⟨c, hc, .inl hcD⟩))]
    rw [sum_none (fun a => sp a = D) s ab, Nat.add_zero]
    intro a ha e
    have := (hm (sp a)).1 (List.mem_map.2 ⟨a, ha, rfl⟩)
    rw [if_neg hne] at this
    obtain ⟨c', hc', g1, g2⟩ := this
    rw [e] at g1 g2
    have e2 := key c hc c' hc' (hcD.trans g1)
    rw [← e2] at g1 g2
    exact g2 (List.IsPrefix.eq_of_length g1 (by have := g1.length_le; have := hcD.length_le; omega))
  · rw [sum_none (fun c => sp c <+: D) s x (fun c hc h => h1 ⟨c, hc, h⟩), Nat.zero_add]
    by_cases h2 : shownB x D = true
    · rw [if_pos h2]
      have hD : D ∈ ab.map sp := by
        rw [hm D]
        rcases (shownB_iff x D).1 h2 with ⟨c, hc, h | h⟩ | h
        · exact absurd ⟨c, hc, h⟩ h1
        · have hne : x ≠ [] := fun e => by rw [e] at hc; cases hc
          rw [if_neg hne]
          exact ⟨c, hc, h, fun e => h1 ⟨c, hc, by rw [e]; exact List.prefix_refl _⟩⟩
        · by_cases hne : x = []
          · rw [if_pos hne]; exact h
          · rw [if_neg hne]
            obtain ⟨c, hc⟩ := List.exists_mem_of_ne_nil x hne
            subst h
            exact ⟨c, hc, List.nil_prefix, fun e => h1 ⟨c, hc, by rw [← e]; exact List.prefix_refl _⟩⟩
      obtain ⟨a, ha, e⟩ := List.mem_map.1 hD
      exact sum_one (fun a => sp a = D) s ab pn ⟨a, ha, e⟩
    · rw [if_neg h2]
      refine sum_none (fun a => sp a = D) s ab (fun a ha e => h2 ((shownB_iff x D).2 ?_))
      have := (hm (sp a)).1 (List.mem_map.2 ⟨a, ha, rfl⟩)
      rw [e] at this
      by_cases hne : x = []
      · rw [if_pos hne] at this; exact .inr this
      · rw [if_neg hne] at this
        obtain ⟨c, hc, g1, _⟩ := this
        exact .inl ⟨c, hc, .inr g1⟩
theorem total_sum (x ab : List ByteArray) (hx : ConesG x) (hn : (ab.map sp).Nodup) (hm : ∀ D, D ∈ ab.map sp ↔ if x = [] then D = [] else Strict x D) : ∀ (l : List File), (∀ f ∈ l, Short f.f0) → sumSz l x + sumOwn l ab = totalF l x
  | [], _ => by
    have z : ∀ y : List ByteArray, (y.map fun _ => 0).sum = 0 := fun y => by
      induction y with
      | nil => rfl
      | cons c y ih => rw [List.map_cons, List.sum_cons, ih]
    have e1 : sumSz [] x = 0 := z x
    have e2 : sumOwn [] ab = 0 := z ab
    rw [e1, e2]; rfl
  | f :: l, hl => by
    have IH := total_sum x ab hx hn hm l (fun g hg => hl g (by simp [hg]))
    have hD := Dsp_eq (hl f (by simp))
    have e1 : sumSz (f :: l) x = (x.map fun c => if sp c <+: Dsp f then f.f3.toNat else 0).sum + sumSz l x := by
      unfold sumSz szOf
      rw [← sum_add]
      simp only [List.map_cons, List.sum_cons]
    have e2 : sumOwn (f :: l) ab = (ab.map fun c => if sp c = Dsp f then f.f3.toNat else 0).sum + sumOwn l ab := by
      unfold sumOwn ownOf
      rw [← sum_add]
      simp only [List.map_cons, List.sum_cons]
    have e3 : totalF (f :: l) x = (if shownB x (Dsp f) = true then f.f3.toNat else 0) + totalF l x := by
      unfold totalF
      rw [List.map_cons, List.sum_cons, hD]
    have := count_one x ab hx hn hm (Dsp f) f.f3.toNat
    rw [e1, e2, e3]
    omega
theorem code_cost_sp (l : List File) (hf : ∀ f ∈ l, Short f.f0) (x : List ByteArray) (hx : ConesG x) (hl : x.length ≤ 2147483649) : Ev (fun k => merge_cost.f k (gh0 l) x) (toldN (totalF l x)) := by
  have hv : ∀ c ∈ x, Short c ∧ Full c ∧ (sp c).length ≤ 12 := fun c hc => ⟨Short.of_valid (hx.1 c hc), full_of_valid (hx.1 c hc), sp_of_valid (hx.1 c hc)⟩
  have A := cost_l0 l x hv hl x.length 0 [] 0 (by omega) (by simp) (by simp)
  rw [List.drop_zero, Nat.zero_add] at A
  have e : sumSz l x + sumOwn l (if x = [] then [⟨#[]⟩] else aboveL x []) = totalF l x := by
    by_cases h : x = []
    · rw [if_pos h]
      refine total_sum x _ hx (by simp) (fun D => ?_) l hf
      rw [if_pos h]
      simp [sp_empty]
    · rw [if_neg h]
      have I := aboveL_inv x [] [] (fun c hc => (hv c hc).2.1) (by simp) (by simp) (fun D => by simp [Strict])
      refine total_sum x _ hx I.2.1 (fun D => ?_) l hf
      rw [if_neg h, I.2.2 D, List.append_nil]
  rw [e] at A
  exact A
abbrev Cand := S81
def betterP (p : ByteArray) (c : Int) (q : ByteArray) (d : Int) : Bool := if c = d then (if (sp p).length = (sp q).length then decide (cmpP p q < 0) else decide ((sp p).length > (sp q).length)) else decide (c < d)
def bestP (b : ByteArray) (c : Int) : List Cand → ByteArray × Int
  | [] => (b, c)
  | x :: xs => if betterP x.f0 x.f1 b c = true then bestP x.f0 x.f1 xs else bestP b c xs
def candP (l : List File) (x : List ByteArray) (i : Nat) : Cand := ⟨commonP (rdB x i) (rdB x (i + 1)), toldN (totalF l (atP (commonP (rdB x i) (rdB x (i + 1))) false x))⟩
def candsP (l : List File) (x : List ByteArray) : Nat → Nat → List Cand
  | 0, _ => []
  | m + 1, i => candP l x i :: candsP l x m (i + 1)
def stepP (l : List File) (x : List ByteArray) : List ByteArray := atP (bestP (candP l x 0).f0 (candP l x 0).f1 (candsP l x (x.length - 2) 1)).1 false x
theorem better_sp (p : ByteArray) (c : Int) (q : ByteArray) (d : Int) (hp : Short p) (hq : Short q) : Ev (fun k => merge_step_1.f k p c q d) (betterP p c q d) := by
  have h1 := path_Depth_sp p (by unfold Short at hp; omega)
  have h2 := path_Depth_sp q (by unfold Short at hq; omega)
  unfold betterP
  by_cases h : c = d
  · rw [if_pos h]
    by_cases h3 : (sp p).length = (sp q).length
    · rw [if_pos h3]
      refine Ev.congr (Ev.bind (F := fun _ t => some (decide (t < 0))) (path_Cmp_sp p q hp hq) (Ev.of rfl)) (fun k => ?_)
      unfold merge_step_1.f
      rw [if_pos h, h1, h2]
      simp only [Option.bind_some]
      rw [if_pos (by omega)]
    · rw [if_neg h3]
      refine Ev.congr (Ev.of (X := some (decide ((sp p).length > (sp q).length))) rfl) (fun k => ?_)
      unfold merge_step_1.f
      rw [if_pos h, h1, h2]
      simp only [Option.bind_some]
      rw [if_neg (by omega)]
      by_cases h4 : (sp p).length > (sp q).length
      · rw [decide_eq_true h4, decide_eq_true (by omega)]
      · rw [decide_eq_false h4, decide_eq_false (by omega)]
  · rw [if_neg h]
    refine Ev.congr (Ev.of rfl) (fun k => ?_)
    unfold merge_step_1.f
    rw [if_neg h]
theorem best_go (xs : List Cand) : ∀ (b : ByteArray) (c : Int), Short b → (∀ x ∈ xs, Short x.f0) → Ev (fun k => merge_candidate.go k b c xs) (bestP b c xs) := by
  induction xs with
  | nil => intro b c _ _; exact Ev.of rfl
  | cons x xs ih =>
    intro b c hb hx
    have hx0 := hx x (by simp)
    have hxs : ∀ y ∈ xs, Short y.f0 := fun y hy => hx y (by simp [hy])
    refine Ev.bind (better_sp x.f0 x.f1 b c hx0 hb) ?_
    unfold bestP
    cases betterP x.f0 x.f1 b c with
    | true => simpa using ih x.f0 x.f1 hx0 hxs
    | false => simpa using ih b c hb hxs
theorem bestP_mem (xs : List Cand) : ∀ (b : ByteArray) (c : Int), (bestP b c xs).1 = b ∨ ∃ x ∈ xs, (bestP b c xs).1 = x.f0 := by
  induction xs with
  | nil => intro b c; exact .inl rfl
  | cons x xs ih =>
    intro b c
    unfold bestP
    cases betterP x.f0 x.f1 b c with
    | true =>
      rw [if_pos rfl]
      rcases ih x.f0 x.f1 with h | ⟨y, hy, h⟩
      · exact .inr ⟨x, by simp, h⟩
      · exact .inr ⟨y, by simp [hy], h⟩
    | false =>
      rw [if_neg (by decide)]
      rcases ih b c with h | ⟨y, hy, h⟩
      · exact .inl h
      · exact .inr ⟨y, by simp [hy], h⟩
theorem candsP_mem (l : List File) (x : List ByteArray) : ∀ (m i : Nat) (c : Cand), c ∈ candsP l x m i → ∃ j, i ≤ j ∧ j < i + m ∧ c = candP l x j
  | 0, _, _, h => by cases h
  | m + 1, i, c, h => by
    unfold candsP at h
    rcases List.mem_cons.1 h with rfl | h
    · exact ⟨i, by omega, by omega, rfl⟩
    · obtain ⟨j, h1, h2, h3⟩ := candsP_mem l x m (i + 1) c h
      exact ⟨j, by omega, by omega, h3⟩
theorem candsP_len (l : List File) (x : List ByteArray) : ∀ (m i : Nat), (candsP l x m i).length = m
  | 0, _ => rfl
  | m + 1, i => by unfold candsP; rw [List.length_cons, candsP_len l x m (i + 1)]
theorem candsP_snoc (l : List File) (x : List ByteArray) : ∀ (m i : Nat), candsP l x (m + 1) i = candsP l x m i ++ [candP l x (i + m)]
  | 0, i => rfl
  | m + 1, i => by
    have := candsP_snoc l x m (i + 1)
    rw [candsP, this, candsP, List.cons_append, show i + 1 + m = i + (m + 1) by omega]
section
variable (l : List File) (hf : ShortF l) (hl : l.length ≤ 2147483649) (h3 : ∀ f ∈ l, 0 ≤ f.f3 ∧ f.f3 ≤ 4611686018427387904) (x : List ByteArray) (hx : ConesG x) (hxl : x.length ≤ 2147483649)
include hf hl h3 hx hxl
omit hf hl h3 hxl in
theorem at_ok (i : Nat) (hi : i + 1 < x.length) : ConesG (atP (commonP (rdB x i) (rdB x (i + 1))) false x) ∧ (atP (commonP (rdB x i) (rdB x (i + 1))) false x).length < x.length ∧ validP (commonP (rdB x i) (rdB x (i + 1))) = true := by
  have v := valid_common (hx.1 _ (rdOf_mem x i (by omega))) (rdB x (i + 1))
  exact ⟨atP_cones _ x (place_common x hx i hi) v hx, at_shorter x hx i hi, v⟩
theorem code_step_l0 : ∀ (m i : Nat), i + m = x.length → 1 ≤ i → 2 ≤ x.length → Ev (fun k => merge_step.l0 k (gh0 l) x (candsP l x (i - 1) 0) (i : Int)) (stepP l x) := by
  intro m
  induction m with
  | zero =>
    intro i hm h1 h2
    have sh : ∀ c ∈ candsP l x (i - 1) 0, Short c.f0 := by
      intro c hc
      obtain ⟨j, _, h5, rfl⟩ := candsP_mem l x _ _ c hc
      exact Short.of_valid (at_ok x hx j (by omega)).2.2
    have e : candsP l x (i - 1) 0 = candP l x 0 :: candsP l x (x.length - 2) 1 := by
      rw [show i - 1 = (x.length - 2) + 1 by omega]; rfl
    have sv : ∀ y, ((bestP (candP l x 0).f0 (candP l x 0).f1 (candsP l x (x.length - 2) 1)).1 = y) → Short y := by
      intro y hy
      rw [e] at sh
      rcases bestP_mem (candsP l x (x.length - 2) 1) (candP l x 0).f0 (candP l x 0).f1 with h | ⟨z, hz, h⟩
      · rw [← hy, h]; exact sh _ (by simp)
      · rw [← hy, h]; exact sh z (by simp [hz])
    refine Ev.step (Y := fun k => (merge_candidate.f k (candsP l x (i - 1) 0) (.func (.func 57) #[] #[])).bind fun b => (merge_at.f k x b.1).bind fun t => some t) (Ev.bind (a := bestP (candP l x 0).f0 (candP l x 0).f1 (candsP l x (x.length - 2) 1)) ?_ (Ev.bind (F := fun _ t => some t) (code_at _ (sv _ rfl) x (fun c hc => Short.of_valid (hx.1 c hc)) hxl) (Ev.of rfl))) (fun k => ?_)
    · have hlen := candsP_len l x (i - 1) 0
      rw [e] at sh hlen ⊢
      refine Ev.congr (best_go _ _ _ (sh _ (by simp)) (fun y hy => sh y (by simp [hy]))) (fun k => ?_)
      unfold merge_candidate.f
      rw [if_pos ⟨rfl, by omega⟩]
    · simp only [merge_step.l0]
      rw [if_neg (by omega)]
  | succ m ih =>
    intro i hm h1 h2
    have IH := ih (i + 1) (by omega) (by omega) h2
    have w1 : wrap64 ((i : Int) + 1) = ((i + 1 : Nat) : Int) := by rw [wrap_id (by omega) (by omega)]; omega
    have w2 : wrap64 ((i : Int) - 1) = ((i - 1 : Nat) : Int) := by rw [wrap_id (by omega) (by omega)]; omega
    obtain ⟨ok, lt, v⟩ := at_ok x hx (i - 1) (by omega)
    have hi1 : i - 1 + 1 = i := by omega
    rw [hi1] at ok lt v
    have V := Short.of_valid v
    have e : candsP l x (i + 1 - 1) 0 = candsP l x (i - 1) 0 ++ [(⟨commonP (rdB x (i - 1)) (rdB x i), toldN (totalF l (atP (commonP (rdB x (i - 1)) (rdB x i)) false x))⟩ : Cand)] := by
      rw [show i + 1 - 1 = (i - 1) + 1 by omega, candsP_snoc, Nat.zero_add]
      unfold candP
      rw [hi1]
    rw [e] at IH
    have hlen := candsP_len l x (i - 1) 0
    refine Ev.step (Y := fun k => (merge_at.f k x (commonP (rdB x (i - 1)) (rdB x i))).bind fun y => (merge_cost.f k (gh0 l) y).bind fun t => merge_step.l0 k (gh0 l) x (candsP l x (i - 1) 0 ++ [(⟨commonP (rdB x (i - 1)) (rdB x i), t⟩ : Cand)]) ((i + 1 : Nat) : Int)) (Ev.bind (code_at _ V x (fun c hc => Short.of_valid (hx.1 c hc)) hxl) (Ev.bind (code_cost_sp l (fun f h => (hf f h).1) _ ok (by omega)) IH)) (fun k => ?_)
    simp only [merge_step.l0]
    have sa := Short.of_valid (hx.1 _ (rdOf_mem x (i - 1) (by omega)))
    have sb := Short.of_valid (hx.1 _ (rdOf_mem x i (by omega)))
    rw [w2, w1, if_pos (by omega), if_pos (by omega), if_pos (by omega), if_pos (by omega), path_Common_sp _ _ sa sb]
    simp only [Option.bind_some]
    congr 1
    funext y
    congr 1
    funext t
    rw [if_pos (by omega)]
theorem code_step_sp (h2 : 2 ≤ x.length) : Ev (fun k => merge_step.f k (gh0 l) x) (stepP l x) := code_step_l0 l hf hl h3 x hx hxl (x.length - 1) 1 (by omega) (by omega) h2
omit hf hl h3 in
theorem ref_at_ok (p : ByteArray) (hv : validP p = true) : Ev (fun k => copseref16_At.f k x p) (atP p false x, 0) := by
  have := ref_At_sp p (Short.of_valid hv) x (fun c hc => Short.of_valid (hx.1 c hc)) hxl
  unfold AtP at this
  rw [if_pos ((conesP_iff x).2 hx), if_pos hv] at this
  exact this
theorem ref_step_l0 : ∀ (m i : Nat) (b : ByteArray) (c : Int), i + m + 1 = x.length → 1 ≤ i → validP b = true → Ev (fun k => copseref16_step.l0 k l x b c (i : Int)) (atP (bestP b c (candsP l x m i)).1 false x) := by
  intro m
  induction m with
  | zero =>
    intro i b c hm h1 hv
    refine Ev.step (Ev.bind (F := fun _ (t : List ByteArray × Int) => some t.1) (ref_at_ok x hx hxl b hv) (Ev.of rfl)) (fun k => ?_)
    simp only [copseref16_step.l0]
    rw [wrap_id (i := (i : Int) + 1) (by omega) (by omega), if_neg (by omega)]
  | succ m ih =>
    intro i b c hm h1 hv
    have w1 : wrap64 ((i : Int) + 1) = ((i + 1 : Nat) : Int) := by rw [wrap_id (by omega) (by omega)]; omega
    obtain ⟨ok, lt, v⟩ := at_ok x hx i (by omega)
    have V := Short.of_valid v
    have B := Short.of_valid hv
    have sa := Short.of_valid (hx.1 _ (rdOf_mem x i (by omega)))
    have sb := Short.of_valid (hx.1 _ (rdOf_mem x (i + 1) (by omega)))
    have lt' : (atP (commonP (rdB x i) (rdB x (i + 1))) false x).length ≤ 2147483649 := by omega
    have yes := ih (i + 1) (candP l x i).f0 (candP l x i).f1 (by omega) (by omega) v
    have no := ih (i + 1) b c (by omega) (by omega) hv
    refine Ev.step (Y := fun k => (copseref02_Common.f k (rdB x i) (rdB x (i + 1))).bind fun t316 => (copseref16_At.f k x t316).bind fun bt317 => (copseref16_cost.f k l bt317.1).bind fun t321 => (copseref02_Split.f k t316).bind fun t322 => (copseref02_Split.f k b).bind fun t325 => if t321 < c then copseref16_step.l0 k l x t316 t321 ((i + 1 : Nat) : Int) else if t321 = c then (if (t322.length : Int) > (t325.length : Int) then copseref16_step.l0 k l x t316 t321 ((i + 1 : Nat) : Int) else if (t322.length : Int) = (t325.length : Int) then (copseref02_Cmp.f k t316 b).bind fun t328 => if t328 < 0 then copseref16_step.l0 k l x t316 t321 ((i + 1 : Nat) : Int) else copseref16_step.l0 k l x b c ((i + 1 : Nat) : Int) else copseref16_step.l0 k l x b c ((i + 1 : Nat) : Int)) else copseref16_step.l0 k l x b c ((i + 1 : Nat) : Int)) ?_ (fun k => ?_)
    · refine Ev.bind (ref_Common_sp _ _ sa sb) (Ev.bind (ref_at_ok x hx hxl _ v) (Ev.bind (ref_cost_sp l hf hl h3 _ (fun c hc => Short.of_valid (ok.1 c hc)) lt') (Ev.bind (ref_Split_sp _ (by unfold Short at V; omega)) (Ev.bind (ref_Split_sp b (by unfold Short at B; omega)) ?_))))
      show Ev (fun k => if (candP l x i).f1 < c then copseref16_step.l0 k l x (candP l x i).f0 (candP l x i).f1 ((i + 1 : Nat) : Int) else if (candP l x i).f1 = c then (if ((sp (candP l x i).f0).length : Int) > ((sp b).length : Int) then copseref16_step.l0 k l x (candP l x i).f0 (candP l x i).f1 ((i + 1 : Nat) : Int) else if ((sp (candP l x i).f0).length : Int) = ((sp b).length : Int) then (copseref02_Cmp.f k (candP l x i).f0 b).bind fun t328 => if t328 < 0 then copseref16_step.l0 k l x (candP l x i).f0 (candP l x i).f1 ((i + 1 : Nat) : Int) else copseref16_step.l0 k l x b c ((i + 1 : Nat) : Int) else copseref16_step.l0 k l x b c ((i + 1 : Nat) : Int)) else copseref16_step.l0 k l x b c ((i + 1 : Nat) : Int)) _
      have V' : Short (candP l x i).f0 := V
      rw [candsP, bestP]
      generalize candP l x i = z at *
      unfold betterP
      by_cases g1 : z.f1 < c
      · rw [if_neg (show ¬ z.f1 = c by omega), decide_eq_true g1, if_pos rfl]
        exact Ev.congr yes (fun k => by rw [if_pos g1])
      · by_cases g2 : z.f1 = c
        · rw [if_pos g2]
          by_cases g3 : (sp z.f0).length > (sp b).length
          · rw [if_neg (show ¬ (sp z.f0).length = (sp b).length by omega), decide_eq_true g3, if_pos rfl]
            exact Ev.congr yes (fun k => by rw [if_neg g1, if_pos g2, if_pos (by omega)])
          · by_cases g4 : (sp z.f0).length = (sp b).length
            · rw [if_pos g4]
              refine Ev.congr (Ev.bind (ref_Cmp_sp z.f0 b V' B) (F := fun k t => if t < 0 then copseref16_step.l0 k l x z.f0 z.f1 ((i + 1 : Nat) : Int) else copseref16_step.l0 k l x b c ((i + 1 : Nat) : Int)) ?_) (fun k => by rw [if_neg g1, if_pos g2, if_neg (by omega), if_pos (by omega)])
              by_cases g5 : cmpP z.f0 b < 0
              · rw [decide_eq_true g5, if_pos rfl]
                exact Ev.congr yes (fun k => by rw [if_pos g5])
              · rw [decide_eq_false g5, if_neg (by decide)]
                exact Ev.congr no (fun k => by rw [if_neg g5])
            · rw [if_neg g4, decide_eq_false g3, if_neg (by decide)]
              exact Ev.congr no (fun k => by rw [if_neg g1, if_pos g2, if_neg (by omega), if_neg (by omega)])
        · rw [if_neg g2, decide_eq_false g1, if_neg (by decide)]
          exact Ev.congr no (fun k => by rw [if_neg g1, if_neg g2])
    · simp only [copseref16_step.l0]
      rw [w1, if_pos (by omega), if_pos (by omega), if_pos (by omega), if_pos (by omega)]
      congr 1
      funext t316
      congr 1
      funext bt317
      congr 1
      funext t321
      congr 1
      funext t322
      congr 1
      funext t325
      rw [if_neg (by omega)]
theorem ref_step_sp (h2 : 2 ≤ x.length) : Ev (fun k => copseref16_step.f k l x) (stepP l x) := by
  obtain ⟨ok, lt, v⟩ := at_ok x hx 0 (by omega)
  rw [Nat.zero_add] at ok lt v
  have lt' : (atP (commonP (rdB x 0) (rdB x 1)) false x).length ≤ 2147483649 := by omega
  have V := Short.of_valid v
  have sa := Short.of_valid (hx.1 _ (rdOf_mem x 0 (by omega)))
  have sb := Short.of_valid (hx.1 _ (rdOf_mem x 1 (by omega)))
  have yes := ref_step_l0 l hf hl h3 x hx hxl (x.length - 2) 1 (candP l x 0).f0 (candP l x 0).f1 (by omega) (by omega) v
  refine Ev.congr (Ev.step (X := fun k => copseref16_step.l0 k l x (⟨#[]⟩ : ByteArray) 0 0) (Y := fun k => (copseref02_Common.f k (rdB x 0) (rdB x 1)).bind fun t316 => (copseref16_At.f k x t316).bind fun bt317 => (copseref16_cost.f k l bt317.1).bind fun t321 => (copseref02_Split.f k t316).bind fun t322 => (copseref02_Split.f k (⟨#[]⟩ : ByteArray)).bind fun t325 => copseref16_step.l0 k l x t316 t321 ((1 : Nat) : Int)) ?_ (fun k => ?_)) (fun k => rfl)
  · refine Ev.bind (ref_Common_sp _ _ sa sb) (Ev.bind (ref_at_ok x hx hxl _ v) (Ev.bind (ref_cost_sp l hf hl h3 _ (fun c hc => Short.of_valid (ok.1 c hc)) lt') (Ev.bind (ref_Split_sp _ (by unfold Short at V; omega)) (Ev.bind (ref_Split_sp _ (by decide)) ?_))))
    exact yes
  · simp only [copseref16_step.l0]
    rw [wrap_id (i := (0 : Int) + 1) (by omega) (by omega), if_pos (by omega), if_pos (by omega), if_pos (by omega), if_pos (by omega)]
    rfl
theorem stepP_ok (h2 : 2 ≤ x.length) : ConesG (stepP l x) ∧ (stepP l x).length < x.length := by
  unfold stepP
  obtain ⟨j, hj, e⟩ : ∃ j, j + 1 < x.length ∧ (bestP (candP l x 0).f0 (candP l x 0).f1 (candsP l x (x.length - 2) 1)).1 = (candP l x j).f0 := by
    rcases bestP_mem (candsP l x (x.length - 2) 1) (candP l x 0).f0 (candP l x 0).f1 with h | ⟨z, hz, h⟩
    · exact ⟨0, by omega, h⟩
    · obtain ⟨j, h4, h5, rfl⟩ := candsP_mem l x _ _ z hz
      exact ⟨j, by omega, h⟩
  rw [e]
  have := at_ok x hx j hj
  exact ⟨this.1, this.2.1⟩
end
def downP (l : List File) (b : Int) : Nat → List ByteArray → List ByteArray
  | 0, x => x
  | n + 1, x => if b < (x.length : Int) then downP l b n (stepP l x) else x
theorem down_sp (l : List File) (hf : ShortF l) (hl : l.length ≤ 2147483649) (h3 : ∀ f ∈ l, 0 ≤ f.f3 ∧ f.f3 ≤ 4611686018427387904) (b : Int) (hb : 1 ≤ b) : ∀ (n : Nat) (x : List ByteArray), ConesG x → x.length ≤ n → n ≤ 2147483649 → Ev (fun k => merge_Down.go k l x b) (downP l b n x) ∧ Ev (fun k => copseref16_Down.go k l x b) (downP l b n x)
  | 0, x, hx, hn, _ => by
    have e : x = [] := List.eq_nil_of_length_eq_zero (by omega)
    subst e
    constructor
    · refine Ev.step (Ev.of (X := some []) rfl) (fun k => ?_)
      simp only [merge_Down.go]
      rw [if_neg (by simp; omega)]
    · refine Ev.step (Ev.of (X := some []) rfl) (fun k => ?_)
      simp only [copseref16_Down.go]
      rw [if_neg (by simp; omega)]
  | n + 1, x, hx, hn, hN => by
    unfold downP
    by_cases h : b < (x.length : Int)
    · rw [if_pos h]
      have ok := stepP_ok l hf hl h3 x hx (by omega) (by omega)
      have IH := down_sp l hf hl h3 b hb n (stepP l x) ok.1 (by omega) (by omega)
      constructor
      · refine Ev.step (Ev.bind (F := fun k y => merge_Down.go k l y b) (code_step_sp l hf hl h3 x hx (by omega) (by omega)) IH.1) (fun k => ?_)
        simp only [merge_Down.go]
        rw [if_pos h]
      · refine Ev.step (Ev.bind (F := fun k y => copseref16_Down.go k l y b) (ref_step_sp l hf hl h3 x hx (by omega) (by omega)) IH.2) (fun k => ?_)
        simp only [copseref16_Down.go]
        rw [if_pos h]
    · rw [if_neg h]
      constructor
      · refine Ev.step (Ev.of (X := some x) rfl) (fun k => ?_)
        simp only [merge_Down.go]
        rw [if_neg h]
      · refine Ev.step (Ev.of (X := some x) rfl) (fun k => ?_)
        simp only [copseref16_Down.go]
        rw [if_neg h]
theorem same_l0 (x : List ByteArray) (hl : x.length ≤ 2147483649) : ∀ (m i : Nat), i + m = x.length → Ev (fun k => copselaw16_same.l0 k x x (i : Int)) true := by
  intro m
  induction m with
  | zero =>
    intro i hm
    refine Ev.step (Ev.of (X := some true) rfl) (fun k => ?_)
    simp only [copselaw16_same.l0]
    rw [if_neg (by omega)]
  | succ m ih =>
    intro i hm
    refine Ev.step (ih (i + 1) (by omega)) (fun k => ?_)
    simp only [copselaw16_same.l0]
    rw [if_pos (by omega), if_pos (by omega), if_pos (by omega), if_pos trivial, wrap_id (by omega) (by omega)]
    rfl
theorem same_sp (x : List ByteArray) (hl : x.length ≤ 2147483649) : Ev (fun k => copselaw16_same.f k x x) true := by
  refine Ev.congr (same_l0 x hl x.length 0 (by omega)) (fun k => ?_)
  unfold copselaw16_same.f
  rw [if_pos rfl]
  rfl
theorem clone_sp (x : List ByteArray) (h : x.length ≤ 2147483649) : slices_Clone_string_string.f x = some x := by
  unfold slices_Clone_string_string.f
  rw [if_pos (by omega)]
section
variable (l : List File) (hf : ShortF l) (hl : l.length ≤ 2147483649) (x : List ByteArray) (hx : ∀ c ∈ x, Short c) (hxl : x.length ≤ 2147483647)
include hf hl hx hxl
theorem looked_zero (h : lookedP l x = 0) : ConesG x ∧ ∀ f ∈ l, 0 ≤ f.f3 ∧ f.f3 ≤ 4611686018427387904 := by
  unfold lookedP at h
  by_cases h1 : snapP l = 0
  · rw [if_pos h1] at h
    by_cases h2 : conesP x = true
    · exact ⟨(conesP_iff x).1 h2, fun f hm => ((snapP_zero hf h1).2 f hm).2⟩
    · rw [if_neg h2] at h; omega
  · rw [if_neg h1] at h; exact absurd h h1
def CostP (l : List File) (x : List ByteArray) : Int × Int := if lookedP l x = 0 then (toldN (totalF l x), 0) else (0, lookedP l x)
def StepP (l : List File) (x : List ByteArray) : List ByteArray × Int := if lookedP l x = 0 then (if x.length < 2 then (x, 0) else (stepP l x, 0)) else ([], lookedP l x)
def DownP (l : List File) (x : List ByteArray) (b : Int) : List ByteArray × Int := if lookedP l x = 0 then (if b < 1 then ([], 6) else (downP l b x.length x, 0)) else ([], lookedP l x)
theorem merge_Cost_sp : Ev (fun k => merge_Cost.f k l x) (CostP l x) := by
  refine Ev.bind (looked_sp l x hf hl hx (by omega)) ?_
  unfold CostP
  by_cases h : lookedP l x = 0
  · simp only [if_pos h]
    exact Ev.bind (F := fun _ c => some (c, 0)) (code_cost_sp l (fun f hm => (hf f hm).1) x (looked_zero l hf hl x hx hxl h).1 (by omega)) (Ev.of rfl)
  · simp only [if_neg h]
    exact Ev.of rfl
theorem merge_Step_sp : Ev (fun k => merge_Step.f k l x) (StepP l x) := by
  refine Ev.bind (looked_sp l x hf hl hx (by omega)) ?_
  unfold StepP
  by_cases h : lookedP l x = 0
  · simp only [if_pos h]
    obtain ⟨g, h3⟩ := looked_zero l hf hl x hx hxl h
    by_cases h2 : x.length < 2
    · simp only [if_pos h2]
      exact Ev.of (by rw [clone_sp x (by omega)]; rfl)
    · simp only [if_neg h2]
      exact Ev.bind (F := fun _ c => some (c, 0)) (code_step_sp l hf hl h3 x g (by omega) (by omega)) (Ev.of rfl)
  · simp only [if_neg h]
    exact Ev.of rfl
theorem merge_Down_sp (b : Int) : Ev (fun k => merge_Down.f k l x b) (DownP l x b) := by
  refine Ev.bind (looked_sp l x hf hl hx (by omega)) ?_
  unfold DownP
  by_cases h : lookedP l x = 0
  · simp only [if_pos h]
    obtain ⟨g, h3⟩ := looked_zero l hf hl x hx hxl h
    by_cases h2 : b < 1
    · simp only [if_pos h2]
      exact Ev.of rfl
    · simp only [if_neg h2]
      refine Ev.bind (Ev.of (clone_sp x (by omega))) ?_
      exact Ev.bind (F := fun _ c => some (c, 0)) (down_sp l hf hl h3 b (by omega) x.length x g (by omega) (by omega)).1 (Ev.of rfl)
  · simp only [if_neg h]
    exact Ev.of rfl
omit hf hl hx hxl in
theorem downP_len (b : Int) : ∀ (n : Nat) (x : List ByteArray), ConesG x → 1 ≤ b → (downP l b n x).length ≤ x.length
  | 0, x, _, _ => Nat.le_refl _
  | n + 1, x, hg, hb => by
    unfold downP
    by_cases h : b < (x.length : Int)
    · rw [if_pos h]
      obtain ⟨j, hj, e⟩ : ∃ j, j + 1 < x.length ∧ (bestP (candP l x 0).f0 (candP l x 0).f1 (candsP l x (x.length - 2) 1)).1 = (candP l x j).f0 := by
        rcases bestP_mem (candsP l x (x.length - 2) 1) (candP l x 0).f0 (candP l x 0).f1 with h | ⟨z, hz, h⟩
        · exact ⟨0, by omega, h⟩
        · obtain ⟨j, h4, h5, rfl⟩ := candsP_mem l x _ _ z hz
          exact ⟨j, by omega, h⟩
      have ok := at_ok x hg j hj
      have e2 : stepP l x = atP (candP l x j).f0 false x := by unfold stepP; rw [e]
      have IH := downP_len b n (stepP l x) (by rw [e2]; exact ok.1) hb
      have : (stepP l x).length < x.length := by rw [e2]; exact ok.2.1
      omega
    · rw [if_neg h]; exact Nat.le_refl _
end
end Go.Proofs.YtnfolcefjkannaaDoor.G
namespace Go.Proofs.YtnfolcefjkannaaDoor.G
open Go.RowKit Go.Proofs.YtnfolcefjkannaaDoorW.PrintWords Go.Proofs.YtnfolcefjkannaaDoorW.PrintLast Go.Proofs.YtnfolcefjkannaaDoorW.PrintMore
attribute [local go_sem] max2_int min2_int max_two min_two max_three min_three max_four min_four
set_option linter.unusedVariables false
set_option linter.unusedSimpArgs false
def copselaw16_head.f (k : Nat)  : Option (Bool) := (copselaw16_example.f).bind fun t222 => ((merge_Cost.f k t222 (([(⟨#[97, 47, 120]⟩ : ByteArray)] : List ByteArray))).bind fun bt228 => ((merge_Cost.f k t222 ([] : List ByteArray)).bind fun bt230 => ((merge_Step.f k t222 (([(⟨#[97, 47, 120]⟩ : ByteArray), (⟨#[97, 47, 121]⟩ : ByteArray), (⟨#[98]⟩ : ByteArray)] : List ByteArray))).bind fun bt235 => ((merge_Down.f k t222 (([(⟨#[97, 47, 120]⟩ : ByteArray), (⟨#[97, 47, 121]⟩ : ByteArray), (⟨#[98]⟩ : ByteArray)] : List ByteArray)) 1).bind fun bt242 => ((merge_At.f k (([(⟨#[97, 47, 120]⟩ : ByteArray), (⟨#[97, 47, 121]⟩ : ByteArray), (⟨#[98]⟩ : ByteArray)] : List ByteArray)) (⟨#[97]⟩ : ByteArray)).bind fun bt249 => ((merge_Down.f k t222 (([(⟨#[98]⟩ : ByteArray), (⟨#[97]⟩ : ByteArray)] : List ByteArray)) 0).bind fun bt256 => (if bt228.2 = 0 then (if bt230.2 = 0 then (if bt235.2 = 0 then (if bt242.2 = 0 then (if bt249.2 = 0 then (if bt256.2 = 13 then (if bt228.1 = 8 then (if bt230.1 = 3 then ((copselaw16_same.f k bt235.1 (([(⟨#[97]⟩ : ByteArray), (⟨#[98]⟩ : ByteArray)] : List ByteArray))).bind fun t263 => (if t263 = true then ((copselaw16_same.f k bt242.1 (([(⟨#[]⟩ : ByteArray)] : List ByteArray))).bind fun t267 => (if t267 = true then ((copselaw16_same.f k bt249.1 (([(⟨#[97]⟩ : ByteArray), (⟨#[98]⟩ : ByteArray)] : List ByteArray))).bind fun t271 => (some t271)) else (some false))) else (some false))) else (some false)) else (some false)) else (some false)) else (some false)) else (some false)) else (some false)) else (some false)) else (some false))))))))
set_option maxHeartbeats 8000000 in
set_option maxRecDepth 100000 in
theorem copselaw16_head.calls (k : Nat)  (w : World) (h : copselaw16_head.f k  = some true) :
    Calls Tryd.prog 6 #[] w fun e w' => e = .returned (.bool true) ∧ Below w.heap.size w w' := by
  have HB := zA (Below.refl w.heap.size w)
  have H : ((copselaw16_example.f).bind fun t222 => ((merge_Cost.f k t222 (([(⟨#[97, 47, 120]⟩ : ByteArray)] : List ByteArray))).bind fun bt228 => ((merge_Cost.f k t222 ([] : List ByteArray)).bind fun bt230 => ((merge_Step.f k t222 (([(⟨#[97, 47, 120]⟩ : ByteArray), (⟨#[97, 47, 121]⟩ : ByteArray), (⟨#[98]⟩ : ByteArray)] : List ByteArray))).bind fun bt235 => ((merge_Down.f k t222 (([(⟨#[97, 47, 120]⟩ : ByteArray), (⟨#[97, 47, 121]⟩ : ByteArray), (⟨#[98]⟩ : ByteArray)] : List ByteArray)) 1).bind fun bt242 => ((merge_At.f k (([(⟨#[97, 47, 120]⟩ : ByteArray), (⟨#[97, 47, 121]⟩ : ByteArray), (⟨#[98]⟩ : ByteArray)] : List ByteArray)) (⟨#[97]⟩ : ByteArray)).bind fun bt249 => ((merge_Down.f k t222 (([(⟨#[98]⟩ : ByteArray), (⟨#[97]⟩ : ByteArray)] : List ByteArray)) 0).bind fun bt256 => (if bt228.2 = 0 then (if bt230.2 = 0 then (if bt235.2 = 0 then (if bt242.2 = 0 then (if bt249.2 = 0 then (if bt256.2 = 13 then (if bt228.1 = 8 then (if bt230.1 = 3 then ((copselaw16_same.f k bt235.1 (([(⟨#[97]⟩ : ByteArray), (⟨#[98]⟩ : ByteArray)] : List ByteArray))).bind fun t263 => (if t263 = true then ((copselaw16_same.f k bt242.1 (([(⟨#[]⟩ : ByteArray)] : List ByteArray))).bind fun t267 => (if t267 = true then ((copselaw16_same.f k bt249.1 (([(⟨#[97]⟩ : ByteArray), (⟨#[98]⟩ : ByteArray)] : List ByteArray))).bind fun t271 => (some t271)) else (some false))) else (some false))) else (some false)) else (some false)) else (some false)) else (some false)) else (some false)) else (some false)) else (some false)) else (some false))))))))) = some true := h
  clear h
  replace H := Option.bind_eq_some_iff.mp H
  obtain ⟨t222, A10, H⟩ := H
  replace H : ((merge_Cost.f k t222 (([(⟨#[97, 47, 120]⟩ : ByteArray)] : List ByteArray))).bind fun bt228 => ((merge_Cost.f k t222 ([] : List ByteArray)).bind fun bt230 => ((merge_Step.f k t222 (([(⟨#[97, 47, 120]⟩ : ByteArray), (⟨#[97, 47, 121]⟩ : ByteArray), (⟨#[98]⟩ : ByteArray)] : List ByteArray))).bind fun bt235 => ((merge_Down.f k t222 (([(⟨#[97, 47, 120]⟩ : ByteArray), (⟨#[97, 47, 121]⟩ : ByteArray), (⟨#[98]⟩ : ByteArray)] : List ByteArray)) 1).bind fun bt242 => ((merge_At.f k (([(⟨#[97, 47, 120]⟩ : ByteArray), (⟨#[97, 47, 121]⟩ : ByteArray), (⟨#[98]⟩ : ByteArray)] : List ByteArray)) (⟨#[97]⟩ : ByteArray)).bind fun bt249 => ((merge_Down.f k t222 (([(⟨#[98]⟩ : ByteArray), (⟨#[97]⟩ : ByteArray)] : List ByteArray)) 0).bind fun bt256 => (if bt228.2 = 0 then (if bt230.2 = 0 then (if bt235.2 = 0 then (if bt242.2 = 0 then (if bt249.2 = 0 then (if bt256.2 = 13 then (if bt228.1 = 8 then (if bt230.1 = 3 then ((copselaw16_same.f k bt235.1 (([(⟨#[97]⟩ : ByteArray), (⟨#[98]⟩ : ByteArray)] : List ByteArray))).bind fun t263 => (if t263 = true then ((copselaw16_same.f k bt242.1 (([(⟨#[]⟩ : ByteArray)] : List ByteArray))).bind fun t267 => (if t267 = true then ((copselaw16_same.f k bt249.1 (([(⟨#[97]⟩ : ByteArray), (⟨#[98]⟩ : ByteArray)] : List ByteArray))).bind fun t271 => (some t271)) else (some false))) else (some false))) else (some false)) else (some false)) else (some false)) else (some false)) else (some false)) else (some false)) else (some false)) else (some false)))))))) = some true := H
  have A1 := zA A10
  clear A10
  obtain ⟨y225, hy225⟩ : ∃ y_ : List ByteArray, y_ = (([(⟨#[97, 47, 120]⟩ : ByteArray)] : List ByteArray)) := ⟨_, rfl⟩
  replace H : ((merge_Cost.f k t222 y225).bind fun bt228 => ((merge_Cost.f k t222 ([] : List ByteArray)).bind fun bt230 => ((merge_Step.f k t222 (([(⟨#[97, 47, 120]⟩ : ByteArray), (⟨#[97, 47, 121]⟩ : ByteArray), (⟨#[98]⟩ : ByteArray)] : List ByteArray))).bind fun bt235 => ((merge_Down.f k t222 (([(⟨#[97, 47, 120]⟩ : ByteArray), (⟨#[97, 47, 121]⟩ : ByteArray), (⟨#[98]⟩ : ByteArray)] : List ByteArray)) 1).bind fun bt242 => ((merge_At.f k (([(⟨#[97, 47, 120]⟩ : ByteArray), (⟨#[97, 47, 121]⟩ : ByteArray), (⟨#[98]⟩ : ByteArray)] : List ByteArray)) (⟨#[97]⟩ : ByteArray)).bind fun bt249 => ((merge_Down.f k t222 (([(⟨#[98]⟩ : ByteArray), (⟨#[97]⟩ : ByteArray)] : List ByteArray)) 0).bind fun bt256 => (if bt228.2 = 0 then (if bt230.2 = 0 then (if bt235.2 = 0 then (if bt242.2 = 0 then (if bt249.2 = 0 then (if bt256.2 = 13 then (if bt228.1 = 8 then (if bt230.1 = 3 then ((copselaw16_same.f k bt235.1 (([(⟨#[97]⟩ : ByteArray), (⟨#[98]⟩ : ByteArray)] : List ByteArray))).bind fun t263 => (if t263 = true then ((copselaw16_same.f k bt242.1 (([(⟨#[]⟩ : ByteArray)] : List ByteArray))).bind fun t267 => (if t267 = true then ((copselaw16_same.f k bt249.1 (([(⟨#[97]⟩ : ByteArray), (⟨#[98]⟩ : ByteArray)] : List ByteArray))).bind fun t271 => (some t271)) else (some false))) else (some false))) else (some false)) else (some false)) else (some false)) else (some false)) else (some false)) else (some false)) else (some false)) else (some false)))))))) = some true := by first | (rw [hy225]; with_reducible exact H) | (have H2_ := (Option.bind_some _ _).symm.trans H; rw [hy225]; with_reducible exact H2_) | (have H2_ := (Option.bind_some _ _).symm.trans H; with_reducible exact H2_) | with_reducible exact H | (rw [hy225]; exact H) | exact H
  have Ny225 := zA hy225
  clear hy225
  replace H := Option.bind_eq_some_iff.mp H
  obtain ⟨⟨t228, t229⟩, A20, H⟩ := H
  replace H : ((merge_Cost.f k t222 ([] : List ByteArray)).bind fun bt230 => ((merge_Step.f k t222 (([(⟨#[97, 47, 120]⟩ : ByteArray), (⟨#[97, 47, 121]⟩ : ByteArray), (⟨#[98]⟩ : ByteArray)] : List ByteArray))).bind fun bt235 => ((merge_Down.f k t222 (([(⟨#[97, 47, 120]⟩ : ByteArray), (⟨#[97, 47, 121]⟩ : ByteArray), (⟨#[98]⟩ : ByteArray)] : List ByteArray)) 1).bind fun bt242 => ((merge_At.f k (([(⟨#[97, 47, 120]⟩ : ByteArray), (⟨#[97, 47, 121]⟩ : ByteArray), (⟨#[98]⟩ : ByteArray)] : List ByteArray)) (⟨#[97]⟩ : ByteArray)).bind fun bt249 => ((merge_Down.f k t222 (([(⟨#[98]⟩ : ByteArray), (⟨#[97]⟩ : ByteArray)] : List ByteArray)) 0).bind fun bt256 => (if t229 = 0 then (if bt230.2 = 0 then (if bt235.2 = 0 then (if bt242.2 = 0 then (if bt249.2 = 0 then (if bt256.2 = 13 then (if t228 = 8 then (if bt230.1 = 3 then ((copselaw16_same.f k bt235.1 (([(⟨#[97]⟩ : ByteArray), (⟨#[98]⟩ : ByteArray)] : List ByteArray))).bind fun t263 => (if t263 = true then ((copselaw16_same.f k bt242.1 (([(⟨#[]⟩ : ByteArray)] : List ByteArray))).bind fun t267 => (if t267 = true then ((copselaw16_same.f k bt249.1 (([(⟨#[97]⟩ : ByteArray), (⟨#[98]⟩ : ByteArray)] : List ByteArray))).bind fun t271 => (some t271)) else (some false))) else (some false))) else (some false)) else (some false)) else (some false)) else (some false)) else (some false)) else (some false)) else (some false)) else (some false))))))) = some true := H
  have A2 := zA A20
  clear A20
  replace H := Option.bind_eq_some_iff.mp H
  obtain ⟨⟨t230, t231⟩, A30, H⟩ := H
  replace H : ((merge_Step.f k t222 (([(⟨#[97, 47, 120]⟩ : ByteArray), (⟨#[97, 47, 121]⟩ : ByteArray), (⟨#[98]⟩ : ByteArray)] : List ByteArray))).bind fun bt235 => ((merge_Down.f k t222 (([(⟨#[97, 47, 120]⟩ : ByteArray), (⟨#[97, 47, 121]⟩ : ByteArray), (⟨#[98]⟩ : ByteArray)] : List ByteArray)) 1).bind fun bt242 => ((merge_At.f k (([(⟨#[97, 47, 120]⟩ : ByteArray), (⟨#[97, 47, 121]⟩ : ByteArray), (⟨#[98]⟩ : ByteArray)] : List ByteArray)) (⟨#[97]⟩ : ByteArray)).bind fun bt249 => ((merge_Down.f k t222 (([(⟨#[98]⟩ : ByteArray), (⟨#[97]⟩ : ByteArray)] : List ByteArray)) 0).bind fun bt256 => (if t229 = 0 then (if t231 = 0 then (if bt235.2 = 0 then (if bt242.2 = 0 then (if bt249.2 = 0 then (if bt256.2 = 13 then (if t228 = 8 then (if t230 = 3 then ((copselaw16_same.f k bt235.1 (([(⟨#[97]⟩ : ByteArray), (⟨#[98]⟩ : ByteArray)] : List ByteArray))).bind fun t263 => (if t263 = true then ((copselaw16_same.f k bt242.1 (([(⟨#[]⟩ : ByteArray)] : List ByteArray))).bind fun t267 => (if t267 = true then ((copselaw16_same.f k bt249.1 (([(⟨#[97]⟩ : ByteArray), (⟨#[98]⟩ : ByteArray)] : List ByteArray))).bind fun t271 => (some t271)) else (some false))) else (some false))) else (some false)) else (some false)) else (some false)) else (some false)) else (some false)) else (some false)) else (some false)) else (some false)))))) = some true := H
  have A3 := zA A30
  clear A30
  obtain ⟨y232, hy232⟩ : ∃ y_ : List ByteArray, y_ = (([(⟨#[97, 47, 120]⟩ : ByteArray), (⟨#[97, 47, 121]⟩ : ByteArray), (⟨#[98]⟩ : ByteArray)] : List ByteArray)) := ⟨_, rfl⟩
  replace H : ((merge_Step.f k t222 y232).bind fun bt235 => ((merge_Down.f k t222 (([(⟨#[97, 47, 120]⟩ : ByteArray), (⟨#[97, 47, 121]⟩ : ByteArray), (⟨#[98]⟩ : ByteArray)] : List ByteArray)) 1).bind fun bt242 => ((merge_At.f k (([(⟨#[97, 47, 120]⟩ : ByteArray), (⟨#[97, 47, 121]⟩ : ByteArray), (⟨#[98]⟩ : ByteArray)] : List ByteArray)) (⟨#[97]⟩ : ByteArray)).bind fun bt249 => ((merge_Down.f k t222 (([(⟨#[98]⟩ : ByteArray), (⟨#[97]⟩ : ByteArray)] : List ByteArray)) 0).bind fun bt256 => (if t229 = 0 then (if t231 = 0 then (if bt235.2 = 0 then (if bt242.2 = 0 then (if bt249.2 = 0 then (if bt256.2 = 13 then (if t228 = 8 then (if t230 = 3 then ((copselaw16_same.f k bt235.1 (([(⟨#[97]⟩ : ByteArray), (⟨#[98]⟩ : ByteArray)] : List ByteArray))).bind fun t263 => (if t263 = true then ((copselaw16_same.f k bt242.1 (([(⟨#[]⟩ : ByteArray)] : List ByteArray))).bind fun t267 => (if t267 = true then ((copselaw16_same.f k bt249.1 (([(⟨#[97]⟩ : ByteArray), (⟨#[98]⟩ : ByteArray)] : List ByteArray))).bind fun t271 => (some t271)) else (some false))) else (some false))) else (some false)) else (some false)) else (some false)) else (some false)) else (some false)) else (some false)) else (some false)) else (some false)))))) = some true := by first | (rw [hy232]; with_reducible exact H) | (have H2_ := (Option.bind_some _ _).symm.trans H; rw [hy232]; with_reducible exact H2_) | (have H2_ := (Option.bind_some _ _).symm.trans H; with_reducible exact H2_) | with_reducible exact H | (rw [hy232]; exact H) | exact H
  have Ny232 := zA hy232
  clear hy232
  replace H := Option.bind_eq_some_iff.mp H
  obtain ⟨⟨t235, t236⟩, A40, H⟩ := H
  replace H : ((merge_Down.f k t222 (([(⟨#[97, 47, 120]⟩ : ByteArray), (⟨#[97, 47, 121]⟩ : ByteArray), (⟨#[98]⟩ : ByteArray)] : List ByteArray)) 1).bind fun bt242 => ((merge_At.f k (([(⟨#[97, 47, 120]⟩ : ByteArray), (⟨#[97, 47, 121]⟩ : ByteArray), (⟨#[98]⟩ : ByteArray)] : List ByteArray)) (⟨#[97]⟩ : ByteArray)).bind fun bt249 => ((merge_Down.f k t222 (([(⟨#[98]⟩ : ByteArray), (⟨#[97]⟩ : ByteArray)] : List ByteArray)) 0).bind fun bt256 => (if t229 = 0 then (if t231 = 0 then (if t236 = 0 then (if bt242.2 = 0 then (if bt249.2 = 0 then (if bt256.2 = 13 then (if t228 = 8 then (if t230 = 3 then ((copselaw16_same.f k t235 (([(⟨#[97]⟩ : ByteArray), (⟨#[98]⟩ : ByteArray)] : List ByteArray))).bind fun t263 => (if t263 = true then ((copselaw16_same.f k bt242.1 (([(⟨#[]⟩ : ByteArray)] : List ByteArray))).bind fun t267 => (if t267 = true then ((copselaw16_same.f k bt249.1 (([(⟨#[97]⟩ : ByteArray), (⟨#[98]⟩ : ByteArray)] : List ByteArray))).bind fun t271 => (some t271)) else (some false))) else (some false))) else (some false)) else (some false)) else (some false)) else (some false)) else (some false)) else (some false)) else (some false)) else (some false))))) = some true := H
  have A4 := zA A40
  clear A40
  obtain ⟨y239, hy239⟩ : ∃ y_ : List ByteArray, y_ = (([(⟨#[97, 47, 120]⟩ : ByteArray), (⟨#[97, 47, 121]⟩ : ByteArray), (⟨#[98]⟩ : ByteArray)] : List ByteArray)) := ⟨_, rfl⟩
  replace H : ((merge_Down.f k t222 y239 1).bind fun bt242 => ((merge_At.f k (([(⟨#[97, 47, 120]⟩ : ByteArray), (⟨#[97, 47, 121]⟩ : ByteArray), (⟨#[98]⟩ : ByteArray)] : List ByteArray)) (⟨#[97]⟩ : ByteArray)).bind fun bt249 => ((merge_Down.f k t222 (([(⟨#[98]⟩ : ByteArray), (⟨#[97]⟩ : ByteArray)] : List ByteArray)) 0).bind fun bt256 => (if t229 = 0 then (if t231 = 0 then (if t236 = 0 then (if bt242.2 = 0 then (if bt249.2 = 0 then (if bt256.2 = 13 then (if t228 = 8 then (if t230 = 3 then ((copselaw16_same.f k t235 (([(⟨#[97]⟩ : ByteArray), (⟨#[98]⟩ : ByteArray)] : List ByteArray))).bind fun t263 => (if t263 = true then ((copselaw16_same.f k bt242.1 (([(⟨#[]⟩ : ByteArray)] : List ByteArray))).bind fun t267 => (if t267 = true then ((copselaw16_same.f k bt249.1 (([(⟨#[97]⟩ : ByteArray), (⟨#[98]⟩ : ByteArray)] : List ByteArray))).bind fun t271 => (some t271)) else (some false))) else (some false))) else (some false)) else (some false)) else (some false)) else (some false)) else (some false)) else (some false)) else (some false)) else (some false))))) = some true := by first | (rw [hy239]; with_reducible exact H) | (have H2_ := (Option.bind_some _ _).symm.trans H; rw [hy239]; with_reducible exact H2_) | (have H2_ := (Option.bind_some _ _).symm.trans H; with_reducible exact H2_) | with_reducible exact H | (rw [hy239]; exact H) | exact H
  have Ny239 := zA hy239
  clear hy239
  replace H := Option.bind_eq_some_iff.mp H
  obtain ⟨⟨t242, t243⟩, A50, H⟩ := H
  replace H : ((merge_At.f k (([(⟨#[97, 47, 120]⟩ : ByteArray), (⟨#[97, 47, 121]⟩ : ByteArray), (⟨#[98]⟩ : ByteArray)] : List ByteArray)) (⟨#[97]⟩ : ByteArray)).bind fun bt249 => ((merge_Down.f k t222 (([(⟨#[98]⟩ : ByteArray), (⟨#[97]⟩ : ByteArray)] : List ByteArray)) 0).bind fun bt256 => (if t229 = 0 then (if t231 = 0 then (if t236 = 0 then (if t243 = 0 then (if bt249.2 = 0 then (if bt256.2 = 13 then (if t228 = 8 then (if t230 = 3 then ((copselaw16_same.f k t235 (([(⟨#[97]⟩ : ByteArray), (⟨#[98]⟩ : ByteArray)] : List ByteArray))).bind fun t263 => (if t263 = true then ((copselaw16_same.f k t242 (([(⟨#[]⟩ : ByteArray)] : List ByteArray))).bind fun t267 => (if t267 = true then ((copselaw16_same.f k bt249.1 (([(⟨#[97]⟩ : ByteArray), (⟨#[98]⟩ : ByteArray)] : List ByteArray))).bind fun t271 => (some t271)) else (some false))) else (some false))) else (some false)) else (some false)) else (some false)) else (some false)) else (some false)) else (some false)) else (some false)) else (some false)))) = some true := H
  have A5 := zA A50
  clear A50
  obtain ⟨y246, hy246⟩ : ∃ y_ : List ByteArray, y_ = (([(⟨#[97, 47, 120]⟩ : ByteArray), (⟨#[97, 47, 121]⟩ : ByteArray), (⟨#[98]⟩ : ByteArray)] : List ByteArray)) := ⟨_, rfl⟩
  replace H : ((merge_At.f k y246 (⟨#[97]⟩ : ByteArray)).bind fun bt249 => ((merge_Down.f k t222 (([(⟨#[98]⟩ : ByteArray), (⟨#[97]⟩ : ByteArray)] : List ByteArray)) 0).bind fun bt256 => (if t229 = 0 then (if t231 = 0 then (if t236 = 0 then (if t243 = 0 then (if bt249.2 = 0 then (if bt256.2 = 13 then (if t228 = 8 then (if t230 = 3 then ((copselaw16_same.f k t235 (([(⟨#[97]⟩ : ByteArray), (⟨#[98]⟩ : ByteArray)] : List ByteArray))).bind fun t263 => (if t263 = true then ((copselaw16_same.f k t242 (([(⟨#[]⟩ : ByteArray)] : List ByteArray))).bind fun t267 => (if t267 = true then ((copselaw16_same.f k bt249.1 (([(⟨#[97]⟩ : ByteArray), (⟨#[98]⟩ : ByteArray)] : List ByteArray))).bind fun t271 => (some t271)) else (some false))) else (some false))) else (some false)) else (some false)) else (some false)) else (some false)) else (some false)) else (some false)) else (some false)) else (some false)))) = some true := by first | (rw [hy246]; with_reducible exact H) | (have H2_ := (Option.bind_some _ _).symm.trans H; rw [hy246]; with_reducible exact H2_) | (have H2_ := (Option.bind_some _ _).symm.trans H; with_reducible exact H2_) | with_reducible exact H | (rw [hy246]; exact H) | exact H
  have Ny246 := zA hy246
  clear hy246
  replace H := Option.bind_eq_some_iff.mp H
  obtain ⟨⟨t249, t250⟩, A60, H⟩ := H
  replace H : ((merge_Down.f k t222 (([(⟨#[98]⟩ : ByteArray), (⟨#[97]⟩ : ByteArray)] : List ByteArray)) 0).bind fun bt256 => (if t229 = 0 then (if t231 = 0 then (if t236 = 0 then (if t243 = 0 then (if t250 = 0 then (if bt256.2 = 13 then (if t228 = 8 then (if t230 = 3 then ((copselaw16_same.f k t235 (([(⟨#[97]⟩ : ByteArray), (⟨#[98]⟩ : ByteArray)] : List ByteArray))).bind fun t263 => (if t263 = true then ((copselaw16_same.f k t242 (([(⟨#[]⟩ : ByteArray)] : List ByteArray))).bind fun t267 => (if t267 = true then ((copselaw16_same.f k t249 (([(⟨#[97]⟩ : ByteArray), (⟨#[98]⟩ : ByteArray)] : List ByteArray))).bind fun t271 => (some t271)) else (some false))) else (some false))) else (some false)) else (some false)) else (some false)) else (some false)) else (some false)) else (some false)) else (some false)) else (some false))) = some true := H
  have A6 := zA A60
  clear A60
  obtain ⟨y253, hy253⟩ : ∃ y_ : List ByteArray, y_ = (([(⟨#[98]⟩ : ByteArray), (⟨#[97]⟩ : ByteArray)] : List ByteArray)) := ⟨_, rfl⟩
  replace H : ((merge_Down.f k t222 y253 0).bind fun bt256 => (if t229 = 0 then (if t231 = 0 then (if t236 = 0 then (if t243 = 0 then (if t250 = 0 then (if bt256.2 = 13 then (if t228 = 8 then (if t230 = 3 then ((copselaw16_same.f k t235 (([(⟨#[97]⟩ : ByteArray), (⟨#[98]⟩ : ByteArray)] : List ByteArray))).bind fun t263 => (if t263 = true then ((copselaw16_same.f k t242 (([(⟨#[]⟩ : ByteArray)] : List ByteArray))).bind fun t267 => (if t267 = true then ((copselaw16_same.f k t249 (([(⟨#[97]⟩ : ByteArray), (⟨#[98]⟩ : ByteArray)] : List ByteArray))).bind fun t271 => (some t271)) else (some false))) else (some false))) else (some false)) else (some false)) else (some false)) else (some false)) else (some false)) else (some false)) else (some false)) else (some false))) = some true := by first | (rw [hy253]; with_reducible exact H) | (have H2_ := (Option.bind_some _ _).symm.trans H; rw [hy253]; with_reducible exact H2_) | (have H2_ := (Option.bind_some _ _).symm.trans H; with_reducible exact H2_) | with_reducible exact H | (rw [hy253]; exact H) | exact H
  have Ny253 := zA hy253
  clear hy253
  replace H := Option.bind_eq_some_iff.mp H
  obtain ⟨⟨t256, t257⟩, A70, H⟩ := H
  replace H : (if t229 = 0 then (if t231 = 0 then (if t236 = 0 then (if t243 = 0 then (if t250 = 0 then (if t257 = 13 then (if t228 = 8 then (if t230 = 3 then ((copselaw16_same.f k t235 (([(⟨#[97]⟩ : ByteArray), (⟨#[98]⟩ : ByteArray)] : List ByteArray))).bind fun t263 => (if t263 = true then ((copselaw16_same.f k t242 (([(⟨#[]⟩ : ByteArray)] : List ByteArray))).bind fun t267 => (if t267 = true then ((copselaw16_same.f k t249 (([(⟨#[97]⟩ : ByteArray), (⟨#[98]⟩ : ByteArray)] : List ByteArray))).bind fun t271 => (some t271)) else (some false))) else (some false))) else (some false)) else (some false)) else (some false)) else (some false)) else (some false)) else (some false)) else (some false)) else (some false)) = some true := H
  have A7 := zA A70
  clear A70
  by_cases c8 : t229 = 0
  · rw [if_pos c8] at H
    have c8b0 : (t229 == 0) = true := beq_iff_eq.mpr c8
    have c8b1 : (t229 != 0) = false := bne_eq_false_iff_eq.mpr c8
    clear c8
    by_cases c9 : t231 = 0
    · rw [if_pos c9] at H
      have c9b0 : (t231 == 0) = true := beq_iff_eq.mpr c9
      have c9b1 : (t231 != 0) = false := bne_eq_false_iff_eq.mpr c9
      clear c9
      by_cases c10 : t236 = 0
      · rw [if_pos c10] at H
        have c10b0 : (t236 == 0) = true := beq_iff_eq.mpr c10
        have c10b1 : (t236 != 0) = false := bne_eq_false_iff_eq.mpr c10
        clear c10
        by_cases c11 : t243 = 0
        · rw [if_pos c11] at H
          have c11b0 : (t243 == 0) = true := beq_iff_eq.mpr c11
          have c11b1 : (t243 != 0) = false := bne_eq_false_iff_eq.mpr c11
          clear c11
          by_cases c12 : t250 = 0
          · rw [if_pos c12] at H
            have c12b0 : (t250 == 0) = true := beq_iff_eq.mpr c12
            have c12b1 : (t250 != 0) = false := bne_eq_false_iff_eq.mpr c12
            clear c12
            by_cases c13 : t257 = 13
            · rw [if_pos c13] at H
              have c13b0 : (t257 == 13) = true := beq_iff_eq.mpr c13
              have c13b1 : (t257 != 13) = false := bne_eq_false_iff_eq.mpr c13
              clear c13
              by_cases c14 : t228 = 8
              · rw [if_pos c14] at H
                have c14b0 : (t228 == 8) = true := beq_iff_eq.mpr c14
                have c14b1 : (t228 != 8) = false := bne_eq_false_iff_eq.mpr c14
                clear c14
                by_cases c15 : t230 = 3
                · rw [if_pos c15] at H
                  have c15b0 : (t230 == 3) = true := beq_iff_eq.mpr c15
                  have c15b1 : (t230 != 3) = false := bne_eq_false_iff_eq.mpr c15
                  clear c15
                  obtain ⟨y260, hy260⟩ : ∃ y_ : List ByteArray, y_ = (([(⟨#[97]⟩ : ByteArray), (⟨#[98]⟩ : ByteArray)] : List ByteArray)) := ⟨_, rfl⟩
                  replace H : ((copselaw16_same.f k t235 y260).bind fun t263 => (if t263 = true then ((copselaw16_same.f k t242 (([(⟨#[]⟩ : ByteArray)] : List ByteArray))).bind fun t267 => (if t267 = true then ((copselaw16_same.f k t249 (([(⟨#[97]⟩ : ByteArray), (⟨#[98]⟩ : ByteArray)] : List ByteArray))).bind fun t271 => (some t271)) else (some false))) else (some false))) = some true := by first | (rw [hy260]; with_reducible exact H) | (have H2_ := (Option.bind_some _ _).symm.trans H; rw [hy260]; with_reducible exact H2_) | (have H2_ := (Option.bind_some _ _).symm.trans H; with_reducible exact H2_) | with_reducible exact H | (rw [hy260]; exact H) | exact H
                  have Ny260 := zA hy260
                  clear hy260
                  replace H := Option.bind_eq_some_iff.mp H
                  obtain ⟨t263, A160, H⟩ := H
                  replace H : (if t263 = true then ((copselaw16_same.f k t242 (([(⟨#[]⟩ : ByteArray)] : List ByteArray))).bind fun t267 => (if t267 = true then ((copselaw16_same.f k t249 (([(⟨#[97]⟩ : ByteArray), (⟨#[98]⟩ : ByteArray)] : List ByteArray))).bind fun t271 => (some t271)) else (some false))) else (some false)) = some true := H
                  have A16 := zA A160
                  clear A160
                  by_cases c17 : t263 = true
                  · subst c17
                    have H1 : ((copselaw16_same.f k t242 (([(⟨#[]⟩ : ByteArray)] : List ByteArray))).bind fun t267 => (if t267 = true then ((copselaw16_same.f k t249 (([(⟨#[97]⟩ : ByteArray), (⟨#[98]⟩ : ByteArray)] : List ByteArray))).bind fun t271 => (some t271)) else (some false))) = some true := by rw [if_pos rfl] at H; exact H
                    clear H
                    have H := H1
                    clear H1
                    obtain ⟨y264, hy264⟩ : ∃ y_ : List ByteArray, y_ = (([(⟨#[]⟩ : ByteArray)] : List ByteArray)) := ⟨_, rfl⟩
                    replace H : ((copselaw16_same.f k t242 y264).bind fun t267 => (if t267 = true then ((copselaw16_same.f k t249 (([(⟨#[97]⟩ : ByteArray), (⟨#[98]⟩ : ByteArray)] : List ByteArray))).bind fun t271 => (some t271)) else (some false))) = some true := by first | (rw [hy264]; with_reducible exact H) | (have H2_ := (Option.bind_some _ _).symm.trans H; rw [hy264]; with_reducible exact H2_) | (have H2_ := (Option.bind_some _ _).symm.trans H; with_reducible exact H2_) | with_reducible exact H | (rw [hy264]; exact H) | exact H
                    have Ny264 := zA hy264
                    clear hy264
                    replace H := Option.bind_eq_some_iff.mp H
                    obtain ⟨t267, A180, H⟩ := H
                    replace H : (if t267 = true then ((copselaw16_same.f k t249 (([(⟨#[97]⟩ : ByteArray), (⟨#[98]⟩ : ByteArray)] : List ByteArray))).bind fun t271 => (some t271)) else (some false)) = some true := H
                    have A18 := zA A180
                    clear A180
                    by_cases c19 : t267 = true
                    · subst c19
                      have H1 : ((copselaw16_same.f k t249 (([(⟨#[97]⟩ : ByteArray), (⟨#[98]⟩ : ByteArray)] : List ByteArray))).bind fun t271 => (some t271)) = some true := by rw [if_pos rfl] at H; exact H
                      clear H
                      have H := H1
                      clear H1
                      obtain ⟨y268, hy268⟩ : ∃ y_ : List ByteArray, y_ = (([(⟨#[97]⟩ : ByteArray), (⟨#[98]⟩ : ByteArray)] : List ByteArray)) := ⟨_, rfl⟩
                      replace H : ((copselaw16_same.f k t249 y268).bind fun t271 => (some t271)) = some true := by first | (rw [hy268]; with_reducible exact H) | (have H2_ := (Option.bind_some _ _).symm.trans H; rw [hy268]; with_reducible exact H2_) | (have H2_ := (Option.bind_some _ _).symm.trans H; with_reducible exact H2_) | with_reducible exact H | (rw [hy268]; exact H) | exact H
                      have Ny268 := zA hy268
                      clear hy268
                      replace H := Option.bind_eq_some_iff.mp H
                      obtain ⟨t271, A200, H⟩ := H
                      replace H : (some t271) = some true := H
                      have A20 := zA A200
                      clear A200
                      obtain rfl := Option.some.inj H
                      go_enter Tryd.func6, Tryd.ntmps6
                      go_wp2_with (first | ((with_reducible refine gate_callee (f := 23) rfl ?_); refine goesL_ (some 14) rfl rfl Tryd.func23 (by kernel_rfl) rfl #[] rfl (by (try simp only [List.map_toArray, List.map_cons, List.map_nil]); first | done | rfl | (simp only [List.length_drop, List.length_take]; rfl)) ?_; (with_reducible refine (copselaw16_example.calls  t222 _ A1.out).mono ?_); rintro e w21 ⟨v223, rfl, ho0, hb⟩; refine ⟨_, rfl, ?_⟩; have n0_ := zA (Kd.R_lower ho0 (below_size (by repeat (first | (with_reducible first | exact HB.out | apply zL | apply zN | apply zD) | exact HB.out)))); have n1_ := zA (below_step (by repeat (first | (with_reducible first | exact HB.out | apply zL | apply zN | apply zD) | exact HB.out)) hb); clear HB; have HO224 := n0_; have HB := n1_; clear n0_ n1_; (try clear hb); (try clear hb2); (try clear hk); (try clear hi); (try clear ho0)) | ((with_reducible refine gate_dst (N := 17) rfl ?_); (try (refine gate_guard (by rfl) ?_; dsimp only)); refine Kd.R_lit Kd.string _ 9 ?hg (N := 17) ?hd (xs := ([(⟨#[97, 47, 120]⟩ : ByteArray)] : List ByteArray)) (inner := [.string (⟨#[97, 47, 120]⟩ : ByteArray)]) (ok := fun _ => True) (okp := fun _ => True) ?hr ?hp (fun _ hk => hk) trivial (Below.refl _ _) (Nat.le_refl _) (by simp) ?_; (case hd => rfl); (case hg => rfl); (case hr => first | (go_simp; done) | (go_simp; rfl)); (case hp => exact (Reps.one (show Kd.M Kd.string _ _ _ (⟨#[97, 47, 120]⟩ : ByteArray) [.string (⟨#[97, 47, 120]⟩ : ByteArray)] from rfl) (Reps.none _ _))); intro v226 w22 ho23 hb hg_ hnew_; clear hg_ hnew_; (first | rw [← Ny225.out] at ho23 | (simp only [Int.reduceToNat] at ho23; rw [← Ny225.out] at ho23)); have n0_ := zA (Kd.R_below (by (with_reducible repeat (first | apply Kd.R_alloc | apply Kd.R_drewN | apply Kd.R_drew)); exact HO224.out) hb); have n1_ := zA (Kd.R_lower ho23 (below_size (by repeat (first | (with_reducible first | exact HB.out | apply zL | apply zN | apply zD) | exact HB.out)))); have n2_ := zA (below_step (by repeat (first | (with_reducible first | exact HB.out | apply zL | apply zN | apply zD) | exact HB.out)) hb); clear HO224; clear HB; have HO224 := n0_; have HO227 := n1_; have HB := n2_; clear n0_ n1_ n2_; clear hb ho23; obtain ⟨Ao24, co24, eo24⟩ := Kd.R_slice HO224.out; subst eo24; obtain ⟨Ao25, co25, eo25⟩ := Kd.R_slice HO227.out; subst eo25) | ((with_reducible refine gate_callee (f := 8) rfl ?_); refine goesL_ (some 18) rfl rfl Tryd.func8 (by kernel_rfl) rfl #[.slice Ao24 t222.length co24, .slice Ao25 y225.length co25] rfl (by (try simp only [List.map_toArray, List.map_cons, List.map_nil]); first | done | rfl | (simp only [List.length_drop, List.length_take]; rfl)) ?_; (with_reducible refine (merge_Cost.calls k _ _ t222 _ _ y225 t228 t229 _ ?side1 ?side2 ?side3 ?side4 A2.out).mono ?_); (case side1 => repeat (first | exact (Kd.R_reads' HO224.out).2.2 | (with_reducible refine Kd.C_alloc ?_ _) | (with_reducible refine Kd.C_drewN ?_ _) | (with_reducible refine Kd.C_drew ?_))); (case side2 => exact (Kd.R_reads' HO224.out).2.1); (case side3 => repeat (first | exact (Kd.R_reads' HO227.out).2.2 | (with_reducible refine Kd.C_alloc ?_ _) | (with_reducible refine Kd.C_drewN ?_ _) | (with_reducible refine Kd.C_drew ?_))); (case side4 => exact (Kd.R_reads' HO227.out).2.1); rintro e w26 ⟨rfl, hb⟩; refine ⟨_, rfl, ?_⟩; have n0_ := zA (Kd.R_below (by (with_reducible repeat (first | apply Kd.R_alloc | apply Kd.R_drewN | apply Kd.R_drew)); exact HO224.out) hb); have n1_ := zA (Kd.R_below (by (with_reducible repeat (first | apply Kd.R_alloc | apply Kd.R_drewN | apply Kd.R_drew)); exact HO227.out) hb); have n2_ := zA (below_step (by repeat (first | (with_reducible first | exact HB.out | apply zL | apply zN | apply zD) | exact HB.out)) hb); clear HO224; clear HO227; clear HB; have HO224 := n0_; have HO227 := n1_; have HB := n2_; clear n0_ n1_ n2_; (try clear hb); (try clear hb2); (try clear hk); (try clear hi)) | ((with_reducible refine gate_callee (f := 8) rfl ?_); refine goesL_ (some 23) rfl rfl Tryd.func8 (by kernel_rfl) rfl #[.slice Ao24 t222.length co24, .slice none 0 0] rfl (by (try simp only [List.map_toArray, List.map_cons, List.map_nil]); first | done | rfl | (simp only [List.length_drop, List.length_take]; rfl)) ?_; (refine (merge_Cost.calls k _ _ t222 _ _ ([] : List ByteArray) t230 t231 _ ?side1 ?side2 ?side3 ?side4 A3.out).mono ?_); (case side1 => repeat (first | exact (Kd.R_reads' HO224.out).2.2 | (with_reducible refine Kd.C_alloc ?_ _) | (with_reducible refine Kd.C_drewN ?_ _) | (with_reducible refine Kd.C_drew ?_))); (case side2 => exact (Kd.R_reads' HO224.out).2.1); (case side3 => exact Kd.C_nil _ _); (case side4 => exact Nat.le_refl _); rintro e w27 ⟨rfl, hb⟩; refine ⟨_, rfl, ?_⟩; have n0_ := zA (Kd.R_below (by (with_reducible repeat (first | apply Kd.R_alloc | apply Kd.R_drewN | apply Kd.R_drew)); exact HO224.out) hb); have n1_ := zA (Kd.R_below (by (with_reducible repeat (first | apply Kd.R_alloc | apply Kd.R_drewN | apply Kd.R_drew)); exact HO227.out) hb); have n2_ := zA (below_step (by repeat (first | (with_reducible first | exact HB.out | apply zL | apply zN | apply zD) | exact HB.out)) hb); clear HO224; clear HO227; clear HB; have HO224 := n0_; have HO227 := n1_; have HB := n2_; clear n0_ n1_ n2_; (try clear hb); (try clear hb2); (try clear hk); (try clear hi)) | ((with_reducible refine gate_dst (N := 28) rfl ?_); (try (refine gate_guard (by rfl) ?_; dsimp only)); refine Kd.R_lit Kd.string _ 9 ?hg (N := 28) ?hd (xs := ([(⟨#[97, 47, 120]⟩ : ByteArray), (⟨#[97, 47, 121]⟩ : ByteArray), (⟨#[98]⟩ : ByteArray)] : List ByteArray)) (inner := [.string (⟨#[97, 47, 120]⟩ : ByteArray), .string (⟨#[97, 47, 121]⟩ : ByteArray), .string (⟨#[98]⟩ : ByteArray)]) (ok := fun _ => True) (okp := fun _ => True) ?hr ?hp (fun _ hk => hk) trivial (Below.refl _ _) (Nat.le_refl _) (by simp) ?_; (case hd => rfl); (case hg => rfl); (case hr => first | (go_simp; done) | (go_simp; rfl)); (case hp => exact (Reps.one (show Kd.M Kd.string _ _ _ (⟨#[97, 47, 120]⟩ : ByteArray) [.string (⟨#[97, 47, 120]⟩ : ByteArray)] from rfl) (Reps.one (show Kd.M Kd.string _ _ _ (⟨#[97, 47, 121]⟩ : ByteArray) [.string (⟨#[97, 47, 121]⟩ : ByteArray)] from rfl) (Reps.one (show Kd.M Kd.string _ _ _ (⟨#[98]⟩ : ByteArray) [.string (⟨#[98]⟩ : ByteArray)] from rfl) (Reps.none _ _))))); intro v233 w28 ho29 hb hg_ hnew_; clear hg_ hnew_; (first | rw [← Ny232.out] at ho29 | (simp only [Int.reduceToNat] at ho29; rw [← Ny232.out] at ho29)); have n0_ := zA (Kd.R_below (by (with_reducible repeat (first | apply Kd.R_alloc | apply Kd.R_drewN | apply Kd.R_drew)); exact HO224.out) hb); have n1_ := zA (Kd.R_elder' (by (with_reducible repeat (first | apply Kd.R_alloc | apply Kd.R_drewN | apply Kd.R_drew)); exact HO227.out) (Kd.R_base ho29) hb); have n2_ := zA (Kd.R_lower (Kd.R_new' ho29 (Kd.R_lt (by (with_reducible repeat (first | apply Kd.R_alloc | apply Kd.R_drewN | apply Kd.R_drew)); exact HO227.out))) (below_size (by repeat (first | (with_reducible first | exact HB.out | apply zL | apply zN | apply zD) | exact HB.out)))); have n3_ := zA (below_step (by repeat (first | (with_reducible first | exact HB.out | apply zL | apply zN | apply zD) | exact HB.out)) hb); clear HO224; clear HO227; clear HB; have HO224 := n0_; have HO227 := n1_; have HO234 := n2_; have HB := n3_; clear n0_ n1_ n2_ n3_; clear hb ho29; obtain ⟨Ao30, co30, eo30⟩ := Kd.R_slice HO234.out; subst eo30) | ((with_reducible refine gate_callee (f := 13) rfl ?_); refine goesL_ (some 29) rfl rfl Tryd.func13 (by kernel_rfl) rfl #[.slice Ao24 t222.length co24, .slice Ao30 y232.length co30] rfl (by (try simp only [List.map_toArray, List.map_cons, List.map_nil]); first | done | rfl | (simp only [List.length_drop, List.length_take]; rfl)) ?_; (with_reducible refine (merge_Step.calls k _ _ t222 _ _ y232 t235 t236 _ ?side1 ?side2 ?side3 ?side4 A4.out).mono ?_); (case side1 => repeat (first | exact (Kd.R_reads' HO224.out).2.2 | (with_reducible refine Kd.C_alloc ?_ _) | (with_reducible refine Kd.C_drewN ?_ _) | (with_reducible refine Kd.C_drew ?_))); (case side2 => exact (Kd.R_reads' HO224.out).2.1); (case side3 => repeat (first | exact (Kd.R_reads' HO234.out).2.2 | (with_reducible refine Kd.C_alloc ?_ _) | (with_reducible refine Kd.C_drewN ?_ _) | (with_reducible refine Kd.C_drew ?_))); (case side4 => exact (Kd.R_reads' HO234.out).2.1); rintro e w31 ⟨v237, rfl, ho0, hb⟩; refine ⟨_, rfl, ?_⟩; have n0_ := zA (Kd.R_below (by (with_reducible repeat (first | apply Kd.R_alloc | apply Kd.R_drewN | apply Kd.R_drew)); exact HO224.out) hb); have n1_ := zA (Kd.R_elder' (by (with_reducible repeat (first | apply Kd.R_alloc | apply Kd.R_drewN | apply Kd.R_drew)); exact HO227.out) (Kd.R_base ho0) hb); have n2_ := zA (Kd.R_elder' (by (with_reducible repeat (first | apply Kd.R_alloc | apply Kd.R_drewN | apply Kd.R_drew)); exact HO234.out) (Kd.R_base ho0) hb); have n3_ := zA (Kd.R_lower (Kd.R_new' (Kd.R_new' ho0 (Kd.R_lt (by (with_reducible repeat (first | apply Kd.R_alloc | apply Kd.R_drewN | apply Kd.R_drew)); exact HO227.out))) (Kd.R_lt (by (with_reducible repeat (first | apply Kd.R_alloc | apply Kd.R_drewN | apply Kd.R_drew)); exact HO234.out))) (below_size (by repeat (first | (with_reducible first | exact HB.out | apply zL | apply zN | apply zD) | exact HB.out)))); have n4_ := zA (below_step (by repeat (first | (with_reducible first | exact HB.out | apply zL | apply zN | apply zD) | exact HB.out)) hb); clear HO224; clear HO227; clear HO234; clear HB; have HO224 := n0_; have HO227 := n1_; have HO234 := n2_; have HO238 := n3_; have HB := n4_; clear n0_ n1_ n2_ n3_ n4_; (try clear hb); (try clear hb2); (try clear hk); (try clear hi); (try clear ho0)) | ((with_reducible refine gate_dst (N := 34) rfl ?_); (try (refine gate_guard (by rfl) ?_; dsimp only)); refine Kd.R_lit Kd.string _ 9 ?hg (N := 34) ?hd (xs := ([(⟨#[97, 47, 120]⟩ : ByteArray), (⟨#[97, 47, 121]⟩ : ByteArray), (⟨#[98]⟩ : ByteArray)] : List ByteArray)) (inner := [.string (⟨#[97, 47, 120]⟩ : ByteArray), .string (⟨#[97, 47, 121]⟩ : ByteArray), .string (⟨#[98]⟩ : ByteArray)]) (ok := fun _ => True) (okp := fun _ => True) ?hr ?hp (fun _ hk => hk) trivial (Below.refl _ _) (Nat.le_refl _) (by simp) ?_; (case hd => rfl); (case hg => rfl); (case hr => first | (go_simp; done) | (go_simp; rfl)); (case hp => exact (Reps.one (show Kd.M Kd.string _ _ _ (⟨#[97, 47, 120]⟩ : ByteArray) [.string (⟨#[97, 47, 120]⟩ : ByteArray)] from rfl) (Reps.one (show Kd.M Kd.string _ _ _ (⟨#[97, 47, 121]⟩ : ByteArray) [.string (⟨#[97, 47, 121]⟩ : ByteArray)] from rfl) (Reps.one (show Kd.M Kd.string _ _ _ (⟨#[98]⟩ : ByteArray) [.string (⟨#[98]⟩ : ByteArray)] from rfl) (Reps.none _ _))))); intro v240 w32 ho33 hb hg_ hnew_; clear hg_ hnew_; (first | rw [← Ny239.out] at ho33 | (simp only [Int.reduceToNat] at ho33; rw [← Ny239.out] at ho33)); have n0_ := zA (Kd.R_below (by (with_reducible repeat (first | apply Kd.R_alloc | apply Kd.R_drewN | apply Kd.R_drew)); exact HO224.out) hb); have n1_ := zA (Kd.R_elder' (by (with_reducible repeat (first | apply Kd.R_alloc | apply Kd.R_drewN | apply Kd.R_drew)); exact HO227.out) (Kd.R_base ho33) hb); have n2_ := zA (Kd.R_elder' (by (with_reducible repeat (first | apply Kd.R_alloc | apply Kd.R_drewN | apply Kd.R_drew)); exact HO234.out) (Kd.R_base ho33) hb); have n3_ := zA (Kd.R_elder' (by (with_reducible repeat (first | apply Kd.R_alloc | apply Kd.R_drewN | apply Kd.R_drew)); exact HO238.out) (Kd.R_base ho33) hb); have n4_ := zA (Kd.R_lower (Kd.R_new' (Kd.R_new' (Kd.R_new' ho33 (Kd.R_lt (by (with_reducible repeat (first | apply Kd.R_alloc | apply Kd.R_drewN | apply Kd.R_drew)); exact HO227.out))) (Kd.R_lt (by (with_reducible repeat (first | apply Kd.R_alloc | apply Kd.R_drewN | apply Kd.R_drew)); exact HO234.out))) (Kd.R_lt (by (with_reducible repeat (first | apply Kd.R_alloc | apply Kd.R_drewN | apply Kd.R_drew)); exact HO238.out))) (below_size (by repeat (first | (with_reducible first | exact HB.out | apply zL | apply zN | apply zD) | exact HB.out)))); have n5_ := zA (below_step (by repeat (first | (with_reducible first | exact HB.out | apply zL | apply zN | apply zD) | exact HB.out)) hb); clear HO224; clear HO227; clear HO234; clear HO238; clear HB; have HO224 := n0_; have HO227 := n1_; have HO234 := n2_; have HO238 := n3_; have HO241 := n4_; have HB := n5_; clear n0_ n1_ n2_ n3_ n4_ n5_; clear hb ho33; obtain ⟨Ao34, co34, eo34⟩ := Kd.R_slice HO241.out; subst eo34) | ((with_reducible refine gate_callee (f := 15) rfl ?_); refine goesL_ (some 35) rfl rfl Tryd.func15 (by kernel_rfl) rfl #[.slice Ao24 t222.length co24, .slice Ao34 y239.length co34, .int .i64 1] rfl (by (try simp only [List.map_toArray, List.map_cons, List.map_nil]); first | done | rfl | (simp only [List.length_drop, List.length_take]; rfl)) ?_; (with_reducible refine (merge_Down.calls k _ _ t222 _ _ y239 1 t242 t243 _ ?side1 ?side2 ?side3 ?side4 A5.out).mono ?_); (case side1 => repeat (first | exact (Kd.R_reads' HO224.out).2.2 | (with_reducible refine Kd.C_alloc ?_ _) | (with_reducible refine Kd.C_drewN ?_ _) | (with_reducible refine Kd.C_drew ?_))); (case side2 => exact (Kd.R_reads' HO224.out).2.1); (case side3 => repeat (first | exact (Kd.R_reads' HO241.out).2.2 | (with_reducible refine Kd.C_alloc ?_ _) | (with_reducible refine Kd.C_drewN ?_ _) | (with_reducible refine Kd.C_drew ?_))); (case side4 => exact (Kd.R_reads' HO241.out).2.1); rintro e w35 ⟨v244, rfl, ho0, hb⟩; refine ⟨_, rfl, ?_⟩; have n0_ := zA (Kd.R_below (by (with_reducible repeat (first | apply Kd.R_alloc | apply Kd.R_drewN | apply Kd.R_drew)); exact HO224.out) hb); have n1_ := zA (Kd.R_elder' (by (with_reducible repeat (first | apply Kd.R_alloc | apply Kd.R_drewN | apply Kd.R_drew)); exact HO227.out) (Kd.R_base ho0) hb); have n2_ := zA (Kd.R_elder' (by (with_reducible repeat (first | apply Kd.R_alloc | apply Kd.R_drewN | apply Kd.R_drew)); exact HO234.out) (Kd.R_base ho0) hb); have n3_ := zA (Kd.R_elder' (by (with_reducible repeat (first | apply Kd.R_alloc | apply Kd.R_drewN | apply Kd.R_drew)); exact HO238.out) (Kd.R_base ho0) hb); have n4_ := zA (Kd.R_elder' (by (with_reducible repeat (first | apply Kd.R_alloc | apply Kd.R_drewN | apply Kd.R_drew)); exact HO241.out) (Kd.R_base ho0) hb); have n5_ := zA (Kd.R_lower (Kd.R_new' (Kd.R_new' (Kd.R_new' (Kd.R_new' ho0 (Kd.R_lt (by (with_reducible repeat (first | apply Kd.R_alloc | apply Kd.R_drewN | apply Kd.R_drew)); exact HO227.out))) (Kd.R_lt (by (with_reducible repeat (first | apply Kd.R_alloc | apply Kd.R_drewN | apply Kd.R_drew)); exact HO234.out))) (Kd.R_lt (by (with_reducible repeat (first | apply Kd.R_alloc | apply Kd.R_drewN | apply Kd.R_drew)); exact HO238.out))) (Kd.R_lt (by (with_reducible repeat (first | apply Kd.R_alloc | apply Kd.R_drewN | apply Kd.R_drew)); exact HO241.out))) (below_size (by repeat (first | (with_reducible first | exact HB.out | apply zL | apply zN | apply zD) | exact HB.out)))); have n6_ := zA (below_step (by repeat (first | (with_reducible first | exact HB.out | apply zL | apply zN | apply zD) | exact HB.out)) hb); clear HO224; clear HO227; clear HO234; clear HO238; clear HO241; clear HB; have HO224 := n0_; have HO227 := n1_; have HO234 := n2_; have HO238 := n3_; have HO241 := n4_; have HO245 := n5_; have HB := n6_; clear n0_ n1_ n2_ n3_ n4_ n5_ n6_; (try clear hb); (try clear hb2); (try clear hk); (try clear hi); (try clear ho0)) | ((with_reducible refine gate_dst (N := 39) rfl ?_); (try (refine gate_guard (by rfl) ?_; dsimp only)); refine Kd.R_lit Kd.string _ 9 ?hg (N := 39) ?hd (xs := ([(⟨#[97, 47, 120]⟩ : ByteArray), (⟨#[97, 47, 121]⟩ : ByteArray), (⟨#[98]⟩ : ByteArray)] : List ByteArray)) (inner := [.string (⟨#[97, 47, 120]⟩ : ByteArray), .string (⟨#[97, 47, 121]⟩ : ByteArray), .string (⟨#[98]⟩ : ByteArray)]) (ok := fun _ => True) (okp := fun _ => True) ?hr ?hp (fun _ hk => hk) trivial (Below.refl _ _) (Nat.le_refl _) (by simp) ?_; (case hd => rfl); (case hg => rfl); (case hr => first | (go_simp; done) | (go_simp; rfl)); (case hp => exact (Reps.one (show Kd.M Kd.string _ _ _ (⟨#[97, 47, 120]⟩ : ByteArray) [.string (⟨#[97, 47, 120]⟩ : ByteArray)] from rfl) (Reps.one (show Kd.M Kd.string _ _ _ (⟨#[97, 47, 121]⟩ : ByteArray) [.string (⟨#[97, 47, 121]⟩ : ByteArray)] from rfl) (Reps.one (show Kd.M Kd.string _ _ _ (⟨#[98]⟩ : ByteArray) [.string (⟨#[98]⟩ : ByteArray)] from rfl) (Reps.none _ _))))); intro v247 w36 ho37 hb hg_ hnew_; clear hg_ hnew_; (first | rw [← Ny246.out] at ho37 | (simp only [Int.reduceToNat] at ho37; rw [← Ny246.out] at ho37)); have n0_ := zA (Kd.R_below (by (with_reducible repeat (first | apply Kd.R_alloc | apply Kd.R_drewN | apply Kd.R_drew)); exact HO224.out) hb); have n1_ := zA (Kd.R_elder' (by (with_reducible repeat (first | apply Kd.R_alloc | apply Kd.R_drewN | apply Kd.R_drew)); exact HO227.out) (Kd.R_base ho37) hb); have n2_ := zA (Kd.R_elder' (by (with_reducible repeat (first | apply Kd.R_alloc | apply Kd.R_drewN | apply Kd.R_drew)); exact HO234.out) (Kd.R_base ho37) hb); have n3_ := zA (Kd.R_elder' (by (with_reducible repeat (first | apply Kd.R_alloc | apply Kd.R_drewN | apply Kd.R_drew)); exact HO238.out) (Kd.R_base ho37) hb); have n4_ := zA (Kd.R_elder' (by (with_reducible repeat (first | apply Kd.R_alloc | apply Kd.R_drewN | apply Kd.R_drew)); exact HO241.out) (Kd.R_base ho37) hb); have n5_ := zA (Kd.R_elder' (by (with_reducible repeat (first | apply Kd.R_alloc | apply Kd.R_drewN | apply Kd.R_drew)); exact HO245.out) (Kd.R_base ho37) hb); have n6_ := zA (Kd.R_lower (Kd.R_new' (Kd.R_new' (Kd.R_new' (Kd.R_new' (Kd.R_new' ho37 (Kd.R_lt (by (with_reducible repeat (first | apply Kd.R_alloc | apply Kd.R_drewN | apply Kd.R_drew)); exact HO227.out))) (Kd.R_lt (by (with_reducible repeat (first | apply Kd.R_alloc | apply Kd.R_drewN | apply Kd.R_drew)); exact HO234.out))) (Kd.R_lt (by (with_reducible repeat (first | apply Kd.R_alloc | apply Kd.R_drewN | apply Kd.R_drew)); exact HO238.out))) (Kd.R_lt (by (with_reducible repeat (first | apply Kd.R_alloc | apply Kd.R_drewN | apply Kd.R_drew)); exact HO241.out))) (Kd.R_lt (by (with_reducible repeat (first | apply Kd.R_alloc | apply Kd.R_drewN | apply Kd.R_drew)); exact HO245.out))) (below_size (by repeat (first | (with_reducible first | exact HB.out | apply zL | apply zN | apply zD) | exact HB.out)))); have n7_ := zA (below_step (by repeat (first | (with_reducible first | exact HB.out | apply zL | apply zN | apply zD) | exact HB.out)) hb); clear HO224; clear HO227; clear HO234; clear HO238; clear HO241; clear HO245; clear HB; have HO224 := n0_; have HO227 := n1_; have HO234 := n2_; have HO238 := n3_; have HO241 := n4_; have HO245 := n5_; have HO248 := n6_; have HB := n7_; clear n0_ n1_ n2_ n3_ n4_ n5_ n6_ n7_; clear hb ho37; obtain ⟨Ao38, co38, eo38⟩ := Kd.R_slice HO248.out; subst eo38) | ((with_reducible refine gate_callee (f := 10) rfl ?_); refine goesL_ (some 40) rfl rfl Tryd.func10 (by kernel_rfl) rfl #[.slice Ao38 y246.length co38, .string (⟨#[97]⟩ : ByteArray)] rfl (by (try simp only [List.map_toArray, List.map_cons, List.map_nil]); first | done | rfl | (simp only [List.length_drop, List.length_take]; rfl)) ?_; (with_reducible refine (merge_At.calls k _ _ y246 (⟨#[97]⟩ : ByteArray) t249 t250 _ ?side1 ?side2 A6.out).mono ?_); (case side1 => repeat (first | exact (Kd.R_reads' HO248.out).2.2 | (with_reducible refine Kd.C_alloc ?_ _) | (with_reducible refine Kd.C_drewN ?_ _) | (with_reducible refine Kd.C_drew ?_))); (case side2 => exact (Kd.R_reads' HO248.out).2.1); rintro e w39 ⟨v251, rfl, ho0, hb⟩; refine ⟨_, rfl, ?_⟩; have n0_ := zA (Kd.R_below (by (with_reducible repeat (first | apply Kd.R_alloc | apply Kd.R_drewN | apply Kd.R_drew)); exact HO224.out) hb); have n1_ := zA (Kd.R_elder' (by (with_reducible repeat (first | apply Kd.R_alloc | apply Kd.R_drewN | apply Kd.R_drew)); exact HO227.out) (Kd.R_base ho0) hb); have n2_ := zA (Kd.R_elder' (by (with_reducible repeat (first | apply Kd.R_alloc | apply Kd.R_drewN | apply Kd.R_drew)); exact HO234.out) (Kd.R_base ho0) hb); have n3_ := zA (Kd.R_elder' (by (with_reducible repeat (first | apply Kd.R_alloc | apply Kd.R_drewN | apply Kd.R_drew)); exact HO238.out) (Kd.R_base ho0) hb); have n4_ := zA (Kd.R_elder' (by (with_reducible repeat (first | apply Kd.R_alloc | apply Kd.R_drewN | apply Kd.R_drew)); exact HO241.out) (Kd.R_base ho0) hb); have n5_ := zA (Kd.R_elder' (by (with_reducible repeat (first | apply Kd.R_alloc | apply Kd.R_drewN | apply Kd.R_drew)); exact HO245.out) (Kd.R_base ho0) hb); have n6_ := zA (Kd.R_elder' (by (with_reducible repeat (first | apply Kd.R_alloc | apply Kd.R_drewN | apply Kd.R_drew)); exact HO248.out) (Kd.R_base ho0) hb); have n7_ := zA (Kd.R_lower (Kd.R_new' (Kd.R_new' (Kd.R_new' (Kd.R_new' (Kd.R_new' (Kd.R_new' ho0 (Kd.R_lt (by (with_reducible repeat (first | apply Kd.R_alloc | apply Kd.R_drewN | apply Kd.R_drew)); exact HO227.out))) (Kd.R_lt (by (with_reducible repeat (first | apply Kd.R_alloc | apply Kd.R_drewN | apply Kd.R_drew)); exact HO234.out))) (Kd.R_lt (by (with_reducible repeat (first | apply Kd.R_alloc | apply Kd.R_drewN | apply Kd.R_drew)); exact HO238.out))) (Kd.R_lt (by (with_reducible repeat (first | apply Kd.R_alloc | apply Kd.R_drewN | apply Kd.R_drew)); exact HO241.out))) (Kd.R_lt (by (with_reducible repeat (first | apply Kd.R_alloc | apply Kd.R_drewN | apply Kd.R_drew)); exact HO245.out))) (Kd.R_lt (by (with_reducible repeat (first | apply Kd.R_alloc | apply Kd.R_drewN | apply Kd.R_drew)); exact HO248.out))) (below_size (by repeat (first | (with_reducible first | exact HB.out | apply zL | apply zN | apply zD) | exact HB.out)))); have n8_ := zA (below_step (by repeat (first | (with_reducible first | exact HB.out | apply zL | apply zN | apply zD) | exact HB.out)) hb); clear HO224; clear HO227; clear HO234; clear HO238; clear HO241; clear HO245; clear HO248; clear HB; have HO224 := n0_; have HO227 := n1_; have HO234 := n2_; have HO238 := n3_; have HO241 := n4_; have HO245 := n5_; have HO248 := n6_; have HO252 := n7_; have HB := n8_; clear n0_ n1_ n2_ n3_ n4_ n5_ n6_ n7_ n8_; (try clear hb); (try clear hb2); (try clear hk); (try clear hi); (try clear ho0)) | ((with_reducible refine gate_dst (N := 45) rfl ?_); (try (refine gate_guard (by rfl) ?_; dsimp only)); refine Kd.R_lit Kd.string _ 9 ?hg (N := 45) ?hd (xs := ([(⟨#[98]⟩ : ByteArray), (⟨#[97]⟩ : ByteArray)] : List ByteArray)) (inner := [.string (⟨#[98]⟩ : ByteArray), .string (⟨#[97]⟩ : ByteArray)]) (ok := fun _ => True) (okp := fun _ => True) ?hr ?hp (fun _ hk => hk) trivial (Below.refl _ _) (Nat.le_refl _) (by simp) ?_; (case hd => rfl); (case hg => rfl); (case hr => first | (go_simp; done) | (go_simp; rfl)); (case hp => exact (Reps.one (show Kd.M Kd.string _ _ _ (⟨#[98]⟩ : ByteArray) [.string (⟨#[98]⟩ : ByteArray)] from rfl) (Reps.one (show Kd.M Kd.string _ _ _ (⟨#[97]⟩ : ByteArray) [.string (⟨#[97]⟩ : ByteArray)] from rfl) (Reps.none _ _)))); intro v254 w40 ho41 hb hg_ hnew_; clear hg_ hnew_; (first | rw [← Ny253.out] at ho41 | (simp only [Int.reduceToNat] at ho41; rw [← Ny253.out] at ho41)); have n0_ := zA (Kd.R_below (by (with_reducible repeat (first | apply Kd.R_alloc | apply Kd.R_drewN | apply Kd.R_drew)); exact HO224.out) hb); have n1_ := zA (Kd.R_elder' (by (with_reducible repeat (first | apply Kd.R_alloc | apply Kd.R_drewN | apply Kd.R_drew)); exact HO227.out) (Kd.R_base ho41) hb); have n2_ := zA (Kd.R_elder' (by (with_reducible repeat (first | apply Kd.R_alloc | apply Kd.R_drewN | apply Kd.R_drew)); exact HO234.out) (Kd.R_base ho41) hb); have n3_ := zA (Kd.R_elder' (by (with_reducible repeat (first | apply Kd.R_alloc | apply Kd.R_drewN | apply Kd.R_drew)); exact HO238.out) (Kd.R_base ho41) hb); have n4_ := zA (Kd.R_elder' (by (with_reducible repeat (first | apply Kd.R_alloc | apply Kd.R_drewN | apply Kd.R_drew)); exact HO241.out) (Kd.R_base ho41) hb); have n5_ := zA (Kd.R_elder' (by (with_reducible repeat (first | apply Kd.R_alloc | apply Kd.R_drewN | apply Kd.R_drew)); exact HO245.out) (Kd.R_base ho41) hb); have n6_ := zA (Kd.R_elder' (by (with_reducible repeat (first | apply Kd.R_alloc | apply Kd.R_drewN | apply Kd.R_drew)); exact HO248.out) (Kd.R_base ho41) hb); have n7_ := zA (Kd.R_elder' (by (with_reducible repeat (first | apply Kd.R_alloc | apply Kd.R_drewN | apply Kd.R_drew)); exact HO252.out) (Kd.R_base ho41) hb); have n8_ := zA (Kd.R_lower (Kd.R_new' (Kd.R_new' (Kd.R_new' (Kd.R_new' (Kd.R_new' (Kd.R_new' (Kd.R_new' ho41 (Kd.R_lt (by (with_reducible repeat (first | apply Kd.R_alloc | apply Kd.R_drewN | apply Kd.R_drew)); exact HO227.out))) (Kd.R_lt (by (with_reducible repeat (first | apply Kd.R_alloc | apply Kd.R_drewN | apply Kd.R_drew)); exact HO234.out))) (Kd.R_lt (by (with_reducible repeat (first | apply Kd.R_alloc | apply Kd.R_drewN | apply Kd.R_drew)); exact HO238.out))) (Kd.R_lt (by (with_reducible repeat (first | apply Kd.R_alloc | apply Kd.R_drewN | apply Kd.R_drew)); exact HO241.out))) (Kd.R_lt (by (with_reducible repeat (first | apply Kd.R_alloc | apply Kd.R_drewN | apply Kd.R_drew)); exact HO245.out))) (Kd.R_lt (by (with_reducible repeat (first | apply Kd.R_alloc | apply Kd.R_drewN | apply Kd.R_drew)); exact HO248.out))) (Kd.R_lt (by (with_reducible repeat (first | apply Kd.R_alloc | apply Kd.R_drewN | apply Kd.R_drew)); exact HO252.out))) (below_size (by repeat (first | (with_reducible first | exact HB.out | apply zL | apply zN | apply zD) | exact HB.out)))); have n9_ := zA (below_step (by repeat (first | (with_reducible first | exact HB.out | apply zL | apply zN | apply zD) | exact HB.out)) hb); clear HO224; clear HO227; clear HO234; clear HO238; clear HO241; clear HO245; clear HO248; clear HO252; clear HB; have HO224 := n0_; have HO227 := n1_; have HO234 := n2_; have HO238 := n3_; have HO241 := n4_; have HO245 := n5_; have HO248 := n6_; have HO252 := n7_; have HO255 := n8_; have HB := n9_; clear n0_ n1_ n2_ n3_ n4_ n5_ n6_ n7_ n8_ n9_; clear hb ho41; obtain ⟨Ao42, co42, eo42⟩ := Kd.R_slice HO255.out; subst eo42) | ((with_reducible refine gate_callee (f := 15) rfl ?_); refine goesL_ (some 46) rfl rfl Tryd.func15 (by kernel_rfl) rfl #[.slice Ao24 t222.length co24, .slice Ao42 y253.length co42, .int .i64 0] rfl (by (try simp only [List.map_toArray, List.map_cons, List.map_nil]); first | done | rfl | (simp only [List.length_drop, List.length_take]; rfl)) ?_; (with_reducible refine (merge_Down.calls k _ _ t222 _ _ y253 0 t256 t257 _ ?side1 ?side2 ?side3 ?side4 A7.out).mono ?_); (case side1 => repeat (first | exact (Kd.R_reads' HO224.out).2.2 | (with_reducible refine Kd.C_alloc ?_ _) | (with_reducible refine Kd.C_drewN ?_ _) | (with_reducible refine Kd.C_drew ?_))); (case side2 => exact (Kd.R_reads' HO224.out).2.1); (case side3 => repeat (first | exact (Kd.R_reads' HO255.out).2.2 | (with_reducible refine Kd.C_alloc ?_ _) | (with_reducible refine Kd.C_drewN ?_ _) | (with_reducible refine Kd.C_drew ?_))); (case side4 => exact (Kd.R_reads' HO255.out).2.1); rintro e w43 ⟨v258, rfl, ho0, hb⟩; refine ⟨_, rfl, ?_⟩; have n0_ := zA (Kd.R_below (by (with_reducible repeat (first | apply Kd.R_alloc | apply Kd.R_drewN | apply Kd.R_drew)); exact HO224.out) hb); have n1_ := zA (Kd.R_elder' (by (with_reducible repeat (first | apply Kd.R_alloc | apply Kd.R_drewN | apply Kd.R_drew)); exact HO227.out) (Kd.R_base ho0) hb); have n2_ := zA (Kd.R_elder' (by (with_reducible repeat (first | apply Kd.R_alloc | apply Kd.R_drewN | apply Kd.R_drew)); exact HO234.out) (Kd.R_base ho0) hb); have n3_ := zA (Kd.R_elder' (by (with_reducible repeat (first | apply Kd.R_alloc | apply Kd.R_drewN | apply Kd.R_drew)); exact HO238.out) (Kd.R_base ho0) hb); have n4_ := zA (Kd.R_elder' (by (with_reducible repeat (first | apply Kd.R_alloc | apply Kd.R_drewN | apply Kd.R_drew)); exact HO241.out) (Kd.R_base ho0) hb); have n5_ := zA (Kd.R_elder' (by (with_reducible repeat (first | apply Kd.R_alloc | apply Kd.R_drewN | apply Kd.R_drew)); exact HO245.out) (Kd.R_base ho0) hb); have n6_ := zA (Kd.R_elder' (by (with_reducible repeat (first | apply Kd.R_alloc | apply Kd.R_drewN | apply Kd.R_drew)); exact HO248.out) (Kd.R_base ho0) hb); have n7_ := zA (Kd.R_elder' (by (with_reducible repeat (first | apply Kd.R_alloc | apply Kd.R_drewN | apply Kd.R_drew)); exact HO252.out) (Kd.R_base ho0) hb); have n8_ := zA (Kd.R_elder' (by (with_reducible repeat (first | apply Kd.R_alloc | apply Kd.R_drewN | apply Kd.R_drew)); exact HO255.out) (Kd.R_base ho0) hb); have n9_ := zA (Kd.R_lower (Kd.R_new' (Kd.R_new' (Kd.R_new' (Kd.R_new' (Kd.R_new' (Kd.R_new' (Kd.R_new' (Kd.R_new' ho0 (Kd.R_lt (by (with_reducible repeat (first | apply Kd.R_alloc | apply Kd.R_drewN | apply Kd.R_drew)); exact HO227.out))) (Kd.R_lt (by (with_reducible repeat (first | apply Kd.R_alloc | apply Kd.R_drewN | apply Kd.R_drew)); exact HO234.out))) (Kd.R_lt (by (with_reducible repeat (first | apply Kd.R_alloc | apply Kd.R_drewN | apply Kd.R_drew)); exact HO238.out))) (Kd.R_lt (by (with_reducible repeat (first | apply Kd.R_alloc | apply Kd.R_drewN | apply Kd.R_drew)); exact HO241.out))) (Kd.R_lt (by (with_reducible repeat (first | apply Kd.R_alloc | apply Kd.R_drewN | apply Kd.R_drew)); exact HO245.out))) (Kd.R_lt (by (with_reducible repeat (first | apply Kd.R_alloc | apply Kd.R_drewN | apply Kd.R_drew)); exact HO248.out))) (Kd.R_lt (by (with_reducible repeat (first | apply Kd.R_alloc | apply Kd.R_drewN | apply Kd.R_drew)); exact HO252.out))) (Kd.R_lt (by (with_reducible repeat (first | apply Kd.R_alloc | apply Kd.R_drewN | apply Kd.R_drew)); exact HO255.out))) (below_size (by repeat (first | (with_reducible first | exact HB.out | apply zL | apply zN | apply zD) | exact HB.out)))); have n10_ := zA (below_step (by repeat (first | (with_reducible first | exact HB.out | apply zL | apply zN | apply zD) | exact HB.out)) hb); clear HO224; clear HO227; clear HO234; clear HO238; clear HO241; clear HO245; clear HO248; clear HO252; clear HO255; clear HB; have HO224 := n0_; have HO227 := n1_; have HO234 := n2_; have HO238 := n3_; have HO241 := n4_; have HO245 := n5_; have HO248 := n6_; have HO252 := n7_; have HO255 := n8_; have HO259 := n9_; have HB := n10_; clear n0_ n1_ n2_ n3_ n4_ n5_ n6_ n7_ n8_ n9_ n10_; (try clear hb); (try clear hb2); (try clear hk); (try clear hi); (try clear ho0)) | ((with_reducible refine gate_dst (N := 81) rfl ?_); (try (refine gate_guard (by rfl) ?_; dsimp only)); refine Kd.R_lit Kd.string _ 9 ?hg (N := 81) ?hd (xs := ([(⟨#[97]⟩ : ByteArray), (⟨#[98]⟩ : ByteArray)] : List ByteArray)) (inner := [.string (⟨#[97]⟩ : ByteArray), .string (⟨#[98]⟩ : ByteArray)]) (ok := fun _ => True) (okp := fun _ => True) ?hr ?hp (fun _ hk => hk) trivial (Below.refl _ _) (Nat.le_refl _) (by simp) ?_; (case hd => rfl); (case hg => rfl); (case hr => first | (go_simp; done) | (go_simp; rfl)); (case hp => exact (Reps.one (show Kd.M Kd.string _ _ _ (⟨#[97]⟩ : ByteArray) [.string (⟨#[97]⟩ : ByteArray)] from rfl) (Reps.one (show Kd.M Kd.string _ _ _ (⟨#[98]⟩ : ByteArray) [.string (⟨#[98]⟩ : ByteArray)] from rfl) (Reps.none _ _)))); intro v261 w44 ho45 hb hg_ hnew_; clear hg_ hnew_; (first | rw [← Ny260.out] at ho45 | (simp only [Int.reduceToNat] at ho45; rw [← Ny260.out] at ho45)); have n0_ := zA (Kd.R_below (by (with_reducible repeat (first | apply Kd.R_alloc | apply Kd.R_drewN | apply Kd.R_drew)); exact HO224.out) hb); have n1_ := zA (Kd.R_elder' (by (with_reducible repeat (first | apply Kd.R_alloc | apply Kd.R_drewN | apply Kd.R_drew)); exact HO227.out) (Kd.R_base ho45) hb); have n2_ := zA (Kd.R_elder' (by (with_reducible repeat (first | apply Kd.R_alloc | apply Kd.R_drewN | apply Kd.R_drew)); exact HO234.out) (Kd.R_base ho45) hb); have n3_ := zA (Kd.R_elder' (by (with_reducible repeat (first | apply Kd.R_alloc | apply Kd.R_drewN | apply Kd.R_drew)); exact HO238.out) (Kd.R_base ho45) hb); have n4_ := zA (Kd.R_elder' (by (with_reducible repeat (first | apply Kd.R_alloc | apply Kd.R_drewN | apply Kd.R_drew)); exact HO241.out) (Kd.R_base ho45) hb); have n5_ := zA (Kd.R_elder' (by (with_reducible repeat (first | apply Kd.R_alloc | apply Kd.R_drewN | apply Kd.R_drew)); exact HO245.out) (Kd.R_base ho45) hb); have n6_ := zA (Kd.R_elder' (by (with_reducible repeat (first | apply Kd.R_alloc | apply Kd.R_drewN | apply Kd.R_drew)); exact HO248.out) (Kd.R_base ho45) hb); have n7_ := zA (Kd.R_elder' (by (with_reducible repeat (first | apply Kd.R_alloc | apply Kd.R_drewN | apply Kd.R_drew)); exact HO252.out) (Kd.R_base ho45) hb); have n8_ := zA (Kd.R_elder' (by (with_reducible repeat (first | apply Kd.R_alloc | apply Kd.R_drewN | apply Kd.R_drew)); exact HO255.out) (Kd.R_base ho45) hb); have n9_ := zA (Kd.R_elder' (by (with_reducible repeat (first | apply Kd.R_alloc | apply Kd.R_drewN | apply Kd.R_drew)); exact HO259.out) (Kd.R_base ho45) hb); have n10_ := zA (Kd.R_lower (Kd.R_new' (Kd.R_new' (Kd.R_new' (Kd.R_new' (Kd.R_new' (Kd.R_new' (Kd.R_new' (Kd.R_new' (Kd.R_new' ho45 (Kd.R_lt (by (with_reducible repeat (first | apply Kd.R_alloc | apply Kd.R_drewN | apply Kd.R_drew)); exact HO227.out))) (Kd.R_lt (by (with_reducible repeat (first | apply Kd.R_alloc | apply Kd.R_drewN | apply Kd.R_drew)); exact HO234.out))) (Kd.R_lt (by (with_reducible repeat (first | apply Kd.R_alloc | apply Kd.R_drewN | apply Kd.R_drew)); exact HO238.out))) (Kd.R_lt (by (with_reducible repeat (first | apply Kd.R_alloc | apply Kd.R_drewN | apply Kd.R_drew)); exact HO241.out))) (Kd.R_lt (by (with_reducible repeat (first | apply Kd.R_alloc | apply Kd.R_drewN | apply Kd.R_drew)); exact HO245.out))) (Kd.R_lt (by (with_reducible repeat (first | apply Kd.R_alloc | apply Kd.R_drewN | apply Kd.R_drew)); exact HO248.out))) (Kd.R_lt (by (with_reducible repeat (first | apply Kd.R_alloc | apply Kd.R_drewN | apply Kd.R_drew)); exact HO252.out))) (Kd.R_lt (by (with_reducible repeat (first | apply Kd.R_alloc | apply Kd.R_drewN | apply Kd.R_drew)); exact HO255.out))) (Kd.R_lt (by (with_reducible repeat (first | apply Kd.R_alloc | apply Kd.R_drewN | apply Kd.R_drew)); exact HO259.out))) (below_size (by repeat (first | (with_reducible first | exact HB.out | apply zL | apply zN | apply zD) | exact HB.out)))); have n11_ := zA (below_step (by repeat (first | (with_reducible first | exact HB.out | apply zL | apply zN | apply zD) | exact HB.out)) hb); clear HO224; clear HO227; clear HO234; clear HO238; clear HO241; clear HO245; clear HO248; clear HO252; clear HO255; clear HO259; clear HB; have HO224 := n0_; have HO227 := n1_; have HO234 := n2_; have HO238 := n3_; have HO241 := n4_; have HO245 := n5_; have HO248 := n6_; have HO252 := n7_; have HO255 := n8_; have HO259 := n9_; have HO262 := n10_; have HB := n11_; clear n0_ n1_ n2_ n3_ n4_ n5_ n6_ n7_ n8_ n9_ n10_ n11_; clear hb ho45; obtain ⟨Ao46, co46, eo46⟩ := Kd.R_slice HO238.out; subst eo46; obtain ⟨Ao47, co47, eo47⟩ := Kd.R_slice HO262.out; subst eo47) | (go_at_call 12; (with_reducible refine (copselaw16_same.calls k _ _ t235 _ _ y260 true _ ?side1 ?side2 ?side3 ?side4 A16.out).mono ?_); (case side1 => repeat (first | exact (Kd.R_reads' HO238.out).2.2 | (with_reducible refine Kd.C_alloc ?_ _) | (with_reducible refine Kd.C_drewN ?_ _) | (with_reducible refine Kd.C_drew ?_))); (case side2 => exact (Kd.R_reads' HO238.out).2.1); (case side3 => repeat (first | exact (Kd.R_reads' HO262.out).2.2 | (with_reducible refine Kd.C_alloc ?_ _) | (with_reducible refine Kd.C_drewN ?_ _) | (with_reducible refine Kd.C_drew ?_))); (case side4 => exact (Kd.R_reads' HO262.out).2.1); rintro e w' ⟨rfl, ⟨nd, rfl⟩⟩) | ((with_reducible refine gate_dst (N := 86) rfl ?_); (try (refine gate_guard (by rfl) ?_; dsimp only)); refine Kd.R_lit Kd.string _ 9 ?hg (N := 86) ?hd (xs := ([(⟨#[]⟩ : ByteArray)] : List ByteArray)) (inner := [.string (⟨#[]⟩ : ByteArray)]) (ok := fun _ => True) (okp := fun _ => True) ?hr ?hp (fun _ hk => hk) trivial (Below.refl _ _) (Nat.le_refl _) (by simp) ?_; (case hd => rfl); (case hg => rfl); (case hr => first | (go_simp; done) | (go_simp; rfl)); (case hp => exact (Reps.one (show Kd.M Kd.string _ _ _ (⟨#[]⟩ : ByteArray) [.string (⟨#[]⟩ : ByteArray)] from rfl) (Reps.none _ _))); intro v265 w48 ho49 hb hg_ hnew_; clear hg_ hnew_; (first | rw [← Ny264.out] at ho49 | (simp only [Int.reduceToNat] at ho49; rw [← Ny264.out] at ho49)); have n0_ := zA (Kd.R_below (by (with_reducible repeat (first | apply Kd.R_alloc | apply Kd.R_drewN | apply Kd.R_drew)); exact HO224.out) hb); have n1_ := zA (Kd.R_elder' (by (with_reducible repeat (first | apply Kd.R_alloc | apply Kd.R_drewN | apply Kd.R_drew)); exact HO227.out) (Kd.R_base ho49) hb); have n2_ := zA (Kd.R_elder' (by (with_reducible repeat (first | apply Kd.R_alloc | apply Kd.R_drewN | apply Kd.R_drew)); exact HO234.out) (Kd.R_base ho49) hb); have n3_ := zA (Kd.R_elder' (by (with_reducible repeat (first | apply Kd.R_alloc | apply Kd.R_drewN | apply Kd.R_drew)); exact HO238.out) (Kd.R_base ho49) hb); have n4_ := zA (Kd.R_elder' (by (with_reducible repeat (first | apply Kd.R_alloc | apply Kd.R_drewN | apply Kd.R_drew)); exact HO241.out) (Kd.R_base ho49) hb); have n5_ := zA (Kd.R_elder' (by (with_reducible repeat (first | apply Kd.R_alloc | apply Kd.R_drewN | apply Kd.R_drew)); exact HO245.out) (Kd.R_base ho49) hb); have n6_ := zA (Kd.R_elder' (by (with_reducible repeat (first | apply Kd.R_alloc | apply Kd.R_drewN | apply Kd.R_drew)); exact HO248.out) (Kd.R_base ho49) hb); have n7_ := zA (Kd.R_elder' (by (with_reducible repeat (first | apply Kd.R_alloc | apply Kd.R_drewN | apply Kd.R_drew)); exact HO252.out) (Kd.R_base ho49) hb); have n8_ := zA (Kd.R_elder' (by (with_reducible repeat (first | apply Kd.R_alloc | apply Kd.R_drewN | apply Kd.R_drew)); exact HO255.out) (Kd.R_base ho49) hb); have n9_ := zA (Kd.R_elder' (by (with_reducible repeat (first | apply Kd.R_alloc | apply Kd.R_drewN | apply Kd.R_drew)); exact HO259.out) (Kd.R_base ho49) hb); have n10_ := zA (Kd.R_elder' (by (with_reducible repeat (first | apply Kd.R_alloc | apply Kd.R_drewN | apply Kd.R_drew)); exact HO262.out) (Kd.R_base ho49) hb); have n11_ := zA (Kd.R_lower (Kd.R_new' (Kd.R_new' (Kd.R_new' (Kd.R_new' (Kd.R_new' (Kd.R_new' (Kd.R_new' (Kd.R_new' (Kd.R_new' (Kd.R_new' ho49 (Kd.R_lt (by (with_reducible repeat (first | apply Kd.R_alloc | apply Kd.R_drewN | apply Kd.R_drew)); exact HO227.out))) (Kd.R_lt (by (with_reducible repeat (first | apply Kd.R_alloc | apply Kd.R_drewN | apply Kd.R_drew)); exact HO234.out))) (Kd.R_lt (by (with_reducible repeat (first | apply Kd.R_alloc | apply Kd.R_drewN | apply Kd.R_drew)); exact HO238.out))) (Kd.R_lt (by (with_reducible repeat (first | apply Kd.R_alloc | apply Kd.R_drewN | apply Kd.R_drew)); exact HO241.out))) (Kd.R_lt (by (with_reducible repeat (first | apply Kd.R_alloc | apply Kd.R_drewN | apply Kd.R_drew)); exact HO245.out))) (Kd.R_lt (by (with_reducible repeat (first | apply Kd.R_alloc | apply Kd.R_drewN | apply Kd.R_drew)); exact HO248.out))) (Kd.R_lt (by (with_reducible repeat (first | apply Kd.R_alloc | apply Kd.R_drewN | apply Kd.R_drew)); exact HO252.out))) (Kd.R_lt (by (with_reducible repeat (first | apply Kd.R_alloc | apply Kd.R_drewN | apply Kd.R_drew)); exact HO255.out))) (Kd.R_lt (by (with_reducible repeat (first | apply Kd.R_alloc | apply Kd.R_drewN | apply Kd.R_drew)); exact HO259.out))) (Kd.R_lt (by (with_reducible repeat (first | apply Kd.R_alloc | apply Kd.R_drewN | apply Kd.R_drew)); exact HO262.out))) (below_size (by repeat (first | (with_reducible first | exact HB.out | apply zL | apply zN | apply zD) | exact HB.out)))); have n12_ := zA (below_step (by repeat (first | (with_reducible first | exact HB.out | apply zL | apply zN | apply zD) | exact HB.out)) hb); clear HO224; clear HO227; clear HO234; clear HO238; clear HO241; clear HO245; clear HO248; clear HO252; clear HO255; clear HO259; clear HO262; clear HB; have HO224 := n0_; have HO227 := n1_; have HO234 := n2_; have HO238 := n3_; have HO241 := n4_; have HO245 := n5_; have HO248 := n6_; have HO252 := n7_; have HO255 := n8_; have HO259 := n9_; have HO262 := n10_; have HO266 := n11_; have HB := n12_; clear n0_ n1_ n2_ n3_ n4_ n5_ n6_ n7_ n8_ n9_ n10_ n11_ n12_; clear hb ho49; obtain ⟨Ao50, co50, eo50⟩ := Kd.R_slice HO245.out; subst eo50; obtain ⟨Ao51, co51, eo51⟩ := Kd.R_slice HO266.out; subst eo51) | (go_at_call 12; (with_reducible refine (copselaw16_same.calls k _ _ t242 _ _ y264 true _ ?side1 ?side2 ?side3 ?side4 A18.out).mono ?_); (case side1 => repeat (first | exact (Kd.R_reads' HO245.out).2.2 | (with_reducible refine Kd.C_alloc ?_ _) | (with_reducible refine Kd.C_drewN ?_ _) | (with_reducible refine Kd.C_drew ?_))); (case side2 => exact (Kd.R_reads' HO245.out).2.1); (case side3 => repeat (first | exact (Kd.R_reads' HO266.out).2.2 | (with_reducible refine Kd.C_alloc ?_ _) | (with_reducible refine Kd.C_drewN ?_ _) | (with_reducible refine Kd.C_drew ?_))); (case side4 => exact (Kd.R_reads' HO266.out).2.1); rintro e w' ⟨rfl, ⟨nd, rfl⟩⟩) | ((with_reducible refine gate_dst (N := 91) rfl ?_); (try (refine gate_guard (by rfl) ?_; dsimp only)); refine Kd.R_lit Kd.string _ 9 ?hg (N := 91) ?hd (xs := ([(⟨#[97]⟩ : ByteArray), (⟨#[98]⟩ : ByteArray)] : List ByteArray)) (inner := [.string (⟨#[97]⟩ : ByteArray), .string (⟨#[98]⟩ : ByteArray)]) (ok := fun _ => True) (okp := fun _ => True) ?hr ?hp (fun _ hk => hk) trivial (Below.refl _ _) (Nat.le_refl _) (by simp) ?_; (case hd => rfl); (case hg => rfl); (case hr => first | (go_simp; done) | (go_simp; rfl)); (case hp => exact (Reps.one (show Kd.M Kd.string _ _ _ (⟨#[97]⟩ : ByteArray) [.string (⟨#[97]⟩ : ByteArray)] from rfl) (Reps.one (show Kd.M Kd.string _ _ _ (⟨#[98]⟩ : ByteArray) [.string (⟨#[98]⟩ : ByteArray)] from rfl) (Reps.none _ _)))); intro v269 w52 ho53 hb hg_ hnew_; clear hg_ hnew_; (first | rw [← Ny268.out] at ho53 | (simp only [Int.reduceToNat] at ho53; rw [← Ny268.out] at ho53)); have n0_ := zA (Kd.R_below (by (with_reducible repeat (first | apply Kd.R_alloc | apply Kd.R_drewN | apply Kd.R_drew)); exact HO224.out) hb); have n1_ := zA (Kd.R_elder' (by (with_reducible repeat (first | apply Kd.R_alloc | apply Kd.R_drewN | apply Kd.R_drew)); exact HO227.out) (Kd.R_base ho53) hb); have n2_ := zA (Kd.R_elder' (by (with_reducible repeat (first | apply Kd.R_alloc | apply Kd.R_drewN | apply Kd.R_drew)); exact HO234.out) (Kd.R_base ho53) hb); have n3_ := zA (Kd.R_elder' (by (with_reducible repeat (first | apply Kd.R_alloc | apply Kd.R_drewN | apply Kd.R_drew)); exact HO238.out) (Kd.R_base ho53) hb); have n4_ := zA (Kd.R_elder' (by (with_reducible repeat (first | apply Kd.R_alloc | apply Kd.R_drewN | apply Kd.R_drew)); exact HO241.out) (Kd.R_base ho53) hb); have n5_ := zA (Kd.R_elder' (by (with_reducible repeat (first | apply Kd.R_alloc | apply Kd.R_drewN | apply Kd.R_drew)); exact HO245.out) (Kd.R_base ho53) hb); have n6_ := zA (Kd.R_elder' (by (with_reducible repeat (first | apply Kd.R_alloc | apply Kd.R_drewN | apply Kd.R_drew)); exact HO248.out) (Kd.R_base ho53) hb); have n7_ := zA (Kd.R_elder' (by (with_reducible repeat (first | apply Kd.R_alloc | apply Kd.R_drewN | apply Kd.R_drew)); exact HO252.out) (Kd.R_base ho53) hb); have n8_ := zA (Kd.R_elder' (by (with_reducible repeat (first | apply Kd.R_alloc | apply Kd.R_drewN | apply Kd.R_drew)); exact HO255.out) (Kd.R_base ho53) hb); have n9_ := zA (Kd.R_elder' (by (with_reducible repeat (first | apply Kd.R_alloc | apply Kd.R_drewN | apply Kd.R_drew)); exact HO259.out) (Kd.R_base ho53) hb); have n10_ := zA (Kd.R_elder' (by (with_reducible repeat (first | apply Kd.R_alloc | apply Kd.R_drewN | apply Kd.R_drew)); exact HO262.out) (Kd.R_base ho53) hb); have n11_ := zA (Kd.R_elder' (by (with_reducible repeat (first | apply Kd.R_alloc | apply Kd.R_drewN | apply Kd.R_drew)); exact HO266.out) (Kd.R_base ho53) hb); have n12_ := zA (Kd.R_lower (Kd.R_new' (Kd.R_new' (Kd.R_new' (Kd.R_new' (Kd.R_new' (Kd.R_new' (Kd.R_new' (Kd.R_new' (Kd.R_new' (Kd.R_new' (Kd.R_new' ho53 (Kd.R_lt (by (with_reducible repeat (first | apply Kd.R_alloc | apply Kd.R_drewN | apply Kd.R_drew)); exact HO227.out))) (Kd.R_lt (by (with_reducible repeat (first | apply Kd.R_alloc | apply Kd.R_drewN | apply Kd.R_drew)); exact HO234.out))) (Kd.R_lt (by (with_reducible repeat (first | apply Kd.R_alloc | apply Kd.R_drewN | apply Kd.R_drew)); exact HO238.out))) (Kd.R_lt (by (with_reducible repeat (first | apply Kd.R_alloc | apply Kd.R_drewN | apply Kd.R_drew)); exact HO241.out))) (Kd.R_lt (by (with_reducible repeat (first | apply Kd.R_alloc | apply Kd.R_drewN | apply Kd.R_drew)); exact HO245.out))) (Kd.R_lt (by (with_reducible repeat (first | apply Kd.R_alloc | apply Kd.R_drewN | apply Kd.R_drew)); exact HO248.out))) (Kd.R_lt (by (with_reducible repeat (first | apply Kd.R_alloc | apply Kd.R_drewN | apply Kd.R_drew)); exact HO252.out))) (Kd.R_lt (by (with_reducible repeat (first | apply Kd.R_alloc | apply Kd.R_drewN | apply Kd.R_drew)); exact HO255.out))) (Kd.R_lt (by (with_reducible repeat (first | apply Kd.R_alloc | apply Kd.R_drewN | apply Kd.R_drew)); exact HO259.out))) (Kd.R_lt (by (with_reducible repeat (first | apply Kd.R_alloc | apply Kd.R_drewN | apply Kd.R_drew)); exact HO262.out))) (Kd.R_lt (by (with_reducible repeat (first | apply Kd.R_alloc | apply Kd.R_drewN | apply Kd.R_drew)); exact HO266.out))) (below_size (by repeat (first | (with_reducible first | exact HB.out | apply zL | apply zN | apply zD) | exact HB.out)))); have n13_ := zA (below_step (by repeat (first | (with_reducible first | exact HB.out | apply zL | apply zN | apply zD) | exact HB.out)) hb); clear HO224; clear HO227; clear HO234; clear HO238; clear HO241; clear HO245; clear HO248; clear HO252; clear HO255; clear HO259; clear HO262; clear HO266; clear HB; have HO224 := n0_; have HO227 := n1_; have HO234 := n2_; have HO238 := n3_; have HO241 := n4_; have HO245 := n5_; have HO248 := n6_; have HO252 := n7_; have HO255 := n8_; have HO259 := n9_; have HO262 := n10_; have HO266 := n11_; have HO270 := n12_; have HB := n13_; clear n0_ n1_ n2_ n3_ n4_ n5_ n6_ n7_ n8_ n9_ n10_ n11_ n12_ n13_; clear hb ho53; obtain ⟨Ao54, co54, eo54⟩ := Kd.R_slice HO252.out; subst eo54; obtain ⟨Ao55, co55, eo55⟩ := Kd.R_slice HO270.out; subst eo55) | (go_at_call 12; (with_reducible refine (copselaw16_same.calls k _ _ t249 _ _ y268 true _ ?side1 ?side2 ?side3 ?side4 A20.out).mono ?_); (case side1 => repeat (first | exact (Kd.R_reads' HO252.out).2.2 | (with_reducible refine Kd.C_alloc ?_ _) | (with_reducible refine Kd.C_drewN ?_ _) | (with_reducible refine Kd.C_drew ?_))); (case side2 => exact (Kd.R_reads' HO252.out).2.1); (case side3 => repeat (first | exact (Kd.R_reads' HO270.out).2.2 | (with_reducible refine Kd.C_alloc ?_ _) | (with_reducible refine Kd.C_drewN ?_ _) | (with_reducible refine Kd.C_drew ?_))); (case side4 => exact (Kd.R_reads' HO270.out).2.1); rintro e w' ⟨rfl, ⟨nd, rfl⟩⟩))
                      go_ret
                      exact ⟨by first | rfl | (simp [errW_none, errW_some] <;> rfl) | (simp [*, errW_none, errW_some] <;> rfl), by repeat (first | (with_reducible first | exact HB.out | apply zL | apply zN | apply zD) | exact HB.out)⟩
                    · replace c19 := Bool.eq_false_iff.mpr c19
                      subst c19
                      have H1 : (some false) = some true := by rw [if_neg (show ¬ (false = true) by decide)] at H; exact H
                      cases H1
                  · replace c17 := Bool.eq_false_iff.mpr c17
                    subst c17
                    have H1 : (some false) = some true := by rw [if_neg (show ¬ (false = true) by decide)] at H; exact H
                    cases H1
                · rw [if_neg c15] at H; cases H
              · rw [if_neg c14] at H; cases H
            · rw [if_neg c13] at H; cases H
          · rw [if_neg c12] at H; cases H
        · rw [if_neg c11] at H; cases H
      · rw [if_neg c10] at H; cases H
    · rw [if_neg c9] at H; cases H
  · rw [if_neg c8] at H; cases H
end Go.Proofs.YtnfolcefjkannaaDoor.G
namespace Go.Proofs.YtnfolcefjkannaaDoor.G
set_option linter.unusedSectionVars false
set_option linter.unusedVariables false
set_option linter.unusedSimpArgs false
open Go Go.RowKit Go.Proofs.YtnfolcefjkannaaDoorW.PrintWords Go.Proofs.YtnfolcefjkannaaDoorW.PrintLast Go.Proofs.YtnfolcefjkannaaDoorW.PrintMore Go.Proofs.YtnfolcefjkannaaDoor.Base
def exF : List File := [(⟨(⟨#[97, 47, 120, 47, 49]⟩ : ByteArray), (⟨#[]⟩ : ByteArray), 0, 5⟩ : File), (⟨(⟨#[97, 47, 121, 47, 50]⟩ : ByteArray), (⟨#[]⟩ : ByteArray), 0, 7⟩ : File), (⟨(⟨#[97, 47, 122, 47, 51]⟩ : ByteArray), (⟨#[]⟩ : ByteArray), 0, 100⟩ : File), (⟨(⟨#[98, 47, 52]⟩ : ByteArray), (⟨#[]⟩ : ByteArray), 0, 1⟩ : File), (⟨(⟨#[114]⟩ : ByteArray), (⟨#[]⟩ : ByteArray), 0, 3⟩ : File)]
abbrev bA : ByteArray := ⟨#[97]⟩
abbrev bB : ByteArray := ⟨#[98]⟩
abbrev bAX : ByteArray := ⟨#[97, 47, 120]⟩
abbrev bAY : ByteArray := ⟨#[97, 47, 121]⟩
theorem ex1 : CostP exF [bAX] = (8, 0) := by kernel_rfl
theorem ex2 : CostP exF [] = (3, 0) := by kernel_rfl
theorem ex3 : StepP exF [bAX, bAY, bB] = ([bA, bB], 0) := by kernel_rfl
theorem ex4 : DownP exF [bAX, bAY, bB] 1 = ([⟨#[]⟩], 0) := by kernel_rfl
theorem ex5 : AtP [bAX, bAY, bB] bA = ([bA, bB], 0) := by kernel_rfl
theorem ex6 : (DownP exF [bB, bA] 0).2 = 13 := by kernel_rfl
theorem short_lit {p : ByteArray} (h : decide (p.size ≤ 2147483648) = true) : Short p := by unfold Short; exact of_decide_eq_true h
theorem exF_short : ShortF exF := by
  intro f hf
  unfold exF at hf
  simp only [List.mem_cons, List.not_mem_nil, or_false] at hf
  rcases hf with rfl | rfl | rfl | rfl | rfl <;> exact ⟨short_lit (by kernel_rfl), short_lit (by kernel_rfl)⟩
theorem ex_cones {c : ByteArray} (h : c = bAX ∨ c = bAY ∨ c = bB ∨ c = bA) : Short c := by
  rcases h with rfl | rfl | rfl | rfl <;> exact short_lit (by kernel_rfl)
theorem head_pure : ∃ k, copselaw16_head.f k = some true := by
  have hs := exF_short
  have hl : exF.length ≤ 2147483649 := by unfold exF; simp
  have c1 : ∀ c ∈ [bAX], Short c := fun c hc => ex_cones (.inl (List.mem_singleton.1 hc))
  have c2 : ∀ c ∈ ([] : List ByteArray), Short c := by simp
  have c3 : ∀ c ∈ [bAX, bAY, bB], Short c := by
    intro c hc
    simp only [List.mem_cons, List.not_mem_nil, or_false] at hc
    exact ex_cones (by rcases hc with h | h | h <;> simp [h])
  have c4 : ∀ c ∈ [bB, bA], Short c := by
    intro c hc
    simp only [List.mem_cons, List.not_mem_nil, or_false] at hc
    exact ex_cones (by rcases hc with h | h <;> simp [h])
  have E : Ev (fun k => copselaw16_head.f k) true := by
    refine Ev.bind (a := exF) (Ev.of rfl) ?_
    refine Ev.bind (merge_Cost_sp exF hs hl [bAX] c1 (by simp)) ?_
    refine Ev.bind (merge_Cost_sp exF hs hl [] c2 (by simp)) ?_
    refine Ev.bind (merge_Step_sp exF hs hl [bAX, bAY, bB] c3 (by simp)) ?_
    refine Ev.bind (merge_Down_sp exF hs hl [bAX, bAY, bB] c3 (by simp) 1) ?_
    refine Ev.bind (merge_At_sp bA (short_lit (by kernel_rfl)) [bAX, bAY, bB] c3 (by simp)) ?_
    refine Ev.bind (merge_Down_sp exF hs hl [bB, bA] c4 (by simp) 0) ?_
    rw [ex1, ex2, ex3, ex4, ex5, ex6]
    have s1 := same_sp [bA, bB] (by simp)
    have s2 := same_sp [(⟨#[]⟩ : ByteArray)] (by simp)
    simp only [if_true]
    refine Ev.bind s1 ?_
    simp only [if_true]
    refine Ev.bind s2 ?_
    simp only [if_true]
    exact Ev.bind (F := fun _ t => some t) s1 (Ev.of rfl)
  obtain ⟨K, h⟩ := E
  exact ⟨K, h K (Nat.le_refl _)⟩
end Go.Proofs.YtnfolcefjkannaaDoor.G
namespace Go.Proofs.YtnfolcefjkannaaDoor.G
open Go.RowKit Go.Proofs.YtnfolcefjkannaaDoorW.PrintWords Go.Proofs.YtnfolcefjkannaaDoorW.PrintLast Go.Proofs.YtnfolcefjkannaaDoorW.PrintMore
attribute [local go_sem] max2_int min2_int max_two min_two max_three min_three max_four min_four
set_option linter.unusedVariables false
set_option linter.unusedSimpArgs false
open Go.Proofs.YtnfolcefjkannaaDoor.TrieM Go.Proofs.YtnfolcefjkannaaDoor.Wl Go.Proofs.YtnfolcefjkannaaDoor.MapLaws
def small.T1 : Bool × List (List Nat × List Nat) := (true, [([], []), ([], []), ([1], [1]), ([2], [2]), ([0, 3], [0, 3]), ([], []), ([], []), ([6], [6]), ([7], [7]), ([5, 8], [5, 8]), ([4, 0, 1, 2, 3, 4], [4]), ([9, 10, 0, 1, 2, 3, 4, 5, 6, 7, 8, 9, 10], [9])])
def small.B1 : List Nat := [0, 0, 2, 6, 15, 0, 0, 64, 192, 480, 31, 2047]
theorem small.tab1 : rtab .any (opsOf Tryd.f7 1) = small.T1 := by kernel_rfl
theorem small.bits1 : waitsOk small.T1.2 small.B1 = true := by kernel_rfl
theorem small_calls (A0 : Option Addr) (n0 c0 : Nat) (A1 : Option Addr) (n1 c1 : Nat) (w : World) (h0 : n0 ≤ c0) (h1 : n1 ≤ c1) :
    Calls Tryd.prog 7 #[.slice A0 n0 c0, .slice A1 n1 c1] w fun e w' => e = .returned (.tuple #[.slice A0 (min 120 n0) c0, .slice A1 (min 16 n1) c1]) ∧ w' = w.drew := by
  go_enter Tryd.func7, Tryd.ntmps7
  have hA : (0 ≤ if (120 : Int) < (n0 : Int) then (120 : Int) else (n0 : Int)) ∧ (if (120 : Int) < (n0 : Int) then (120 : Int) else (n0 : Int)) ≤ (c0 : Int) := by split <;> omega
  have hB : (0 ≤ if (16 : Int) < (n1 : Int) then (16 : Int) else (n1 : Int)) ∧ (if (16 : Int) < (n1 : Int) then (16 : Int) else (n1 : Int)) ≤ (c1 : Int) := by split <;> omega
  have eA : (if (120 : Int) < (n0 : Int) then (120 : Int) else (n0 : Int)).toNat = min 120 n0 := by split <;> omega
  have eB : (if (16 : Int) < (n1 : Int) then (16 : Int) else (n1 : Int)).toNat = min 16 n1 := by split <;> omega
  go_wp2
  refine start_ (n := 12) (S := fun _ => True) (ds := []) #[F, F, F, F, F, F, F, F, F, F, F, F] (by kernel_rfl) rfl rfl trivial (fun hHeld => ?_)
  refine with_tabW small.tab1 small.bits1 (fun HT_ HW_ => ?_)
  refine pure_ (i := 0) (N := some 6) (v := ?_) (a' := ?_) #[T, F, F, F, F, F, F, F, F, F, F, F] rfl rfl (any_of HT_.out (by kernel_rfl)) (fun _ _ _ h => h) (Or.inl ⟨by rfl, ?_⟩) ?_ ?_
  rotate_left
  · intro w'
    go_simp
    with_reducible rfl
  rotate_left
  · simp only [Act.put, zS, zZ, zC, i64_w, i32_w]
    rfl
  refine pure_ (i := 1) (N := some 7) (v := ?_) (a' := ?_) #[T, T, F, F, F, F, F, F, F, F, F, F] rfl rfl (any_of HT_.out (by kernel_rfl)) (fun _ _ _ h => h) (Or.inl ⟨by rfl, ?_⟩) ?_ ?_
  rotate_left
  · intro w'
    go_simp
    with_reducible rfl
  rotate_left
  · simp only [Act.put, zS, zZ, zC, i64_w, i32_w]
    rfl
  refine pure_ (i := 2) (N := some 8) (v := ?_) (a' := ?_) #[T, T, T, F, F, F, F, F, F, F, F, F] rfl rfl (any_of HT_.out (by kernel_rfl)) (fun _ _ _ h => h) (Or.inl ⟨by rfl, ?_⟩) ?_ ?_
  rotate_left
  · intro w'
    go_simp
    with_reducible rfl
  rotate_left
  · simp only [Act.put, zS, zZ, zC, i64_w, i32_w]
    rfl
  refine pure_ (i := 3) (N := some 9) (v := ?_) (a' := ?_) #[T, T, T, T, F, F, F, F, F, F, F, F] rfl rfl (any_of HT_.out (by kernel_rfl)) (fun _ _ _ h => h) (Or.inl ⟨by rfl, ?_⟩) ?_ ?_
  rotate_left
  · intro w'
    go_simp
    with_reducible rfl
  rotate_left
  · simp only [Act.put, zS, zZ, zC, i64_w, i32_w]
    rfl
  refine pure_ (i := 5) (N := some 11) (v := ?_) (a' := ?_) #[T, T, T, T, F, T, F, F, F, F, F, F] rfl rfl (any_of HT_.out (by kernel_rfl)) (fun _ _ _ h => h) (Or.inl ⟨by rfl, ?_⟩) ?_ ?_
  rotate_left
  · intro w'
    go_simp
    with_reducible rfl
  rotate_left
  · simp only [Act.put, zS, zZ, zC, i64_w, i32_w]
    rfl
  refine pure_ (i := 6) (N := some 12) (v := ?_) (a' := ?_) #[T, T, T, T, F, T, T, F, F, F, F, F] rfl rfl (any_of HT_.out (by kernel_rfl)) (fun _ _ _ h => h) (Or.inl ⟨by rfl, ?_⟩) ?_ ?_
  rotate_left
  · intro w'
    go_simp
    with_reducible rfl
  rotate_left
  · simp only [Act.put, zS, zZ, zC, i64_w, i32_w]
    rfl
  refine pure_ (i := 7) (N := some 13) (v := ?_) (a' := ?_) #[T, T, T, T, F, T, T, T, F, F, F, F] rfl rfl (any_of HT_.out (by kernel_rfl)) (fun _ _ _ h => h) (Or.inl ⟨by rfl, ?_⟩) ?_ ?_
  rotate_left
  · intro w'
    go_simp
    with_reducible rfl
  rotate_left
  · simp only [Act.put, zS, zZ, zC, i64_w, i32_w]
    rfl
  refine pure_ (i := 8) (N := some 14) (v := ?_) (a' := ?_) #[T, T, T, T, F, T, T, T, T, F, F, F] rfl rfl (any_of HT_.out (by kernel_rfl)) (fun _ _ _ h => h) (Or.inl ⟨by rfl, ?_⟩) ?_ ?_
  rotate_left
  · intro w'
    go_simp
    with_reducible rfl
  rotate_left
  · simp only [Act.put, zS, zZ, zC, i64_w, i32_w]
    rfl
  refine take_ (i := 4) (N := some 10) (v := ?_) (a' := ?_) #[T, T, T, T, T, T, T, T, T, F, F, F] rfl rfl (take_ofW HT_.out HW_.out (by kernel_rfl)) (fun _ _ _ h => h) (Or.inl ⟨by rfl, ?_⟩) hHeld ?_ ?_
  rotate_left
  · rintro w' _hs
    go_simp
    with_reducible rfl
  rotate_left
  · simp only [Act.put, zS, zZ, zC, i64_w, i32_w]
    rfl
  refine pure_ (i := 10) (N := some 4) (v := ?_) (a' := ?_) #[T, T, T, T, T, T, T, T, T, F, T, F] rfl rfl (any_of HT_.out (by kernel_rfl)) (fun _ _ _ h => h) (Or.inl ⟨by rfl, ?_⟩) ?_ ?_
  rotate_left
  · intro w'
    go_simp
    with_reducible rfl
  rotate_left
  · simp only [Act.put, zS, zZ, zC, i64_w, i32_w]
    rfl
  refine take_ (i := 9) (N := some 15) (v := ?_) (a' := ?_) #[T, T, T, T, T, T, T, T, T, T, T, F] rfl rfl (take_ofW HT_.out HW_.out (by kernel_rfl)) (fun _ _ _ h => h) (Or.inl ⟨by rfl, ?_⟩) hHeld ?_ ?_
  rotate_left
  · rintro w' _hs
    go_simp
    with_reducible rfl
  rotate_left
  · simp only [Act.put, zS, zZ, zC, i64_w, i32_w]
    rfl
  refine pure_ (i := 11) (N := some 5) (v := ?_) (a' := ?_) #[T, T, T, T, T, T, T, T, T, T, T, T] rfl rfl (any_of HT_.out (by kernel_rfl)) (fun _ _ _ h => h) (Or.inl ⟨by rfl, ?_⟩) ?_ ?_
  rotate_left
  · intro w'
    go_simp
    with_reducible rfl
  rotate_left
  · simp only [Act.put, zS, zZ, zC, i64_w, i32_w]
    rfl
  refine done_ (done_of HT_.out (by kernel_rfl)) ?_
  clear hHeld HT_ HW_ hA hB eA eB
  go_wp2
  all_goals (go_ret2; exact ⟨rfl, rfl⟩)
theorem drawn_below {w w' : World} (h : Drawn0 w w') : Below w.heap.size w w' := by
  obtain ⟨n, rfl⟩ := h
  exact zN (Below.refl _ _) n
end Go.Proofs.YtnfolcefjkannaaDoor.G
namespace Go.Proofs.YtnfolcefjkannaaDoor.G
set_option linter.unusedSectionVars false
set_option linter.unusedVariables false
set_option linter.unusedSimpArgs false
open Go Go.RowKit Go.Proofs.YtnfolcefjkannaaDoorW.PrintWords Go.Proofs.YtnfolcefjkannaaDoorW.PrintLast Go.Proofs.YtnfolcefjkannaaDoorW.PrintMore Go.Proofs.YtnfolcefjkannaaDoor.Base
def inP (c : ByteArray) (z : List ByteArray) : Bool := z.any fun m => decide (sp m <+: sp c)
theorem covered_l1 (y z : List ByteArray) (hz : ∀ c ∈ z, Short c) (hzl : z.length ≤ 2147483649) (i : Nat) (hi : i < y.length) (hc : Short (rdB y i)) (hyl : y.length ≤ 2147483649) (v : Bool) (V : Ev (fun k => copselaw16_covered.l0 k y z ((i + 1 : Nat) : Int)) v) :
    ∀ (m j : Nat) (b : Bool), j + m = z.length → Ev (fun k => copselaw16_covered.l1 k y z (i : Int) b (j : Int)) (if (b || inP (rdB y i) (z.drop j)) = true then v else false) := by
  have w1 : wrap64 ((i : Int) + 1) = ((i + 1 : Nat) : Int) := by rw [wrap_id (by omega) (by omega)]; omega
  intro m
  induction m with
  | zero =>
    intro j b hm
    rw [List.drop_eq_nil_of_le (by omega)]
    have e : inP (rdB y i) [] = false := rfl
    rw [e, Bool.or_false]
    cases b with
    | true =>
      refine Ev.step V (fun k => ?_)
      simp only [copselaw16_covered.l1]
      rw [if_neg (by omega), if_pos trivial, w1]
    | false =>
      refine Ev.step (Ev.of (X := some false) rfl) (fun k => ?_)
      simp only [copselaw16_covered.l1]
      rw [if_neg (by omega), if_neg (by decide)]
  | succ m ih =>
    intro j b hm
    have w2 : wrap64 ((j : Int) + 1) = ((j + 1 : Nat) : Int) := by rw [wrap_id (by omega) (by omega)]; omega
    have sm := hz _ (rdOf_mem z j (by omega))
    have hd : inP (rdB y i) (z.drop j) = (decide (sp (rdB z j) <+: sp (rdB y i)) || inP (rdB y i) (z.drop (j + 1))) := by rw [drop_rdB z j (by omega)]; rfl
    rw [hd]
    cases b with
    | true =>
      have IH := ih (j + 1) true (by omega)
      rw [Bool.true_or] at IH ⊢
      refine Ev.step IH (fun k => ?_)
      simp only [copselaw16_covered.l1]
      rw [if_pos (by omega), if_pos trivial, w2]
    | false =>
      rw [Bool.false_or]
      by_cases he : (rdB z j).toList = (rdB y i).toList
      · have IH := ih (j + 1) true (by omega)
        rw [Bool.true_or] at IH
        have e : rdB z j = rdB y i := data_inj (by rw [← toList_eq_data, ← toList_eq_data]; exact he)
        rw [decide_eq_true (by rw [e]; exact List.prefix_refl _), Bool.true_or]
        refine Ev.step IH (fun k => ?_)
        simp only [copselaw16_covered.l1]
        rw [if_pos (by omega), if_neg (by decide), if_pos (by omega), if_pos (by omega), if_pos (by omega), if_pos he, w2]
      · refine Ev.step (Y := fun k => (copseref02_Above.f k (rdB z j) (rdB y i)).bind fun t => copselaw16_covered.l1 k y z (i : Int) t ((j + 1 : Nat) : Int)) (Ev.bind (ref_Above_sp _ _ sm hc) ?_) (fun k => ?_)
        · have IH := ih (j + 1) (aboveP (rdB z j) (rdB y i)) (by omega)
          have e : decide (sp (rdB z j) <+: sp (rdB y i)) = aboveP (rdB z j) (rdB y i) := by
            rw [Bool.eq_iff_iff, decide_eq_true_eq, aboveP_iff]
            constructor
            · intro h; exact ⟨h, fun e => he (by rw [sp_inj e])⟩
            · intro h; exact h.1
          rw [e]
          exact IH
        · simp only [copselaw16_covered.l1]
          rw [if_pos (by omega), if_neg (by decide), if_pos (by omega), if_pos (by omega), if_pos (by omega), if_neg he, w2]
theorem covered_l0 (y z : List ByteArray) (hy : ∀ c ∈ y, Short c) (hz : ∀ c ∈ z, Short c) (hzl : z.length ≤ 2147483649) (hyl : y.length ≤ 2147483649) : ∀ (m i : Nat), i + m = y.length → (∀ c ∈ y.drop i, inP c z = true) → Ev (fun k => copselaw16_covered.l0 k y z (i : Int)) true := by
  intro m
  induction m with
  | zero =>
    intro i hm _
    refine Ev.step (Ev.of (X := some true) rfl) (fun k => ?_)
    simp only [copselaw16_covered.l0]
    rw [if_neg (by omega)]
  | succ m ih =>
    intro i hm h
    rw [drop_rdB y i (by omega)] at h
    have IH := ih (i + 1) (by omega) (fun c hc => h c (by simp [hc]))
    have L := covered_l1 y z hz hzl i (by omega) (hy _ (rdOf_mem y i (by omega))) hyl true IH z.length 0 false (by omega)
    rw [List.drop_zero, h (rdB y i) (by simp), Bool.or_true, if_pos rfl] at L
    refine Ev.step L (fun k => ?_)
    simp only [copselaw16_covered.l0]
    rw [if_pos (by omega)]
    rfl
theorem covered_sp (y z : List ByteArray) (hy : ∀ c ∈ y, Short c) (hz : ∀ c ∈ z, Short c) (hzl : z.length ≤ 2147483649) (hyl : y.length ≤ 2147483649) (h : ∀ c ∈ y, inP c z = true) : Ev (fun k => copselaw16_covered.f k y z) true :=
  covered_l0 y z hy hz hzl hyl y.length 0 (by omega) (by rw [List.drop_zero]; exact h)
def viewP (l : List File) (x : List ByteArray) : List File := l.filter fun f => shownB x (sp (dirP f.f0))
theorem near_sp (c d : ByteArray) (hc : Short c) (hd : Short d) : cone_Shows.near c d = some (decide (sp c <+: sp d) || decide (sp d <+: sp c)) := by
  unfold cone_Shows.near
  by_cases he : c.toList = d.toList
  · have e : c = d := data_inj (by rw [← toList_eq_data, ← toList_eq_data]; exact he)
    rw [if_pos he, e, decide_eq_true (List.prefix_refl _)]; rfl
  · rw [if_neg he, path_Above_sp _ _ hc hd, path_Above_sp _ _ hd hc]
    simp only [Option.bind_some]
    have e1 : decide (sp c <+: sp d) = aboveP c d := by
      rw [Bool.eq_iff_iff, decide_eq_true_eq, aboveP_iff]
      exact ⟨fun h => ⟨h, fun e => he (by rw [sp_inj e])⟩, fun h => h.1⟩
    have e2 : decide (sp d <+: sp c) = aboveP d c := by
      rw [Bool.eq_iff_iff, decide_eq_true_eq, aboveP_iff]
      exact ⟨fun h => ⟨h, fun e => he (by rw [sp_inj e])⟩, fun h => h.1⟩
    rw [e1, e2]
    cases aboveP c d <;> rfl
theorem shows_go (d : ByteArray) (hd : Short d) : ∀ (x : List ByteArray), (∀ c ∈ x, Short c) → cone_Shows.go d x = some (x.any fun c => decide (sp c <+: sp d) || decide (sp d <+: sp c))
  | [], _ => rfl
  | c :: x, h => by
    unfold cone_Shows.go
    rw [near_sp c d (h c (by simp)) hd, shows_go d hd x (fun a ha => h a (by simp [ha])), List.any_cons]
    simp only [Option.bind_some]
    cases (decide (sp c <+: sp d) || decide (sp d <+: sp c)) <;> rfl
theorem shows_sp (x : List ByteArray) (hx : ∀ c ∈ x, Short c) (hl : x.length ≤ 2147483649) (p : ByteArray) (hp : Short p) : Ev (fun k => cone_Shows.f k x p) (shownB x (sp (dirP p))) := by
  refine Ev.bind (path_Dir_sp p hp) (Ev.of ?_)
  unfold shownB
  by_cases h : (dirP p).toList = []
  · rw [if_pos h, decide_eq_true (sp_nil.2 (by rw [← toList_eq_data]; exact h)), Bool.or_true]
  · rw [if_neg h, if_pos (by omega), shows_go _ (dir_short p hp) x hx, decide_eq_false (fun e => h (by rw [toList_eq_data]; exact sp_nil.1 e)), Bool.or_false]
theorem view_l0 (x : List ByteArray) (hx : ∀ c ∈ x, Short c) (hl : x.length ≤ 2147483649) (l : List File) (hf : ∀ f ∈ l, Short f.f0) (hll : l.length ≤ 2147483649) : ∀ (m i : Nat) (acc : List File), i + m = l.length → acc.length ≤ i → Ev (fun k => cone_View.l0 k x acc l (l.length : Int) (i : Int)) (acc ++ viewP (l.drop i) x, 0) := by
  intro m
  induction m with
  | zero =>
    intro i acc hm ha
    rw [List.drop_eq_nil_of_le (by omega)]
    refine Ev.step (Ev.of (X := some (acc ++ viewP [] x, 0)) rfl) (fun k => ?_)
    simp only [cone_View.l0]
    rw [if_neg (by omega)]
    simp [viewP]
  | succ m ih =>
    intro i acc hm ha
    have w1 : wrap64 ((i : Int) + 1) = ((i + 1 : Nat) : Int) := by rw [wrap_id (by omega) (by omega)]; omega
    have sf := hf _ (rdF_mem l i (by omega))
    have hd : l.drop i = rdF l i :: l.drop (i + 1) := by rw [List.drop_eq_getElem_cons (by omega), rdF_get l i (by omega)]
    rw [hd]
    have hv : viewP (rdF l i :: l.drop (i + 1)) x = if shownB x (sp (dirP (rdF l i).f0)) = true then rdF l i :: viewP (l.drop (i + 1)) x else viewP (l.drop (i + 1)) x := by
      unfold viewP
      rw [List.filter_cons]
    rw [hv]
    refine Ev.step (Y := fun k => (cone_Shows.f k x (rdF l i).f0).bind fun t => if t = true then cone_View.l0 k x (acc ++ [rdF l i]) l (l.length : Int) ((i + 1 : Nat) : Int) else cone_View.l0 k x acc l (l.length : Int) ((i + 1 : Nat) : Int)) (Ev.bind (shows_sp x hx hl _ sf) ?_) (fun k => ?_)
    · cases shownB x (sp (dirP (rdF l i).f0)) with
      | true =>
        have IH := ih (i + 1) (acc ++ [rdF l i]) (by omega) (by simp; omega)
        rw [List.append_assoc] at IH
        simpa using IH
      | false =>
        have IH := ih (i + 1) acc (by omega) (by omega)
        simpa using IH
    · simp only [cone_View.l0]
      rw [if_pos (by omega), if_pos (by omega), if_pos (by omega), w1]
      congr 1
      funext t
      rw [if_pos (show acc.length < 2932031007402 by omega)]
theorem view_sp (l : List File) (hf : ShortF l) (hll : l.length ≤ 2147483649) (x : List ByteArray) (hx : ∀ c ∈ x, Short c) (hl : x.length ≤ 2147483649) (h : lookedP l x = 0) : Ev (fun k => cone_View.f k l x) (viewP l x, 0) := by
  have hs : snapP l = 0 ∧ conesP x = true := by
    unfold lookedP at h
    by_cases h1 : snapP l = 0
    · rw [if_pos h1] at h
      by_cases h2 : conesP x = true
      · exact ⟨h1, h2⟩
      · rw [if_neg h2] at h; omega
    · rw [if_neg h1] at h; exact absurd h h1
  refine Ev.bind (snap_Valid_sp l (fun f h => (hf f h).1) hll) ?_
  rw [hs.1]
  simp only [if_true]
  refine Ev.bind (cone_Valid_sp x hx hl) ?_
  rw [hs.2]
  simp only [if_true]
  have := view_l0 x hx hl l (fun f h => (hf f h).1) hll l.length 0 [] (by omega) (by simp)
  rw [List.drop_zero, List.nil_append] at this
  exact this
theorem file_eq (a b : File) : (!((a.f0.toList) == (b.f0.toList)) || (!((a.f1.toList) == (b.f1.toList)) || (!(a.f2 == b.f2) || (!(a.f3 == b.f3))))) = true ↔ a ≠ b := by
  constructor
  · intro h e
    subst e
    simp at h
  · intro h
    by_cases h0 : a.f0.toList = b.f0.toList
    · by_cases h1 : a.f1.toList = b.f1.toList
      · by_cases h2 : a.f2 = b.f2
        · by_cases h3 : a.f3 = b.f3
          · exfalso
            apply h
            have e0 : a.f0 = b.f0 := data_inj (by rw [← toList_eq_data, ← toList_eq_data]; exact h0)
            have e1 : a.f1 = b.f1 := data_inj (by rw [← toList_eq_data, ← toList_eq_data]; exact h1)
            cases a; cases b
            simp only [] at e0 e1 h2 h3
            rw [e0, e1, h2, h3]
          · simp [h3]
        · simp [h2]
      · simp [h1]
    · simp [h0]
theorem within_l1 (a b : List File) (ha : a.length ≤ 2147483649) (hb : b.length ≤ 2147483649) (i : Nat) (hi : i < a.length) (IH : ∀ j, j ≤ b.length → (a.drop (i + 1)).Sublist (b.drop j) → Ev (fun k => copselaw16_within.l0 k a b (j : Int) ((i + 1 : Nat) : Int)) true) :
    ∀ (m j : Nat), j + m = b.length → (a.drop i).Sublist (b.drop j) → Ev (fun k => copselaw16_within.l1 k a b (j : Int) (i : Int)) true := by
  have w1 : wrap64 ((i : Int) + 1) = ((i + 1 : Nat) : Int) := by rw [wrap_id (by omega) (by omega)]; omega
  have hda : a.drop i = rdF a i :: a.drop (i + 1) := by rw [List.drop_eq_getElem_cons hi, rdF_get a i hi]
  intro m
  induction m with
  | zero =>
    intro j hm h
    have hb0 : b.drop j = [] := List.drop_eq_nil_of_le (by omega)
    rw [hb0, hda] at h
    cases h
  | succ m ih =>
    intro j hm h
    have w2 : wrap64 ((j : Int) + 1) = ((j + 1 : Nat) : Int) := by rw [wrap_id (by omega) (by omega)]; omega
    have hdb : b.drop j = rdF b j :: b.drop (j + 1) := by rw [List.drop_eq_getElem_cons (by omega), rdF_get b j (by omega)]
    by_cases he : rdF b j = rdF a i
    · have h2 : (a.drop (i + 1)).Sublist (b.drop j) := by
        rw [hda] at h
        exact (List.sublist_cons_self _ _).trans h
      refine Ev.step (IH j (by omega) h2) (fun k => ?_)
      simp only [copselaw16_within.l1]
      rw [if_pos (by omega), if_pos (by omega), if_pos (by omega), if_pos (by omega), if_neg (fun e => (file_eq (rdF b j) (rdF a i)).1 e he), if_neg (by omega), w1]
    · have h2 : (a.drop i).Sublist (b.drop (j + 1)) := by
        rw [hdb, hda] at h
        rw [hda]
        generalize rdF a i = u at *
        generalize rdF b j = v at *
        cases h with
        | cons _ h => exact h
        | cons_cons _ h => exact absurd rfl he
      refine Ev.step (ih (j + 1) (by omega) h2) (fun k => ?_)
      simp only [copselaw16_within.l1]
      rw [if_pos (by omega), if_pos (by omega), if_pos (by omega), if_pos (by omega), if_pos ((file_eq (rdF b j) (rdF a i)).2 he), w2]
theorem within_l0 (a b : List File) (ha : a.length ≤ 2147483649) (hb : b.length ≤ 2147483649) : ∀ (m i : Nat), i + m = a.length → ∀ j, j ≤ b.length → (a.drop i).Sublist (b.drop j) → Ev (fun k => copselaw16_within.l0 k a b (j : Int) (i : Int)) true := by
  intro m
  induction m with
  | zero =>
    intro i hm j _ _
    refine Ev.step (Ev.of (X := some true) rfl) (fun k => ?_)
    simp only [copselaw16_within.l0]
    rw [if_neg (by omega)]
  | succ m ih =>
    intro i hm j hj h
    refine Ev.step (within_l1 a b ha hb i (by omega) (ih (i + 1) (by omega)) (b.length - j) j (by omega) h) (fun k => ?_)
    simp only [copselaw16_within.l0]
    rw [if_pos (by omega)]
theorem within_sp (a b : List File) (ha : a.length ≤ 2147483649) (hb : b.length ≤ 2147483649) (h : a.Sublist b) : Ev (fun k => copselaw16_within.f k a b) true :=
  within_l0 a b ha hb a.length 0 (by omega) 0 (by omega) h
theorem atP_cover (p : ByteArray) : ∀ (x : List ByteArray) (d : Bool) (c : ByteArray), c ∈ x → (d = true ∧ sp p <+: sp c) ∨ ∃ m ∈ atP p d x, sp m <+: sp c ∧ (m = c ∨ m = p)
  | [], _, _, h => by cases h
  | a :: x, d, c, h => by
    unfold atP
    by_cases hb : sp p <+: sp a
    · rw [if_pos hb]
      cases d with
      | true =>
        rw [if_pos rfl]
        rcases List.mem_cons.1 h with rfl | h
        · exact .inl ⟨rfl, hb⟩
        · exact atP_cover p x true c h
      | false =>
        rw [if_neg (by decide)]
        rcases List.mem_cons.1 h with rfl | h
        · exact .inr ⟨p, by simp, hb, .inr rfl⟩
        · rcases atP_cover p x true c h with ⟨_, h⟩ | ⟨m, h1, h2⟩
          · exact .inr ⟨p, by simp, h, .inr rfl⟩
          · exact .inr ⟨m, by simp [h1], h2⟩
    · rw [if_neg hb]
      rcases List.mem_cons.1 h with rfl | h
      · exact .inr ⟨c, by simp, List.prefix_refl _, .inl rfl⟩
      · rcases atP_cover p x d c h with h | ⟨m, h1, h2⟩
        · exact .inl h
        · exact .inr ⟨m, by simp [h1], h2⟩
theorem at_covers (p : ByteArray) (x : List ByteArray) (c : ByteArray) (hc : c ∈ x) : ∃ m ∈ atP p false x, sp m <+: sp c ∧ (m = c ∨ m = p) := by
  rcases atP_cover p x false c hc with ⟨h, _⟩ | h
  · cases h
  · exact h
theorem at_inP (p : ByteArray) (x : List ByteArray) (c : ByteArray) (hc : c ∈ x) : inP c (atP p false x) = true := by
  obtain ⟨m, h1, h2, _⟩ := at_covers p x c hc
  unfold inP
  rw [List.any_eq_true]
  exact ⟨m, h1, decide_eq_true h2⟩
theorem at_shown (p : ByteArray) (x : List ByteArray) (D : Pc) (h : shownB x D = true) : shownB (atP p false x) D = true := by
  rw [shownB_iff] at h ⊢
  rcases h with ⟨c, hc, h⟩ | h
  · left
    obtain ⟨m, h1, h2, _⟩ := at_covers p x c hc
    refine ⟨m, h1, ?_⟩
    rcases h with h | h
    · exact .inl (h2.trans h)
    · exact List.prefix_or_prefix_of_prefix h2 h
  · exact .inr h
theorem filter_sub {α : Type} (P Q : α → Bool) (h : ∀ a, P a = true → Q a = true) : ∀ l : List α, (l.filter P).Sublist (l.filter Q)
  | [] => List.Sublist.slnil
  | a :: l => by
    rw [List.filter_cons, List.filter_cons]
    cases hp : P a with
    | true => rw [if_pos rfl, if_pos (h a hp)]; exact (filter_sub P Q h l).cons_cons a
    | false =>
      rw [if_neg (by decide)]
      cases Q a with
      | true => rw [if_pos rfl]; exact (filter_sub P Q h l).cons a
      | false => rw [if_neg (by decide)]; exact filter_sub P Q h l
theorem view_mono (p : ByteArray) (l : List File) (x : List ByteArray) : (viewP l x).Sublist (viewP l (atP p false x)) :=
  filter_sub _ _ (fun _ h => at_shown p x _ h) l
theorem total_mono (p : ByteArray) (x : List ByteArray) : ∀ (l : List File), totalF l x ≤ totalF l (atP p false x)
  | [] => Nat.le_refl _
  | f :: l => by
    have IH := total_mono p x l
    unfold totalF at *
    rw [List.map_cons, List.sum_cons, List.map_cons, List.sum_cons]
    by_cases h : shownB x (sp (dirP f.f0)) = true
    · rw [if_pos h, if_pos (at_shown p x _ h)]; omega
    · rw [if_neg h]; omega
theorem toldN_mono {a b : Nat} (h : a ≤ b) : toldN a ≤ toldN b := by unfold toldN; split <;> split <;> omega
theorem better_le {p : ByteArray} {c : Int} {q : ByteArray} {d : Int} : (betterP p c q d = true → c ≤ d) ∧ (betterP p c q d = false → d ≤ c) := by
  unfold betterP
  by_cases h : c = d
  · rw [if_pos h]; omega
  · rw [if_neg h]
    simp only [decide_eq_true_eq, decide_eq_false_iff_not]
    omega
theorem bestP_le : ∀ (xs : List Cand) (b : ByteArray) (c : Int), (bestP b c xs).2 ≤ c ∧ ∀ x ∈ xs, (bestP b c xs).2 ≤ x.f1
  | [], b, c => ⟨Int.le_refl _, by simp⟩
  | x :: xs, b, c => by
    unfold bestP
    have B := better_le (p := x.f0) (c := x.f1) (q := b) (d := c)
    cases h : betterP x.f0 x.f1 b c with
    | true =>
      rw [if_pos rfl]
      have IH := bestP_le xs x.f0 x.f1
      have := B.1 h
      refine ⟨by omega, fun y hy => ?_⟩
      rcases List.mem_cons.1 hy with rfl | hy
      · exact IH.1
      · exact IH.2 y hy
    | false =>
      rw [if_neg (by decide)]
      have IH := bestP_le xs b c
      have := B.2 h
      refine ⟨IH.1, fun y hy => ?_⟩
      rcases List.mem_cons.1 hy with rfl | hy
      · omega
      · exact IH.2 y hy
theorem bestP_is (l : List File) (x : List ByteArray) (h2 : 2 ≤ x.length) : ∃ j, j + 1 < x.length ∧ bestP (candP l x 0).f0 (candP l x 0).f1 (candsP l x (x.length - 2) 1) = ((candP l x j).f0, (candP l x j).f1) := by
  have key : ∀ (xs : List Cand) (b : ByteArray) (c : Int), bestP b c xs = (b, c) ∨ ∃ z ∈ xs, bestP b c xs = (z.f0, z.f1) := by
    intro xs
    induction xs with
    | nil => intro b c; exact .inl rfl
    | cons z xs ih =>
      intro b c
      unfold bestP
      cases betterP z.f0 z.f1 b c with
      | true =>
        rw [if_pos rfl]
        rcases ih z.f0 z.f1 with h | ⟨y, hy, h⟩
        · exact .inr ⟨z, by simp, h⟩
        · exact .inr ⟨y, by simp [hy], h⟩
      | false =>
        rw [if_neg (by decide)]
        rcases ih b c with h | ⟨y, hy, h⟩
        · exact .inl h
        · exact .inr ⟨y, by simp [hy], h⟩
  rcases key (candsP l x (x.length - 2) 1) (candP l x 0).f0 (candP l x 0).f1 with h | ⟨z, hz, h⟩
  · exact ⟨0, by omega, h⟩
  · obtain ⟨j, _, h5, rfl⟩ := candsP_mem l x _ _ z hz
    exact ⟨j, by omega, h⟩
theorem step_least (l : List File) (x : List ByteArray) (h2 : 2 ≤ x.length) (i : Nat) (hi : i + 1 < x.length) : toldN (totalF l (stepP l x)) ≤ (candP l x i).f1 := by
  obtain ⟨j, hj, e⟩ := bestP_is l x h2
  have le := bestP_le (candsP l x (x.length - 2) 1) (candP l x 0).f0 (candP l x 0).f1
  have es : toldN (totalF l (stepP l x)) = (bestP (candP l x 0).f0 (candP l x 0).f1 (candsP l x (x.length - 2) 1)).2 := by
    unfold stepP
    rw [e]
    rfl
  rw [es]
  cases i with
  | zero => exact le.1
  | succ i =>
    refine le.2 _ ?_
    have key : ∀ (m a b : Nat), a ≤ b → b < a + m → candP l x b ∈ candsP l x m a := by
      intro m
      induction m with
      | zero => intro a b h1 h2; omega
      | succ m ih =>
        intro a b h1 h2
        unfold candsP
        by_cases e : b = a
        · rw [e]; simp
        · exact List.mem_cons_of_mem _ (ih (a + 1) b (by omega) (by omega))
    exact key _ 1 (i + 1) (by omega) (by omega)
def EvP (P : Nat → Prop) : Prop := ∃ K, ∀ k, K ≤ k → P k
theorem EvP.of {α : Type} {X : Nat → Option α} {v : α} (h : Ev X v) : EvP fun k => X k = some v := h
theorem EvP.and {P Q : Nat → Prop} (h1 : EvP P) (h2 : EvP Q) : EvP fun k => P k ∧ Q k := by
  obtain ⟨K1, h1⟩ := h1
  obtain ⟨K2, h2⟩ := h2
  exact ⟨max K1 K2, fun k hk => ⟨h1 k (by omega), h2 k (by omega)⟩⟩
theorem EvP.all {P : Nat → Nat → Prop} : ∀ (n : Nat), (∀ i, i < n → EvP (P i)) → EvP fun k => ∀ i, i < n → P i k
  | 0, _ => ⟨0, fun k _ i hi => by omega⟩
  | n + 1, h => by
    obtain ⟨K1, h1⟩ := EvP.all n (fun i hi => h i (by omega))
    obtain ⟨K2, h2⟩ := h n (by omega)
    refine ⟨max K1 K2, fun k hk i hi => ?_⟩
    by_cases e : i = n
    · rw [e]; exact h2 k (by omega)
    · exact h1 k (by omega) i (by omega)
def NearFacts (k : Nat) (l : List File) (y : List ByteArray) (i : Nat) : Prop :=
  copseref02_Common.f k (rdB y i) (rdB y (i + 1)) = some (commonP (rdB y i) (rdB y (i + 1))) ∧ merge_At.f k y (commonP (rdB y i) (rdB y (i + 1))) = some (atP (commonP (rdB y i) (rdB y (i + 1))) false y, 0) ∧ merge_Cost.f k l (atP (commonP (rdB y i) (rdB y (i + 1))) false y) = some ((candP l y i).f1, 0)
def StepFacts (k : Nat) (l : List File) (y : List ByteArray) : Prop :=
  merge_Step.f k l y = some (stepP l y, 0) ∧ cone_Valid.f k (stepP l y) = some 0 ∧ copselaw16_covered.f k y (stepP l y) = some true ∧ cone_View.f k l y = some (viewP l y, 0) ∧ cone_View.f k l (stepP l y) = some (viewP l (stepP l y), 0) ∧ merge_Cost.f k l y = some (toldN (totalF l y), 0) ∧ merge_Cost.f k l (stepP l y) = some (toldN (totalF l (stepP l y)), 0) ∧ copselaw16_within.f k (viewP l y) (viewP l (stepP l y)) = some true ∧ ∀ i, i < y.length - 1 → NearFacts k l y i
def SideFacts (l : List File) (y : List ByteArray) : Prop :=
  (stepP l y).length < y.length ∧ 1 ≤ (stepP l y).length ∧ toldN (totalF l y) ≤ toldN (totalF l (stepP l y)) ∧ ∀ i, i < y.length - 1 → toldN (totalF l (stepP l y)) ≤ (candP l y i).f1
theorem step_is (l : List File) (y : List ByteArray) (h2 : 2 ≤ y.length) : ∃ j, j + 1 < y.length ∧ stepP l y = atP (commonP (rdB y j) (rdB y (j + 1))) false y := by
  obtain ⟨j, hj, e⟩ := bestP_is l y h2
  exact ⟨j, hj, by unfold stepP; rw [e]; rfl⟩
section
variable (l : List File) (hf : ShortF l) (hl : l.length ≤ 2147483649) (hs : snapP l = 0)
include hf hl hs
theorem looked_of (y : List ByteArray) (hy : ConesG y) : lookedP l y = 0 := by
  unfold lookedP
  rw [if_pos hs, if_pos ((conesP_iff y).2 hy)]
theorem cost_of (y : List ByteArray) (hy : ConesG y) (hyl : y.length ≤ 2147483647) : Ev (fun k => merge_Cost.f k l y) (toldN (totalF l y), 0) := by
  have := merge_Cost_sp l hf hl y (fun c hc => Short.of_valid (hy.1 c hc)) hyl
  unfold CostP at this
  rw [if_pos (looked_of l hf hl hs y hy)] at this
  exact this
theorem side_facts (y : List ByteArray) (hy : ConesG y) (hyl : y.length ≤ 2147483647) (h2 : 2 ≤ y.length) : SideFacts l y ∧ ConesG (stepP l y) := by
  obtain ⟨h3a, h3⟩ := looked_zero l hf hl y (fun c hc => Short.of_valid (hy.1 c hc)) hyl (looked_of l hf hl hs y hy)
  have ok := stepP_ok l hf hl h3 y hy (by omega) h2
  obtain ⟨j, hj, e⟩ := step_is l y h2
  refine ⟨⟨ok.2, ?_, ?_, fun i hi => step_least l y h2 i (by omega)⟩, ok.1⟩
  · obtain ⟨m, hm, _⟩ := at_covers (commonP (rdB y j) (rdB y (j + 1))) y (rdB y j) (rdOf_mem y j (by omega))
    rw [e]
    exact List.length_pos_of_mem hm
  · rw [e]; exact toldN_mono (total_mono _ y l)
theorem near_facts (y : List ByteArray) (hy : ConesG y) (hyl : y.length ≤ 2147483647) (i : Nat) (hi : i + 1 < y.length) : EvP fun k => NearFacts k l y i := by
  have ok := at_ok y hy i hi
  have sa := Short.of_valid (hy.1 _ (rdOf_mem y i (by omega)))
  have sb := Short.of_valid (hy.1 _ (rdOf_mem y (i + 1) (by omega)))
  have A := merge_At_sp _ (Short.of_valid ok.2.2) y (fun c hc => Short.of_valid (hy.1 c hc)) (by omega)
  unfold AtP at A
  rw [if_pos ((conesP_iff y).2 hy), if_pos ok.2.2] at A
  exact (EvP.of (ref_Common_sp _ _ sa sb)).and ((EvP.of A).and (EvP.of (cost_of l hf hl hs _ ok.1 (by omega))))
theorem view_len (x : List ByteArray) : (viewP l x).length ≤ 2147483649 := by
  have : (viewP l x).length ≤ l.length := List.length_filter_le _ _
  omega
theorem step_facts (y : List ByteArray) (hy : ConesG y) (hyl : y.length ≤ 2147483647) (h2 : 2 ≤ y.length) : EvP fun k => StepFacts k l y := by
  obtain ⟨⟨s1, s2, s3, s4⟩, hg⟩ := side_facts l hf hl hs y hy hyl h2
  have shy : ∀ c ∈ y, Short c := fun c hc => Short.of_valid (hy.1 c hc)
  have shn : ∀ c ∈ stepP l y, Short c := fun c hc => Short.of_valid (hg.1 c hc)
  obtain ⟨j, hj, e⟩ := step_is l y h2
  have S := merge_Step_sp l hf hl y shy hyl
  unfold StepP at S
  rw [if_pos (looked_of l hf hl hs y hy), if_neg (by omega)] at S
  have V := cone_Valid_sp (stepP l y) shn (by omega)
  rw [if_pos ((conesP_iff _).2 hg)] at V
  have C := covered_sp y (stepP l y) shy shn (by omega) (by omega) (fun c hc => by rw [e]; exact at_inP _ y c hc)
  have V1 := view_sp l hf hl y shy (by omega) (looked_of l hf hl hs y hy)
  have V2 := view_sp l hf hl (stepP l y) shn (by omega) (looked_of l hf hl hs _ hg)
  have C1 := cost_of l hf hl hs y hy hyl
  have C2 := cost_of l hf hl hs (stepP l y) hg (by omega)
  have W := within_sp (viewP l y) (viewP l (stepP l y)) (view_len l hf hl hs y) (view_len l hf hl hs _) (by rw [e]; exact view_mono _ l y)
  have A := EvP.all (P := fun i k => NearFacts k l y i) (y.length - 1) (fun i hi => near_facts l hf hl hs y hy hyl i (by omega))
  exact (EvP.of S).and ((EvP.of V).and ((EvP.of C).and ((EvP.of V1).and ((EvP.of V2).and ((EvP.of C1).and ((EvP.of C2).and ((EvP.of W).and A)))))))
def iterP (l : List File) (x : List ByteArray) : Nat → List ByteArray
  | 0 => x
  | n + 1 => stepP l (iterP l x n)
def Along (l : List File) (x : List ByteArray) (b : Int) (n : Nat) : Prop := ∀ m, m < n → b < ((iterP l x m).length : Int)
theorem along_ok (x : List ByteArray) (hx : ConesG x) (hxl : x.length ≤ 2147483647) (b : Int) (hb : 1 ≤ b) : ∀ n, Along l x b n → ConesG (iterP l x n) ∧ (iterP l x n).length + n ≤ x.length
  | 0, _ => ⟨hx, Nat.le_refl _⟩
  | n + 1, h => by
    have IH := along_ok x hx hxl b hb n (fun m hm => h m (by omega))
    have := h n (by omega)
    obtain ⟨⟨s1, _⟩, hg⟩ := side_facts l hf hl hs _ IH.1 (by omega) (by omega)
    exact ⟨hg, by show (stepP l (iterP l x n)).length + (n + 1) ≤ _; omega⟩
omit hf hl hs in
theorem down_along (x : List ByteArray) (b : Int) (N : Nat) : ∀ n, n ≤ N → Along l x b n → downP l b N x = downP l b (N - n) (iterP l x n)
  | 0, _, _ => rfl
  | n + 1, hn, h => by
    have IH := down_along x b N n (by omega) (fun m hm => h m (by omega))
    rw [IH, show N - n = (N - (n + 1)) + 1 by omega, downP, if_pos (h n (by omega))]
    rfl
omit hf hl hs in
theorem downP_stop (b : Int) (y : List ByteArray) (h : ¬ b < (y.length : Int)) : ∀ n, downP l b n y = y
  | 0 => rfl
  | n + 1 => by unfold downP; rw [if_neg h]
theorem fewer_pure (x : List ByteArray) (hx : ConesG x) (hxl : x.length ≤ 2147483640) (b : Int) (hb : 1 ≤ b) : ∃ (k : Nat) (Inv : List ByteArray → Prop), merge_Cost.f k l x = some (toldN (totalF l x), 0) ∧ Inv x ∧ (∀ y, Inv y → b < (y.length : Int) → StepFacts k l y ∧ SideFacts l y ∧ Inv (stepP l y)) ∧ (∀ y, Inv y → y.length ≤ x.length) ∧
    (∀ y, Inv y → ¬ b < (y.length : Int) → merge_Down.f k l x b = some (y, 0) ∧ copselaw16_same.f k y y = some true) ∧ merge_Down.f k l x ((x.length : Int) + 1) = some (x, 0) ∧ copselaw16_same.f k x x = some true := by
  have shx : ∀ c ∈ x, Short c := fun c hc => Short.of_valid (hx.1 c hc)
  have lk := looked_of l hf hl hs x hx
  have D1 := merge_Down_sp l hf hl x shx (by omega) b
  unfold DownP at D1
  rw [if_pos lk, if_neg (by omega)] at D1
  have D2 := merge_Down_sp l hf hl x shx (by omega) ((x.length : Int) + 1)
  unfold DownP at D2
  rw [if_pos lk, if_neg (by omega), downP_stop l _ x (by omega)] at D2
  have A := EvP.all (P := fun n k => Along l x b n → b < ((iterP l x n).length : Int) → StepFacts k l (iterP l x n)) (x.length + 1) (fun n _ => by
    by_cases h : Along l x b n ∧ b < ((iterP l x n).length : Int)
    · have ok := along_ok l hf hl hs x hx (by omega) b hb n h.1
      obtain ⟨K, hK⟩ := step_facts l hf hl hs _ ok.1 (by omega) (by omega)
      exact ⟨K, fun k hk _ _ => hK k hk⟩
    · exact ⟨0, fun k _ h1 h2 => absurd ⟨h1, h2⟩ h⟩)
  obtain ⟨K, hK⟩ := (EvP.of (cost_of l hf hl hs x hx (by omega))).and ((EvP.of D1).and ((EvP.of D2).and ((EvP.of (same_sp (downP l b x.length x) (by have := downP_len l b x.length x hx hb; omega))).and ((EvP.of (same_sp x (by omega))).and A))))
  obtain ⟨g1, g2, g3, g4, g5, g6⟩ := hK K (Nat.le_refl _)
  refine ⟨K, fun y => ∃ n, Along l x b n ∧ y = iterP l x n, g1, ⟨0, fun m hm => by omega, rfl⟩, ?_, ?_, ?_, g3, g5⟩
  · rintro y ⟨n, hn, rfl⟩ hlt
    have ok := along_ok l hf hl hs x hx (by omega) b hb n hn
    refine ⟨g6 n (by omega) hn hlt, (side_facts l hf hl hs _ ok.1 (by omega) (by omega)).1, n + 1, fun m hm => ?_, rfl⟩
    by_cases e : m = n
    · rw [e]; exact hlt
    · exact hn m (by omega)
  · rintro y ⟨n, hn, rfl⟩
    have ok := along_ok l hf hl hs x hx (by omega) b hb n hn
    omega
  · rintro y ⟨n, hn, rfl⟩ hge
    have ok := along_ok l hf hl hs x hx (by omega) b hb n hn
    have e : downP l b x.length x = iterP l x n := by rw [down_along l x b x.length n (by omega) hn, downP_stop l b _ hge]
    rw [e] at g2 g4
    exact ⟨g2, g4⟩
end
theorem snapP_cases (l : List File) : snapP l = 0 ∨ snapP l = 7 ∨ snapP l = 8 := by
  unfold snapP
  split
  · split
    · split <;> omega
    · omega
  · omega
theorem fewer_bad (l : List File) (hf : ShortF l) (hl : l.length ≤ 2147483649) (x : List ByteArray) (hx : ∀ c ∈ x, Short c) (hxl : x.length ≤ 2147483640) (h : lookedP l x ≠ 0) : ∃ k, merge_Cost.f k l x = some (0, lookedP l x) ∧ copseref16_Cones.f k x = some (conesP x) ∧ (conesP x = false ∨ lookedP l x = 7 ∨ lookedP l x = 8) := by
  have C := merge_Cost_sp l hf hl x hx (by omega)
  unfold CostP at C
  rw [if_neg h] at C
  obtain ⟨K, hK⟩ := (EvP.of C).and (EvP.of (ref_Cones_sp x hx (by omega)))
  refine ⟨K, (hK K (Nat.le_refl _)).1, (hK K (Nat.le_refl _)).2, ?_⟩
  unfold lookedP at h ⊢
  by_cases h1 : snapP l = 0
  · rw [if_pos h1] at h ⊢
    by_cases h2 : conesP x = true
    · rw [if_pos h2] at h; exact absurd rfl h
    · exact .inl (by simpa using h2)
  · rw [if_neg h1]
    rcases snapP_cases l with h2 | h2 | h2
    · exact absurd h2 h1
    · exact .inr (.inl h2)
    · exact .inr (.inr h2)
end Go.Proofs.YtnfolcefjkannaaDoor.G
namespace Go.Proofs.YtnfolcefjkannaaDoor.G
open Go.RowKit Go.Proofs.YtnfolcefjkannaaDoorW.PrintWords Go.Proofs.YtnfolcefjkannaaDoorW.PrintLast Go.Proofs.YtnfolcefjkannaaDoorW.PrintMore
attribute [local go_sem] max2_int min2_int max_two min_two max_three min_three max_four min_four
set_option linter.unusedVariables false
set_option linter.unusedSimpArgs false
open Go.Proofs.YtnfolcefjkannaaDoor.TrieM Go.Proofs.YtnfolcefjkannaaDoor.Wl Go.Proofs.YtnfolcefjkannaaDoor.MapLaws
theorem i64_and15 (n : Int) : bits .and .i64 n 15 = n % 16 := by
  have h15 : (BitVec.ofInt 64 15).toNat = 2 ^ 4 - 1 := by decide
  have key : (BitVec.ofInt 64 n &&& BitVec.ofInt 64 15).toNat = (n % ((2 ^ 64 : Nat) : Int)).toNat % 2 ^ 4 := by
    rw [BitVec.toNat_and, BitVec.toNat_ofInt, h15, Nat.and_two_pow_sub_one_eq_mod]
  show IntKind.i64.wrap ((BitVec.ofInt 64 n &&& BitVec.ofInt 64 15).toNat : Nat) = n % 16
  rw [key, IntKind.wrap_i64]
  omega
theorem beq_f {a b : Int} (h : ¬ a = b) : (a == b) = false := beq_eq_false_iff_ne.mpr h
theorem bne_t {a b : Int} (h : ¬ a = b) : (a != b) = true := bne_iff_ne.mpr h
def lenOf (v : Value) : Nat := match v with | .slice _ n _ => n | _ => 0
set_option maxHeartbeats 4000000 in
set_option maxRecDepth 100000 in
theorem mergeFewer_bad (k : Nat) (A0 : Option Addr) (c0 : Nat) (l0 : List S45) (A1 : Option Addr) (c1 : Nat) (l1 : List ByteArray) (bud : Int) (w : World) (hr0 : Kd.C k45 w A0 l0.length l0) (hc0 : l0.length ≤ c0) (hr1 : Kd.C Kd.string w A1 l1.length l1) (hc1 : l1.length ≤ c1)
    (hhead : ∀ w, Calls Tryd.prog 6 #[] w fun e w' => e = .returned (.bool true) ∧ Below w.heap.size w w')
    (a e1 : Int) (h1 : merge_Cost.f k (l0.take 120) (l1.take 16) = some (a, e1)) (he : ¬ e1 = 0) (c : Bool) (h2 : copseref16_Cones.f k (l1.take 16) = some c) (h3 : c = false ∨ e1 = 7 ∨ e1 = 8) :
    Calls Tryd.prog 5 #[.slice A0 l0.length c0, .slice A1 l1.length c1, .int .i64 bud] w fun e w' => e = .returned (.bool true) ∧ Below w.heap.size w w' := by
  have t0 : (l0.take 120).length ≤ c0 := by rw [List.length_take]; omega
  have t1 : (l1.take 16).length ≤ c1 := by rw [List.length_take]; omega
  have R0 := Kd.C_take hr0 (m := min 120 l0.length) (by omega)
  have R1 := Kd.C_take hr1 (m := min 16 l1.length) (by omega)
  rw [List.take_eq_take_min.symm] at R0 R1
  have el0 : min 120 l0.length = (l0.take 120).length := by rw [List.length_take]
  have el1 : min 16 l1.length = (l1.take 16).length := by rw [List.length_take]
  have m16 : (l1.take 16).length ≤ 16 := by rw [List.length_take]; omega
  generalize l0.take 120 = m0 at *
  generalize l1.take 16 = m1 at *
  have HH := zA hhead
  have HC0 := zA hc0
  have HC1 := zA hc1
  have T0 := zA t0
  have T1 := zA t1
  have R0 := zA R0
  have R1 := zA R1
  have EL0 := zA el0
  have EL1 := zA el1
  have M16 := zA m16
  have H1 := zA h1
  have HB := zA (Below.refl w.heap.size w)
  clear el0 el1 hhead hc0 hc1 t0 t1 hr0 hr1 h1 m16
  have H2 := zA h2
  clear h2
  have g1 := bne_t he
  have g2 := beq_f he
  clear he
  obtain ⟨rfl, h3⟩ | ⟨rfl, rfl⟩ | ⟨rfl, rfl⟩ : (c = false ∧ True) ∨ (c = true ∧ e1 = 7) ∨ (c = true ∧ e1 = 8) := by
    cases c
    · exact .inl ⟨rfl, trivial⟩
    · rcases h3 with h3 | h3 | h3
      · cases h3
      · exact .inr (.inl ⟨rfl, h3⟩)
      · exact .inr (.inr ⟨rfl, h3⟩)
  · go_enter Tryd.func5, Tryd.ntmps5
    go_wp2_with (first
      | (go_at_call 6; refine (HH.out _).mono ?_; rintro e w1 ⟨rfl, hb⟩; have n0_ := zA (below_step (by repeat (first | (with_reducible first | exact HB.out | apply zL | apply zN | apply zD) | exact HB.out)) hb); clear HB; have HB := n0_; clear n0_; clear hb)
      | (go_at_call 7; refine (small_calls _ _ _ _ _ _ _ HC0.out HC1.out).mono ?_; rintro e w2 ⟨rfl, rfl⟩; rw [EL0.out, EL1.out])
      | (go_at_call 8; (with_reducible refine (merge_Cost.calls k _ _ m0 _ _ m1 a e1 _ (Kd.C_below R0.out (by repeat (first | (with_reducible first | exact HB.out | apply zL | apply zN | apply zD) | exact HB.out))) T0.out (Kd.C_below R1.out (by repeat (first | (with_reducible first | exact HB.out | apply zL | apply zN | apply zD) | exact HB.out))) T1.out H1.out).mono ?_); rintro e w3 ⟨rfl, hb⟩; have n0_ := zA (below_step (by repeat (first | (with_reducible first | exact HB.out | apply zL | apply zN | apply zD) | exact HB.out)) hb); clear HB; have HB := n0_; clear n0_; clear hb)
      | (go_at_call 17; (with_reducible refine (copseref16_Cones.calls k _ _ m1 false _ (Kd.C_below R1.out (by repeat (first | (with_reducible first | exact HB.out | apply zL | apply zN | apply zD) | exact HB.out))) T1.out H2.out).mono ?_); rintro e w4 ⟨rfl, hb⟩; have n0_ := zA (below_step (by repeat (first | (with_reducible first | exact HB.out | apply zL | apply zN | apply zD) | exact HB.out)) hb); clear HB; have HB := n0_; clear n0_; clear hb))
    go_ret
    exact ⟨by simp, (by repeat (first | (with_reducible first | exact HB.out | apply zL | apply zN | apply zD) | exact HB.out))⟩
  · go_enter Tryd.func5, Tryd.ntmps5
    go_wp2_with (first
      | (go_at_call 6; refine (HH.out _).mono ?_; rintro e w1 ⟨rfl, hb⟩; have n0_ := zA (below_step (by repeat (first | (with_reducible first | exact HB.out | apply zL | apply zN | apply zD) | exact HB.out)) hb); clear HB; have HB := n0_; clear n0_; clear hb)
      | (go_at_call 7; refine (small_calls _ _ _ _ _ _ _ HC0.out HC1.out).mono ?_; rintro e w2 ⟨rfl, rfl⟩; rw [EL0.out, EL1.out])
      | (go_at_call 8; (with_reducible refine (merge_Cost.calls k _ _ m0 _ _ m1 a 7 _ (Kd.C_below R0.out (by repeat (first | (with_reducible first | exact HB.out | apply zL | apply zN | apply zD) | exact HB.out))) T0.out (Kd.C_below R1.out (by repeat (first | (with_reducible first | exact HB.out | apply zL | apply zN | apply zD) | exact HB.out))) T1.out H1.out).mono ?_); rintro e w3 ⟨rfl, hb⟩; have n0_ := zA (below_step (by repeat (first | (with_reducible first | exact HB.out | apply zL | apply zN | apply zD) | exact HB.out)) hb); clear HB; have HB := n0_; clear n0_; clear hb)
      | (go_at_call 17; (with_reducible refine (copseref16_Cones.calls k _ _ m1 true _ (Kd.C_below R1.out (by repeat (first | (with_reducible first | exact HB.out | apply zL | apply zN | apply zD) | exact HB.out))) T1.out H2.out).mono ?_); rintro e w4 ⟨rfl, hb⟩; have n0_ := zA (below_step (by repeat (first | (with_reducible first | exact HB.out | apply zL | apply zN | apply zD) | exact HB.out)) hb); clear HB; have HB := n0_; clear n0_; clear hb))
    go_ret
    exact ⟨by simp, (by repeat (first | (with_reducible first | exact HB.out | apply zL | apply zN | apply zD) | exact HB.out))⟩
  · go_enter Tryd.func5, Tryd.ntmps5
    go_wp2_with (first
      | (go_at_call 6; refine (HH.out _).mono ?_; rintro e w1 ⟨rfl, hb⟩; have n0_ := zA (below_step (by repeat (first | (with_reducible first | exact HB.out | apply zL | apply zN | apply zD) | exact HB.out)) hb); clear HB; have HB := n0_; clear n0_; clear hb)
      | (go_at_call 7; refine (small_calls _ _ _ _ _ _ _ HC0.out HC1.out).mono ?_; rintro e w2 ⟨rfl, rfl⟩; rw [EL0.out, EL1.out])
      | (go_at_call 8; (with_reducible refine (merge_Cost.calls k _ _ m0 _ _ m1 a 8 _ (Kd.C_below R0.out (by repeat (first | (with_reducible first | exact HB.out | apply zL | apply zN | apply zD) | exact HB.out))) T0.out (Kd.C_below R1.out (by repeat (first | (with_reducible first | exact HB.out | apply zL | apply zN | apply zD) | exact HB.out))) T1.out H1.out).mono ?_); rintro e w3 ⟨rfl, hb⟩; have n0_ := zA (below_step (by repeat (first | (with_reducible first | exact HB.out | apply zL | apply zN | apply zD) | exact HB.out)) hb); clear HB; have HB := n0_; clear n0_; clear hb)
      | (go_at_call 17; (with_reducible refine (copseref16_Cones.calls k _ _ m1 true _ (Kd.C_below R1.out (by repeat (first | (with_reducible first | exact HB.out | apply zL | apply zN | apply zD) | exact HB.out))) T1.out H2.out).mono ?_); rintro e w4 ⟨rfl, hb⟩; have n0_ := zA (below_step (by repeat (first | (with_reducible first | exact HB.out | apply zL | apply zN | apply zD) | exact HB.out)) hb); clear HB; have HB := n0_; clear n0_; clear hb))
    go_ret
    exact ⟨by simp, (by repeat (first | (with_reducible first | exact HB.out | apply zL | apply zN | apply zD) | exact HB.out))⟩
def few.T22 : Bool × List (List Nat × List Nat) := (true, [([], []), ([], []), ([], []), ([1, 2], [1, 2]), ([3], [3]), ([], []), ([], []), ([6], [6]), ([5, 7], [5, 7]), ([8], [8]), ([4, 9], [4, 9]), ([0, 10, 10], [0, 10]), ([11], [11]), ([12], [12]), ([12], [12]), ([13, 11, 0, 1, 2, 3, 4, 5, 6, 7, 8, 9, 10, 11, 12, 13], [13]), ([14, 15, 0, 1, 2, 3, 4, 5, 6, 7, 8, 9, 10, 11, 12, 13, 14, 15], [14])])
def few.B22 : List Nat := [0, 0, 0, 6, 14, 0, 0, 64, 224, 480, 1022, 2047, 4095, 8191, 8191, 16383, 65535]
theorem few.tab22 : rtab .any (opsOf Tryd.f5 22) = few.T22 := by kernel_rfl
theorem few.bits22 : waitsOk few.T22.2 few.B22 = true := by kernel_rfl
set_option maxHeartbeats 8000000 in
set_option maxRecDepth 100000 in
theorem mergeFewer_walk (k : Nat) (A0 : Option Addr) (c0 : Nat) (l0 : List S45) (A1 : Option Addr) (c1 : Nat) (l1 : List ByteArray) (bud : Int) (w : World) (hr0 : Kd.C k45 w A0 l0.length l0) (hc0 : l0.length ≤ c0) (hr1 : Kd.C Kd.string w A1 l1.length l1) (hc1 : l1.length ≤ c1)
    (hhead : ∀ w, Calls Tryd.prog 6 #[] w fun e w' => e = .returned (.bool true) ∧ Below w.heap.size w w')
    (a : Int) (h1 : merge_Cost.f k (l0.take 120) (l1.take 16) = some (a, 0)) (b : Int) (hb : b = 1 + bud % 16) (Inv : List ByteArray → Prop) (hI0 : Inv (l1.take 16)) (hIs : ∀ y, Inv y → b < (y.length : Int) → StepFacts k (l0.take 120) y ∧ SideFacts (l0.take 120) y ∧ Inv (stepP (l0.take 120) y)) (hIl : ∀ y, Inv y → y.length ≤ (l1.take 16).length)
    (hIf : ∀ y, Inv y → ¬ b < (y.length : Int) → merge_Down.f k (l0.take 120) (l1.take 16) b = some (y, 0) ∧ copselaw16_same.f k y y = some true) (hAll : merge_Down.f k (l0.take 120) (l1.take 16) (((l1.take 16).length : Int) + 1) = some (l1.take 16, 0)) (hSame : copselaw16_same.f k (l1.take 16) (l1.take 16) = some true) :
    Calls Tryd.prog 5 #[.slice A0 l0.length c0, .slice A1 l1.length c1, .int .i64 bud] w fun e w' => e = .returned (.bool true) ∧ Below w.heap.size w w' := by
  have t0 : (l0.take 120).length ≤ c0 := by rw [List.length_take]; omega
  have t1 : (l1.take 16).length ≤ c1 := by rw [List.length_take]; omega
  have R0 := Kd.C_take hr0 (m := min 120 l0.length) (by omega)
  have R1 := Kd.C_take hr1 (m := min 16 l1.length) (by omega)
  rw [List.take_eq_take_min.symm] at R0 R1
  have el0 : min 120 l0.length = (l0.take 120).length := by rw [List.length_take]
  have el1 : min 16 l1.length = (l1.take 16).length := by rw [List.length_take]
  have m16 : (l1.take 16).length ≤ 16 := by rw [List.length_take]; omega
  generalize l0.take 120 = m0 at *
  generalize l1.take 16 = m1 at *
  have HH := zA hhead
  have HC0 := zA hc0
  have HC1 := zA hc1
  have T0 := zA t0
  have T1 := zA t1
  have R0 := zA R0
  have R1 := zA R1
  have EL0 := zA el0
  have EL1 := zA el1
  have M16 := zA m16
  have H1 := zA h1
  have HB := zA (Below.refl w.heap.size w)
  clear el0 el1 hhead hc0 hc1 t0 t1 hr0 hr1 h1 m16
  have HI0 := zA hI0
  have HIS := zA hIs
  have HIL := zA hIl
  have HIF := zA hIf
  have HALL := zA hAll
  have HSAME := zA hSame
  clear hI0 hIs hIl hIf hAll hSame
  have hb0 : 0 ≤ bits BinOp.and IntKind.i64 bud 15 := by rw [i64_and15]; omega
  have hb1 : bits BinOp.and IntKind.i64 bud 15 ≤ 15 := by rw [i64_and15]; omega
  have hb2 : b = 1 + bits BinOp.and IntKind.i64 bud 15 := by rw [i64_and15]; exact hb
  have HB2 := zA hb2
  clear hb hb2
  go_enter Tryd.func5, Tryd.ntmps5
  go_wp2_with (first
    | (go_at_call 6; refine (HH.out _).mono ?_; rintro e w1 ⟨rfl, hb⟩; have n0_ := zA (below_step (by repeat (first | (with_reducible first | exact HB.out | apply zL | apply zN | apply zD) | exact HB.out)) hb); clear HB; have HB := n0_; clear n0_; clear hb)
    | (go_at_call 7; refine (small_calls _ _ _ _ _ _ _ HC0.out HC1.out).mono ?_; rintro e w2 ⟨rfl, rfl⟩; rw [EL0.out, EL1.out])
    | (go_at_call 8; (with_reducible refine (merge_Cost.calls k _ _ m0 _ _ m1 a 0 _ (Kd.C_below R0.out (by repeat (first | (with_reducible first | exact HB.out | apply zL | apply zN | apply zD) | exact HB.out))) T0.out (Kd.C_below R1.out (by repeat (first | (with_reducible first | exact HB.out | apply zL | apply zN | apply zD) | exact HB.out))) T1.out H1.out).mono ?_); rintro e w3 ⟨rfl, hb⟩; have n0_ := zA (below_step (by repeat (first | (with_reducible first | exact HB.out | apply zL | apply zN | apply zD) | exact HB.out)) hb); clear HB; have HB := n0_; clear n0_; clear hb))
  rw [← HB2.out]
  have hbl : 1 ≤ b := by rw [HB2.out]; omega
  have hbu : b ≤ 16 := by rw [HB2.out]; omega
  clear hb0 hb1 HB2
  go_loopw [9] (fun v9 wr => ∃ (A : Option Addr) (c : Nat) (y : List ByteArray), v9 = .slice A y.length c ∧ Aside0 (y.length ≤ c) ∧ Aside0 (Kd.C Kd.string wr A y.length y) ∧ Aside0 (Inv y) ∧ Aside0 (Below w.heap.size w wr)) (fun v9 _ => lenOf v9)
  case atStart => exact ⟨_, _, m1, rfl, T1, ⟨(Kd.C_below R1.out (by repeat (first | (with_reducible first | exact HB.out | apply zL | apply zN | apply zD) | exact HB.out)))⟩, HI0, ⟨(by repeat (first | (with_reducible first | exact HB.out | apply zL | apply zN | apply zD) | exact HB.out))⟩⟩
  case round =>
    obtain ⟨A, c, y, rfl, TY, CY, HI, HBW⟩ := hrel
    clear HB
    obtain ⟨wo, rfl⟩ : ∃ wo : World, wo = wr := ⟨_, rfl⟩
    have HYL := zA (Nat.le_trans (HIL.out y HI.out) M16.out)
    have RR0 := zA (Kd.C_below R0.out HBW.out)
    have RR1 := zA (Kd.C_below R1.out HBW.out)
    have HBR := zA (Below.refl wo.heap.size wo)
    by_cases hlt : b < (y.length : Int)
    · have d1 : decide (b < (y.length : Int)) = true := decide_eq_true hlt
      obtain ⟨⟨f1, f2, f3, f4, f5, f6, f7, f8, f9⟩, ⟨s1, s2, s3, s4⟩, hnx⟩ := HIS.out y HI.out hlt
      have HNX := zA hnx
      have HF1 := zA f1
      have HF2 := zA f2
      have HF3 := zA f3
      have HF4 := zA f4
      have HF5 := zA f5
      have HF6 := zA f6
      have HF7 := zA f7
      have HF8 := zA f8
      have HF9 := zA f9
      have HS4 := zA s4
      obtain ⟨nx, hnxe⟩ : ∃ nx, nx = stepP m0 y := ⟨_, rfl⟩
      obtain ⟨va, hva⟩ : ∃ va, va = viewP m0 y := ⟨_, rfl⟩
      obtain ⟨vb, hvb⟩ : ∃ vb, vb = viewP m0 (stepP m0 y) := ⟨_, rfl⟩
      obtain ⟨wa, hwa⟩ : ∃ wa, wa = toldN (totalF m0 y) := ⟨_, rfl⟩
      obtain ⟨co, hco⟩ : ∃ co, co = toldN (totalF m0 (stepP m0 y)) := ⟨_, rfl⟩
      rw [← hvb] at HF5 HF8
      rw [← hco] at HF7 s3 HS4
      rw [← hva] at HF4 HF8
      rw [← hwa] at HF6 s3
      rw [← hnxe] at HF1 HF2 HF3 HF5 HF7 HNX s1 s2
      clear hnx hnxe hva hvb hwa hco f1 f2 f3 f4 f5 f6 f7 f8 f9 s4
      have HS1 := zA s1
      have n1 : decide (y.length ≤ nx.length) = false := decide_eq_false (by omega)
      have n2 : decide ((y.length : Int) ≤ (nx.length : Int)) = false := decide_eq_false (by omega)
      have n3 : decide ((nx.length : Int) < 1) = false := decide_eq_false (by omega)
      have n4 : decide (co < wa) = false := decide_eq_false (by omega)
      clear s1 s2 s3 hlt
      go_wp2_with (first
        | (go_at_call 13; (with_reducible refine (merge_Step.calls k _ _ m0 _ _ y nx 0 _ (Kd.C_below RR0.out (by repeat (first | (with_reducible first | exact HBR.out | apply zL | apply zN | apply zD) | exact HBR.out))) T0.out (Kd.C_below CY.out (by repeat (first | (with_reducible first | exact HBR.out | apply zL | apply zN | apply zD) | exact HBR.out))) TY.out HF1.out).mono ?_); rintro e w8 ⟨v8, rfl, hR, hb⟩; have n0_ := zA (below_step (by repeat (first | (with_reducible first | exact HBR.out | apply zL | apply zN | apply zD) | exact HBR.out)) hb); clear HBR; have HBR := n0_; clear n0_; clear hb; obtain ⟨An, cn, rfl, hcn, hCn⟩ := Kd.R_reads hR; have TN := zA hcn; have CN := zA hCn; have HBN := zA (Below.refl w8.heap.size w8); clear hcn hCn hR)
        | (go_at_call 18; (with_reducible refine (cone_Valid.calls k _ _ nx 0 _ (Kd.C_below CN.out (by repeat (first | (with_reducible first | exact HBN.out | apply zL | apply zN | apply zD) | exact HBN.out))) TN.out HF2.out).mono ?_); rintro e w9 ⟨rfl, hb⟩; have n0_ := zA (below_step (by repeat (first | (with_reducible first | exact HBR.out | apply zL | apply zN | apply zD) | exact HBR.out)) hb); clear HBR; have HBR := n0_; clear n0_; have n0_ := zA (below_step (by repeat (first | (with_reducible first | exact HBN.out | apply zL | apply zN | apply zD) | exact HBN.out)) hb); clear HBN; have HBN := n0_; clear n0_; clear hb)
        | (go_at_call 19; (with_reducible refine (copselaw16_covered.calls k _ _ y _ _ nx true _ (Kd.C_below CY.out (by repeat (first | (with_reducible first | exact HBR.out | apply zL | apply zN | apply zD) | exact HBR.out))) TY.out (Kd.C_below CN.out (by repeat (first | (with_reducible first | exact HBN.out | apply zL | apply zN | apply zD) | exact HBN.out))) TN.out HF3.out).mono ?_); rintro e w10 ⟨rfl, hb⟩; have n0_ := zA (below_step (by repeat (first | (with_reducible first | exact HBR.out | apply zL | apply zN | apply zD) | exact HBR.out)) hb); clear HBR; have HBR := n0_; clear n0_; have n0_ := zA (below_step (by repeat (first | (with_reducible first | exact HBN.out | apply zL | apply zN | apply zD) | exact HBN.out)) hb); clear HBN; have HBN := n0_; clear n0_; clear hb)
        | (go_at_call 20; (with_reducible refine (cone_View.calls k _ _ m0 _ _ y va 0 _ (Kd.C_below RR0.out (by repeat (first | (with_reducible first | exact HBR.out | apply zL | apply zN | apply zD) | exact HBR.out))) T0.out (Kd.C_below CY.out (by repeat (first | (with_reducible first | exact HBR.out | apply zL | apply zN | apply zD) | exact HBR.out))) TY.out HF4.out).mono ?_); rintro e w11 ⟨v11, rfl, hR, hb⟩; have n0_ := zA (below_step (by repeat (first | (with_reducible first | exact HBR.out | apply zL | apply zN | apply zD) | exact HBR.out)) hb); clear HBR; have HBR := n0_; clear n0_; have n0_ := zA (below_step (by repeat (first | (with_reducible first | exact HBN.out | apply zL | apply zN | apply zD) | exact HBN.out)) hb); clear HBN; have HBN := n0_; clear n0_; clear hb; obtain ⟨Aa, ca, rfl, hcn, hCn⟩ := Kd.R_reads hR; have TA := zA hcn; have CA := zA hCn; have HBA := zA (Below.refl w11.heap.size w11); clear hcn hCn hR)
        | (go_at_call 20; (with_reducible refine (cone_View.calls k _ _ m0 _ _ nx vb 0 _ (Kd.C_below RR0.out (by repeat (first | (with_reducible first | exact HBR.out | apply zL | apply zN | apply zD) | exact HBR.out))) T0.out (Kd.C_below CN.out (by repeat (first | (with_reducible first | exact HBN.out | apply zL | apply zN | apply zD) | exact HBN.out))) TN.out HF5.out).mono ?_); rintro e w12 ⟨v12, rfl, hR, hb⟩; have n0_ := zA (below_step (by repeat (first | (with_reducible first | exact HBR.out | apply zL | apply zN | apply zD) | exact HBR.out)) hb); clear HBR; have HBR := n0_; clear n0_; have n0_ := zA (below_step (by repeat (first | (with_reducible first | exact HBN.out | apply zL | apply zN | apply zD) | exact HBN.out)) hb); clear HBN; have HBN := n0_; clear n0_; have n0_ := zA (below_step (by repeat (first | (with_reducible first | exact HBA.out | apply zL | apply zN | apply zD) | exact HBA.out)) hb); clear HBA; have HBA := n0_; clear n0_; clear hb; obtain ⟨Ab, cb, rfl, hcn, hCn⟩ := Kd.R_reads hR; have TB := zA hcn; have CB := zA hCn; have HBB := zA (Below.refl w12.heap.size w12); clear hcn hCn hR)
        | (go_at_call 8; (with_reducible refine (merge_Cost.calls k _ _ m0 _ _ y wa 0 _ (Kd.C_below RR0.out (by repeat (first | (with_reducible first | exact HBR.out | apply zL | apply zN | apply zD) | exact HBR.out))) T0.out (Kd.C_below CY.out (by repeat (first | (with_reducible first | exact HBR.out | apply zL | apply zN | apply zD) | exact HBR.out))) TY.out HF6.out).mono ?_); rintro e w13 ⟨rfl, hb⟩; have n0_ := zA (below_step (by repeat (first | (with_reducible first | exact HBR.out | apply zL | apply zN | apply zD) | exact HBR.out)) hb); clear HBR; have HBR := n0_; clear n0_; have n0_ := zA (below_step (by repeat (first | (with_reducible first | exact HBN.out | apply zL | apply zN | apply zD) | exact HBN.out)) hb); clear HBN; have HBN := n0_; clear n0_; have n0_ := zA (below_step (by repeat (first | (with_reducible first | exact HBA.out | apply zL | apply zN | apply zD) | exact HBA.out)) hb); clear HBA; have HBA := n0_; clear n0_; have n0_ := zA (below_step (by repeat (first | (with_reducible first | exact HBB.out | apply zL | apply zN | apply zD) | exact HBB.out)) hb); clear HBB; have HBB := n0_; clear n0_; clear hb)
        | (go_at_call 8; (with_reducible refine (merge_Cost.calls k _ _ m0 _ _ nx co 0 _ (Kd.C_below RR0.out (by repeat (first | (with_reducible first | exact HBR.out | apply zL | apply zN | apply zD) | exact HBR.out))) T0.out (Kd.C_below CN.out (by repeat (first | (with_reducible first | exact HBN.out | apply zL | apply zN | apply zD) | exact HBN.out))) TN.out HF7.out).mono ?_); rintro e w14 ⟨rfl, hb⟩; have n0_ := zA (below_step (by repeat (first | (with_reducible first | exact HBR.out | apply zL | apply zN | apply zD) | exact HBR.out)) hb); clear HBR; have HBR := n0_; clear n0_; have n0_ := zA (below_step (by repeat (first | (with_reducible first | exact HBN.out | apply zL | apply zN | apply zD) | exact HBN.out)) hb); clear HBN; have HBN := n0_; clear n0_; have n0_ := zA (below_step (by repeat (first | (with_reducible first | exact HBA.out | apply zL | apply zN | apply zD) | exact HBA.out)) hb); clear HBA; have HBA := n0_; clear n0_; have n0_ := zA (below_step (by repeat (first | (with_reducible first | exact HBB.out | apply zL | apply zN | apply zD) | exact HBB.out)) hb); clear HBB; have HBB := n0_; clear n0_; clear hb)
        | (go_at_call 21; (with_reducible refine (copselaw16_within.calls k _ _ va _ _ vb true _ (Kd.C_below CA.out (by repeat (first | (with_reducible first | exact HBA.out | apply zL | apply zN | apply zD) | exact HBA.out))) TA.out (Kd.C_below CB.out (by repeat (first | (with_reducible first | exact HBB.out | apply zL | apply zN | apply zD) | exact HBB.out))) TB.out HF8.out).mono ?_); rintro e w15 ⟨rfl, hd⟩; have hb := drawn_below hd; clear hd; have n0_ := zA (below_step (by repeat (first | (with_reducible first | exact HBR.out | apply zL | apply zN | apply zD) | exact HBR.out)) hb); clear HBR; have HBR := n0_; clear n0_; have n0_ := zA (below_step (by repeat (first | (with_reducible first | exact HBN.out | apply zL | apply zN | apply zD) | exact HBN.out)) hb); clear HBN; have HBN := n0_; clear n0_; clear hb))
      clear HF1 HF2 HF3 HF4 HF5 HF6 HF7 HF8 n1 n2 n3 n4 d1 TA CA TB CB HBA HBB
      go_loopw [20] (fun v20 w2 => ∃ i : Nat, v20 = .int .i64 (i : Int) ∧ i + 1 ≤ y.length ∧ Aside0 (Below wo.heap.size wo w2) ∧ Aside0 (Below w8.heap.size w8 w2)) (fun v20 _ => y.length - (intOf v20).toNat)
      case atStart => exact ⟨0, rfl, by have := HS1.out; omega, ⟨(by repeat (first | (with_reducible first | exact HBR.out | apply zL | apply zN | apply zD) | exact HBR.out))⟩, ⟨(by repeat (first | (with_reducible first | exact HBN.out | apply zL | apply zN | apply zD) | exact HBN.out))⟩⟩
      case round =>
        clear HBR HBN
        obtain ⟨i, rfl, hi, HBR, HBN⟩ := hrel
        have hw1 : wrap64 ((i : Int) + 1) = (i : Int) + 1 := by unfold wrap64; have := HYL.out; omega
        have hi0 : (0 : Int) ≤ (i : Int) := by omega
        have hi1 : (0 : Int) ≤ (i : Int) + 1 := by omega
        have HII := zA hi
        clear hi
        by_cases hil : i + 1 < y.length
        · have hil' : (i : Int) + 1 < (y.length : Int) := by omega
          have hil2 : (i : Int) < (y.length : Int) := by omega
          have e1 : decide ((i : Int) + 1 < (y.length : Int)) = true := decide_eq_true hil'
          obtain ⟨g1, g2, g3⟩ := HF9.out i (by omega)
          have G1 := zA g1
          have G2 := zA g2
          have G3 := zA g3
          have hle := HS4.out i (by omega)
          obtain ⟨p, hp⟩ : ∃ p, p = commonP (rdB y i) (rdB y (i + 1)) := ⟨_, rfl⟩
          obtain ⟨ot, hot⟩ : ∃ ot, ot = atP (commonP (rdB y i) (rdB y (i + 1))) false y := ⟨_, rfl⟩
          obtain ⟨ct, hct⟩ : ∃ ct, ct = (candP m0 y i).f1 := ⟨_, rfl⟩
          rw [← hot] at G2 G3
          rw [← hct] at G3 hle
          rw [← hp] at G1 G2
          have e2 : decide (ct < co) = false := decide_eq_false (by omega)
          clear g1 g2 g3 hle hp hot hct
          obtain ⟨ad, rfl, q0⟩ := Kd.at_string CY.out (i : Int) (by omega) hil2
          obtain ⟨ad', e', q1⟩ := Kd.at_string CY.out ((i + 1 : Nat) : Int) (by omega) (by omega)
          cases e'
          replace q0 := (HBR.out.cell (zB wo _ q0)).trans q0
          replace q1 := (HBR.out.cell (zB wo _ q1)).trans q1
          rw [Int.toNat_natCast] at q0 q1
          replace G1 : Aside0 (copseref02_Common.f k (rdOf ByteArray.empty y (i : Int)) (rdOf ByteArray.empty y ((i + 1 : Nat) : Int)) = some p) := G1
          obtain ⟨x0, hx0⟩ : ∃ x, x = rdOf ByteArray.empty y (i : Int) := ⟨_, rfl⟩
          obtain ⟨x1, hx1⟩ : ∃ x, x = rdOf ByteArray.empty y ((i + 1 : Nat) : Int) := ⟨_, rfl⟩
          rw [← hx0, ← hx1] at G1
          rw [← hx0] at q0
          rw [← hx1] at q1
          clear hx0 hx1
          have et : ((i : Int) + 1).toNat = i + 1 := by omega
          replace q1 : wr.cell? ⟨ad.block, ad.off + (i + 1), none⟩ = some (.string x1) := by simpa [Addr.add] using q1
          go_wp2_with (fail)
          refine start_ (n := 17) (S := fun w' => w'.cell? (ad.add i) = some (.string x0) ∧ w'.cell? ⟨ad.block, ad.off + (i + 1), none⟩ = some (.string x1)) (ds := [11]) #[F, F, F, F, F, F, F, F, F, F, F, F, F, F, F, F, F] (by kernel_rfl) rfl rfl ⟨q0, q1⟩ (fun hHeld => ?_)
          refine with_tabW few.tab22 few.bits22 (fun HT_ HW_ => ?_)
          refine pure_ (i := 0) (N := some 143) (v := ?_) (a' := ?_) #[T, F, F, F, F, F, F, F, F, F, F, F, F, F, F, F, F] rfl rfl (any_of HT_.out (by kernel_rfl)) (fun _ _ _ h => h) (Or.inl ⟨by rfl, ?_⟩) ?_ ?_
          rotate_left
          · intro w'
            go_simp
            with_reducible rfl
          rotate_left
          · simp only [Act.put, zS, zZ, zC, i64_w, i32_w]
            rfl
          refine pure_ (i := 1) (N := some 144) (v := ?_) (a' := ?_) #[T, T, F, F, F, F, F, F, F, F, F, F, F, F, F, F, F] rfl rfl (any_of HT_.out (by kernel_rfl)) (fun _ _ _ h => h) (Or.inl ⟨by rfl, ?_⟩) ?_ ?_
          rotate_left
          · intro w'
            go_simp
            with_reducible rfl
          rotate_left
          · simp only [Act.put, zS, zZ, zC, i64_w, i32_w]
            rfl
          refine pure_ (i := 2) (N := some 145) (v := ?_) (a' := ?_) #[T, T, T, F, F, F, F, F, F, F, F, F, F, F, F, F, F] rfl rfl (any_of HT_.out (by kernel_rfl)) (fun _ _ _ h => h) (Or.inl ⟨by rfl, ?_⟩) ?_ ?_
          rotate_left
          · intro w'
            go_simp
            with_reducible rfl
          rotate_left
          · simp only [Act.put, zS, zZ, zC, i64_w, i32_w]
            rfl
          refine pure_ (i := 5) (N := some 148) (v := ?_) (a' := ?_) #[T, T, T, F, F, T, F, F, F, F, F, F, F, F, F, F, F] rfl rfl (any_of HT_.out (by kernel_rfl)) (fun _ _ _ h => h) (Or.inl ⟨by rfl, ?_⟩) ?_ ?_
          rotate_left
          · intro w'
            go_simp
            with_reducible rfl
          rotate_left
          · simp only [Act.put, zS, zZ, zC, i64_w, i32_w]
            rfl
          refine pure_ (i := 6) (N := some 149) (v := ?_) (a' := ?_) #[T, T, T, F, F, T, T, F, F, F, F, F, F, F, F, F, F] rfl rfl (any_of HT_.out (by kernel_rfl)) (fun _ _ _ h => h) (Or.inl ⟨by rfl, ?_⟩) ?_ ?_
          rotate_left
          · intro w'
            go_simp
            with_reducible rfl
          rotate_left
          · simp only [Act.put, zS, zZ, zC, i64_w, i32_w]
            rfl
          refine pure_ (i := 7) (N := some 150) (v := ?_) (a' := ?_) #[T, T, T, F, F, T, T, T, F, F, F, F, F, F, F, F, F] rfl rfl (any_of HT_.out (by kernel_rfl)) (fun _ _ _ h => h) (Or.inl ⟨by rfl, ?_⟩) ?_ ?_
          rotate_left
          · intro w'
            go_simp
            with_reducible rfl
          rotate_left
          · simp only [Act.put, zS, zZ, zC, i64_w, i32_w]
            rfl
          refine take_ (i := 3) (N := some 146) (v := ?_) (a' := ?_) #[T, T, T, T, F, T, T, T, F, F, F, F, F, F, F, F, F] rfl rfl (take_ofW HT_.out HW_.out (by kernel_rfl)) (fun _ _ _ h => h) (Or.inl ⟨by rfl, ?_⟩) hHeld ?_ ?_
          rotate_left
          · rintro w' ⟨s0, s1⟩
            go_simp
            with_reducible rfl
          rotate_left
          · simp only [Act.put, zS, zZ, zC, i64_w, i32_w]
            rfl
          refine take_ (i := 4) (N := some 147) (v := ?_) (a' := ?_) #[T, T, T, T, T, T, T, T, F, F, F, F, F, F, F, F, F] rfl rfl (take_ofW HT_.out HW_.out (by kernel_rfl)) (fun _ _ _ h => h) (Or.inl ⟨by rfl, ?_⟩) hHeld ?_ ?_
          rotate_left
          · rintro w' ⟨s0, s1⟩
            go_simp
            with_reducible rfl
          rotate_left
          · simp only [Act.put, zS, zZ, zC, i64_w, i32_w]
            rfl
          refine take_ (i := 8) (N := some 151) (v := ?_) (a' := ?_) #[T, T, T, T, T, T, T, T, T, F, F, F, F, F, F, F, F] rfl rfl (take_ofW HT_.out HW_.out (by kernel_rfl)) (fun _ _ _ h => h) (Or.inl ⟨by rfl, ?_⟩) hHeld ?_ ?_
          rotate_left
          · rintro w' ⟨s0, s1⟩
            go_simp
            with_reducible rfl
          rotate_left
          · simp only [Act.put, zS, zZ, zC, i64_w, i32_w]
            rfl
          refine take_ (i := 9) (N := some 152) (v := ?_) (a' := ?_) #[T, T, T, T, T, T, T, T, T, T, F, F, F, F, F, F, F] rfl rfl (take_ofW HT_.out HW_.out (by kernel_rfl)) (fun _ _ _ h => h) (Or.inl ⟨by rfl, ?_⟩) hHeld ?_ ?_
          rotate_left
          · rintro w' ⟨s0, s1⟩
            go_simp
            with_reducible rfl
          rotate_left
          · simp only [Act.put, zS, zZ, zC, i64_w, i32_w]
            rfl
          refine one_ (i := 10) (N := some 153) #[T, T, T, T, T, T, T, T, T, T, T, F, F, F, F, F, F] rfl rfl (one_of HT_.out (by kernel_rfl)) (by decide) (fun K hK => ?_)
          refine goes_ Tryd.func22 (by kernel_rfl) rfl #[.string x0, .string x1] (by rfl) rfl rfl (by (try simp only [List.map_toArray, List.map_cons, List.map_nil]); rfl) ?_
          refine (copseref02_Common.calls k x0 x1 p _ G1.out).mono ?_
          rintro e wc ⟨rfl, hb⟩
          have HBC := zA hb
          refine ⟨_, rfl, ?_⟩
          refine hK.out _ _ ⟨((HBC.out.cell (zB wr _ q0)).trans q0), ((HBC.out.cell (zB wr _ q1)).trans q1)⟩ (fun hHeld => ?_)
          clear hK K
          refine norm_ (a' := ?_) ?_ ?_
          rotate_left
          · show Act.put _ (some 153) _ = _
            simp only [Act.put, zS, zZ, zC, i64_w, i32_w]
            rfl
          refine last_ (i := 11) (N := some 154) #[T, T, T, T, T, T, T, T, T, T, T, T, F, F, F, F, F] rfl rfl (one_of HT_.out (by kernel_rfl)) (by decide) (fun K hK => ?_)
          refine goes_ Tryd.func10 (by kernel_rfl) rfl #[.slice (some ad) y.length c, .string p] (by rfl) rfl rfl (by (try simp only [List.map_toArray, List.map_cons, List.map_nil]); rfl) ?_
          refine (merge_At.calls k _ _ y p ot 0 _ (Kd.C_below (Kd.C_drew (Kd.C_below CY.out HBR.out)) HBC.out) TY.out G2.out).mono ?_
          rintro e wd ⟨v9, rfl, hR, hb2⟩
          have HBD := zA hb2
          obtain ⟨Ao, cco, rfl, hcn, hCn⟩ := Kd.R_reads hR
          have TO := zA hcn
          have CO := zA hCn
          clear hcn hCn hR
          refine ⟨_, rfl, ?_⟩
          refine hK.out _ _ ?_
          clear hK K
          refine norm_ (a' := ?_) ?_ ?_
          rotate_left
          · show Act.put _ (some 154) _ = _
            simp only [Act.put, zS, zZ, zC, i64_w, i32_w]
            rfl
          refine pure_ (i := 12) (N := some 142) (v := ?_) (a' := ?_) #[T, T, T, T, T, T, T, T, T, T, T, T, T, F, F, F, F] rfl rfl (any_of HT_.out (by kernel_rfl)) (fun _ _ _ h => h) (Or.inl ⟨by rfl, ?_⟩) ?_ ?_
          rotate_left
          · intro w'
            go_simp
            with_reducible rfl
          rotate_left
          · simp only [Act.put, zS, zZ, zC, i64_w, i32_w]
            rfl
          refine pure_ (i := 13) (N := some 155) (v := ?_) (a' := ?_) #[T, T, T, T, T, T, T, T, T, T, T, T, T, T, F, F, F] rfl rfl (any_of HT_.out (by kernel_rfl)) (fun _ _ _ h => h) (Or.inl ⟨by rfl, ?_⟩) ?_ ?_
          rotate_left
          · intro w'
            go_simp
            with_reducible rfl
          rotate_left
          · simp only [Act.put, zS, zZ, zC, i64_w, i32_w]
            rfl
          refine pure_ (i := 14) (N := some 156) (v := ?_) (a' := ?_) #[T, T, T, T, T, T, T, T, T, T, T, T, T, T, T, F, F] rfl rfl (any_of HT_.out (by kernel_rfl)) (fun _ _ _ h => h) (Or.inl ⟨by rfl, ?_⟩) ?_ ?_
          rotate_left
          · intro w'
            go_simp
            with_reducible rfl
          rotate_left
          · simp only [Act.put, zS, zZ, zC, i64_w, i32_w]
            rfl
          refine pure_ (i := 15) (N := some 21) (v := ?_) (a' := ?_) #[T, T, T, T, T, T, T, T, T, T, T, T, T, T, T, T, F] rfl rfl (any_of HT_.out (by kernel_rfl)) (fun _ _ _ h => h) (Or.inl ⟨by rfl, ?_⟩) ?_ ?_
          rotate_left
          · intro w'
            go_simp
            with_reducible rfl
          rotate_left
          · simp only [Act.put, zS, zZ, zC, i64_w, i32_w]
            rfl
          refine pure_ (i := 16) (N := some 22) (v := ?_) (a' := ?_) #[T, T, T, T, T, T, T, T, T, T, T, T, T, T, T, T, T] rfl rfl (any_of HT_.out (by kernel_rfl)) (fun _ _ _ h => h) (Or.inl ⟨by rfl, ?_⟩) ?_ ?_
          rotate_left
          · intro w'
            go_simp
            with_reducible rfl
          rotate_left
          · simp only [Act.put, zS, zZ, zC, i64_w, i32_w]
            rfl
          refine done_ (done_of HT_.out (by kernel_rfl)) ?_
          have HBR2 := zA (below_step (below_step (zD HBR.out) HBC.out) HBD.out)
          have HBN2 := zA (below_step (below_step (zD HBN.out) HBC.out) HBD.out)
          have HBO := zA (Below.refl wd.heap.size wd)
          clear hHeld HT_ HW_ q0 q1 et hb hb2 HBC HBD HBR HBN
          go_wp2_with (first
            | (go_at_call 8; (with_reducible refine (merge_Cost.calls k _ _ m0 _ _ ot ct 0 _ (Kd.C_below RR0.out (by repeat (first | (with_reducible first | exact HBR2.out | apply zL | apply zN | apply zD) | exact HBR2.out))) T0.out (Kd.C_below CO.out (by repeat (first | (with_reducible first | exact HBO.out | apply zL | apply zN | apply zD) | exact HBO.out))) TO.out G3.out).mono ?_); rintro e w16 ⟨rfl, hb⟩; have n0_ := zA (below_step (by repeat (first | (with_reducible first | exact HBR2.out | apply zL | apply zN | apply zD) | exact HBR2.out)) hb); clear HBR2; have HBR2 := n0_; clear n0_; have n0_ := zA (below_step (by repeat (first | (with_reducible first | exact HBN2.out | apply zL | apply zN | apply zD) | exact HBN2.out)) hb); clear HBN2; have HBN2 := n0_; clear n0_; clear hb))
          go_roundw
          case rel => exact ⟨i + 1, by rw [hw1]; rfl, by have := HII.out; omega, HBR2, HBN2⟩
          case measure => rw [hw1]; simp [intOf]; omega
        · have hil' : ¬ (i : Int) + 1 < (y.length : Int) := by omega
          have e1 : decide ((i : Int) + 1 < (y.length : Int)) = false := decide_eq_false hil'
          go_wp2
          go_roundw
          case rel => exact ⟨An, cn, nx, rfl, TN, ⟨(Kd.C_below CN.out (by repeat (first | (with_reducible first | exact HBN.out | apply zL | apply zN | apply zD) | exact HBN.out)))⟩, HNX, ⟨below_step HBW.out HBR.out⟩⟩
          case measure => exact HS1.out
    · have d1 : decide (b < (y.length : Int)) = false := decide_eq_false hlt
      obtain ⟨d2, d3⟩ := HIF.out y HI.out (by omega)
      have D1 := zA d2
      have D2 := zA d3
      have hw1 : wrap64 ((m1.length : Int) + 1) = (m1.length : Int) + 1 := by unfold wrap64; have := M16.out; omega
      clear d2 d3 hlt
      go_wp2_with (first
        | (go_at_call 15; (with_reducible refine (merge_Down.calls k _ _ m0 _ _ m1 b y 0 _ (Kd.C_below RR0.out (by repeat (first | (with_reducible first | exact HBR.out | apply zL | apply zN | apply zD) | exact HBR.out))) T0.out (Kd.C_below RR1.out (by repeat (first | (with_reducible first | exact HBR.out | apply zL | apply zN | apply zD) | exact HBR.out))) T1.out D1.out).mono ?_); rintro e w17 ⟨v17, rfl, hR, hb⟩; have n0_ := zA (below_step (by repeat (first | (with_reducible first | exact HBR.out | apply zL | apply zN | apply zD) | exact HBR.out)) hb); clear HBR; have HBR := n0_; clear n0_; clear hb; obtain ⟨Ag, cg, rfl, hcn, hCn⟩ := Kd.R_reads hR; have TG := zA hcn; have CG := zA hCn; have HBG := zA (Below.refl w17.heap.size w17); clear hcn hCn hR)
        | (go_at_call 15; (with_reducible refine (merge_Down.calls k _ _ m0 _ _ m1 ((m1.length : Int) + 1) m1 0 _ (Kd.C_below RR0.out (by repeat (first | (with_reducible first | exact HBR.out | apply zL | apply zN | apply zD) | exact HBR.out))) T0.out (Kd.C_below RR1.out (by repeat (first | (with_reducible first | exact HBR.out | apply zL | apply zN | apply zD) | exact HBR.out))) T1.out HALL.out).mono ?_); rintro e w18 ⟨v18, rfl, hR, hb⟩; have n0_ := zA (below_step (by repeat (first | (with_reducible first | exact HBR.out | apply zL | apply zN | apply zD) | exact HBR.out)) hb); clear HBR; have HBR := n0_; clear n0_; have n0_ := zA (below_step (by repeat (first | (with_reducible first | exact HBG.out | apply zL | apply zN | apply zD) | exact HBG.out)) hb); clear HBG; have HBG := n0_; clear n0_; clear hb; obtain ⟨Ah, ch, rfl, hcn, hCn⟩ := Kd.R_reads hR; have TH := zA hcn; have CH := zA hCn; have HBH := zA (Below.refl w18.heap.size w18); clear hcn hCn hR)
        | (go_at_call 12; (with_reducible refine (copselaw16_same.calls k _ _ y _ _ y true _ (Kd.C_below CG.out (by repeat (first | (with_reducible first | exact HBG.out | apply zL | apply zN | apply zD) | exact HBG.out))) TG.out (Kd.C_below CY.out (by repeat (first | (with_reducible first | exact HBR.out | apply zL | apply zN | apply zD) | exact HBR.out))) TY.out D2.out).mono ?_); rintro e w19 ⟨rfl, hd⟩; have hb := drawn_below hd; clear hd; have n0_ := zA (below_step (by repeat (first | (with_reducible first | exact HBR.out | apply zL | apply zN | apply zD) | exact HBR.out)) hb); clear HBR; have HBR := n0_; clear n0_; have n0_ := zA (below_step (by repeat (first | (with_reducible first | exact HBG.out | apply zL | apply zN | apply zD) | exact HBG.out)) hb); clear HBG; have HBG := n0_; clear n0_; have n0_ := zA (below_step (by repeat (first | (with_reducible first | exact HBH.out | apply zL | apply zN | apply zD) | exact HBH.out)) hb); clear HBH; have HBH := n0_; clear n0_; clear hb)
        | (go_at_call 12; (with_reducible refine (copselaw16_same.calls k _ _ m1 _ _ m1 true _ (Kd.C_below CH.out (by repeat (first | (with_reducible first | exact HBH.out | apply zL | apply zN | apply zD) | exact HBH.out))) TH.out (Kd.C_below RR1.out (by repeat (first | (with_reducible first | exact HBR.out | apply zL | apply zN | apply zD) | exact HBR.out))) T1.out HSAME.out).mono ?_); rintro e w20 ⟨rfl, hd⟩; have hb := drawn_below hd; clear hd; have n0_ := zA (below_step (by repeat (first | (with_reducible first | exact HBR.out | apply zL | apply zN | apply zD) | exact HBR.out)) hb); clear HBR; have HBR := n0_; clear n0_; clear hb))
      go_ret
      exact ⟨rfl, below_step HBW.out (by repeat (first | (with_reducible first | exact HBR.out | apply zL | apply zN | apply zD) | exact HBR.out))⟩
end Go.Proofs.YtnfolcefjkannaaDoor.G
