/- Walks through functions that the law reaches, and what these compute in plain terms; a part of the proof of the statement in YtdanahjfpilfhaaDoorClose. -/
import Derived.Test.YtdanahjfpilfhaaDoorLayer3
import Derived.Test.YtdanahjfpilfhaaDoorProg
/- Plain laws: distances of masks; nearest cards; duplicates. -/
namespace Go.Vr
open Go
set_option linter.unusedVariables false
set_option linter.unusedSimpArgs false

/-! ### distances -/
theorem popN_le : ∀ (x y z : Nat), (∀ i, x.testBit i = true → y.testBit i = true ∨ z.testBit i = true) → popN x ≤ popN y + popN z := by
  intro x
  induction x using Nat.strongRecOn with
  | _ x ih =>
    intro y z h
    by_cases hx : x = 0
    · subst hx; rw [popN_0]; omega
    · rw [popN_step x, popN_step y, popN_step z]
      have h1 := ih (x / 2) (by omega) (y / 2) (z / 2) (fun i hi => by
        rw [← Nat.testBit_succ] at hi; rw [← Nat.testBit_succ, ← Nat.testBit_succ]; exact h (i + 1) hi)
      have h0 : x % 2 ≤ y % 2 + z % 2 := by
        have := h 0
        simp only [Nat.testBit_zero, decide_eq_true_eq] at this
        rcases Nat.mod_two_eq_zero_or_one x with e | e
        · omega
        · have := this e; omega
      omega
theorem popN_eq0 : ∀ (x : Nat), popN x = 0 → x = 0 := by
  intro x
  induction x using Nat.strongRecOn with
  | _ x ih =>
    intro h
    by_cases hx : x = 0
    · exact hx
    · rw [popN_step] at h
      have := ih (x / 2) (by omega) (by omega)
      omega
theorem farM_comm (m n : Mask) : farM m n = farM n m := by unfold farM; omega
theorem natLess_self (x : Nat) : natLess x x = 0 := by unfold natLess; rw [Nat.and_self, Nat.xor_self]
theorem natLess_zero {x y : Nat} (h : natLess x y = 0) (h' : natLess y x = 0) : x = y := by
  apply Nat.eq_of_testBit_eq
  intro i
  have h1 := natLess_bit x y i
  have h2 := natLess_bit y x i
  rw [h, Nat.zero_testBit] at h1
  rw [h', Nat.zero_testBit] at h2
  cases hx : x.testBit i <;> cases hy : y.testBit i <;> rw [hx, hy] at h1 h2 <;> first | rfl | exact absurd h1 (by decide) | exact absurd h2 (by decide)
theorem farM_zero (m n : Mask) : farM m n = 0 ↔ m = n := by
  unfold farM countM
  constructor
  · intro h
    have h1 := popN_eq0 (lessM m n).a (by omega)
    have h2 := popN_eq0 (lessM m n).b (by omega)
    have h3 := popN_eq0 (lessM n m).a (by omega)
    have h4 := popN_eq0 (lessM n m).b (by omega)
    cases m; cases n
    simp only [Mask.mk.injEq]
    exact ⟨natLess_zero h1 h3, natLess_zero h2 h4⟩
  · rintro rfl
    show popN (natLess m.a m.a) + popN (natLess m.b m.b) + (popN (natLess m.a m.a) + popN (natLess m.b m.b)) = 0
    rw [natLess_self, natLess_self, popN_0]
theorem less_le (x y z : Nat) : popN (natLess x y) ≤ popN (natLess x z) + popN (natLess z y) := by
  apply popN_le
  intro i
  rw [natLess_bit, natLess_bit, natLess_bit]
  cases x.testBit i <;> cases y.testBit i <;> cases z.testBit i <;> simp
theorem farM_tri (m n c : Mask) : farM m n ≤ farM c m + farM c n := by
  unfold farM countM lessM
  have h1 := less_le m.a n.a c.a
  have h2 := less_le m.b n.b c.b
  have h3 := less_le n.a m.a c.a
  have h4 := less_le n.b m.b c.b
  simp only
  omega
theorem farM_le {m n : Mask} (hm : m.wf) (hn : n.wf) : farM m n ≤ 256 := by
  have h1 := countM_le (lessM_wf (n := n) hm)
  have h2 := countM_le (lessM_wf (n := m) hn)
  unfold farM; omega

/-! ### decks -/
theorem card_wf_getD {d : List Card} (h : ∀ c ∈ d, c.wf) (i : Nat) : (d.getD i default).wf := getD_of (p := Card.wf) h ⟨by decide, ⟨by decide, by decide⟩⟩ i
def hasName (d : List Card) (n : ByteArray) : Prop := ∃ j, j < d.length ∧ (d.getD j default).name = n
instance (d : List Card) (n : ByteArray) : Decidable (hasName d n) := by unfold hasName; infer_instance
theorem hasName_take {d : List Card} {n : ByteArray} {i : Nat} (hi : i ≤ d.length) : hasName ((d.drop 0).take (i - 0)) n ↔ ∃ k, k < i ∧ (d.getD k default).name = n := by
  unfold hasName
  rw [List.drop_zero, Nat.sub_zero, List.length_take, Nat.min_eq_left hi]
  constructor
  · rintro ⟨j, h1, h2⟩
    refine ⟨j, h1, ?_⟩
    rw [← h2]; simp only [List.getD_eq_getElem?_getD]; rw [List.getElem?_take, if_pos h1]
  · rintro ⟨j, h1, h2⟩
    refine ⟨j, h1, ?_⟩
    rw [← h2]; simp only [List.getD_eq_getElem?_getD]; rw [List.getElem?_take, if_pos h1]

/-! ### nearest cards -/
def minTo (g : Nat → Int) : Nat → Int
  | 0 => g 0
  | k + 1 => if minTo g k < g (k + 1) then minTo g k else g (k + 1)
def idxTo (g : Nat → Int) (l : Int) : Nat → List Int
  | 0 => []
  | k + 1 => if g k = l then idxTo g l k ++ [(k : Int)] else idxTo g l k
theorem minTo_le (g : Nat → Int) : ∀ k i, i ≤ k → minTo g k ≤ g i
  | 0, i, h => by have : i = 0 := by omega
                  subst this; exact Int.le_refl _
  | k + 1, i, h => by
    rw [minTo]
    rcases Nat.lt_or_ge i (k + 1) with h1 | h1
    · have := minTo_le g k i (by omega); split <;> omega
    · have : i = k + 1 := by omega
      subst this; split <;> omega
theorem idxTo_none {g : Nat → Int} {l : Int} : ∀ k, (∀ i, i < k → l < g i) → idxTo g l k = []
  | 0, _ => rfl
  | k + 1, h => by
    rw [idxTo, if_neg (by have := h k (by omega); omega)]
    exact idxTo_none k (fun i hi => h i (by omega))
theorem mem_idxTo {g : Nat → Int} {l : Int} : ∀ (k : Nat) (i : Int), i ∈ idxTo g l k ↔ ∃ j : Nat, j < k ∧ i = j ∧ g j = l
  | 0, i => by simp [idxTo]
  | k + 1, i => by
    rw [idxTo]
    split
    · rename_i h
      rw [List.mem_append, mem_idxTo k i]
      constructor
      · rintro (⟨j, h1, h2, h3⟩ | h1)
        · exact ⟨j, by omega, h2, h3⟩
        · exact ⟨k, by omega, by simpa using h1, h⟩
      · rintro ⟨j, h1, h2, h3⟩
        rcases Nat.lt_or_ge j k with h4 | h4
        · exact .inl ⟨j, h4, h2, h3⟩
        · have : j = k := by omega
          subst this; right; simp [h2]
    · rename_i h
      rw [mem_idxTo k i]
      constructor
      · rintro ⟨j, h1, h2, h3⟩; exact ⟨j, by omega, h2, h3⟩
      · rintro ⟨j, h1, h2, h3⟩
        rcases Nat.lt_or_ge j k with h4 | h4
        · exact ⟨j, h4, h2, h3⟩
        · have : j = k := by omega
          subst this; exact absurd h3 h
theorem idxTo_len {g : Nat → Int} {l : Int} : ∀ k, (idxTo g l k).length ≤ k
  | 0 => Nat.le_refl _
  | k + 1 => by
    have := idxTo_len (g := g) (l := l) k
    rw [idxTo]; split
    · rw [len_app1]; omega
    · omega
def distF (d : List Card) (m : Mask) (i : Nat) : Int := (farM (d.getD i default).notches m : Nat)
def nearC (d : List Card) (m : Mask) : Int := if deckOk d ∧ maskOk m then (if d.length = 0 then 6 else 0) else 1
def nearD (d : List Card) (m : Mask) : Int := if nearC d m = 0 then minTo (distF d m) (d.length - 1) else 0
def nearL (d : List Card) (m : Mask) : List Int := if nearC d m = 0 then idxTo (distF d m) (minTo (distF d m) (d.length - 1)) d.length else []
theorem near_bad {d : List Card} {m : Mask} (h : ¬ (deckOk d ∧ maskOk m)) : nearL d m = [] ∧ nearD d m = 0 ∧ nearC d m = 1 := by
  have : nearC d m = 1 := by unfold nearC; rw [if_neg h]
  unfold nearL nearD; rw [this]; simp
theorem near_none {d : List Card} {m : Mask} (h : deckOk d ∧ maskOk m) (h0 : d.length = 0) : nearL d m = [] ∧ nearD d m = 0 ∧ nearC d m = 6 := by
  have : nearC d m = 6 := by unfold nearC; rw [if_pos h, if_pos h0]
  unfold nearL nearD; rw [this]; simp
theorem near_some {d : List Card} {m : Mask} (h : deckOk d ∧ maskOk m) (h0 : d.length ≠ 0) : nearL d m = idxTo (distF d m) (minTo (distF d m) (d.length - 1)) d.length ∧ nearD d m = minTo (distF d m) (d.length - 1) ∧ nearC d m = 0 := by
  have : nearC d m = 0 := by unfold nearC; rw [if_pos h, if_neg h0]
  unfold nearL nearD; rw [this]; simp
theorem near_cases (d : List Card) (m : Mask) : (¬ (deckOk d ∧ maskOk m) ∧ nearL d m = [] ∧ nearD d m = 0 ∧ nearC d m = 1) ∨ ((deckOk d ∧ maskOk m) ∧ d.length = 0 ∧ nearL d m = [] ∧ nearD d m = 0 ∧ nearC d m = 6) ∨
    ((deckOk d ∧ maskOk m) ∧ d.length ≠ 0 ∧ nearL d m = idxTo (distF d m) (minTo (distF d m) (d.length - 1)) d.length ∧ nearD d m = minTo (distF d m) (d.length - 1) ∧ nearC d m = 0) := by
  by_cases h : deckOk d ∧ maskOk m
  · by_cases h0 : d.length = 0
    · exact .inr (.inl ⟨h, h0, near_none h h0⟩)
    · exact .inr (.inr ⟨h, h0, near_some h h0⟩)
  · exact .inl ⟨h, near_bad h⟩
/-- What the program's loop has behind i rounds. -/
def leastI (g : Nat → Int) (i : Nat) : Int := if i = 0 then -1 else minTo g (i - 1)
def outI (g : Nat → Int) (i : Nat) : List Int := idxTo g (leastI g i) i
theorem near_new {g : Nat → Int} {i : Nat} (h0 : ∀ j, 0 ≤ g j) (h : leastI g i < 0 ∨ g i < leastI g i) : leastI g (i + 1) = g i ∧ outI g (i + 1) = [(i : Int)] := by
  have h1 : leastI g (i + 1) = g i := by
    unfold leastI at h ⊢
    rw [if_neg (by omega), Nat.add_sub_cancel]
    cases i with
    | zero => rfl
    | succ k =>
      rw [if_neg (by omega), Nat.add_sub_cancel] at h
      have hk : 0 ≤ minTo g k := by
        have : ∀ k, 0 ≤ minTo g k := by
          intro k; induction k with
          | zero => exact h0 0
          | succ k ih => rw [minTo]; split; exact ih; exact h0 _
        exact this k
      rw [minTo, if_neg (by omega)]
  refine ⟨h1, ?_⟩
  unfold outI
  rw [h1, idxTo, if_pos rfl, idxTo_none i (fun j hj => ?_)]
  · rfl
  · unfold leastI at h
    rw [if_neg (by omega)] at h
    have := minTo_le g (i - 1) j (by omega)
    have := h0 j
    have hm : 0 ≤ minTo g (i - 1) := by
      have : ∀ k, 0 ≤ minTo g k := by
        intro k; induction k with
        | zero => exact h0 0
        | succ k ih => rw [minTo]; split; exact ih; exact h0 _
      exact this _
    omega
theorem near_old {g : Nat → Int} {i : Nat} (h1 : ¬ leastI g i < 0) (h : ¬ g i < leastI g i) : leastI g (i + 1) = leastI g i ∧ outI g (i + 1) = if g i = leastI g i then outI g i ++ [(i : Int)] else outI g i := by
  have h2 : leastI g (i + 1) = leastI g i := by
    unfold leastI at h1 h ⊢
    cases i with
    | zero => simp at h1
    | succ k =>
      rw [if_neg (by omega), Nat.add_sub_cancel] at h1 h ⊢
      rw [if_neg (by omega), Nat.add_sub_cancel, minTo]
      split <;> omega
  refine ⟨h2, ?_⟩
  unfold outI
  rw [h2, idxTo]

/-! ### duplicates -/
def grpTo (d : List Card) (i : Nat) : Nat → List Int
  | 0 => []
  | k + 1 => if (d.getD k default).notches = (d.getD i default).notches then grpTo d i k ++ [(k : Int)] else grpTo d i k
def firstOf (d : List Card) (i : Nat) : Prop := ∀ k, k < i → (d.getD k default).notches ≠ (d.getD i default).notches
instance (d : List Card) (i : Nat) : Decidable (firstOf d i) := by unfold firstOf; infer_instance
def dupTo (d : List Card) : Nat → List (List Int)
  | 0 => []
  | i + 1 => if firstOf d i ∧ 1 < (grpTo d i d.length).length then dupTo d i ++ [grpTo d i d.length] else dupTo d i
theorem grpTo_len (d : List Card) (i : Nat) : ∀ k, (grpTo d i k).length ≤ k
  | 0 => Nat.le_refl _
  | k + 1 => by
    have := grpTo_len d i k
    rw [grpTo]; split
    · rw [len_app1]; omega
    · omega
theorem dupTo_len (d : List Card) : ∀ k, (dupTo d k).length ≤ k
  | 0 => Nat.le_refl _
  | k + 1 => by
    have := dupTo_len d k
    rw [dupTo]; split
    · rw [len_app1]; omega
    · omega
theorem mem_grpTo {d : List Card} {i : Nat} : ∀ (k : Nat) (x : Int), x ∈ grpTo d i k ↔ ∃ j : Nat, j < k ∧ x = j ∧ (d.getD j default).notches = (d.getD i default).notches
  | 0, x => by simp [grpTo]
  | k + 1, x => by
    rw [grpTo]
    split
    · rename_i h
      rw [List.mem_append, mem_grpTo k x]
      constructor
      · rintro (⟨j, h1, h2, h3⟩ | h1)
        · exact ⟨j, by omega, h2, h3⟩
        · exact ⟨k, by omega, by simpa using h1, h⟩
      · rintro ⟨j, h1, h2, h3⟩
        rcases Nat.lt_or_ge j k with h4 | h4
        · exact .inl ⟨j, h4, h2, h3⟩
        · have : j = k := by omega
          subst this; right; simp [h2]
    · rename_i h
      rw [mem_grpTo k x]
      constructor
      · rintro ⟨j, h1, h2, h3⟩; exact ⟨j, by omega, h2, h3⟩
      · rintro ⟨j, h1, h2, h3⟩
        rcases Nat.lt_or_ge j k with h4 | h4
        · exact ⟨j, h4, h2, h3⟩
        · have : j = k := by omega
          subst this; exact absurd h3 h
/-- The head of a group is the first card with those notches. -/
theorem grpTo_head {d : List Card} {i : Nat} : ∀ k, i < k → ∃ h t, grpTo d i k = h :: t ∧ (h = (i : Int) ↔ firstOf d i)
  | 0, h => by omega
  | k + 1, h => by
    rcases Nat.lt_or_ge i k with h1 | h1
    · obtain ⟨x, t, e, hx⟩ := grpTo_head (d := d) k h1
      rw [grpTo]
      split
      · exact ⟨x, t ++ [(k : Int)], by rw [e]; rfl, hx⟩
      · exact ⟨x, t, e, hx⟩
    · have : i = k := by omega
      subst this
      rw [grpTo, if_pos rfl]
      cases hg : grpTo d i i with
      | nil =>
        refine ⟨i, [], rfl, fun _ => ?_, fun _ => rfl⟩
        intro k hk e
        have := (mem_grpTo (d := d) (i := i) i (k : Int)).2 ⟨k, hk, rfl, e⟩
        rw [hg] at this; simp at this
      | cons x t =>
        refine ⟨x, t ++ [(i : Int)], rfl, ?_⟩
        have hx := (mem_grpTo (d := d) (i := i) i x).1 (by rw [hg]; simp)
        obtain ⟨j, h2, h3, h4⟩ := hx
        constructor
        · intro e; omega
        · intro hf; exact absurd h4 (hf j h2)
theorem firstOf_exists {d : List Card} (i : Nat) : ∃ j, j ≤ i ∧ firstOf d j ∧ (d.getD j default).notches = (d.getD i default).notches := by
  induction i using Nat.strongRecOn with
  | _ i ih =>
    by_cases h : firstOf d i
    · exact ⟨i, Nat.le_refl _, h, rfl⟩
    · unfold firstOf at h
      have : ∃ k, k < i ∧ (d.getD k default).notches = (d.getD i default).notches := Classical.byContradiction fun hn => h fun k hk e => hn ⟨k, hk, e⟩
      obtain ⟨k, hk, e⟩ := this
      obtain ⟨j, h1, h2, h3⟩ := ih k hk
      exact ⟨j, by omega, h2, h3.trans e⟩
theorem mem_dupTo {d : List Card} : ∀ (k : Nat) (g : List Int), g ∈ dupTo d k ↔ ∃ i, i < k ∧ firstOf d i ∧ 1 < (grpTo d i d.length).length ∧ g = grpTo d i d.length
  | 0, g => by simp [dupTo]
  | k + 1, g => by
    rw [dupTo]
    split
    · rename_i h
      rw [List.mem_append, mem_dupTo k g]
      constructor
      · rintro (⟨j, h1, h2⟩ | h1)
        · exact ⟨j, by omega, h2⟩
        · exact ⟨k, by omega, h.1, h.2, by simpa using h1⟩
      · rintro ⟨j, h1, h2⟩
        rcases Nat.lt_or_ge j k with h4 | h4
        · exact .inl ⟨j, h4, h2⟩
        · have : j = k := by omega
          subst this; right; simp [h2.2.2]
    · rename_i h
      rw [mem_dupTo k g]
      constructor
      · rintro ⟨j, h1, h2⟩; exact ⟨j, by omega, h2⟩
      · rintro ⟨j, h1, h2⟩
        rcases Nat.lt_or_ge j k with h4 | h4
        · exact ⟨j, h4, h2⟩
        · have : j = k := by omega
          subst this; exact absurd ⟨h2.1, h2.2.1⟩ h
theorem two_of {d : List Card} {i : Nat} : ∀ (k a b : Nat), a < b → b < k → (d.getD a default).notches = (d.getD i default).notches → (d.getD b default).notches = (d.getD i default).notches → 1 < (grpTo d i k).length
  | 0, a, b, _, h, _, _ => by omega
  | k + 1, a, b, hab, hb, ha', hb' => by
    rw [grpTo]
    rcases Nat.lt_or_ge b k with h | h
    · have := two_of k a b hab h ha' hb'
      split
      · rw [len_app1]; omega
      · exact this
    · have : b = k := by omega
      subst this
      rw [if_pos hb', len_app1]
      have : (a : Int) ∈ grpTo d i b := (mem_grpTo b _).2 ⟨a, hab, rfl, ha'⟩
      have := List.length_pos_of_mem this
      omega
theorem one_le_two {d : List Card} {i : Nat} : ∀ (k : Nat), 1 < (grpTo d i k).length → ∀ x : Nat, ∃ y, y < k ∧ y ≠ x ∧ (d.getD y default).notches = (d.getD i default).notches
  | 0, h, _ => by simp [grpTo] at h
  | k + 1, h, x => by
    rw [grpTo] at h
    split at h
    · rename_i e
      by_cases hx : k = x
      · have hp : 0 < (grpTo d i k).length := by rw [len_app1] at h; omega
        obtain ⟨z, hz⟩ := List.exists_mem_of_length_pos hp
        obtain ⟨j, h1, h2, h3⟩ := (mem_grpTo k z).1 hz
        exact ⟨j, by omega, by omega, h3⟩
      · exact ⟨k, by omega, hx, e⟩
    · obtain ⟨y, h1, h2, h3⟩ := one_le_two k h x
      exact ⟨y, by omega, h2, h3⟩
/-- A card is in a group just where another one has its notches. -/
theorem dup_twin {d : List Card} {i : Nat} (hi : i < d.length) : (∃ g ∈ dupTo d d.length, (i : Int) ∈ g) ↔ ∃ k, k < d.length ∧ k ≠ i ∧ (d.getD k default).notches = (d.getD i default).notches := by
  constructor
  · rintro ⟨g, hg, hig⟩
    obtain ⟨j, h1, h2, h3, rfl⟩ := (mem_dupTo _ _).1 hg
    obtain ⟨i', h4, h5, h6⟩ := (mem_grpTo _ _).1 hig
    have : i' = i := by omega
    subst this
    obtain ⟨y, h7, h8, h9⟩ := one_le_two d.length h3 i'
    exact ⟨y, h7, h8, h9.trans h6.symm⟩
  · rintro ⟨k, h1, h2, h3⟩
    obtain ⟨j, h4, h5, h6⟩ := firstOf_exists (d := d) i
    refine ⟨grpTo d j d.length, (mem_dupTo _ _).2 ⟨j, by omega, h5, ?_, rfl⟩, (mem_grpTo _ _).2 ⟨i, hi, rfl, h6.symm⟩⟩
    rcases Nat.lt_or_ge i k with h | h
    · exact two_of d.length i k h h1 h6.symm (h3.trans h6.symm)
    · exact two_of d.length k i (by omega) hi (h3.trans h6.symm) h6.symm
/-- A step of the groups, asked at the group's head. -/
theorem dup_step {d : List Card} {i : Nat} {gr : List Int} (h : gr = grpTo d i d.length) (hi : i < d.length) : dupTo d (i + 1) = if 1 < gr.length ∧ gr.getD 0 0 = (i : Int) then dupTo d i ++ [gr] else dupTo d i := by
  subst h
  obtain ⟨x, t, e, hx⟩ := grpTo_head (d := d) d.length hi
  rw [dupTo]
  have : (grpTo d i d.length).getD 0 0 = x := by rw [e]; rfl
  rw [this]
  by_cases h1 : firstOf d i
  · by_cases h2 : 1 < (grpTo d i d.length).length
    · rw [if_pos ⟨h1, h2⟩, if_pos ⟨h2, hx.2 h1⟩]
    · rw [if_neg (fun h => h2 h.2), if_neg (fun h => h2 h.1)]
  · rw [if_neg (fun h => h1 h.1), if_neg (fun h => h1 (hx.1 h.2))]
def fstTo (d : List Card) (i k : Nat) : Prop := ∀ m, m < k → m < i → (d.getD m default).notches ≠ (d.getD i default).notches
theorem first_all {d : List Card} {i k : Nat} (h : fstTo d i k) (hi : i ≤ k) : firstOf d i := fun m hm => h m (by omega) hm
theorem first_keep {d : List Card} {i k : Nat} {b : Bool} (h : b = true ↔ fstTo d i k) (e : ¬ (d.getD k default).notches = (d.getD i default).notches) : b = true ↔ fstTo d i (k + 1) := by
  rw [h]
  constructor
  · intro h1 m hm hmi
    rcases Nat.lt_or_ge m k with h2 | h2
    · exact h1 m h2 hmi
    · rw [show m = k by omega]; exact e
  · intro h1 m hm hmi; exact h1 m (by omega) hmi
theorem first_hit {d : List Card} {i k : Nat} (e : (d.getD k default).notches = (d.getD i default).notches) (hk : k < i) : false = true ↔ fstTo d i (k + 1) :=
  ⟨fun h => absurd h (by decide), fun h => absurd e (h k (by omega) hk)⟩
theorem first_more {d : List Card} {i k : Nat} {b : Bool} (h : b = true ↔ fstTo d i k) (hk : ¬ k < i) : b = true ↔ fstTo d i (k + 1) := by
  rw [h]
  constructor
  · intro h1 m hm hmi; exact h1 m (by omega) hmi
  · intro h1 m hm hmi; exact h1 m (by omega) hmi
theorem first_dec {d : List Card} {i k : Nat} {b : Bool} (h : b = true ↔ fstTo d i k) (hb : b = true) (e : (d.getD k default).notches = (d.getD i default).notches) : decide ((i : Int) ≤ (k : Int)) = true ↔ fstTo d i (k + 1) := by
  rw [decide_eq_true_eq]
  constructor
  · intro h1; exact (first_more h (by omega)).1 hb
  · intro h1
    rcases Nat.lt_or_ge k i with h2 | h2
    · exact absurd e (h1 k (by omega) h2)
    · omega
theorem first_false {d : List Card} {i k : Nat} {b : Bool} (h : b = true ↔ fstTo d i k) (hb : b = false) : false = true ↔ fstTo d i (k + 1) := by
  subst hb
  rw [h]
  constructor
  · intro h1; exact absurd (h.2 h1) (by decide)
  · intro h1 m hm hmi; exact h1 m (by omega) hmi
def dupC (d : List Card) : Int := if deckOk d then 0 else 1
def dupL (d : List Card) : List (List Int) := if deckOk d then dupTo d d.length else []
end Go.Vr
/- Plain laws: what is drawn has its widths. -/
namespace Go.Vr
open Go
set_option linter.unusedVariables false
@[simp] theorem cl_card (xs : List Card) : PV.closedE (xs.map cardc) := closedE_map (fun _ => by simp [cardc, PV.closed, PV.closedL]) xs
@[simp] theorem cl_field (xs : List Field) : PV.closedE (xs.map fieldc) := closedE_map (fun _ => by simp [fieldc, PV.closed, PV.closedL]) xs
@[simp] theorem cl_mask (xs : List Mask) : PV.closedE (xs.map maskc) := closedE_map (fun _ => by simp [maskc, PV.closed, PV.closedL]) xs
@[simp] theorem cl_i64 (xs : List Int) : PV.closedE (xs.map i64c) := closedE_map (fun _ => by simp [i64c, PV.closed, PV.closedL]) xs
@[simp] theorem cl_i16 (xs : List Int) : PV.closedE (xs.map i16c) := closedE_map (fun _ => by simp [i16c, PV.closed, PV.closedL]) xs
@[simp] theorem cl_i8 (xs : List Int) : PV.closedE (xs.map i8c) := closedE_map (fun _ => by simp [i8c, PV.closed, PV.closedL]) xs
@[simp] theorem cl_str (xs : List ByteArray) : PV.closedE (xs.map strc) := closedE_map (fun _ => by simp [strc, PV.closed, PV.closedL]) xs
@[simp] theorem cl_bool (xs : List Bool) : PV.closedE (xs.map boolc) := closedE_map (fun _ => by simp [boolc, PV.closed, PV.closedL]) xs
@[simp] theorem cl_i64s (xs : List (List Int)) : PV.closedE (xs.map i64sO) := closedE_map (fun _ => by simp [i64sO, PV.closed, PV.closedL]) xs
theorem ne_dec {p q : Prop} [Decidable p] [Decidable q] {A : Prop} (h : p ↔ q) (hq : (decide p != decide q) = true) : A := by
  have e : decide p = decide q := decide_eq_decide.2 h
  rw [e] at hq; simp at hq
theorem not_self {α : Type} {a : α} [Decidable (a = a)] {A : Prop} (h : (!decide (a = a)) = true) : A := by simp at h
theorem far0 (m n : Mask) : ((farM m n : Nat) : Int) = 0 ↔ m = n := by rw [← farM_zero]; omega
theorem DeckTo.wf {deck : List Card} (h : DeckTo deck) (hl : deck.length ≤ 12) : ∀ c ∈ deck, c.wf := by
  intro c hc
  obtain ⟨i, hi, rfl⟩ := List.getElem_of_mem hc
  have e : deck[i] = deck.getD i default := by simp [hi]
  have h1 := (h.ok hl).2 i hi
  rw [e]
  exact ⟨by have := h1.1.1.2.2; omega, (h.m i hi).wf⟩
theorem nearC_ok {d : List Card} {m : Mask} (h : deckOk d) (hm : maskOk m) : nearC d m = if d.length = 0 then 6 else 0 := by unfold nearC; rw [if_pos ⟨h, hm⟩]
theorem dupC_ok {d : List Card} (h : deckOk d) : dupC d = 0 := by unfold dupC; rw [if_pos h]
theorem nearL_len {d : List Card} {m : Mask} : (nearL d m).length ≤ d.length := by
  unfold nearL; split
  · exact idxTo_len _
  · simp
theorem dupL_len {d : List Card} : (dupL d).length ≤ d.length := by
  unfold dupL; split
  · exact dupTo_len _ _
  · simp
theorem dupL_in {d : List Card} (g : List Int) (h : g ∈ dupL d) : g.length ≤ d.length := by
  unfold dupL at h; split at h
  · obtain ⟨i, _, _, _, rfl⟩ := (mem_dupTo _ _).1 h; exact grpTo_len _ _ _
  · simp at h
theorem near_all {d : List Card} {m : Mask} (h : deckOk d) (hm : maskOk m) {i : Nat} (hi : i < d.length) :
    nearD d m ≤ ((farM (d.getD i default).notches m : Nat) : Int) ∧ ((i : Int) ∈ nearL d m ↔ ((farM (d.getD i default).notches m : Nat) : Int) = nearD d m) := by
  obtain ⟨e1, e2, _⟩ := near_some (d := d) (m := m) ⟨h, hm⟩ (by omega)
  rw [e1, e2]
  refine ⟨minTo_le (distF d m) (d.length - 1) i (by omega), ?_⟩
  rw [mem_idxTo]
  constructor
  · rintro ⟨j, h1, h2, h3⟩
    have : i = j := by omega
    subst this; exact h3
  · intro h1; exact ⟨i, hi, rfl, h1⟩
theorem mem_getD_ex {xs : List (List Int)} {x : Int} : (∃ j, j < xs.length ∧ x ∈ xs.getD j default) ↔ ∃ g ∈ xs, x ∈ g := by
  constructor
  · rintro ⟨j, h1, h2⟩; exact ⟨_, getD_mem h1, h2⟩
  · rintro ⟨g, h1, h2⟩
    obtain ⟨j, hj, rfl⟩ := List.getElem_of_mem h1
    exact ⟨j, hj, by simpa [hj] using h2⟩
theorem twin_told {d : List Card} {i : Nat} (h : deckOk d) (hi : i < d.length) {b b2 : Bool} {k k2 : Nat} (hk : k = d.length) (hk2 : k2 = (dupL d).length)
    (hb : b = true ↔ ∃ j, j < k ∧ j ≠ i ∧ (d.getD j default).notches = (d.getD i default).notches) (hb2 : b2 = true ↔ ∃ j, j < k2 ∧ (i : Int) ∈ (dupL d).getD j default) : b = b2 := by
  subst hk hk2
  have e : dupL d = dupTo d d.length := by unfold dupL; rw [if_pos h]
  rw [mem_getD_ex, e, dup_twin hi, ← hb] at hb2
  cases b <;> cases b2 <;> simp_all
theorem ex_step {p : Nat → Prop} {b : Bool} {k : Nat} (h : b = true ↔ ∃ j, j < k ∧ p j) (b' : Bool) (hb : b' = true ↔ b = true ∨ p k) : b' = true ↔ ∃ j, j < k + 1 ∧ p j := by
  rw [hb, h]
  constructor
  · rintro (⟨j, h1, h2⟩ | h1)
    · exact ⟨j, by omega, h2⟩
    · exact ⟨k, by omega, h1⟩
  · rintro ⟨j, h1, h2⟩
    rcases Nat.lt_or_ge j k with h3 | h3
    · exact .inl ⟨j, h3, h2⟩
    · have : j = k := by omega
      subst this; exact .inr h2
theorem ex_none {p : Nat → Prop} : false = true ↔ ∃ j, j < 0 ∧ p j := ⟨fun h => absurd h (by decide), fun ⟨j, h, _⟩ => absurd h (Nat.not_lt_zero j)⟩
end Go.Vr
/- Plain laws: places of names, states of cards, names of decks, merged decks. -/
namespace Go.Vr
open Go
set_option linter.unusedVariables false
set_option linter.unusedSimpArgs false

/-! ### places -/
def placeF (d : List Card) (n : ByteArray) : Nat → Int
  | 0 => -1
  | k + 1 => if 0 ≤ placeF d n k then placeF d n k else if (d.getD k default).name = n then (k : Int) else -1
def placeC (d : List Card) (n : ByteArray) : Int := placeF d n d.length
theorem placeF_spec (d : List Card) (n : ByteArray) : ∀ k, (placeF d n k = -1 ∧ ∀ j, j < k → (d.getD j default).name ≠ n) ∨ ∃ i : Nat, placeF d n k = i ∧ i < k ∧ (d.getD i default).name = n ∧ ∀ j, j < i → (d.getD j default).name ≠ n
  | 0 => .inl ⟨rfl, fun j h => absurd h (Nat.not_lt_zero j)⟩
  | k + 1 => by
    rw [placeF]
    rcases placeF_spec d n k with ⟨h1, h2⟩ | ⟨i, h1, h2, h3, h4⟩
    · rw [if_neg (by omega)]
      by_cases h : (d.getD k default).name = n
      · rw [if_pos h]; exact .inr ⟨k, rfl, by omega, h, h2⟩
      · rw [if_neg h]
        refine .inl ⟨rfl, fun j hj => ?_⟩
        rcases Nat.lt_or_ge j k with h5 | h5
        · exact h2 j h5
        · rw [show j = k by omega]; exact h
    · rw [if_pos (by omega)]; exact .inr ⟨i, h1, by omega, h3, h4⟩
theorem placeC_spec (d : List Card) (n : ByteArray) : (placeC d n = -1 ∧ ¬ hasName d n) ∨ ∃ i : Nat, placeC d n = i ∧ i < d.length ∧ (d.getD i default).name = n ∧ ∀ j, j < i → (d.getD j default).name ≠ n := by
  rcases placeF_spec d n d.length with ⟨h1, h2⟩ | h
  · exact .inl ⟨h1, fun ⟨j, h3, h4⟩ => h2 j h3 h4⟩
  · exact .inr h
theorem placeC_at {d : List Card} {n : ByteArray} {i : Nat} (hi : i < d.length) (hn : (d.getD i default).name = n) (hA : ∀ j, j < i → (d.getD j default).name ≠ n) : placeC d n = i := by
  rcases placeC_spec d n with ⟨_, h2⟩ | ⟨k, h1, h2, h3, h4⟩
  · exact absurd ⟨i, hi, hn⟩ h2
  · rcases Nat.lt_trichotomy i k with h | h | h
    · exact absurd hn (h4 i h)
    · subst h; exact h1
    · exact absurd h3 (hA k h)
theorem placeC_none {d : List Card} {n : ByteArray} {i : Nat} (hi : ¬ i < d.length) (hA : ∀ j, j < i → (d.getD j default).name ≠ n) : placeC d n = -1 := by
  rcases placeC_spec d n with ⟨h1, _⟩ | ⟨k, h1, h2, h3, h4⟩
  · exact h1
  · exact absurd h3 (hA k (by omega))
theorem placeC_num (d : List Card) (n : ByteArray) : -1 ≤ placeC d n ∧ placeC d n < d.length := by
  rcases placeC_spec d n with ⟨h1, _⟩ | ⟨k, h1, h2, h3, h4⟩ <;> omega
theorem placeC_has {d : List Card} {n : ByteArray} : 0 ≤ placeC d n ↔ hasName d n := by
  rcases placeC_spec d n with ⟨h1, h2⟩ | ⟨k, h1, h2, h3, h4⟩
  · exact ⟨fun h => by omega, fun h => absurd h h2⟩
  · exact ⟨fun _ => ⟨k, h2, h3⟩, fun _ => by omega⟩
theorem placeC_name {d : List Card} {n : ByteArray} (h : 0 ≤ placeC d n) : (d.getD (placeC d n).toNat default).name = n := by
  rcases placeC_spec d n with ⟨h1, h2⟩ | ⟨k, h1, h2, h3, h4⟩
  · omega
  · rw [h1]; exact h3

/-! ### states -/
structure St where
  there : Bool
  notches : Mask
deriving DecidableEq
instance : Inhabited St := ⟨⟨false, noM⟩⟩
theorem st_inj {s t : St} : [Value.bool s.there, .int .u64 (s.notches.a : Int), .int .u64 (s.notches.b : Int)] = [Value.bool t.there, .int .u64 (t.notches.a : Int), .int .u64 (t.notches.b : Int)] ↔ s = t := by
  rcases s with ⟨s, ⟨a, b⟩⟩; rcases t with ⟨t, ⟨a', b'⟩⟩
  simp; omega
def stC (d : List Card) (n : ByteArray) : St := if placeC d n < 0 then ⟨false, noM⟩ else ⟨true, (d.getD (placeC d n).toNat default).notches⟩
theorem stC_there {d : List Card} {n : ByteArray} : (stC d n).there = true ↔ hasName d n := by
  unfold stC
  rw [← placeC_has]
  split <;> simp <;> omega
def distinctD (d : List Card) : Prop := ∀ i, i < d.length → ∀ k, k < i → (d.getD k default).name ≠ (d.getD i default).name
theorem deckOk_distinct {d : List Card} (h : deckOk d) : distinctD d := fun i hi => (h.2 i hi).2
theorem mem_st {d : List Card} (h : distinctD d) (c : Card) : c ∈ d ↔ stC d c.name = ⟨true, c.notches⟩ := by
  constructor
  · intro hc
    obtain ⟨i, hi, rfl⟩ := List.getElem_of_mem hc
    have e : d[i] = d.getD i default := by simp [hi]
    rw [e]
    have := placeC_at (n := (d.getD i default).name) hi rfl (fun j hj => h i hi j hj)
    unfold stC; rw [this, if_neg (by omega)]; simp
  · intro hc
    unfold stC at hc
    split at hc
    · simp at hc
    · rename_i h1
      obtain ⟨_, h2⟩ := placeC_num d c.name
      simp only [St.mk.injEq, true_and] at hc
      have h3 := placeC_name (d := d) (n := c.name) (by omega)
      have : d.getD (placeC d c.name).toNat default = c := by
        cases hq : d.getD (placeC d c.name).toNat default with
        | mk nm nt => rw [hq] at h3 hc; cases c; simp_all
      rw [← this]; exact getD_mem (by omega)

def cardsS (d : List Card) : List PV := [.sh 3 (d.map cardc)]

/-! ### names -/
instance decMemB (n : ByteArray) : (l : List ByteArray) → Decidable (n ∈ l)
  | [] => isFalse (by simp)
  | x :: xs => have := decMemB n xs; decidable_of_iff (n = x ∨ n ∈ xs) (by simp)
def addN (out : List ByteArray) (n : ByteArray) : List ByteArray := if n ∈ out then out else out ++ [n]
def nmD (d : List Card) (out : List ByteArray) : Nat → List ByteArray
  | 0 => out
  | k + 1 => addN (nmD d out k) (d.getD k default).name
def nmA (ds : List (List Card)) : Nat → List ByteArray
  | 0 => []
  | k + 1 => nmD (ds.getD k default) (nmA ds k) (ds.getD k default).length
def namesA (ds : List (List Card)) : List ByteArray := nmA ds ds.length
theorem mem_addN {out : List ByteArray} {m n : ByteArray} : m ∈ addN out n ↔ m ∈ out ∨ m = n := by
  unfold addN; split
  · exact ⟨.inl, fun h => h.elim id (fun e => by subst e; assumption)⟩
  · simp
theorem nodup_addN {out : List ByteArray} {n : ByteArray} (h : out.Nodup) : (addN out n).Nodup := by
  unfold addN; split
  · exact h
  · rename_i h1
    rw [List.nodup_append]
    exact ⟨h, by simp, fun a ha b hb e => by simp at hb; subst hb; subst e; exact h1 ha⟩
theorem mem_nmD {d : List Card} {out : List ByteArray} {n : ByteArray} : ∀ k, n ∈ nmD d out k ↔ n ∈ out ∨ ∃ j, j < k ∧ (d.getD j default).name = n
  | 0 => by simp [nmD]
  | k + 1 => by
    rw [nmD, mem_addN, mem_nmD k]
    constructor
    · rintro ((h | ⟨j, h1, h2⟩) | h)
      · exact .inl h
      · exact .inr ⟨j, by omega, h2⟩
      · exact .inr ⟨k, by omega, h.symm⟩
    · rintro (h | ⟨j, h1, h2⟩)
      · exact .inl (.inl h)
      · rcases Nat.lt_or_ge j k with h3 | h3
        · exact .inl (.inr ⟨j, h3, h2⟩)
        · exact .inr (by rw [← h2, show j = k by omega])
theorem mem_nmA {ds : List (List Card)} {n : ByteArray} : ∀ k, n ∈ nmA ds k ↔ ∃ j, j < k ∧ hasName (ds.getD j default) n
  | 0 => by simp [nmA]
  | k + 1 => by
    rw [nmA, mem_nmD, mem_nmA k]
    constructor
    · rintro (⟨j, h1, h2⟩ | h)
      · exact ⟨j, by omega, h2⟩
      · exact ⟨k, by omega, h⟩
    · rintro ⟨j, h1, h2⟩
      rcases Nat.lt_or_ge j k with h3 | h3
      · exact .inl ⟨j, h3, h2⟩
      · rw [show j = k by omega] at h2; exact .inr h2
theorem nodup_nmD {d : List Card} {out : List ByteArray} (h : out.Nodup) : ∀ k, (nmD d out k).Nodup
  | 0 => h
  | k + 1 => nodup_addN (nodup_nmD h k)
theorem nodup_nmA {ds : List (List Card)} : ∀ k, (nmA ds k).Nodup
  | 0 => List.nodup_nil
  | k + 1 => nodup_nmD (nodup_nmA k) _
theorem addN_len (out : List ByteArray) (n : ByteArray) : (addN out n).length ≤ out.length + 1 := by
  unfold addN; split
  · omega
  · rw [len_app1]; omega
theorem nmD_len (d : List Card) (out : List ByteArray) : ∀ k, (nmD d out k).length ≤ out.length + k
  | 0 => Nat.le_refl _
  | k + 1 => by
    have := nmD_len d out k
    have := addN_len (nmD d out k) (d.getD k default).name
    rw [nmD]; omega
theorem nmA_len {ds : List (List Card)} {m : Nat} (h : ∀ d ∈ ds, d.length ≤ m) : ∀ k, (nmA ds k).length ≤ k * m
  | 0 => Nat.zero_le _
  | k + 1 => by
    have h1 := nmA_len h k
    have h2 := nmD_len (ds.getD k default) (nmA ds k) (ds.getD k default).length
    have h3 : (ds.getD k default).length ≤ m := getD_of (p := fun d : List Card => d.length ≤ m) h (Nat.zero_le _) k
    rw [nmA, Nat.succ_mul]; omega
/-- In a deck of distinct names a name is new just where no deck before has it. -/
theorem nmD_new {ds : List (List Card)} {d i : Nat} (h : distinctD (ds.getD d default)) (hi : i < (ds.getD d default).length) :
    ((ds.getD d default).getD i default).name ∈ nmD (ds.getD d default) (nmA ds d) i ↔ ∃ j, j < d ∧ 0 ≤ placeC (ds.getD j default) ((ds.getD d default).getD i default).name := by
  rw [mem_nmD, mem_nmA]
  constructor
  · rintro (⟨j, h1, h2⟩ | ⟨j, h1, h2⟩)
    · exact ⟨j, h1, placeC_has.2 h2⟩
    · exact absurd h2 (h i hi j h1)
  · rintro ⟨j, h1, h2⟩; exact .inl ⟨j, h1, placeC_has.1 h2⟩

/-! ### conflicts -/
def clash (base a b : List Card) (n : ByteArray) : Prop := stC base n ≠ stC a n ∧ stC base n ≠ stC b n ∧ stC a n ≠ stC b n
instance (base a b : List Card) (n : ByteArray) : Decidable (clash base a b n) := by unfold clash; infer_instance
def confTo (base a b : List Card) (ns : List ByteArray) : Nat → List ByteArray
  | 0 => []
  | k + 1 => if clash base a b (ns.getD k default) then confTo base a b ns k ++ [ns.getD k default] else confTo base a b ns k
def confL (base a b : List Card) : List ByteArray := confTo base a b (namesA [base, a]) (namesA [base, a]).length
theorem confTo_len (base a b : List Card) (ns : List ByteArray) : ∀ k, (confTo base a b ns k).length ≤ k
  | 0 => Nat.le_refl _
  | k + 1 => by
    have := confTo_len base a b ns k
    rw [confTo]; split
    · rw [len_app1]; omega
    · omega
theorem confTo_none {base a b : List Card} {ns : List ByteArray} : ∀ k, confTo base a b ns k = [] ↔ ∀ j, j < k → ¬ clash base a b (ns.getD j default)
  | 0 => by simp [confTo]
  | k + 1 => by
    rw [confTo]
    split
    · rename_i h
      constructor
      · intro h1; simp at h1
      · intro h1; exact absurd h (h1 k (by omega))
    · rename_i h
      rw [confTo_none k]
      constructor
      · intro h1 j hj
        rcases Nat.lt_or_ge j k with h2 | h2
        · exact h1 j h2
        · rw [show j = k by omega]; exact h
      · intro h1 j hj; exact h1 j (by omega)
theorem names2 {x y : List Card} {n : ByteArray} : n ∈ namesA [x, y] ↔ hasName x n ∨ hasName y n := by
  unfold namesA
  rw [mem_nmA]
  constructor
  · rintro ⟨j, h1, h2⟩
    match j, h1, h2 with
    | 0, _, h2 => exact .inl h2
    | 1, _, h2 => exact .inr h2
  · rintro (h | h)
    · exact ⟨0, by simp, h⟩
    · exact ⟨1, by simp, h⟩
theorem names3 {x y z : List Card} {n : ByteArray} : n ∈ namesA [x, y, z] ↔ hasName x n ∨ hasName y n ∨ hasName z n := by
  unfold namesA
  rw [mem_nmA]
  constructor
  · rintro ⟨j, h1, h2⟩
    match j, h1, h2 with
    | 0, _, h2 => exact .inl h2
    | 1, _, h2 => exact .inr (.inl h2)
    | 2, _, h2 => exact .inr (.inr h2)
  · rintro (h | h | h)
    · exact ⟨0, by simp, h⟩
    · exact ⟨1, by simp, h⟩
    · exact ⟨2, by simp, h⟩
theorem stC_none {d : List Card} {n : ByteArray} (h : ¬ hasName d n) : stC d n = ⟨false, noM⟩ := by
  unfold stC
  rw [if_pos]
  have := placeC_has (d := d) (n := n)
  rcases Int.lt_or_le (placeC d n) 0 with h1 | h1
  · exact h1
  · exact absurd (this.1 h1) h
/-- No conflicts: of each name two of the three states are equal. -/
theorem no_conf {base a b : List Card} : confL base a b = [] ↔ ∀ n, ¬ clash base a b n := by
  unfold confL
  rw [confTo_none]
  constructor
  · intro h n hc
    by_cases hn : n ∈ namesA [base, a]
    · obtain ⟨i, hi, e⟩ := List.getElem_of_mem hn
      have := h i hi
      rw [show (namesA [base, a]).getD i default = n by simp [hi, e]] at this
      exact this hc
    · rw [names2] at hn
      have h1 := stC_none (d := base) (n := n) (fun h => hn (.inl h))
      have h2 := stC_none (d := a) (n := n) (fun h => hn (.inr h))
      exact hc.1 (h1.trans h2.symm)
  · intro h j _; exact h _

/-! ### merged decks -/
def stM (base a b : List Card) (n : ByteArray) : St := if stC b n = stC base n then stC a n else stC b n
def mrgTo (base a b : List Card) (ns : List ByteArray) : Nat → List Card
  | 0 => []
  | k + 1 => if (stM base a b (ns.getD k default)).there = true then mrgTo base a b ns k ++ [⟨ns.getD k default, (stM base a b (ns.getD k default)).notches⟩] else mrgTo base a b ns k
def mrgL (base a b : List Card) : List Card := mrgTo base a b (namesA [base, a, b]) (namesA [base, a, b]).length
theorem mrgTo_len (base a b : List Card) (ns : List ByteArray) : ∀ k, (mrgTo base a b ns k).length ≤ k
  | 0 => Nat.le_refl _
  | k + 1 => by
    have := mrgTo_len base a b ns k
    rw [mrgTo]; split
    · rw [len_app1]; omega
    · omega
theorem mem_mrgTo {base a b : List Card} {ns : List ByteArray} {c : Card} : ∀ k, c ∈ mrgTo base a b ns k ↔ ∃ j, j < k ∧ c.name = ns.getD j default ∧ stM base a b c.name = ⟨true, c.notches⟩
  | 0 => by simp [mrgTo]
  | k + 1 => by
    have key : ∀ n, (stM base a b n).there = true → stM base a b n = ⟨true, (stM base a b n).notches⟩ := by
      intro n h; cases hq : stM base a b n; rw [hq] at h; simp at h; rw [h]
    rw [mrgTo]
    split
    · rename_i h
      rw [List.mem_append, mem_mrgTo k]
      constructor
      · rintro (⟨j, h1, h2, h3⟩ | h1)
        · exact ⟨j, by omega, h2, h3⟩
        · have : c = ⟨ns.getD k default, (stM base a b (ns.getD k default)).notches⟩ := by simpa using h1
          rw [this]
          exact ⟨k, by omega, rfl, key _ h⟩
      · rintro ⟨j, h1, h2, h3⟩
        rcases Nat.lt_or_ge j k with h4 | h4
        · exact .inl ⟨j, h4, h2, h3⟩
        · have : j = k := by omega
          subst this
          refine .inr ?_
          rw [h2] at h3
          rw [h3]; cases c; simp only at h2; rw [h2]; simp
    · rename_i h
      rw [mem_mrgTo k]
      constructor
      · rintro ⟨j, h1, h2, h3⟩; exact ⟨j, by omega, h2, h3⟩
      · rintro ⟨j, h1, h2, h3⟩
        rcases Nat.lt_or_ge j k with h4 | h4
        · exact ⟨j, h4, h2, h3⟩
        · have : j = k := by omega
          subst this
          rw [h2] at h3; rw [h3] at h; simp at h
theorem mrgTo_nth {base a b : List Card} {ns : List ByteArray} : ∀ k i, i < (mrgTo base a b ns k).length → ∃ j, j < k ∧ i ≤ j ∧ ((mrgTo base a b ns k).getD i default).name = ns.getD j default
  | 0, i, h => by simp [mrgTo] at h
  | k + 1, i, h => by
    rw [mrgTo] at h ⊢
    split at h
    · rename_i h1
      rw [if_pos h1]
      rw [len_app1] at h
      rcases Nat.lt_or_ge i (mrgTo base a b ns k).length with h2 | h2
      · obtain ⟨j, h3, h4, h5⟩ := mrgTo_nth k i h2
        exact ⟨j, by omega, h4, by rw [getD_app_lt h2]; exact h5⟩
      · have h3 := mrgTo_len base a b ns k
        exact ⟨k, by omega, by omega, by rw [getD_app_eq (by omega)]⟩
    · rename_i h1
      rw [if_neg h1]
      obtain ⟨j, h3, h4, h5⟩ := mrgTo_nth k i h
      exact ⟨j, by omega, h4, h5⟩
end Go.Vr
/- Plain laws: merged decks are decks; decks with the same cards; what a deck may become. -/
namespace Go.Vr
open Go
set_option linter.unusedVariables false
set_option linter.unusedSimpArgs false

theorem distinct_nodup {d : List Card} (h : distinctD d) : d.Nodup := by
  unfold List.Nodup
  rw [List.pairwise_iff_getElem]
  intro i j hi hj hij e
  apply h j hj i hij
  simp [hi, hj, e]
def sameC (x y : List Card) : Prop := x.length = y.length ∧ ∀ c ∈ x, c ∈ y
instance (x y : List Card) : Decidable (sameC x y) := by unfold sameC; infer_instance
theorem sameC_of {x y : List Card} (hx : distinctD x) (hy : distinctD y) (h : ∀ c, c ∈ x ↔ c ∈ y) : sameC x y :=
  ⟨((List.perm_ext_iff_of_nodup (distinct_nodup hx) (distinct_nodup hy)).2 h).length_eq, fun c hc => (h c).1 hc⟩
theorem namesA_nth {ds : List (List Card)} {i j : Nat} (hi : i < (namesA ds).length) (hj : j < (namesA ds).length) (h : (namesA ds).getD i default = (namesA ds).getD j default) : i = j := by
  have hn := nodup_nmA (ds := ds) ds.length
  change (namesA ds).Nodup at hn
  unfold List.Nodup at hn
  rw [List.pairwise_iff_getElem] at hn
  simp [hi, hj] at h
  rcases Nat.lt_trichotomy i j with h1 | h1 | h1
  · exact absurd h (hn i j hi hj h1)
  · exact h1
  · exact absurd h.symm (hn j i hj hi h1)
theorem mrgTo_distinct {base a b : List Card} {ns : List ByteArray} (hn : ∀ i j, i < ns.length → j < ns.length → ns.getD i default = ns.getD j default → i = j) : ∀ k, k ≤ ns.length → distinctD (mrgTo base a b ns k)
  | 0, _ => by intro i hi; simp [mrgTo] at hi
  | k + 1, hk => by
    have ih := mrgTo_distinct (base := base) (a := a) (b := b) hn k (by omega)
    rw [mrgTo]
    split
    · intro i hi m hm
      rw [len_app1] at hi
      rcases Nat.lt_or_ge i (mrgTo base a b ns k).length with h2 | h2
      · rw [getD_app_lt h2, getD_app_lt (by omega)]; exact ih i h2 m hm
      · rw [getD_app_eq (i := i) (by omega), getD_app_lt (i := m) (by omega)]
        obtain ⟨j, h3, h4, h5⟩ := mrgTo_nth (base := base) (a := a) (b := b) (ns := ns) k m (by omega)
        rw [h5]
        intro e
        have := hn j k (by omega) (by omega) e
        omega
    · exact ih
theorem mrgL_distinct (base a b : List Card) : distinctD (mrgL base a b) := mrgTo_distinct (fun i j hi hj e => namesA_nth hi hj e) _ (Nat.le_refl _)
theorem stM_has {base a b : List Card} {n : ByteArray} (h : (stM base a b n).there = true) : hasName a n ∨ hasName b n := by
  unfold stM at h
  split at h
  · exact .inl (stC_there.1 h)
  · exact .inr (stC_there.1 h)
theorem mem_mrgL {base a b : List Card} {c : Card} : c ∈ mrgL base a b ↔ stM base a b c.name = ⟨true, c.notches⟩ := by
  unfold mrgL
  rw [mem_mrgTo]
  constructor
  · rintro ⟨j, _, _, h⟩; exact h
  · intro h
    have hn : c.name ∈ namesA [base, a, b] := by
      rw [names3]
      rcases stM_has (base := base) (a := a) (b := b) (n := c.name) (by rw [h]) with h1 | h1
      · exact .inr (.inl h1)
      · exact .inr (.inr h1)
    obtain ⟨i, hi, e⟩ := List.getElem_of_mem hn
    exact ⟨i, hi, by simp [hi, e], h⟩
theorem mrgL_from {base a b : List Card} (ha : distinctD a) (hb : distinctD b) {c : Card} (h : c ∈ mrgL base a b) : c ∈ a ∨ c ∈ b := by
  rw [mem_mrgL] at h
  unfold stM at h
  split at h
  · exact .inl ((mem_st ha c).2 h)
  · exact .inr ((mem_st hb c).2 h)
theorem deckOk_mem {d : List Card} (h : deckOk d) {c : Card} (hc : c ∈ d) : cardOk c := by
  obtain ⟨i, hi, rfl⟩ := List.getElem_of_mem hc
  have := (h.2 i hi).1
  simpa [hi] using this
theorem deckOk_of {d : List Card} (hl : d.length ≤ 80) (hc : ∀ c ∈ d, cardOk c) (hd : distinctD d) : deckOk d := ⟨hl, fun i hi => ⟨hc _ (getD_mem hi), hd i hi⟩⟩
theorem mrgL_len {base a b : List Card} {m : Nat} (h0 : base.length ≤ m) (ha : a.length ≤ m) (hb : b.length ≤ m) : (mrgL base a b).length ≤ 3 * m := by
  have h1 := mrgTo_len base a b (namesA [base, a, b]) (namesA [base, a, b]).length
  have h2 := nmA_len (ds := [base, a, b]) (m := m) (by simp [h0, ha, hb]) 3
  unfold mrgL; unfold namesA at h1 ⊢; simp only [List.length_cons, List.length_nil] at h1 ⊢; exact Nat.le_trans h1 h2
theorem mrgL_ok {base a b : List Card} (ha : deckOk a) (hb : deckOk b) (hl : (mrgL base a b).length ≤ 80) : deckOk (mrgL base a b) :=
  deckOk_of hl (fun c hc => (mrgL_from (deckOk_distinct ha) (deckOk_distinct hb) hc).elim (deckOk_mem ha) (deckOk_mem hb)) (mrgL_distinct _ _ _)
theorem mrgL_wf {base a b : List Card} (ha : deckOk a) (hb : deckOk b) (wa : ∀ c ∈ a, c.wf) (wb : ∀ c ∈ b, c.wf) : ∀ c ∈ mrgL base a b, c.wf :=
  fun c hc => (mrgL_from (deckOk_distinct ha) (deckOk_distinct hb) hc).elim (wa c) (wb c)
def ok3 (base a b : List Card) : Prop := deckOk base ∧ deckOk a ∧ deckOk b
instance (base a b : List Card) : Decidable (ok3 base a b) := by unfold ok3; infer_instance
def conC (base a b : List Card) : Int := if ok3 base a b then 0 else 1
def conL (base a b : List Card) : List ByteArray := if ok3 base a b then confL base a b else []
def mrgC (base a b : List Card) : Int := if ok3 base a b then (if 0 < (confL base a b).length then 8 else if 80 < (mrgL base a b).length then 3 else 0) else 1
def mrgO (base a b : List Card) : List Card := if mrgC base a b = 0 then mrgL base a b else []
theorem con_bad {base a b : List Card} (h : ¬ ok3 base a b) : conL base a b = [] ∧ conC base a b = 1 := by unfold conL conC; rw [if_neg h, if_neg h]; exact ⟨rfl, rfl⟩
theorem con_ok {base a b : List Card} (h : ok3 base a b) : conL base a b = confL base a b ∧ conC base a b = 0 := by unfold conL conC; rw [if_pos h, if_pos h]; exact ⟨rfl, rfl⟩
theorem mrg_cases (base a b : List Card) : (¬ ok3 base a b ∧ mrgO base a b = [] ∧ mrgC base a b = 1) ∨ (ok3 base a b ∧ 0 < (confL base a b).length ∧ mrgO base a b = [] ∧ mrgC base a b = 8) ∨
    (ok3 base a b ∧ ¬ 0 < (confL base a b).length ∧ 80 < (mrgL base a b).length ∧ mrgO base a b = [] ∧ mrgC base a b = 3) ∨
    (ok3 base a b ∧ ¬ 0 < (confL base a b).length ∧ ¬ 80 < (mrgL base a b).length ∧ mrgO base a b = mrgL base a b ∧ mrgC base a b = 0) := by
  unfold mrgO mrgC
  by_cases h : ok3 base a b
  · by_cases h1 : 0 < (confL base a b).length
    · simp [h, h1]
    · by_cases h2 : 80 < (mrgL base a b).length
      · simp [h, h1, h2]
      · simp [h, h1, h2]
  · simp [h]
theorem confL_len0 {base a b : List Card} : ¬ 0 < (confL base a b).length ↔ ∀ n, ¬ clash base a b n := by
  rw [← no_conf, Nat.not_lt, Nat.le_zero, List.length_eq_zero_iff]
/-- What is merged of decks that nobody changed in two ways. -/
theorem mrg_ok {base a b : List Card} (h : ok3 base a b) (hl : base.length ≤ 20 ∧ a.length ≤ 20 ∧ b.length ≤ 20) (hn : ∀ n, ¬ clash base a b n) :
    mrgC base a b = 0 ∧ mrgO base a b = mrgL base a b ∧ deckOk (mrgL base a b) ∧ (mrgL base a b).length ≤ 60 := by
  have h1 := mrgL_len hl.1 hl.2.1 hl.2.2
  have h2 := mrgL_ok (base := base) h.2.1 h.2.2 (by omega)
  have h3 := confL_len0.2 hn
  rcases mrg_cases base a b with ⟨e, _⟩ | ⟨_, e, _⟩ | ⟨_, _, e, _⟩ | ⟨_, _, _, e1, e2⟩
  · exact absurd h e
  · exact absurd e h3
  · omega
  · exact ⟨e2, e1, h2, by omega⟩
theorem stM_1 {base a : List Card} {n : ByteArray} : stM base a base n = stC a n := by unfold stM; rw [if_pos rfl]
theorem stM_2 {base a : List Card} {n : ByteArray} : stM base base a n = stC a n := by unfold stM; split <;> simp [*]
theorem stM_3 {base a : List Card} {n : ByteArray} : stM base a a n = stC a n := by unfold stM; split <;> rfl
theorem stM_swap {base a b : List Card} (hn : ∀ n, ¬ clash base a b n) (n : ByteArray) : stM base b a n = stM base a b n := by
  have := hn n
  unfold clash at this
  unfold stM
  by_cases h1 : stC a n = stC base n <;> by_cases h2 : stC b n = stC base n
  · rw [if_pos h1, if_pos h2, h1, h2]
  · rw [if_pos h1, if_neg h2]
  · rw [if_neg h1, if_pos h2]
  · rw [if_neg h1, if_neg h2]
    by_cases h3 : stC a n = stC b n
    · exact h3
    · exact absurd ⟨fun e => h1 e.symm, fun e => h2 e.symm, h3⟩ this
theorem same_st {x y : List Card} {f : ByteArray → St} (hx : distinctD x) (hy : distinctD y) (hf : ∀ c, c ∈ x ↔ f c.name = ⟨true, c.notches⟩) (h : ∀ n, f n = stC y n) : sameC x y :=
  sameC_of hx hy (fun c => by rw [hf, h, mem_st hy])
theorem no_clash1 {base a : List Card} (n : ByteArray) : ¬ clash base a base n := fun h => h.2.1 rfl
theorem no_clash2 {base a : List Card} (n : ByteArray) : ¬ clash base base a n := fun h => h.1 rfl
theorem no_clash3 {base a : List Card} (n : ByteArray) : ¬ clash base a a n := fun h => h.2.2 rfl
theorem clash_swap {base a b : List Card} (hn : ∀ n, ¬ clash base a b n) (n : ByteArray) : ¬ clash base b a n := fun h => hn n ⟨h.2.1, h.1, fun e => h.2.2 e.symm⟩

theorem dl80 {d : List Card} (h : deckOk d) : d.length ≤ 9223372036854775807 := by have := h.1; omega
theorem short2 {x y : List Card} (hx : deckOk x) (hy : deckOk y) : ∀ d ∈ [x, y], d.length ≤ 80 := by simp [hx.1, hy.1]
theorem short3 {x y z : List Card} (hx : deckOk x) (hy : deckOk y) (hz : deckOk z) : ∀ d ∈ [x, y, z], d.length ≤ 80 := by simp [hx.1, hy.1, hz.1]
theorem names2_len {x y : List Card} (hx : deckOk x) (hy : deckOk y) : (namesA [x, y]).length ≤ 160 := nmA_len (short2 hx hy) 2
theorem names3_len {x y z : List Card} (hx : deckOk x) (hy : deckOk y) (hz : deckOk z) : (namesA [x, y, z]).length ≤ 240 := nmA_len (short3 hx hy hz) 3
theorem all2 {p : List Card → Prop} {x y : List Card} (hx : p x) (hy : p y) : ∀ d ∈ [x, y], p d := by simp [hx, hy]
theorem all3 {p : List Card → Prop} {x y z : List Card} (hx : p x) (hy : p y) (hz : p z) : ∀ d ∈ [x, y, z], p d := by simp [hx, hy, hz]
theorem stC_card {d : List Card} {n : ByteArray} (h : 0 ≤ placeC d n) : (stC d n).there = true ∧ d.getD (placeC d n).toNat default = ⟨n, (stC d n).notches⟩ := by
  have h1 := placeC_name h
  unfold stC
  rw [if_neg (by omega)]
  refine ⟨rfl, ?_⟩
  cases hq : d.getD (placeC d n).toNat default with
  | mk nm nt => rw [hq] at h1; simp only at h1; rw [h1]
theorem stC_gone {d : List Card} {n : ByteArray} (h : ¬ 0 ≤ placeC d n) : (stC d n).there = false := by
  unfold stC; rw [if_pos (by omega)]
theorem mrg_step {base a b : List Card} {ns : List ByteArray} {k : Nat} {s : St} (hs : stM base a b (ns.getD k default) = s) : mrgTo base a b ns (k + 1) = if s.there = true then mrgTo base a b ns k ++ [⟨ns.getD k default, s.notches⟩] else mrgTo base a b ns k := by
  subst hs; rw [mrgTo]
theorem stM_pos {base a b : List Card} {n : ByteArray} (h : stC b n = stC base n) : stM base a b n = stC a n := by unfold stM; rw [if_pos h]
theorem stM_neg {base a b : List Card} {n : ByteArray} (h : ¬ stC b n = stC base n) : stM base a b n = stC b n := by unfold stM; rw [if_neg h]

/-! ### what a deck may become -/
structure ChgTo (deck : List Card) (i : Nat) (out : List Card) : Prop where
  ok : ∀ c ∈ out, cardOk c ∧ c.wf
  ds : distinctD out
  fr : ∀ c ∈ out, ∃ j, j < i ∧ c.name = (deck.getD j default).name
  ln : out.length ≤ i
theorem chg_nil {deck : List Card} : ChgTo deck 0 [] := ⟨by simp, fun i hi => by simp at hi, by simp, Nat.le_refl _⟩
theorem ChgTo.skip {deck out : List Card} {i : Nat} (h : ChgTo deck i out) : ChgTo deck (i + 1) out :=
  ⟨h.ok, h.ds, fun c hc => by obtain ⟨j, h1, h2⟩ := h.fr c hc; exact ⟨j, by omega, h2⟩, by have := h.ln; omega⟩
theorem distinct_push {out : List Card} {c : Card} (h : distinctD out) (hc : ¬ hasName out c.name) : distinctD (out ++ [c]) := by
  intro i hi m hm
  rw [len_app1] at hi
  rcases Nat.lt_or_ge i out.length with h2 | h2
  · rw [getD_app_lt h2, getD_app_lt (by omega)]; exact h i h2 m hm
  · rw [getD_app_eq (i := i) (by omega), getD_app_lt (i := m) (by omega)]
    intro e; exact hc ⟨m, by omega, e⟩
theorem ChgTo.push {deck out : List Card} {i : Nat} {c : Card} (h : ChgTo deck i out) (hd : deckOk deck) (hi : i < deck.length) (hn : c.name = (deck.getD i default).name) (hm : c.notches.ok) : ChgTo deck (i + 1) (out ++ [c]) := by
  have ho := (hd.2 i hi)
  refine ⟨fun x hx => ?_, distinct_push h.ds ?_, fun x hx => ?_, ?_⟩
  · rcases List.mem_append.1 hx with h1 | h1
    · exact h.ok x h1
    · have : x = c := by simpa using h1
      subst this
      exact ⟨⟨by rw [hn]; exact ho.1.1, ok_maskOk hm⟩, ⟨by rw [hn]; have := ho.1.1.2.2; omega, hm.wf⟩⟩
  · rintro ⟨j, h1, h2⟩
    obtain ⟨j', h3, h4⟩ := h.fr _ (getD_mem h1)
    exact ho.2 j' h3 (h4.symm.trans (h2.trans hn))
  · rcases List.mem_append.1 hx with h1 | h1
    · obtain ⟨j, h2, h3⟩ := h.fr x h1; exact ⟨j, by omega, h3⟩
    · have : x = c := by simpa using h1
      subst this; exact ⟨i, by omega, hn⟩
  · have := h.ln; rw [len_app1]; omega
theorem ChgTo.done {deck out : List Card} {i : Nat} (h : ChgTo deck i out) (hi : i ≤ 60) : deckOk out ∧ (∀ c ∈ out, c.wf) ∧ out.length ≤ i + 1 :=
  ⟨deckOk_of (by have := h.ln; omega) (fun c hc => (h.ok c hc).1) h.ds, fun c hc => (h.ok c hc).2, by have := h.ln; omega⟩
theorem ChgTo.more {deck out : List Card} {i : Nat} {c : Card} (h : ChgTo deck i out) (hi : i ≤ 60) (hn : nameOk c.name) (hm : c.notches.ok) (hf : placeC out c.name < 0) : deckOk (out ++ [c]) ∧ (∀ x ∈ out ++ [c], x.wf) ∧ (out ++ [c]).length ≤ i + 1 := by
  have hl := h.ln
  have key : ∀ x ∈ out ++ [c], cardOk x ∧ x.wf := by
    intro x hx
    rcases List.mem_append.1 hx with h1 | h1
    · exact h.ok x h1
    · have : x = c := by simpa using h1
      subst this; exact ⟨⟨hn, ok_maskOk hm⟩, ⟨by have := hn.2.2; omega, hm.wf⟩⟩
  refine ⟨deckOk_of (by rw [len_app1]; omega) (fun x hx => (key x hx).1) (distinct_push h.ds (fun h1 => ?_)), fun x hx => (key x hx).2, by rw [len_app1]; omega⟩
  have := placeC_has.2 h1; omega
def threeL : List ByteArray := [ByteArray.mk #[110, 101, 119, 116], ByteArray.mk #[111, 119, 108], ByteArray.mk #[112, 105, 103]]
theorem con_cases (base a b : List Card) : (¬ ok3 base a b ∧ conL base a b = [] ∧ conC base a b = 1) ∨ (ok3 base a b ∧ conL base a b = confL base a b ∧ conC base a b = 0) := by
  by_cases h : ok3 base a b
  · exact .inr ⟨h, con_ok h⟩
  · exact .inl ⟨h, con_bad h⟩
theorem three_ok (i : Int) (h : 0 ≤ i ∧ (i < 3 ∨ i = 0)) : nameOk (threeL.getD i.toNat default) := by
  have : i = 0 ∨ i = 1 ∨ i = 2 := by omega
  rcases this with h | h | h <;> subst h <;> decide
theorem all_of_getD {xs : List Card} {p : Card → Prop} (h : ∀ j, j < xs.length → p (xs.getD j default)) : ∀ c ∈ xs, p c := by
  intro c hc
  obtain ⟨i, hi, rfl⟩ := List.getElem_of_mem hc
  simpa [hi] using h i hi
theorem distinct_nil : distinctD (default : List Card) := fun i hi => absurd hi (Nat.not_lt_zero i)
theorem three_name {w : ByteArray} (h : ∃ x : Int, (0 ≤ x ∧ (x < (threeL.length : Int) ∨ x = 0)) ∧ w = threeL.getD x.toNat default) : nameOk w := by
  obtain ⟨x, h1, rfl⟩ := h; exact three_ok x h1
end Go.Vr
/- Plain laws: what the law on merged decks asks. -/
namespace Go.Vr
open Go
set_option linter.unusedVariables false
set_option linter.unusedSimpArgs false

theorem mrg_same {base a b y : List Card} (h : ok3 base a b) (hl : base.length ≤ 20 ∧ a.length ≤ 20 ∧ b.length ≤ 20) (wa : ∀ c ∈ a, c.wf) (wb : ∀ c ∈ b, c.wf) (hn : ∀ n, ¬ clash base a b n) (hy : deckOk y)
    (hs : ∀ c, c ∈ mrgL base a b ↔ c ∈ y) : mrgC base a b = 0 ∧ (∀ c ∈ mrgO base a b, c.wf) ∧ deckOk (mrgO base a b) ∧ sameC (mrgO base a b) y ∧ (mrgO base a b).length ≤ 9223372036854775807 := by
  obtain ⟨e1, e2, e3, e4⟩ := mrg_ok h hl hn
  rw [e2]
  exact ⟨e1, mrgL_wf h.2.1 h.2.2 wa wb, e3, sameC_of (mrgL_distinct _ _ _) (deckOk_distinct hy) hs, by omega⟩
theorem mem_by {base a b y : List Card} (hy : deckOk y) (h : ∀ n, stM base a b n = stC y n) (c : Card) : c ∈ mrgL base a b ↔ c ∈ y := by rw [mem_mrgL, h, mem_st (deckOk_distinct hy)]
theorem mrg_1 {base a : List Card} (hb : deckOk base) (ha : deckOk a) (hl : base.length ≤ 20 ∧ a.length ≤ 20) (wb : ∀ c ∈ base, c.wf) (wa : ∀ c ∈ a, c.wf) :
    mrgC base a base = 0 ∧ (∀ c ∈ mrgO base a base, c.wf) ∧ deckOk (mrgO base a base) ∧ sameC (mrgO base a base) a ∧ (mrgO base a base).length ≤ 9223372036854775807 :=
  mrg_same ⟨hb, ha, hb⟩ ⟨hl.1, hl.2, hl.1⟩ wa wb no_clash1 ha (mem_by ha fun _ => stM_1)
theorem mrg_2 {base a : List Card} (hb : deckOk base) (ha : deckOk a) (hl : base.length ≤ 20 ∧ a.length ≤ 20) (wb : ∀ c ∈ base, c.wf) (wa : ∀ c ∈ a, c.wf) :
    mrgC base base a = 0 ∧ (∀ c ∈ mrgO base base a, c.wf) ∧ deckOk (mrgO base base a) ∧ sameC (mrgO base base a) a ∧ (mrgO base base a).length ≤ 9223372036854775807 :=
  mrg_same ⟨hb, hb, ha⟩ ⟨hl.1, hl.1, hl.2⟩ wb wa no_clash2 ha (mem_by ha fun _ => stM_2)
theorem mrg_3 {base a : List Card} (hb : deckOk base) (ha : deckOk a) (hl : base.length ≤ 20 ∧ a.length ≤ 20) (wb : ∀ c ∈ base, c.wf) (wa : ∀ c ∈ a, c.wf) :
    mrgC base a a = 0 ∧ (∀ c ∈ mrgO base a a, c.wf) ∧ deckOk (mrgO base a a) ∧ sameC (mrgO base a a) a ∧ (mrgO base a a).length ≤ 9223372036854775807 :=
  mrg_same ⟨hb, ha, ha⟩ ⟨hl.1, hl.2, hl.2⟩ wa wa no_clash3 ha (mem_by ha fun _ => stM_3)
theorem con_3 {base a : List Card} (h : ok3 base a a) : conL base a a = [] := by rw [(con_ok h).1]; exact no_conf.2 no_clash3
theorem mrg_num {base a b : List Card} (h : ok3 base a b) (hl : base.length ≤ 20 ∧ a.length ≤ 20 ∧ b.length ≤ 20) (wa : ∀ c ∈ a, c.wf) (wb : ∀ c ∈ b, c.wf) :
    mrgC base a b = 8 ∧ 0 < (conL base a b).length ∧ mrgO base a b = [] ∨ mrgC base a b = 0 ∧ ¬ 0 < (conL base a b).length ∧ mrgO base a b = mrgL base a b ∧ (∀ n, ¬ clash base a b n) ∧ deckOk (mrgO base a b) ∧ (mrgO base a b).length ≤ 60 ∧ ∀ c ∈ mrgO base a b, c.wf := by
  rw [(con_ok h).1]
  rcases mrg_cases base a b with ⟨e, _⟩ | ⟨_, e, e1, e2⟩ | ⟨_, e0, e, _⟩ | ⟨_, e0, _, e1, e2⟩
  · exact absurd h e
  · exact .inl ⟨e2, e, e1⟩
  · have := mrg_ok h hl (confL_len0.1 e0); omega
  · have h1 := mrg_ok h hl (confL_len0.1 e0)
    exact .inr ⟨e2, e0, e1, confL_len0.1 e0, by rw [e1]; exact h1.2.2.1, by rw [e1]; exact h1.2.2.2, by rw [e1]; exact mrgL_wf h.2.1 h.2.2 wa wb⟩
theorem mrg_4 {base a b : List Card} (h : ok3 base a b) (hl : base.length ≤ 20 ∧ a.length ≤ 20 ∧ b.length ≤ 20) (wa : ∀ c ∈ a, c.wf) (wb : ∀ c ∈ b, c.wf) (h0 : mrgC base a b = 0) :
    mrgC base b a = 0 ∧ (∀ c ∈ mrgO base b a, c.wf) ∧ deckOk (mrgO base b a) ∧ sameC (mrgO base b a) (mrgO base a b) ∧ (mrgO base b a).length ≤ 9223372036854775807 := by
  rcases mrg_num h hl wa wb with ⟨e, _⟩ | ⟨_, _, e1, e2, e3, _⟩
  · omega
  · exact mrg_same ⟨h.1, h.2.2, h.2.1⟩ ⟨hl.1, hl.2.2, hl.2.1⟩ wb wa (clash_swap e2) e3 (fun c => by rw [e1, mem_mrgL, mem_mrgL, stM_swap e2])
theorem mrgO_len {base a b : List Card} (h : ok3 base a b) (hl : base.length ≤ 20 ∧ a.length ≤ 20 ∧ b.length ≤ 20) (wa : ∀ c ∈ a, c.wf) (wb : ∀ c ∈ b, c.wf) : (mrgO base a b).length ≤ 60 := by
  rcases mrg_num h hl wa wb with ⟨_, _, e⟩ | ⟨_, _, _, _, _, e, _⟩
  · rw [e]; simp
  · exact e
theorem conL_len {base a b : List Card} (h : ok3 base a b) (hl : base.length ≤ 20 ∧ a.length ≤ 20 ∧ b.length ≤ 20) : (conL base a b).length ≤ 160 := by
  rw [(con_ok h).1]
  have := confTo_len base a b (namesA [base, a]) (namesA [base, a]).length
  have := names2_len h.1 h.2.1
  unfold confL; omega
theorem same_pv_t {x y : List Card} (h1 : deckOk x) (h2 : deckOk y) (h3 : (x.length : Int) = y.length) : (!decide ¬∀ c ∈ x, c ∈ y) = decide ((deckOk x ∧ deckOk y) ∧ sameC x y) := by
  have h4 : x.length = y.length := by omega
  by_cases h : ∀ c ∈ x, c ∈ y
  · rw [decide_eq_false (fun hn => hn h), decide_eq_true (⟨⟨h1, h2⟩, h4, h⟩ : (deckOk x ∧ deckOk y) ∧ sameC x y)]; rfl
  · rw [decide_eq_true h, decide_eq_false (fun hn : (deckOk x ∧ deckOk y) ∧ sameC x y => h hn.2.2)]; rfl
theorem same_pv_f {x y : List Card} (h3 : ¬ (x.length : Int) = y.length) : false = decide ((deckOk x ∧ deckOk y) ∧ sameC x y) :=
  (decide_eq_false (fun hn : (deckOk x ∧ deckOk y) ∧ sameC x y => h3 (by have := hn.2.1; omega))).symm
theorem mrgO_wf {base a b : List Card} (h : ok3 base a b) (hl : base.length ≤ 20 ∧ a.length ≤ 20 ∧ b.length ≤ 20) (wa : ∀ c ∈ a, c.wf) (wb : ∀ c ∈ b, c.wf) : ∀ c ∈ mrgO base a b, c.wf := by
  rcases mrg_num h hl wa wb with ⟨_, _, e⟩ | ⟨_, _, _, _, _, _, e⟩
  · rw [e]; simp
  · exact e
end Go.Vr
/- The types of the program, as the value-level layer asks for them. Printed by an own small program. -/
namespace Go.Vr
open Go Go.Proofs

instance : Ty Tryd.prog 2 (.int .i64) 1 := ⟨by kernel_rfl, by kernel_rfl⟩
instance : ZerC Tryd.prog 2 [.v (.int .i64 0)] 8 := ⟨.int .i64 0, by kernel_rfl, fun w Z => RepL_v [.int .i64 0]⟩
instance : Ty Tryd.prog 3 (.int .i64) 1 := ⟨by kernel_rfl, by kernel_rfl⟩
instance : ZerC Tryd.prog 3 [.v (.int .i64 0)] 8 := ⟨.int .i64 0, by kernel_rfl, fun w Z => RepL_v [.int .i64 0]⟩
instance : Ty Tryd.prog 4 .bool 1 := ⟨by kernel_rfl, by kernel_rfl⟩
instance : ZerC Tryd.prog 4 [.v (.bool false)] 1 := ⟨.bool false, by kernel_rfl, fun w Z => RepL_v [.bool false]⟩
instance : Ty Tryd.prog 5 (.int .u8) 1 := ⟨by kernel_rfl, by kernel_rfl⟩
instance : ZerC Tryd.prog 5 [.v (.int .u8 0)] 1 := ⟨.int .u8 0, by kernel_rfl, fun w Z => RepL_v [.int .u8 0]⟩
instance : Ty Tryd.prog 6 (.int .u8) 1 := ⟨by kernel_rfl, by kernel_rfl⟩
instance : ZerC Tryd.prog 6 [.v (.int .u8 0)] 1 := ⟨.int .u8 0, by kernel_rfl, fun w Z => RepL_v [.int .u8 0]⟩
instance : Ty Tryd.prog 7 .st 4 := ⟨by kernel_rfl, by kernel_rfl⟩
instance : ZerC Tryd.prog 7 [.v (.int .i64 0), .v (.int .i64 0), .v (.bool false), .v (.int .u8 0)] 24 := ⟨.agg #[.int .i64 0, .int .i64 0, .bool false, .int .u8 0], by kernel_rfl, fun w Z => RepL_v [.int .i64 0, .int .i64 0, .bool false, .int .u8 0]⟩
instance : Fld Tryd.prog 7 0 0 2 1 := .of (by kernel_rfl)
instance : Fld Tryd.prog 7 1 1 3 1 := .of (by kernel_rfl)
instance : Fld Tryd.prog 7 2 2 4 1 := .of (by kernel_rfl)
instance : Fld Tryd.prog 7 3 3 6 1 := .of (by kernel_rfl)
instance : StL Tryd.prog 7 [(0, 1), (1, 1), (2, 1), (3, 1)] := .of (by kernel_rfl)
instance : Ty Tryd.prog 8 .st 4 := ⟨by kernel_rfl, by kernel_rfl⟩
instance : ZerC Tryd.prog 8 [.v (.int .i64 0), .v (.int .i64 0), .v (.bool false), .v (.int .u8 0)] 24 := ⟨.agg #[.int .i64 0, .int .i64 0, .bool false, .int .u8 0], by kernel_rfl, fun w Z => RepL_v [.int .i64 0, .int .i64 0, .bool false, .int .u8 0]⟩
instance : Fld Tryd.prog 8 0 0 2 1 := .of (by kernel_rfl)
instance : Fld Tryd.prog 8 1 1 3 1 := .of (by kernel_rfl)
instance : Fld Tryd.prog 8 2 2 4 1 := .of (by kernel_rfl)
instance : Fld Tryd.prog 8 3 3 6 1 := .of (by kernel_rfl)
instance : StL Tryd.prog 8 [(0, 1), (1, 1), (2, 1), (3, 1)] := .of (by kernel_rfl)
instance : Ty Tryd.prog 9 .str 1 := ⟨by kernel_rfl, by kernel_rfl⟩
instance : ZerC Tryd.prog 9 [.v (.string ⟨#[]⟩)] 16 := ⟨.string ⟨#[]⟩, by kernel_rfl, fun w Z => RepL_v [.string ⟨#[]⟩]⟩
instance : Ty Tryd.prog 10 .str 1 := ⟨by kernel_rfl, by kernel_rfl⟩
instance : ZerC Tryd.prog 10 [.v (.string ⟨#[]⟩)] 16 := ⟨.string ⟨#[]⟩, by kernel_rfl, fun w Z => RepL_v [.string ⟨#[]⟩]⟩
instance : Ty Tryd.prog 11 .str 1 := ⟨by kernel_rfl, by kernel_rfl⟩
instance : ZerC Tryd.prog 11 [.v (.string ⟨#[]⟩)] 16 := ⟨.string ⟨#[]⟩, by kernel_rfl, fun w Z => RepL_v [.string ⟨#[]⟩]⟩
instance : Ty Tryd.prog 12 (.int .u64) 1 := ⟨by kernel_rfl, by kernel_rfl⟩
instance : ZerC Tryd.prog 12 [.v (.int .u64 0)] 8 := ⟨.int .u64 0, by kernel_rfl, fun w Z => RepL_v [.int .u64 0]⟩
instance : Ty Tryd.prog 13 .st 2 := ⟨by kernel_rfl, by kernel_rfl⟩
instance : ZerC Tryd.prog 13 [.v (.string ⟨#[]⟩), .v (.int .u64 0)] 24 := ⟨.agg #[.string ⟨#[]⟩, .int .u64 0], by kernel_rfl, fun w Z => RepL_v [.string ⟨#[]⟩, .int .u64 0]⟩
instance : Fld Tryd.prog 13 0 0 9 1 := .of (by kernel_rfl)
instance : Fld Tryd.prog 13 1 1 12 1 := .of (by kernel_rfl)
instance : StL Tryd.prog 13 [(0, 1), (1, 1)] := .of (by kernel_rfl)
instance : Ty Tryd.prog 14 .st 2 := ⟨by kernel_rfl, by kernel_rfl⟩
instance : ZerC Tryd.prog 14 [.v (.string ⟨#[]⟩), .v (.int .u64 0)] 24 := ⟨.agg #[.string ⟨#[]⟩, .int .u64 0], by kernel_rfl, fun w Z => RepL_v [.string ⟨#[]⟩, .int .u64 0]⟩
instance : Fld Tryd.prog 14 0 0 9 1 := .of (by kernel_rfl)
instance : Fld Tryd.prog 14 1 1 12 1 := .of (by kernel_rfl)
instance : StL Tryd.prog 14 [(0, 1), (1, 1)] := .of (by kernel_rfl)
instance : Ty Tryd.prog 15 (.ptr 120) 1 := ⟨by kernel_rfl, by kernel_rfl⟩
instance : ZerC Tryd.prog 15 [.v (.pointer none)] 8 := ⟨.pointer none, by kernel_rfl, fun w Z => RepL_v [.pointer none]⟩
instance : Ty Tryd.prog 16 (.ptr 123) 1 := ⟨by kernel_rfl, by kernel_rfl⟩
instance : ZerC Tryd.prog 16 [.v (.pointer none)] 8 := ⟨.pointer none, by kernel_rfl, fun w Z => RepL_v [.pointer none]⟩
instance : Ty Tryd.prog 17 (.ptr 133) 1 := ⟨by kernel_rfl, by kernel_rfl⟩
instance : ZerC Tryd.prog 17 [.v (.pointer none)] 8 := ⟨.pointer none, by kernel_rfl, fun w Z => RepL_v [.pointer none]⟩
instance : Ty Tryd.prog 18 .st 1 := ⟨by kernel_rfl, by kernel_rfl⟩
instance : ZerC Tryd.prog 18 [.v (.pointer none)] 8 := ⟨.agg #[.pointer none], by kernel_rfl, fun w Z => RepL_v [.pointer none]⟩
instance : Fld Tryd.prog 18 0 0 17 1 := .of (by kernel_rfl)
instance : StL Tryd.prog 18 [(0, 1)] := .of (by kernel_rfl)
instance : Ty Tryd.prog 19 .st 1 := ⟨by kernel_rfl, by kernel_rfl⟩
instance : ZerC Tryd.prog 19 [.v (.pointer none)] 8 := ⟨.agg #[.pointer none], by kernel_rfl, fun w Z => RepL_v [.pointer none]⟩
instance : Fld Tryd.prog 19 0 0 17 1 := .of (by kernel_rfl)
instance : StL Tryd.prog 19 [(0, 1)] := .of (by kernel_rfl)
instance : Ty Tryd.prog 21 (.int .i32) 1 := ⟨by kernel_rfl, by kernel_rfl⟩
instance : ZerC Tryd.prog 21 [.v (.int .i32 0)] 4 := ⟨.int .i32 0, by kernel_rfl, fun w Z => RepL_v [.int .i32 0]⟩
instance : Ty Tryd.prog 22 (.slice 5) 1 := ⟨by kernel_rfl, by kernel_rfl⟩
instance : ZerC Tryd.prog 22 [.v (.slice none 0 0)] 24 := ⟨.slice none 0 0, by kernel_rfl, fun w Z => RepL_v [.slice none 0 0]⟩
instance : Ty Tryd.prog 24 (.slice 68) 1 := ⟨by kernel_rfl, by kernel_rfl⟩
instance : ZerC Tryd.prog 24 [.v (.slice none 0 0)] 24 := ⟨.slice none 0 0, by kernel_rfl, fun w Z => RepL_v [.slice none 0 0]⟩
instance : Ty Tryd.prog 26 (.slice 54) 1 := ⟨by kernel_rfl, by kernel_rfl⟩
instance : ZerC Tryd.prog 26 [.v (.slice none 0 0)] 24 := ⟨.slice none 0 0, by kernel_rfl, fun w Z => RepL_v [.slice none 0 0]⟩
instance : Ty Tryd.prog 29 (.slice 9) 1 := ⟨by kernel_rfl, by kernel_rfl⟩
instance : ZerC Tryd.prog 29 [.v (.slice none 0 0)] 24 := ⟨.slice none 0 0, by kernel_rfl, fun w Z => RepL_v [.slice none 0 0]⟩
instance : Ty Tryd.prog 39 (.ptr 73) 1 := ⟨by kernel_rfl, by kernel_rfl⟩
instance : ZerC Tryd.prog 39 [.v (.pointer none)] 8 := ⟨.pointer none, by kernel_rfl, fun w Z => RepL_v [.pointer none]⟩
instance : Ty Tryd.prog 46 (.int .u64) 1 := ⟨by kernel_rfl, by kernel_rfl⟩
instance : ZerC Tryd.prog 46 [.v (.int .u64 0)] 8 := ⟨.int .u64 0, by kernel_rfl, fun w Z => RepL_v [.int .u64 0]⟩
instance : Ty Tryd.prog 47 (.arr 2 46) 2 := ⟨by kernel_rfl, by kernel_rfl⟩
instance : ZerC Tryd.prog 47 [.v (.int .u64 0), .v (.int .u64 0)] 16 := ⟨.agg #[.int .u64 0, .int .u64 0], by kernel_rfl, fun w Z => RepL_v [.int .u64 0, .int .u64 0]⟩
instance : Ty Tryd.prog 48 (.arr 2 46) 2 := ⟨by kernel_rfl, by kernel_rfl⟩
instance : ZerC Tryd.prog 48 [.v (.int .u64 0), .v (.int .u64 0)] 16 := ⟨.agg #[.int .u64 0, .int .u64 0], by kernel_rfl, fun w Z => RepL_v [.int .u64 0, .int .u64 0]⟩
instance : Ty Tryd.prog 49 .st 3 := ⟨by kernel_rfl, by kernel_rfl⟩
instance : ZerC Tryd.prog 49 [.v (.bool false), .v (.int .u64 0), .v (.int .u64 0)] 24 := ⟨.agg #[.bool false, .int .u64 0, .int .u64 0], by kernel_rfl, fun w Z => RepL_v [.bool false, .int .u64 0, .int .u64 0]⟩
instance : Fld Tryd.prog 49 0 0 4 1 := .of (by kernel_rfl)
instance : Fld Tryd.prog 49 1 1 48 2 := .of (by kernel_rfl)
instance : StL Tryd.prog 49 [(0, 1), (1, 2)] := .of (by kernel_rfl)
instance : Ty Tryd.prog 50 .st 3 := ⟨by kernel_rfl, by kernel_rfl⟩
instance : ZerC Tryd.prog 50 [.v (.bool false), .v (.int .u64 0), .v (.int .u64 0)] 24 := ⟨.agg #[.bool false, .int .u64 0, .int .u64 0], by kernel_rfl, fun w Z => RepL_v [.bool false, .int .u64 0, .int .u64 0]⟩
instance : Fld Tryd.prog 50 0 0 4 1 := .of (by kernel_rfl)
instance : Fld Tryd.prog 50 1 1 48 2 := .of (by kernel_rfl)
instance : StL Tryd.prog 50 [(0, 1), (1, 2)] := .of (by kernel_rfl)
instance : Ty Tryd.prog 53 .st 3 := ⟨by kernel_rfl, by kernel_rfl⟩
instance : ZerC Tryd.prog 53 [.v (.string ⟨#[]⟩), .v (.int .u64 0), .v (.int .u64 0)] 32 := ⟨.agg #[.string ⟨#[]⟩, .int .u64 0, .int .u64 0], by kernel_rfl, fun w Z => RepL_v [.string ⟨#[]⟩, .int .u64 0, .int .u64 0]⟩
instance : Fld Tryd.prog 53 0 0 9 1 := .of (by kernel_rfl)
instance : Fld Tryd.prog 53 1 1 48 2 := .of (by kernel_rfl)
instance : StL Tryd.prog 53 [(0, 1), (1, 2)] := .of (by kernel_rfl)
instance : Ty Tryd.prog 54 .st 3 := ⟨by kernel_rfl, by kernel_rfl⟩
instance : ZerC Tryd.prog 54 [.v (.string ⟨#[]⟩), .v (.int .u64 0), .v (.int .u64 0)] 32 := ⟨.agg #[.string ⟨#[]⟩, .int .u64 0, .int .u64 0], by kernel_rfl, fun w Z => RepL_v [.string ⟨#[]⟩, .int .u64 0, .int .u64 0]⟩
instance : Fld Tryd.prog 54 0 0 9 1 := .of (by kernel_rfl)
instance : Fld Tryd.prog 54 1 1 48 2 := .of (by kernel_rfl)
instance : StL Tryd.prog 54 [(0, 1), (1, 2)] := .of (by kernel_rfl)
instance : Ty Tryd.prog 56 (.slice 26) 1 := ⟨by kernel_rfl, by kernel_rfl⟩
instance : ZerC Tryd.prog 56 [.v (.slice none 0 0)] 24 := ⟨.slice none 0 0, by kernel_rfl, fun w Z => RepL_v [.slice none 0 0]⟩
instance : Ty Tryd.prog 57 .st 3 := ⟨by kernel_rfl, by kernel_rfl⟩
instance : ZerC Tryd.prog 57 [.v (.bool false), .v (.int .u64 0), .v (.int .u64 0)] 24 := ⟨.agg #[.bool false, .int .u64 0, .int .u64 0], by kernel_rfl, fun w Z => RepL_v [.bool false, .int .u64 0, .int .u64 0]⟩
instance : Fld Tryd.prog 57 0 0 4 1 := .of (by kernel_rfl)
instance : Fld Tryd.prog 57 1 1 48 2 := .of (by kernel_rfl)
instance : StL Tryd.prog 57 [(0, 1), (1, 2)] := .of (by kernel_rfl)
instance : Ty Tryd.prog 58 .st 3 := ⟨by kernel_rfl, by kernel_rfl⟩
instance : ZerC Tryd.prog 58 [.v (.bool false), .v (.int .u64 0), .v (.int .u64 0)] 24 := ⟨.agg #[.bool false, .int .u64 0, .int .u64 0], by kernel_rfl, fun w Z => RepL_v [.bool false, .int .u64 0, .int .u64 0]⟩
instance : Fld Tryd.prog 58 0 0 4 1 := .of (by kernel_rfl)
instance : Fld Tryd.prog 58 1 1 48 2 := .of (by kernel_rfl)
instance : StL Tryd.prog 58 [(0, 1), (1, 2)] := .of (by kernel_rfl)
instance : Ty Tryd.prog 65 (.int .i8) 1 := ⟨by kernel_rfl, by kernel_rfl⟩
instance : ZerC Tryd.prog 65 [.v (.int .i8 0)] 1 := ⟨.int .i8 0, by kernel_rfl, fun w Z => RepL_v [.int .i8 0]⟩
instance : Ty Tryd.prog 66 (.int .i16) 1 := ⟨by kernel_rfl, by kernel_rfl⟩
instance : ZerC Tryd.prog 66 [.v (.int .i16 0)] 2 := ⟨.int .i16 0, by kernel_rfl, fun w Z => RepL_v [.int .i16 0]⟩
instance : Ty Tryd.prog 67 .st 4 := ⟨by kernel_rfl, by kernel_rfl⟩
instance : ZerC Tryd.prog 67 [.v (.string ⟨#[]⟩), .v (.int .i8 0), .v (.int .i16 0), .v (.int .i16 0)] 24 := ⟨.agg #[.string ⟨#[]⟩, .int .i8 0, .int .i16 0, .int .i16 0], by kernel_rfl, fun w Z => RepL_v [.string ⟨#[]⟩, .int .i8 0, .int .i16 0, .int .i16 0]⟩
instance : Fld Tryd.prog 67 0 0 9 1 := .of (by kernel_rfl)
instance : Fld Tryd.prog 67 1 1 65 1 := .of (by kernel_rfl)
instance : Fld Tryd.prog 67 2 2 66 1 := .of (by kernel_rfl)
instance : Fld Tryd.prog 67 3 3 66 1 := .of (by kernel_rfl)
instance : StL Tryd.prog 67 [(0, 1), (1, 1), (2, 1), (3, 1)] := .of (by kernel_rfl)
instance : Ty Tryd.prog 68 .st 4 := ⟨by kernel_rfl, by kernel_rfl⟩
instance : ZerC Tryd.prog 68 [.v (.string ⟨#[]⟩), .v (.int .i8 0), .v (.int .i16 0), .v (.int .i16 0)] 24 := ⟨.agg #[.string ⟨#[]⟩, .int .i8 0, .int .i16 0, .int .i16 0], by kernel_rfl, fun w Z => RepL_v [.string ⟨#[]⟩, .int .i8 0, .int .i16 0, .int .i16 0]⟩
instance : Fld Tryd.prog 68 0 0 9 1 := .of (by kernel_rfl)
instance : Fld Tryd.prog 68 1 1 65 1 := .of (by kernel_rfl)
instance : Fld Tryd.prog 68 2 2 66 1 := .of (by kernel_rfl)
instance : Fld Tryd.prog 68 3 3 66 1 := .of (by kernel_rfl)
instance : StL Tryd.prog 68 [(0, 1), (1, 1), (2, 1), (3, 1)] := .of (by kernel_rfl)
instance : Ty Tryd.prog 71 (.ptr 68) 1 := ⟨by kernel_rfl, by kernel_rfl⟩
instance : ZerC Tryd.prog 71 [.v (.pointer none)] 8 := ⟨.pointer none, by kernel_rfl, fun w Z => RepL_v [.pointer none]⟩
instance : Ty Tryd.prog 72 .st 3 := ⟨by kernel_rfl, by kernel_rfl⟩
instance : ZerC Tryd.prog 72 [.v (.slice none 0 0), .v (.int .i64 0), .v (.int .u64 0)] 40 := ⟨.agg #[.slice none 0 0, .int .i64 0, .int .u64 0], by kernel_rfl, fun w Z => RepL_v [.slice none 0 0, .int .i64 0, .int .u64 0]⟩
instance : Fld Tryd.prog 72 0 0 22 1 := .of (by kernel_rfl)
instance : Fld Tryd.prog 72 1 1 3 1 := .of (by kernel_rfl)
instance : Fld Tryd.prog 72 2 2 46 1 := .of (by kernel_rfl)
instance : StL Tryd.prog 72 [(0, 1), (1, 1), (2, 1)] := .of (by kernel_rfl)
instance : Ty Tryd.prog 73 .st 3 := ⟨by kernel_rfl, by kernel_rfl⟩
instance : ZerC Tryd.prog 73 [.v (.slice none 0 0), .v (.int .i64 0), .v (.int .u64 0)] 40 := ⟨.agg #[.slice none 0 0, .int .i64 0, .int .u64 0], by kernel_rfl, fun w Z => RepL_v [.slice none 0 0, .int .i64 0, .int .u64 0]⟩
instance : Fld Tryd.prog 73 0 0 22 1 := .of (by kernel_rfl)
instance : Fld Tryd.prog 73 1 1 3 1 := .of (by kernel_rfl)
instance : Fld Tryd.prog 73 2 2 46 1 := .of (by kernel_rfl)
instance : StL Tryd.prog 73 [(0, 1), (1, 1), (2, 1)] := .of (by kernel_rfl)
instance : Ty Tryd.prog 82 (.ptr 54) 1 := ⟨by kernel_rfl, by kernel_rfl⟩
instance : ZerC Tryd.prog 82 [.v (.pointer none)] 8 := ⟨.pointer none, by kernel_rfl, fun w Z => RepL_v [.pointer none]⟩
instance : Ty Tryd.prog 89 (.slice 2) 1 := ⟨by kernel_rfl, by kernel_rfl⟩
instance : ZerC Tryd.prog 89 [.v (.slice none 0 0)] 24 := ⟨.slice none 0 0, by kernel_rfl, fun w Z => RepL_v [.slice none 0 0]⟩
instance : Ty Tryd.prog 95 (.int .u64) 1 := ⟨by kernel_rfl, by kernel_rfl⟩
instance : ZerC Tryd.prog 95 [.v (.int .u64 0)] 8 := ⟨.int .u64 0, by kernel_rfl, fun w Z => RepL_v [.int .u64 0]⟩
instance : Ty Tryd.prog 99 (.arr 256 4) 256 := ⟨by kernel_rfl, by kernel_rfl⟩
instance : ZerC Tryd.prog 99 (List.replicate 256 (.v (.bool false))) 256 := ⟨.agg (Array.replicate 256 (.bool false)), by kernel_rfl, fun w Z => RepL_rep _ _⟩
instance : Ty Tryd.prog 100 (.arr 256 4) 256 := ⟨by kernel_rfl, by kernel_rfl⟩
instance : ZerC Tryd.prog 100 (List.replicate 256 (.v (.bool false))) 256 := ⟨.agg (Array.replicate 256 (.bool false)), by kernel_rfl, fun w Z => RepL_rep _ _⟩
instance : Ty Tryd.prog 104 (.ptr 100) 1 := ⟨by kernel_rfl, by kernel_rfl⟩
instance : ZerC Tryd.prog 104 [.v (.pointer none)] 8 := ⟨.pointer none, by kernel_rfl, fun w Z => RepL_v [.pointer none]⟩
instance : Ty Tryd.prog 110 (.arr 256 5) 256 := ⟨by kernel_rfl, by kernel_rfl⟩
instance : ZerC Tryd.prog 110 (List.replicate 256 (.v (.int .u8 0))) 256 := ⟨.agg (Array.replicate 256 (.int .u8 0)), by kernel_rfl, fun w Z => RepL_rep _ _⟩
instance : Ty Tryd.prog 111 .st 2 := ⟨by kernel_rfl, by kernel_rfl⟩
instance : ZerC Tryd.prog 111 [.v (.int .u8 0), .v (.int .u8 0)] 2 := ⟨.agg #[.int .u8 0, .int .u8 0], by kernel_rfl, fun w Z => RepL_v [.int .u8 0, .int .u8 0]⟩
instance : Fld Tryd.prog 111 0 0 5 1 := .of (by kernel_rfl)
instance : Fld Tryd.prog 111 1 1 5 1 := .of (by kernel_rfl)
instance : StL Tryd.prog 111 [(0, 1), (1, 1)] := .of (by kernel_rfl)
instance : Ty Tryd.prog 112 .st 2 := ⟨by kernel_rfl, by kernel_rfl⟩
instance : ZerC Tryd.prog 112 [.v (.int .u8 0), .v (.int .u8 0)] 2 := ⟨.agg #[.int .u8 0, .int .u8 0], by kernel_rfl, fun w Z => RepL_v [.int .u8 0, .int .u8 0]⟩
instance : Fld Tryd.prog 112 0 0 5 1 := .of (by kernel_rfl)
instance : Fld Tryd.prog 112 1 1 5 1 := .of (by kernel_rfl)
instance : StL Tryd.prog 112 [(0, 1), (1, 1)] := .of (by kernel_rfl)
instance : Ty Tryd.prog 113 (.arr 16 112) 32 := ⟨by kernel_rfl, by kernel_rfl⟩
instance : ZerC Tryd.prog 113 (List.replicate 32 (.v (.int .u8 0))) 32 := ⟨.agg (Array.replicate 32 (.int .u8 0)), by kernel_rfl, fun w Z => RepL_v (List.replicate 32 (.int .u8 0 : Value))⟩
instance : Ty Tryd.prog 119 .st 4 := ⟨by kernel_rfl, by kernel_rfl⟩
instance : ZerC Tryd.prog 119 [.v (.pointer none), .v (.pointer none), .v (.pointer none), .v (.string ⟨#[]⟩)] 40 := ⟨.agg #[.pointer none, .pointer none, .pointer none, .string ⟨#[]⟩], by kernel_rfl, fun w Z => RepL_v [.pointer none, .pointer none, .pointer none, .string ⟨#[]⟩]⟩
instance : Fld Tryd.prog 119 0 0 17 1 := .of (by kernel_rfl)
instance : Fld Tryd.prog 119 1 1 17 1 := .of (by kernel_rfl)
instance : Fld Tryd.prog 119 2 2 17 1 := .of (by kernel_rfl)
instance : Fld Tryd.prog 119 3 3 9 1 := .of (by kernel_rfl)
instance : StL Tryd.prog 119 [(0, 1), (1, 1), (2, 1), (3, 1)] := .of (by kernel_rfl)
instance : Ty Tryd.prog 120 .st 4 := ⟨by kernel_rfl, by kernel_rfl⟩
instance : ZerC Tryd.prog 120 [.v (.pointer none), .v (.pointer none), .v (.pointer none), .v (.string ⟨#[]⟩)] 40 := ⟨.agg #[.pointer none, .pointer none, .pointer none, .string ⟨#[]⟩], by kernel_rfl, fun w Z => RepL_v [.pointer none, .pointer none, .pointer none, .string ⟨#[]⟩]⟩
instance : Fld Tryd.prog 120 0 0 17 1 := .of (by kernel_rfl)
instance : Fld Tryd.prog 120 1 1 17 1 := .of (by kernel_rfl)
instance : Fld Tryd.prog 120 2 2 17 1 := .of (by kernel_rfl)
instance : Fld Tryd.prog 120 3 3 9 1 := .of (by kernel_rfl)
instance : StL Tryd.prog 120 [(0, 1), (1, 1), (2, 1), (3, 1)] := .of (by kernel_rfl)
instance : Ty Tryd.prog 121 (.arr 0 16) 0 := ⟨by kernel_rfl, by kernel_rfl⟩
instance : ZerC Tryd.prog 121 [] 0 := ⟨.agg #[], by kernel_rfl, fun w Z => RepL_v []⟩
instance : Ty Tryd.prog 122 .st 0 := ⟨by kernel_rfl, by kernel_rfl⟩
instance : ZerC Tryd.prog 122 [] 0 := ⟨.agg #[], by kernel_rfl, fun w Z => RepL_v []⟩
instance : Fld Tryd.prog 122 0 0 121 0 := .of (by kernel_rfl)
instance : StL Tryd.prog 122 [(0, 0)] := .of (by kernel_rfl)
instance : Ty Tryd.prog 123 .st 0 := ⟨by kernel_rfl, by kernel_rfl⟩
instance : ZerC Tryd.prog 123 [] 0 := ⟨.agg #[], by kernel_rfl, fun w Z => RepL_v []⟩
instance : Fld Tryd.prog 123 0 0 121 0 := .of (by kernel_rfl)
instance : StL Tryd.prog 123 [(0, 0)] := .of (by kernel_rfl)
instance : Ty Tryd.prog 125 (.int .u32) 1 := ⟨by kernel_rfl, by kernel_rfl⟩
instance : ZerC Tryd.prog 125 [.v (.int .u32 0)] 4 := ⟨.int .u32 0, by kernel_rfl, fun w Z => RepL_v [.int .u32 0]⟩
instance : Ty Tryd.prog 126 (.int .u8) 1 := ⟨by kernel_rfl, by kernel_rfl⟩
instance : ZerC Tryd.prog 126 [.v (.int .u8 0)] 1 := ⟨.int .u8 0, by kernel_rfl, fun w Z => RepL_v [.int .u8 0]⟩
instance : Ty Tryd.prog 127 (.int .u8) 1 := ⟨by kernel_rfl, by kernel_rfl⟩
instance : ZerC Tryd.prog 127 [.v (.int .u8 0)] 1 := ⟨.int .u8 0, by kernel_rfl, fun w Z => RepL_v [.int .u8 0]⟩
instance : Ty Tryd.prog 129 (.ptr 5) 1 := ⟨by kernel_rfl, by kernel_rfl⟩
instance : ZerC Tryd.prog 129 [.v (.pointer none)] 8 := ⟨.pointer none, by kernel_rfl, fun w Z => RepL_v [.pointer none]⟩
instance : Ty Tryd.prog 130 (.int .i32) 1 := ⟨by kernel_rfl, by kernel_rfl⟩
instance : ZerC Tryd.prog 130 [.v (.int .i32 0)] 4 := ⟨.int .i32 0, by kernel_rfl, fun w Z => RepL_v [.int .i32 0]⟩
instance : Ty Tryd.prog 131 (.int .i32) 1 := ⟨by kernel_rfl, by kernel_rfl⟩
instance : ZerC Tryd.prog 131 [.v (.int .i32 0)] 4 := ⟨.int .i32 0, by kernel_rfl, fun w Z => RepL_v [.int .i32 0]⟩
instance : Ty Tryd.prog 132 .st 11 := ⟨by kernel_rfl, by kernel_rfl⟩
instance : ZerC Tryd.prog 132 [.v (.int .u64 0), .v (.int .u64 0), .v (.int .u32 0), .v (.int .u8 0), .v (.int .u8 0), .v (.int .u8 0), .v (.int .u8 0), .v (.nilFunc), .v (.pointer none), .v (.int .i32 0), .v (.int .i32 0)] 48 := ⟨.agg #[.int .u64 0, .int .u64 0, .int .u32 0, .int .u8 0, .int .u8 0, .int .u8 0, .int .u8 0, .nilFunc, .pointer none, .int .i32 0, .int .i32 0], by kernel_rfl, fun w Z => RepL_v [.int .u64 0, .int .u64 0, .int .u32 0, .int .u8 0, .int .u8 0, .int .u8 0, .int .u8 0, .nilFunc, .pointer none, .int .i32 0, .int .i32 0]⟩
instance : Ty Tryd.prog 133 .st 11 := ⟨by kernel_rfl, by kernel_rfl⟩
instance : ZerC Tryd.prog 133 [.v (.int .u64 0), .v (.int .u64 0), .v (.int .u32 0), .v (.int .u8 0), .v (.int .u8 0), .v (.int .u8 0), .v (.int .u8 0), .v (.nilFunc), .v (.pointer none), .v (.int .i32 0), .v (.int .i32 0)] 48 := ⟨.agg #[.int .u64 0, .int .u64 0, .int .u32 0, .int .u8 0, .int .u8 0, .int .u8 0, .int .u8 0, .nilFunc, .pointer none, .int .i32 0, .int .i32 0], by kernel_rfl, fun w Z => RepL_v [.int .u64 0, .int .u64 0, .int .u32 0, .int .u8 0, .int .u8 0, .int .u8 0, .int .u8 0, .nilFunc, .pointer none, .int .i32 0, .int .i32 0]⟩
instance : EqL Tryd.prog 48 [.i .u64, .i .u64] := ⟨⟨2, by decide, fun _ => (eqA eqK_int rfl rfl)⟩, by kernel_rfl⟩
instance : EqL Tryd.prog 50 [.b, .i .u64, .i .u64] := ⟨⟨3, by decide, fun _ => (eqK_struct Tryd.underlying50 (by kernel_rfl) (fK rfl rfl eqK_bool (fK rfl rfl (eqA eqK_int rfl rfl) .nil rfl) rfl) rfl)⟩, by kernel_rfl⟩
instance : EqL Tryd.prog 54 [.s, .i .u64, .i .u64] := ⟨⟨3, by decide, fun _ => (eqK_struct Tryd.underlying54 (by kernel_rfl) (fK rfl rfl eqK_str (fK rfl rfl (eqA eqK_int rfl rfl) .nil rfl) rfl) rfl)⟩, by kernel_rfl⟩
instance : EqL Tryd.prog 58 [.b, .i .u64, .i .u64] := ⟨⟨3, by decide, fun _ => (eqK_struct Tryd.underlying58 (by kernel_rfl) (fK rfl rfl eqK_bool (fK rfl rfl (eqA eqK_int rfl rfl) .nil rfl) rfl) rfl)⟩, by kernel_rfl⟩
instance : EqL Tryd.prog 68 [.s, .i .i8, .i .i16, .i .i16] := ⟨⟨2, by decide, fun _ => (eqK_struct Tryd.underlying68 (by kernel_rfl) (fK rfl rfl eqK_str (fK rfl rfl eqK_int (fK rfl rfl eqK_int (fK rfl rfl eqK_int .nil rfl) rfl) rfl) rfl) rfl)⟩, by kernel_rfl⟩
end Go.Vr
/- Walks of the functions that the law reaches: what each gives, by value. -/
namespace Go.Vr
open Go Go.Proofs
set_option linter.unusedVariables false
set_option linter.unusedSimpArgs false
set_option maxRecDepth 8000

/-- laws.a2Long -/
theorem c_a2Long {G : World → Prop} (code : List Int) (more : List Int)  : CallsV Tryd.prog G 4 [.sh 1 (code.map u8c), .sh 1 (more.map u8c)] (fun r outs => r = .v (.bool (decide (¬ (code.length ≤ 3000 ∧ more.length ≤ 3000)))) ∧ outs = [.junk, .junk]) := by
  refine callsV_enter [] Tryd.func4 rfl rfl rfl ?_
  refine vp_seq ?_
  refine vp_region ?_
  refine vpOps_pure (x := .v (.bool (false))) (pAs rfl rfl rfl) rfl rfl rfl rfl ?_
  refine vpOps_nil ?_
  refine vp_seq ?_
  refine vp_region ?_
  refine vpOps_pure (x := .sh 1 (code.map u8c)) (pMv rfl rfl rfl) rfl rfl rfl rfl ?_
  refine vpOps_pure (x := .v (.int .i64 ((code.length : Nat) : Int))) (pLen rfl rfl (List.length_map _)) rfl rfl rfl rfl ?_
  refine vpOps_pure (x := .v (.bool (decide (3000 < ((code.length : Nat) : Int))))) (pure_bin rfl rfl rfl rfl) rfl rfl rfl rfl ?_
  refine vpOps_pure (x := .v (.bool (decide (3000 < ((code.length : Nat) : Int))))) (pMv rfl rfl rfl) rfl rfl rfl rfl ?_
  by_cases h1 : 3000 < ((code.length : Nat) : Int)
  · skip
    refine vPass rfl rfl rfl (decide_eq_true h1) rfl rfl rfl ?_
    refine vPass rfl rfl rfl (decide_eq_true h1) rfl rfl rfl ?_
    refine vPass rfl rfl rfl (decide_eq_true h1) rfl rfl rfl ?_
    refine vpOps_pure (x := .v (.bool (true))) (pPt rfl rfl (decide_eq_true h1) rfl rfl) rfl rfl rfl rfl ?_
    refine vpOps_pure (x := .v (.bool (true))) (pAs rfl rfl rfl) rfl rfl rfl rfl ?_
    refine vpOps_nil ?_
    refine vp_ret ?_
    exact ⟨[.v (.bool (true))], [4], (.cons (.tmp rfl rfl) .nil), rfl, ⟨(show (.v (.bool (true)) : PV) = .v (.bool (decide (¬ (code.length ≤ 3000 ∧ more.length ≤ 3000)))) from (by first | exact dec_t (by omega) | exact dec_f (by omega) | exact dec_i (by omega))), rfl⟩⟩
  · skip
    refine vRun rfl rfl rfl (decide_eq_false h1) rfl rfl rfl ?_
    refine vpOps_pure (x := .sh 1 (more.map u8c)) (pMv rfl rfl rfl) rfl rfl rfl rfl ?_
    refine vRun rfl rfl rfl (decide_eq_false h1) rfl rfl rfl ?_
    refine vpOps_pure (x := .v (.int .i64 ((more.length : Nat) : Int))) (pLen rfl rfl (List.length_map _)) rfl rfl rfl rfl ?_
    refine vRun rfl rfl rfl (decide_eq_false h1) rfl rfl rfl ?_
    refine vpOps_pure (x := .v (.bool (decide (3000 < ((more.length : Nat) : Int))))) (pure_bin rfl rfl rfl rfl) rfl rfl rfl rfl ?_
    refine vpOps_pure (x := .v (.bool (decide (3000 < ((more.length : Nat) : Int))))) (pPf rfl rfl (decide_eq_false h1) rfl rfl) rfl rfl rfl rfl ?_
    refine vpOps_pure (x := .v (.bool (decide (3000 < ((more.length : Nat) : Int))))) (pAs rfl rfl rfl) rfl rfl rfl rfl ?_
    refine vpOps_nil ?_
    refine vp_ret ?_
    exact ⟨[.v (.bool (decide (3000 < ((more.length : Nat) : Int))))], [4], (.cons (.tmp rfl rfl) .nil), rfl, ⟨(show (.v (.bool (decide (3000 < ((more.length : Nat) : Int)))) : PV) = .v (.bool (decide (¬ (code.length ≤ 3000 ∧ more.length ≤ 3000)))) from (by first | exact dec_t (by omega) | exact dec_f (by omega) | exact dec_i (by omega))), rfl⟩⟩

/-- spec.l00From -/
theorem c_l00From {G : World → Prop} (code : List Int)  : CallsV Tryd.prog G 16 [.sh 1 (code.map u8c)] (fun r outs => r = .box [.sh 1 (code.map u8c), .v (.int .i64 0), .v (.int .u64 ((0 : Nat) : Int))] ∧ outs = [.junk]) := by
  refine callsV_enter [] Tryd.func16 rfl rfl rfl ?_
  refine vp_seq ?_
  refine vp_region ?_
  refine vpOps_pure (x := .v (.pointer none)) (pAs rfl rfl rfl) rfl rfl rfl rfl ?_
  refine vpOps_nil ?_
  refine vp_seq ?_
  refine vp_region ?_
  refine vpOps_pure (x := .sh 1 (code.map u8c)) (pMv rfl rfl rfl) rfl rfl rfl rfl ?_
  refine vpOps_pure (x := .agg [.sh 1 (code.map u8c), .v (.int .i64 0), .v (.int .u64 0)]) (pure_build_st rfl (flatsB_ok rfl) rfl) rfl rfl rfl rfl ?_
  refine vpOps_pure (x := .box [.sh 1 (code.map u8c), .v (.int .i64 0), .v (.int .u64 0)]) (pure_box rfl rfl (mvOk_flat _ rfl) rfl rfl) rfl rfl rfl rfl ?_
  refine vpOps_assign (x := .box [.sh 1 (code.map u8c), .v (.int .i64 0), .v (.int .u64 0)]) rfl rfl rfl rfl rfl rfl rfl ?_
  refine vpOps_nil ?_
  refine vp_ret ?_
  exact ⟨[.box [.sh 1 (code.map u8c), .v (.int .i64 0), .v (.int .u64 0)]], [2], (.cons (.tmp rfl rfl) .nil), rfl, ⟨(show (.box [.sh 1 (code.map u8c), .v (.int .i64 0), .v (.int .u64 0)] : PV) = .box [.sh 1 (code.map u8c), .v (.int .i64 0), .v (.int .u64 ((0 : Nat) : Int))] from rfl), rfl⟩⟩

/-- (*spec.l00Src).next -/
theorem c_next {G : World → Prop} (code : List Int) (at_ : Int) (sd : Nat) (hc : ∀ x ∈ code, 0 ≤ x ∧ x ≤ 255) (hcl : code.length ≤ 1048576) (hat : 0 ≤ at_ ∧ at_ ≤ 1152921504606846976) (hsd : sd < 18446744073709551616) : CallsV Tryd.prog G 52 [.box [.sh 1 (code.map u8c), .v (.int .i64 at_), .v (.int .u64 ((sd : Nat) : Int))]] (fun r outs => ∃ (x : Int) (sd2 : Nat), r = .v (.int .i64 x) ∧ outs = [.box [.sh 1 (code.map u8c), .v (.int .i64 (at_ + 1)), .v (.int .u64 ((sd2 : Nat) : Int))]] ∧ (0 ≤ x ∧ x ≤ 255) ∧ (sd2 < 18446744073709551616)) := by
  refine callsV_enter [0] Tryd.func52 rfl rfl rfl ?_
  have hcb := getD_of hc (by decide) at_.toNat
  refine vp_seq ?_
  refine vp_region ?_
  refine vpOps_pure (x := .v (.int .i64 0)) (pAs rfl rfl rfl) rfl rfl rfl rfl ?_
  refine vpOps_nil ?_
  refine vp_seq ?_
  refine vp_region ?_
  refine vpOps_pure (x := .v (.int .i64 0)) (pAs rfl rfl rfl) rfl rfl rfl rfl ?_
  refine vpOps_nil ?_
  refine vp_seq ?_
  refine vp_seq ?_
  refine vRegD 10 ((4, .lv 0 []) :: (5, .lv 0 []) :: (6, .pl 0 [⟨0, 1, 0⟩]) :: (7, .v (.int .i64 at_)) :: (8, .lv 0 []) :: (9, .lv 0 []) :: (10, .pl 0 [⟨0, 0, 0⟩]) :: (11, .sh 1 (code.map u8c)) :: (12, .v (.int .i64 ((code.length : Nat) : Int))) :: (13, .v (.bool (decide (at_ < ((code.length : Nat) : Int))))) :: []) (0 :: 1 :: 3 :: 7 :: 0 :: 16 :: 48 :: 112 :: 240 :: 511 :: []) (by kernel_rfl) rfl (by kernel_rfl) (by kernel_rfl) (by kernel_rfl) (by kernel_rfl) (by kernel_rfl) ⟨
      dPure rfl (pure_move_lv rfl),
      dPure rfl (pure_nil_ref rfl rfl rfl),
      dPure rfl (pure_field_ref rfl rfl rfl rfl),
      dPure rfl (pure_load_pl rfl rfl rfl rfl rfl rfl rfl trivial rfl),
      dPure rfl (pure_move_lv rfl),
      dPure rfl (pure_nil_ref rfl rfl rfl),
      dPure rfl (pure_field_ref rfl rfl rfl rfl),
      dPure rfl (pure_load_pl rfl rfl rfl rfl rfl rfl rfl trivial rfl),
      dPure rfl (pLen rfl rfl (List.length_map _)),
      dPure rfl (pure_bin rfl rfl rfl rfl),
      trivial⟩ ?_
  refine vpOps_nil ?_
  refine vIf rfl (fun h1 => ?_) (fun h1 => ?_)
  · skip
    refine vRegD 11 ((14, .lv 0 []) :: (15, .lv 0 []) :: (16, .pl 0 [⟨0, 0, 0⟩]) :: (17, .sh 1 (code.map u8c)) :: (18, .lv 0 []) :: (19, .lv 0 []) :: (20, .pl 0 [⟨0, 1, 0⟩]) :: (21, .v (.int .i64 at_)) :: (22, .rbox [.v (.int .u8 (code.getD at_.toNat default))]) :: (23, .v (.int .u8 (code.getD at_.toNat default))) :: (24, .v (.int .i64 (code.getD at_.toNat default))) :: []) (0 :: 1 :: 3 :: 7 :: 0 :: 16 :: 48 :: 112 :: 255 :: 511 :: 1023 :: 2047 :: []) (by kernel_rfl) rfl (by kernel_rfl) (by kernel_rfl) (by kernel_rfl) (by kernel_rfl) (by kernel_rfl) ⟨
        dPure rfl (pure_move_lv rfl),
        dPure rfl (pure_nil_ref rfl rfl rfl),
        dPure rfl (pure_field_ref rfl rfl rfl rfl),
        dPure rfl (pure_load_pl rfl rfl rfl rfl rfl rfl rfl trivial rfl),
        dPure rfl (pure_move_lv rfl),
        dPure rfl (pure_nil_ref rfl rfl rfl),
        dPure rfl (pure_field_ref rfl rfl rfl rfl),
        dPure rfl (pure_load_pl rfl rfl rfl rfl rfl rfl rfl trivial rfl),
        dPure rfl (pIx (m := at_.toNat) rfl rfl rfl (by first | rfl | omega) (by omega) rfl),
        dPure rfl (pure_load_rbox rfl rfl rfl),
        dPure rfl (pure_conv_in rfl rfl (in64 (by omega) (by omega))),
        trivial⟩ ?_
    refine vpOps_pure (x := .v (.int .i64 (code.getD at_.toNat default))) (pAs rfl rfl rfl) rfl rfl rfl rfl ?_
    refine vpOps_nil ?_
    refine vp_seq ?_
    refine vp_region ?_
    refine vpOps_pure (x := .lv 0 []) (pure_move_lv rfl) rfl rfl rfl rfl ?_
    refine vpOps_pure (x := .lv 0 []) (pure_nil_ref rfl rfl rfl) rfl rfl rfl rfl ?_
    refine vpOps_pure (x := .pl 0 [⟨0, 1, 0⟩]) (pure_field_ref rfl rfl rfl rfl) rfl rfl rfl rfl ?_
    refine vpOps_pure (x := .v (.int .i64 at_)) (pure_load_pl rfl rfl rfl rfl rfl rfl rfl trivial rfl) rfl rfl rfl rfl ?_
    refine vpOps_pure (x := .v (.int .i64 (at_ + 1))) (pure_add rfl rfl rfl (in64 (by omega) (by omega))) rfl rfl rfl rfl ?_
    refine vpOps_pure (x := .lv 0 []) (pure_nil_ref rfl rfl rfl) rfl rfl rfl rfl ?_
    refine vpOps_pure (x := .pl 0 [⟨0, 1, 0⟩]) (pure_field_ref rfl rfl rfl rfl) rfl rfl rfl rfl ?_
    refine vStB (x := .v (.int .i64 (at_ + 1))) (row' := [.sh 1 (code.map u8c), .v (.int .i64 (at_ + 1)), .v (.int .u64 ((sd : Nat) : Int))]) rfl rfl rfl rfl rfl rfl rfl rfl rfl rfl rfl rfl ?_
    refine vpOps_nil ?_
    refine vp_seq ?_
    refine vp_region ?_
    refine vpOps_pure (x := .lv 0 []) (pure_move_lv rfl) rfl rfl rfl rfl ?_
    refine vpOps_pure (x := .lv 0 []) (pure_move_lv rfl) rfl rfl rfl rfl ?_
    refine vpOps_pure (x := .lv 0 []) (pure_nil_ref rfl rfl rfl) rfl rfl rfl rfl ?_
    refine vpOps_pure (x := .pl 0 [⟨0, 2, 0⟩]) (pure_field_ref rfl rfl rfl rfl) rfl rfl rfl rfl ?_
    refine vpOps_pure (x := .v (.int .u64 ((sd : Nat) : Int))) (pure_load_pl rfl rfl rfl rfl rfl rfl rfl trivial rfl) rfl rfl rfl rfl ?_
    obtain ⟨s1, hE_s1, hlt_s1⟩ := u64_nat (((sd : Nat) : Int) * 6364136223846793005)
    refine vpOps_pure (x := .v (.int .u64 ((s1 : Nat) : Int))) (pEqI (pure_bin rfl rfl rfl rfl) hE_s1) rfl rfl rfl rfl ?_
    refine vpOps_pure (x := .v (.int .i64 (code.getD at_.toNat default))) (pMv rfl rfl rfl) rfl rfl rfl rfl ?_
    refine vpOps_pure (x := .v (.int .u64 (code.getD at_.toNat default))) (pure_conv_in rfl rfl (inu64 (by omega) (by omega))) rfl rfl rfl rfl ?_
    obtain ⟨s2, hE_s2, hlt_s2⟩ := u64_nat (((s1 : Nat) : Int) + (code.getD at_.toNat default))
    refine vpOps_pure (x := .v (.int .u64 ((s2 : Nat) : Int))) (pEqI (pure_bin rfl rfl rfl rfl) hE_s2) rfl rfl rfl rfl ?_
    obtain ⟨s3, hE_s3, hlt_s3⟩ := u64_nat (((s2 : Nat) : Int) + 1442695040888963407)
    refine vpOps_pure (x := .v (.int .u64 ((s3 : Nat) : Int))) (pEqI (pure_bin rfl rfl rfl rfl) hE_s3) rfl rfl rfl rfl ?_
    refine vpOps_pure (x := .lv 0 []) (pure_nil_ref rfl rfl rfl) rfl rfl rfl rfl ?_
    refine vpOps_pure (x := .pl 0 [⟨0, 2, 0⟩]) (pure_field_ref rfl rfl rfl rfl) rfl rfl rfl rfl ?_
    refine vStB (x := .v (.int .u64 ((s3 : Nat) : Int))) (row' := [.sh 1 (code.map u8c), .v (.int .i64 (at_ + 1)), .v (.int .u64 ((s3 : Nat) : Int))]) rfl rfl rfl rfl rfl rfl rfl rfl rfl rfl rfl rfl ?_
    refine vpOps_nil ?_
    refine vp_seq ?_
    refine vp_seq ?_
    refine vRegD 10 ((44, .lv 0 []) :: (45, .lv 0 []) :: (46, .pl 0 [⟨0, 1, 0⟩]) :: (47, .v (.int .i64 (at_ + 1))) :: (48, .lv 0 []) :: (49, .lv 0 []) :: (50, .pl 0 [⟨0, 0, 0⟩]) :: (51, .sh 1 (code.map u8c)) :: (52, .v (.int .i64 ((code.length : Nat) : Int))) :: (53, .v (.bool (decide ((at_ + 1) ≤ ((code.length : Nat) : Int))))) :: []) (0 :: 1 :: 3 :: 7 :: 0 :: 16 :: 48 :: 112 :: 240 :: 511 :: []) (by kernel_rfl) rfl (by kernel_rfl) (by kernel_rfl) (by kernel_rfl) (by kernel_rfl) (by kernel_rfl) ⟨
        dPure rfl (pure_move_lv rfl),
        dPure rfl (pure_nil_ref rfl rfl rfl),
        dPure rfl (pure_field_ref rfl rfl rfl rfl),
        dPure rfl (pure_load_pl rfl rfl rfl rfl rfl rfl rfl trivial rfl),
        dPure rfl (pure_move_lv rfl),
        dPure rfl (pure_nil_ref rfl rfl rfl),
        dPure rfl (pure_field_ref rfl rfl rfl rfl),
        dPure rfl (pure_load_pl rfl rfl rfl rfl rfl rfl rfl trivial rfl),
        dPure rfl (pLen rfl rfl (List.length_map _)),
        dPure rfl (pure_bin rfl rfl rfl rfl),
        trivial⟩ ?_
    refine vpOps_nil ?_
    refine vIf rfl (fun h2 => ?_) (fun h2 => ?_)
    · skip
      refine vp_seq ?_
      refine vp_region ?_
      refine vpOps_pure (x := .v (.int .i64 (code.getD at_.toNat default))) (pMv rfl rfl rfl) rfl rfl rfl rfl ?_
      refine vpOps_pure (x := .v (.int .i64 (code.getD at_.toNat default))) (pAs rfl rfl rfl) rfl rfl rfl rfl ?_
      refine vpOps_nil ?_
      refine vp_ret ?_
      exact ⟨[.v (.int .i64 (code.getD at_.toNat default))], [2], (.cons (.tmp rfl rfl) .nil), rfl, ⟨code.getD at_.toNat default, s3, (show (.v (.int .i64 (code.getD at_.toNat default)) : PV) = .v (.int .i64 (code.getD at_.toNat default)) from rfl), rfl, (by first | omega | assumption), (by assumption)⟩⟩
    · skip
      refine vp_skip ?_
      refine vp_seq ?_
      refine vp_region ?_
      refine vpOps_pure (x := .lv 0 []) (pure_move_lv rfl) rfl rfl rfl rfl ?_
      refine vpOps_pure (x := .lv 0 []) (pure_nil_ref rfl rfl rfl) rfl rfl rfl rfl ?_
      refine vpOps_pure (x := .pl 0 [⟨0, 2, 0⟩]) (pure_field_ref rfl rfl rfl rfl) rfl rfl rfl rfl ?_
      refine vpOps_pure (x := .v (.int .u64 ((s3 : Nat) : Int))) (pure_load_pl rfl rfl rfl rfl rfl rfl rfl trivial rfl) rfl rfl rfl rfl ?_
      refine vpOps_pure (x := .v (.int .u64 ((((s3 / 2 ^ 40) : Nat) : Int)))) (pShr64 (p := s3) (s := 40) rfl rfl rfl (by first | rfl | omega) (by omega)) rfl rfl rfl rfl ?_
      refine vpOps_pure (x := .v (.int .u64 (((((s3 / 2 ^ 40) &&& 255) : Nat) : Int)))) (pAnd64 (p := (s3 / 2 ^ 40)) (q := 255) rfl rfl rfl (by omega) (by omega)) rfl rfl rfl rfl ?_
      have hle := @Nat.and_le_right (s3 / 2 ^ 40) 255
      refine vpOps_pure (x := .v (.int .i64 (((((s3 / 2 ^ 40) &&& 255) : Nat) : Int)))) (pure_conv_in rfl rfl (in64 (by omega) (by omega))) rfl rfl rfl rfl ?_
      refine vpOps_pure (x := .v (.int .i64 (((((s3 / 2 ^ 40) &&& 255) : Nat) : Int)))) (pAs rfl rfl rfl) rfl rfl rfl rfl ?_
      refine vpOps_nil ?_
      refine vp_ret ?_
      exact ⟨[.v (.int .i64 (((((s3 / 2 ^ 40) &&& 255) : Nat) : Int)))], [2], (.cons (.tmp rfl rfl) .nil), rfl, ⟨((((s3 / 2 ^ 40) &&& 255) : Nat) : Int), s3, (show (.v (.int .i64 (((((s3 / 2 ^ 40) &&& 255) : Nat) : Int))) : PV) = .v (.int .i64 (((((s3 / 2 ^ 40) &&& 255) : Nat) : Int))) from rfl), rfl, (by first | omega | assumption), (by assumption)⟩⟩
  · skip
    refine vp_skip ?_
    refine vp_seq ?_
    refine vp_region ?_
    refine vpOps_pure (x := .lv 0 []) (pure_move_lv rfl) rfl rfl rfl rfl ?_
    refine vpOps_pure (x := .lv 0 []) (pure_nil_ref rfl rfl rfl) rfl rfl rfl rfl ?_
    refine vpOps_pure (x := .pl 0 [⟨0, 1, 0⟩]) (pure_field_ref rfl rfl rfl rfl) rfl rfl rfl rfl ?_
    refine vpOps_pure (x := .v (.int .i64 at_)) (pure_load_pl rfl rfl rfl rfl rfl rfl rfl trivial rfl) rfl rfl rfl rfl ?_
    refine vpOps_pure (x := .v (.int .i64 (at_ + 1))) (pure_add rfl rfl rfl (in64 (by omega) (by omega))) rfl rfl rfl rfl ?_
    refine vpOps_pure (x := .lv 0 []) (pure_nil_ref rfl rfl rfl) rfl rfl rfl rfl ?_
    refine vpOps_pure (x := .pl 0 [⟨0, 1, 0⟩]) (pure_field_ref rfl rfl rfl rfl) rfl rfl rfl rfl ?_
    refine vStB (x := .v (.int .i64 (at_ + 1))) (row' := [.sh 1 (code.map u8c), .v (.int .i64 (at_ + 1)), .v (.int .u64 ((sd : Nat) : Int))]) rfl rfl rfl rfl rfl rfl rfl rfl rfl rfl rfl rfl ?_
    refine vpOps_nil ?_
    refine vp_seq ?_
    refine vp_region ?_
    refine vpOps_pure (x := .lv 0 []) (pure_move_lv rfl) rfl rfl rfl rfl ?_
    refine vpOps_pure (x := .lv 0 []) (pure_move_lv rfl) rfl rfl rfl rfl ?_
    refine vpOps_pure (x := .lv 0 []) (pure_nil_ref rfl rfl rfl) rfl rfl rfl rfl ?_
    refine vpOps_pure (x := .pl 0 [⟨0, 2, 0⟩]) (pure_field_ref rfl rfl rfl rfl) rfl rfl rfl rfl ?_
    refine vpOps_pure (x := .v (.int .u64 ((sd : Nat) : Int))) (pure_load_pl rfl rfl rfl rfl rfl rfl rfl trivial rfl) rfl rfl rfl rfl ?_
    obtain ⟨s1, hE_s1, hlt_s1⟩ := u64_nat (((sd : Nat) : Int) * 6364136223846793005)
    refine vpOps_pure (x := .v (.int .u64 ((s1 : Nat) : Int))) (pEqI (pure_bin rfl rfl rfl rfl) hE_s1) rfl rfl rfl rfl ?_
    refine vpOps_pure (x := .v (.int .i64 0)) (pMv rfl rfl rfl) rfl rfl rfl rfl ?_
    refine vpOps_pure (x := .v (.int .u64 0)) (pure_conv_in rfl rfl (inu64 (by omega) (by omega))) rfl rfl rfl rfl ?_
    obtain ⟨s2, hE_s2, hlt_s2⟩ := u64_nat (((s1 : Nat) : Int) + 0)
    refine vpOps_pure (x := .v (.int .u64 ((s2 : Nat) : Int))) (pEqI (pure_bin rfl rfl rfl rfl) hE_s2) rfl rfl rfl rfl ?_
    obtain ⟨s3, hE_s3, hlt_s3⟩ := u64_nat (((s2 : Nat) : Int) + 1442695040888963407)
    refine vpOps_pure (x := .v (.int .u64 ((s3 : Nat) : Int))) (pEqI (pure_bin rfl rfl rfl rfl) hE_s3) rfl rfl rfl rfl ?_
    refine vpOps_pure (x := .lv 0 []) (pure_nil_ref rfl rfl rfl) rfl rfl rfl rfl ?_
    refine vpOps_pure (x := .pl 0 [⟨0, 2, 0⟩]) (pure_field_ref rfl rfl rfl rfl) rfl rfl rfl rfl ?_
    refine vStB (x := .v (.int .u64 ((s3 : Nat) : Int))) (row' := [.sh 1 (code.map u8c), .v (.int .i64 (at_ + 1)), .v (.int .u64 ((s3 : Nat) : Int))]) rfl rfl rfl rfl rfl rfl rfl rfl rfl rfl rfl rfl ?_
    refine vpOps_nil ?_
    refine vp_seq ?_
    refine vp_seq ?_
    refine vRegD 10 ((44, .lv 0 []) :: (45, .lv 0 []) :: (46, .pl 0 [⟨0, 1, 0⟩]) :: (47, .v (.int .i64 (at_ + 1))) :: (48, .lv 0 []) :: (49, .lv 0 []) :: (50, .pl 0 [⟨0, 0, 0⟩]) :: (51, .sh 1 (code.map u8c)) :: (52, .v (.int .i64 ((code.length : Nat) : Int))) :: (53, .v (.bool (decide ((at_ + 1) ≤ ((code.length : Nat) : Int))))) :: []) (0 :: 1 :: 3 :: 7 :: 0 :: 16 :: 48 :: 112 :: 240 :: 511 :: []) (by kernel_rfl) rfl (by kernel_rfl) (by kernel_rfl) (by kernel_rfl) (by kernel_rfl) (by kernel_rfl) ⟨
        dPure rfl (pure_move_lv rfl),
        dPure rfl (pure_nil_ref rfl rfl rfl),
        dPure rfl (pure_field_ref rfl rfl rfl rfl),
        dPure rfl (pure_load_pl rfl rfl rfl rfl rfl rfl rfl trivial rfl),
        dPure rfl (pure_move_lv rfl),
        dPure rfl (pure_nil_ref rfl rfl rfl),
        dPure rfl (pure_field_ref rfl rfl rfl rfl),
        dPure rfl (pure_load_pl rfl rfl rfl rfl rfl rfl rfl trivial rfl),
        dPure rfl (pLen rfl rfl (List.length_map _)),
        dPure rfl (pure_bin rfl rfl rfl rfl),
        trivial⟩ ?_
    refine vpOps_nil ?_
    refine vIf rfl (fun h3 => ?_) (fun h3 => ?_)
    · skip
      refine vp_seq ?_
      refine vp_region ?_
      refine vpOps_pure (x := .v (.int .i64 0)) (pMv rfl rfl rfl) rfl rfl rfl rfl ?_
      refine vpOps_pure (x := .v (.int .i64 0)) (pAs rfl rfl rfl) rfl rfl rfl rfl ?_
      refine vpOps_nil ?_
      refine vp_ret ?_
      exact ⟨[.v (.int .i64 0)], [2], (.cons (.tmp rfl rfl) .nil), rfl, ⟨0, s3, (show (.v (.int .i64 0) : PV) = .v (.int .i64 0) from rfl), rfl, (by first | omega | assumption), (by assumption)⟩⟩
    · skip
      refine vp_skip ?_
      refine vp_seq ?_
      refine vp_region ?_
      refine vpOps_pure (x := .lv 0 []) (pure_move_lv rfl) rfl rfl rfl rfl ?_
      refine vpOps_pure (x := .lv 0 []) (pure_nil_ref rfl rfl rfl) rfl rfl rfl rfl ?_
      refine vpOps_pure (x := .pl 0 [⟨0, 2, 0⟩]) (pure_field_ref rfl rfl rfl rfl) rfl rfl rfl rfl ?_
      refine vpOps_pure (x := .v (.int .u64 ((s3 : Nat) : Int))) (pure_load_pl rfl rfl rfl rfl rfl rfl rfl trivial rfl) rfl rfl rfl rfl ?_
      refine vpOps_pure (x := .v (.int .u64 ((((s3 / 2 ^ 40) : Nat) : Int)))) (pShr64 (p := s3) (s := 40) rfl rfl rfl (by first | rfl | omega) (by omega)) rfl rfl rfl rfl ?_
      refine vpOps_pure (x := .v (.int .u64 (((((s3 / 2 ^ 40) &&& 255) : Nat) : Int)))) (pAnd64 (p := (s3 / 2 ^ 40)) (q := 255) rfl rfl rfl (by omega) (by omega)) rfl rfl rfl rfl ?_
      have hle := @Nat.and_le_right (s3 / 2 ^ 40) 255
      refine vpOps_pure (x := .v (.int .i64 (((((s3 / 2 ^ 40) &&& 255) : Nat) : Int)))) (pure_conv_in rfl rfl (in64 (by omega) (by omega))) rfl rfl rfl rfl ?_
      refine vpOps_pure (x := .v (.int .i64 (((((s3 / 2 ^ 40) &&& 255) : Nat) : Int)))) (pAs rfl rfl rfl) rfl rfl rfl rfl ?_
      refine vpOps_nil ?_
      refine vp_ret ?_
      exact ⟨[.v (.int .i64 (((((s3 / 2 ^ 40) &&& 255) : Nat) : Int)))], [2], (.cons (.tmp rfl rfl) .nil), rfl, ⟨((((s3 / 2 ^ 40) &&& 255) : Nat) : Int), s3, (show (.v (.int .i64 (((((s3 / 2 ^ 40) &&& 255) : Nat) : Int))) : PV) = .v (.int .i64 (((((s3 / 2 ^ 40) &&& 255) : Nat) : Int))) from rfl), rfl, (by first | omega | assumption), (by assumption)⟩⟩

/-- (*spec.l00Src).pick -/
theorem c_pick {G : World → Prop} (code : List Int) (at_ : Int) (sd : Nat) (n : Int) (hc : ∀ x ∈ code, 0 ≤ x ∧ x ≤ 255) (hcl : code.length ≤ 1048576) (hat : 0 ≤ at_ ∧ at_ ≤ 1152921504606846972) (hsd : sd < 18446744073709551616) (hn : n ≤ 1099511627776) : CallsV Tryd.prog G 32 [.box [.sh 1 (code.map u8c), .v (.int .i64 at_), .v (.int .u64 ((sd : Nat) : Int))], .v (.int .i64 n)] (fun r outs => ∃ (x : Int) (at2 : Int) (sd2 : Nat), r = .v (.int .i64 x) ∧ outs = [.box [.sh 1 (code.map u8c), .v (.int .i64 at2), .v (.int .u64 ((sd2 : Nat) : Int))], .junk] ∧ (0 ≤ x ∧ (x < n ∨ x = 0)) ∧ (at_ ≤ at2 ∧ at2 ≤ at_ + 2) ∧ (sd2 < 18446744073709551616)) := by
  refine callsV_enter [0] Tryd.func32 rfl rfl rfl ?_
  refine vp_seq ?_
  refine vp_region ?_
  refine vpOps_pure (x := .v (.int .i64 0)) (pAs rfl rfl rfl) rfl rfl rfl rfl ?_
  refine vpOps_nil ?_
  refine vp_seq ?_
  refine vp_seq ?_
  refine vp_region ?_
  refine vpOps_pure (x := .v (.int .i64 n)) (pMv rfl rfl rfl) rfl rfl rfl rfl ?_
  refine vpOps_pure (x := .v (.bool (decide (n ≤ 1)))) (pure_bin rfl rfl rfl rfl) rfl rfl rfl rfl ?_
  refine vpOps_nil ?_
  refine vIf rfl (fun h1 => ?_) (fun h1 => ?_)
  · skip
    refine vp_seq ?_
    refine vp_region ?_
    refine vpOps_pure (x := .v (.int .i64 0)) (pAs rfl rfl rfl) rfl rfl rfl rfl ?_
    refine vpOps_nil ?_
    refine vp_ret ?_
    exact ⟨[.v (.int .i64 0)], [4], (.cons (.tmp rfl rfl) .nil), rfl, ⟨0, at_, sd, (show (.v (.int .i64 0) : PV) = .v (.int .i64 0) from rfl), rfl, (by first | omega | exact pickF (by omega) (by omega)), (by omega), (by first | assumption | omega)⟩⟩
  · skip
    refine vp_skip ?_
    refine vp_seq ?_
    refine vp_region ?_
    refine vpOps_pure (x := .lv 0 []) (pure_move_lv rfl) rfl rfl rfl rfl ?_
    refine vpOps_call (gs := [⟨.tmp 8, .box [.sh 1 (code.map u8c), .v (.int .i64 at_), .v (.int .u64 ((sd : Nat) : Int))], some (0, id), none⟩]) (c_next code at_ sd (by first | assumption | omega) (by first | assumption | omega) (by first | assumption | omega) (by first | assumption | omega)) rfl rfl rfl rfl rfl trivial (by kernel_rfl) rfl rfl (gives_cons (give_lendLv rfl rfl rfl) gives_nil) rfl (fun _ _ _ => .inl rfl) ?_
    rintro _ _ ⟨x_1, sd2_1, rfl, rfl, hx_1, hs_1⟩
    refine vpOps_pure (x := .v (.int .i64 x_1)) (pAs rfl rfl rfl) rfl rfl rfl rfl ?_
    refine vpOps_nil ?_
    refine vp_seq ?_
    refine vp_seq ?_
    refine vp_region ?_
    refine vpOps_pure (x := .v (.int .i64 n)) (pMv rfl rfl rfl) rfl rfl rfl rfl ?_
    refine vpOps_pure (x := .v (.bool (decide (200 < n)))) (pure_bin rfl rfl rfl rfl) rfl rfl rfl rfl ?_
    refine vpOps_nil ?_
    refine vIf rfl (fun h2 => ?_) (fun h2 => ?_)
    · skip
      refine vp_region ?_
      refine vpOps_pure (x := .v (.int .i64 x_1)) (pMv rfl rfl rfl) rfl rfl rfl rfl ?_
      refine vpOps_pure (x := .v (.int .i64 (x_1 * 256))) (pure_mul rfl rfl rfl (in64 (by omega) (by omega))) rfl rfl rfl rfl ?_
      refine vpOps_pure (x := .lv 0 []) (pure_move_lv rfl) rfl rfl rfl rfl ?_
      refine vpOps_call (gs := [⟨.tmp 14, .box [.sh 1 (code.map u8c), .v (.int .i64 (at_ + 1)), .v (.int .u64 ((sd2_1 : Nat) : Int))], some (0, id), none⟩]) (c_next code (at_ + 1) sd2_1 (by first | assumption | omega) (by first | assumption | omega) (by first | assumption | omega) (by first | assumption | omega)) rfl rfl rfl rfl rfl trivial (by kernel_rfl) rfl rfl (gives_cons (give_lendLv rfl rfl rfl) gives_nil) rfl (fun _ _ _ => .inl rfl) ?_
      rintro _ _ ⟨x_2, sd2_2, rfl, rfl, hx_2, hs_2⟩
      refine vpOps_pure (x := .v (.int .i64 ((x_1 * 256) + x_2))) (pure_add rfl rfl rfl (in64 (by omega) (by omega))) rfl rfl rfl rfl ?_
      refine vpOps_pure (x := .v (.int .i64 ((x_1 * 256) + x_2))) (pAs rfl rfl rfl) rfl rfl rfl rfl ?_
      refine vpOps_nil ?_
      refine vp_seq ?_
      refine vp_region ?_
      refine vpOps_pure (x := .v (.int .i64 ((x_1 * 256) + x_2))) (pMv rfl rfl rfl) rfl rfl rfl rfl ?_
      refine vpOps_pure (x := .v (.int .i64 n)) (pMv rfl rfl rfl) rfl rfl rfl rfl ?_
      refine vpOps_pure (x := .v (.int .i64 (((x_1 * 256) + x_2) % n))) (pRemN rfl rfl rfl (by omega) (by omega)) rfl rfl rfl rfl ?_
      refine vpOps_pure (x := .v (.int .i64 (((x_1 * 256) + x_2) % n))) (pAs rfl rfl rfl) rfl rfl rfl rfl ?_
      refine vpOps_nil ?_
      refine vp_ret ?_
      exact ⟨[.v (.int .i64 (((x_1 * 256) + x_2) % n))], [4], (.cons (.tmp rfl rfl) .nil), rfl, ⟨((x_1 * 256) + x_2) % n, (at_ + 1) + 1, sd2_2, (show (.v (.int .i64 (((x_1 * 256) + x_2) % n)) : PV) = .v (.int .i64 (((x_1 * 256) + x_2) % n)) from rfl), rfl, (by first | omega | exact pickF (by omega) (by omega)), (by omega), (by first | assumption | omega)⟩⟩
    · skip
      refine vp_skip ?_
      refine vp_seq ?_
      refine vp_region ?_
      refine vpOps_pure (x := .v (.int .i64 x_1)) (pMv rfl rfl rfl) rfl rfl rfl rfl ?_
      refine vpOps_pure (x := .v (.int .i64 n)) (pMv rfl rfl rfl) rfl rfl rfl rfl ?_
      refine vpOps_pure (x := .v (.int .i64 (x_1 % n))) (pRemN rfl rfl rfl (by omega) (by omega)) rfl rfl rfl rfl ?_
      refine vpOps_pure (x := .v (.int .i64 (x_1 % n))) (pAs rfl rfl rfl) rfl rfl rfl rfl ?_
      refine vpOps_nil ?_
      refine vp_ret ?_
      exact ⟨[.v (.int .i64 (x_1 % n))], [4], (.cons (.tmp rfl rfl) .nil), rfl, ⟨x_1 % n, at_ + 1, sd2_1, (show (.v (.int .i64 (x_1 % n)) : PV) = .v (.int .i64 (x_1 % n)) from rfl), rfl, (by first | omega | exact pickF (by omega) (by omega)), (by omega), (by first | assumption | omega)⟩⟩

/-- spec.l01Names -/
theorem c_sNames {G : World → Prop}   : CallsV Tryd.prog G 33 [] (fun r outs => r = .own 1 (namesL.map strc) ∧ outs = []) := by
  refine callsV_enter [] Tryd.func33 rfl rfl rfl ?_
  refine vp_seq ?_
  refine vp_region ?_
  refine vpOps_pure (x := .v (.slice none 0 0)) (pAs rfl rfl rfl) rfl rfl rfl rfl ?_
  refine vpOps_nil ?_
  refine vp_seq ?_
  refine vp_region ?_
  refine vpOps_pure (x := .own 1 [[.v (.string (ByteArray.mk #[97, 110, 116]))], [.v (.string (ByteArray.mk #[98, 101, 101]))], [.v (.string (ByteArray.mk #[99, 111, 119]))], [.v (.string (ByteArray.mk #[100, 111, 103]))], [.v (.string (ByteArray.mk #[101, 101, 108]))], [.v (.string (ByteArray.mk #[102, 111, 120]))], [.v (.string (ByteArray.mk #[103, 110, 117]))], [.v (.string (ByteArray.mk #[104, 101, 110]))], [.v (.string (ByteArray.mk #[105, 98, 105, 115]))], [.v (.string (ByteArray.mk #[106, 97, 121]))], [.v (.string (ByteArray.mk #[107, 105, 116, 101]))], [.v (.string (ByteArray.mk #[108, 97, 114, 107]))]]) (pBs (cs := [.v (.string (ByteArray.mk #[97, 110, 116])), .v (.string (ByteArray.mk #[98, 101, 101])), .v (.string (ByteArray.mk #[99, 111, 119])), .v (.string (ByteArray.mk #[100, 111, 103])), .v (.string (ByteArray.mk #[101, 101, 108])), .v (.string (ByteArray.mk #[102, 111, 120])), .v (.string (ByteArray.mk #[103, 110, 117])), .v (.string (ByteArray.mk #[104, 101, 110])), .v (.string (ByteArray.mk #[105, 98, 105, 115])), .v (.string (ByteArray.mk #[106, 97, 121])), .v (.string (ByteArray.mk #[107, 105, 116, 101])), .v (.string (ByteArray.mk #[108, 97, 114, 107]))]) rfl rfl rfl rfl rfl rfl rfl) rfl rfl rfl rfl ?_
  refine vpOps_assign (x := .own 1 [[.v (.string (ByteArray.mk #[97, 110, 116]))], [.v (.string (ByteArray.mk #[98, 101, 101]))], [.v (.string (ByteArray.mk #[99, 111, 119]))], [.v (.string (ByteArray.mk #[100, 111, 103]))], [.v (.string (ByteArray.mk #[101, 101, 108]))], [.v (.string (ByteArray.mk #[102, 111, 120]))], [.v (.string (ByteArray.mk #[103, 110, 117]))], [.v (.string (ByteArray.mk #[104, 101, 110]))], [.v (.string (ByteArray.mk #[105, 98, 105, 115]))], [.v (.string (ByteArray.mk #[106, 97, 121]))], [.v (.string (ByteArray.mk #[107, 105, 116, 101]))], [.v (.string (ByteArray.mk #[108, 97, 114, 107]))]]) rfl rfl rfl rfl rfl rfl rfl ?_
  refine vpOps_nil ?_
  refine vp_ret ?_
  exact ⟨[.own 1 [[.v (.string (ByteArray.mk #[97, 110, 116]))], [.v (.string (ByteArray.mk #[98, 101, 101]))], [.v (.string (ByteArray.mk #[99, 111, 119]))], [.v (.string (ByteArray.mk #[100, 111, 103]))], [.v (.string (ByteArray.mk #[101, 101, 108]))], [.v (.string (ByteArray.mk #[102, 111, 120]))], [.v (.string (ByteArray.mk #[103, 110, 117]))], [.v (.string (ByteArray.mk #[104, 101, 110]))], [.v (.string (ByteArray.mk #[105, 98, 105, 115]))], [.v (.string (ByteArray.mk #[106, 97, 121]))], [.v (.string (ByteArray.mk #[107, 105, 116, 101]))], [.v (.string (ByteArray.mk #[108, 97, 114, 107]))]]], [0], (.cons (.tmp rfl rfl) .nil), rfl, ⟨(show (.own 1 [[.v (.string (ByteArray.mk #[97, 110, 116]))], [.v (.string (ByteArray.mk #[98, 101, 101]))], [.v (.string (ByteArray.mk #[99, 111, 119]))], [.v (.string (ByteArray.mk #[100, 111, 103]))], [.v (.string (ByteArray.mk #[101, 101, 108]))], [.v (.string (ByteArray.mk #[102, 111, 120]))], [.v (.string (ByteArray.mk #[103, 110, 117]))], [.v (.string (ByteArray.mk #[104, 101, 110]))], [.v (.string (ByteArray.mk #[105, 98, 105, 115]))], [.v (.string (ByteArray.mk #[106, 97, 121]))], [.v (.string (ByteArray.mk #[107, 105, 116, 101]))], [.v (.string (ByteArray.mk #[108, 97, 114, 107]))]] : PV) = .own 1 (namesL.map strc) from (by rfl)), rfl⟩⟩

/-- spec.l01Sized -/
theorem c_sSized {G : World → Prop} (code : List Int) (at_ : Int) (sd : Nat) (kind : Int) (hc : ∀ x ∈ code, 0 ≤ x ∧ x ≤ 255) (hcl : code.length ≤ 1048576) (hat : 0 ≤ at_ ∧ at_ ≤ 1152921504606846968) (hsd : sd < 18446744073709551616) : CallsV Tryd.prog G 34 [.box [.sh 1 (code.map u8c), .v (.int .i64 at_), .v (.int .u64 ((sd : Nat) : Int))], .v (.int .i8 kind)] (fun r outs => ∃ (x : Int) (at2 : Int) (sd2 : Nat), r = .v (.int .i16 x) ∧ outs = [.box [.sh 1 (code.map u8c), .v (.int .i64 at2), .v (.int .u64 ((sd2 : Nat) : Int))], .junk] ∧ (1 ≤ x ∧ (kind = 0 → x ≤ 8) ∧ (kind = 3 → x ≤ 6) ∧ (kind ≠ 0 → kind ≠ 3 → x ≤ 2)) ∧ (at_ ≤ at2 ∧ at2 ≤ at_ + 2) ∧ (sd2 < 18446744073709551616)) := by
  refine callsV_enter [0] Tryd.func34 rfl rfl rfl ?_
  refine vp_seq ?_
  refine vp_region ?_
  refine vpOps_pure (x := .v (.int .i16 0)) (pAs rfl rfl rfl) rfl rfl rfl rfl ?_
  refine vpOps_nil ?_
  refine vp_seq ?_
  refine vp_seq ?_
  refine vp_region ?_
  refine vpOps_pure (x := .v (.int .i8 kind)) (pMv rfl rfl rfl) rfl rfl rfl rfl ?_
  refine vpOps_nil ?_
  refine vp_block ?_
  refine vp_seq ?_
  refine vp_region ?_
  refine vpOps_pure (x := .v (.bool (decide (kind = 0)))) (pure_bin rfl rfl rfl rfl) rfl rfl rfl rfl ?_
  refine vpOps_pure (x := .v (.bool (decide (kind = 0)))) (pAs rfl rfl rfl) rfl rfl rfl rfl ?_
  refine vpOps_nil ?_
  refine vIf rfl (fun h1 => ?_) (fun h1 => ?_)
  · skip
    refine vp_seq ?_
    refine vp_region ?_
    refine vpOps_pure (x := .lv 0 []) (pure_move_lv rfl) rfl rfl rfl rfl ?_
    refine vpOps_call (gs := [⟨.tmp 8, .box [.sh 1 (code.map u8c), .v (.int .i64 at_), .v (.int .u64 ((sd : Nat) : Int))], some (0, id), none⟩, ⟨.const (.int .i64 8), .v (.int .i64 8), none, none⟩]) (c_pick code at_ sd 8 (by first | assumption | omega) (by first | assumption | omega) (by first | assumption | omega) (by first | assumption | omega) (by first | assumption | omega)) rfl rfl rfl rfl rfl trivial (by kernel_rfl) rfl rfl (gives_cons (give_lendLv rfl rfl rfl) (gives_cons (gC rfl rfl) gives_nil)) rfl (fun _ _ _ => .inl rfl) ?_
    rintro _ _ ⟨x_1, at2_1, sd2_1, rfl, rfl, hx_1, ha_1, hs_1⟩
    refine vpOps_pure (x := .v (.int .i64 (1 + x_1))) (pure_add rfl rfl rfl (in64 (by omega) (by omega))) rfl rfl rfl rfl ?_
    refine vpOps_pure (x := .v (.int .i16 (1 + x_1))) (pure_conv_in rfl rfl (in16 (by omega) (by omega))) rfl rfl rfl rfl ?_
    refine vpOps_pure (x := .v (.int .i16 (1 + x_1))) (pAs rfl rfl rfl) rfl rfl rfl rfl ?_
    refine vpOps_nil ?_
    refine vp_ret ?_
    exact ⟨[.v (.int .i16 (1 + x_1))], [4], (.cons (.tmp rfl rfl) .nil), rfl, ⟨1 + x_1, at2_1, sd2_1, (show (.v (.int .i16 (1 + x_1)) : PV) = .v (.int .i16 (1 + x_1)) from rfl), rfl, (by omega), (by omega), (by first | assumption | omega)⟩⟩
  · skip
    refine vp_seq ?_
    refine vp_region ?_
    refine vpOps_pure (x := .v (.bool (decide (kind = 3)))) (pure_bin rfl rfl rfl rfl) rfl rfl rfl rfl ?_
    refine vpOps_pure (x := .v (.bool (decide (kind = 3)))) (pAs rfl rfl rfl) rfl rfl rfl rfl ?_
    refine vpOps_nil ?_
    refine vIf rfl (fun h2 => ?_) (fun h2 => ?_)
    · skip
      refine vp_seq ?_
      refine vp_region ?_
      refine vpOps_pure (x := .lv 0 []) (pure_move_lv rfl) rfl rfl rfl rfl ?_
      refine vpOps_call (gs := [⟨.tmp 14, .box [.sh 1 (code.map u8c), .v (.int .i64 at_), .v (.int .u64 ((sd : Nat) : Int))], some (0, id), none⟩, ⟨.const (.int .i64 6), .v (.int .i64 6), none, none⟩]) (c_pick code at_ sd 6 (by first | assumption | omega) (by first | assumption | omega) (by first | assumption | omega) (by first | assumption | omega) (by first | assumption | omega)) rfl rfl rfl rfl rfl trivial (by kernel_rfl) rfl rfl (gives_cons (give_lendLv rfl rfl rfl) (gives_cons (gC rfl rfl) gives_nil)) rfl (fun _ _ _ => .inl rfl) ?_
      rintro _ _ ⟨x_2, at2_2, sd2_2, rfl, rfl, hx_2, ha_2, hs_2⟩
      refine vpOps_pure (x := .v (.int .i64 (1 + x_2))) (pure_add rfl rfl rfl (in64 (by omega) (by omega))) rfl rfl rfl rfl ?_
      refine vpOps_pure (x := .v (.int .i16 (1 + x_2))) (pure_conv_in rfl rfl (in16 (by omega) (by omega))) rfl rfl rfl rfl ?_
      refine vpOps_pure (x := .v (.int .i16 (1 + x_2))) (pAs rfl rfl rfl) rfl rfl rfl rfl ?_
      refine vpOps_nil ?_
      refine vp_ret ?_
      exact ⟨[.v (.int .i16 (1 + x_2))], [4], (.cons (.tmp rfl rfl) .nil), rfl, ⟨1 + x_2, at2_2, sd2_2, (show (.v (.int .i16 (1 + x_2)) : PV) = .v (.int .i16 (1 + x_2)) from rfl), rfl, (by omega), (by omega), (by first | assumption | omega)⟩⟩
    · skip
      refine vp_skip ?_
      refine vp_seq ?_
      refine vp_region ?_
      refine vpOps_pure (x := .lv 0 []) (pure_move_lv rfl) rfl rfl rfl rfl ?_
      refine vpOps_call (gs := [⟨.tmp 18, .box [.sh 1 (code.map u8c), .v (.int .i64 at_), .v (.int .u64 ((sd : Nat) : Int))], some (0, id), none⟩, ⟨.const (.int .i64 2), .v (.int .i64 2), none, none⟩]) (c_pick code at_ sd 2 (by first | assumption | omega) (by first | assumption | omega) (by first | assumption | omega) (by first | assumption | omega) (by first | assumption | omega)) rfl rfl rfl rfl rfl trivial (by kernel_rfl) rfl rfl (gives_cons (give_lendLv rfl rfl rfl) (gives_cons (gC rfl rfl) gives_nil)) rfl (fun _ _ _ => .inl rfl) ?_
      rintro _ _ ⟨x_3, at2_3, sd2_3, rfl, rfl, hx_3, ha_3, hs_3⟩
      refine vpOps_pure (x := .v (.int .i64 (1 + x_3))) (pure_add rfl rfl rfl (in64 (by omega) (by omega))) rfl rfl rfl rfl ?_
      refine vpOps_pure (x := .v (.int .i16 (1 + x_3))) (pure_conv_in rfl rfl (in16 (by omega) (by omega))) rfl rfl rfl rfl ?_
      refine vpOps_pure (x := .v (.int .i16 (1 + x_3))) (pAs rfl rfl rfl) rfl rfl rfl rfl ?_
      refine vpOps_nil ?_
      refine vp_ret ?_
      exact ⟨[.v (.int .i16 (1 + x_3))], [4], (.cons (.tmp rfl rfl) .nil), rfl, ⟨1 + x_3, at2_3, sd2_3, (show (.v (.int .i16 (1 + x_3)) : PV) = .v (.int .i16 (1 + x_3)) from rfl), rfl, (by omega), (by omega), (by first | assumption | omega)⟩⟩

/-- spec.l01Width -/
theorem c_sWidth {G : World → Prop} (f : Field) (hz : -32768 ≤ f.size ∧ f.size ≤ 32767) : CallsV Tryd.prog G 35 [.rbox [.v (.string f.name), .v (.int .i8 f.kind), .v (.int .i16 f.start), .v (.int .i16 f.size)]] (fun r outs => r = .v (.int .i64 (widthF f)) ∧ outs = [.junk]) := by
  refine callsV_enter [] Tryd.func35 rfl rfl rfl ?_
  refine vp_seq ?_
  refine vp_region ?_
  refine vpOps_pure (x := .v (.int .i64 0)) (pAs rfl rfl rfl) rfl rfl rfl rfl ?_
  refine vpOps_nil ?_
  refine vp_seq ?_
  refine vp_region ?_
  refine vpOps_pure (x := .rbox [.v (.string f.name), .v (.int .i8 f.kind), .v (.int .i16 f.start), .v (.int .i16 f.size)]) (pMv rfl rfl rfl) rfl rfl rfl rfl ?_
  refine vpOps_pure (x := .rbox [.v (.string f.name), .v (.int .i8 f.kind), .v (.int .i16 f.start), .v (.int .i16 f.size)]) (pure_nil_flat rfl rfl) rfl rfl rfl rfl ?_
  refine vpOps_pure (x := .rbox [.v (.int .i16 f.size)]) (pure_field_rbox rfl rfl rfl rfl) rfl rfl rfl rfl ?_
  refine vpOps_pure (x := .v (.int .i16 f.size)) (pure_load_rbox rfl rfl rfl) rfl rfl rfl rfl ?_
  refine vpOps_pure (x := .v (.int .i64 f.size)) (pure_conv_in rfl rfl (in64 (by omega) (by omega))) rfl rfl rfl rfl ?_
  refine vpOps_pure (x := .v (.int .i64 f.size)) (pAs rfl rfl rfl) rfl rfl rfl rfl ?_
  refine vpOps_nil ?_
  refine vp_seq ?_
  refine vp_seq ?_
  refine vp_region ?_
  refine vpOps_pure (x := .rbox [.v (.string f.name), .v (.int .i8 f.kind), .v (.int .i16 f.start), .v (.int .i16 f.size)]) (pMv rfl rfl rfl) rfl rfl rfl rfl ?_
  refine vpOps_pure (x := .rbox [.v (.string f.name), .v (.int .i8 f.kind), .v (.int .i16 f.start), .v (.int .i16 f.size)]) (pure_nil_flat rfl rfl) rfl rfl rfl rfl ?_
  refine vpOps_pure (x := .rbox [.v (.int .i8 f.kind), .v (.int .i16 f.start), .v (.int .i16 f.size)]) (pure_field_rbox rfl rfl rfl rfl) rfl rfl rfl rfl ?_
  refine vpOps_pure (x := .v (.int .i8 f.kind)) (pure_load_rbox rfl rfl rfl) rfl rfl rfl rfl ?_
  refine vpOps_nil ?_
  refine vp_block ?_
  refine vp_seq ?_
  refine vp_region ?_
  refine vpOps_pure (x := .v (.bool (decide (f.kind = 1)))) (pure_bin rfl rfl rfl rfl) rfl rfl rfl rfl ?_
  refine vpOps_pure (x := .v (.bool (decide (f.kind = 1)))) (pAs rfl rfl rfl) rfl rfl rfl rfl ?_
  refine vpOps_nil ?_
  refine vIf rfl (fun h1 => ?_) (fun h1 => ?_)
  · skip
    refine vp_seq ?_
    refine vp_region ?_
    refine vpOps_pure (x := .v (.int .i64 f.size)) (pMv rfl rfl rfl) rfl rfl rfl rfl ?_
    refine vpOps_pure (x := .v (.int .i64 (4 * f.size))) (pure_mul rfl rfl rfl (in64 (by omega) (by omega))) rfl rfl rfl rfl ?_
    refine vpOps_pure (x := .v (.int .i64 (4 * f.size))) (pAs rfl rfl rfl) rfl rfl rfl rfl ?_
    refine vpOps_nil ?_
    refine vp_ret ?_
    exact ⟨[.v (.int .i64 (4 * f.size))], [2], (.cons (.tmp rfl rfl) .nil), rfl, ⟨(show (.v (.int .i64 (4 * f.size)) : PV) = .v (.int .i64 (widthF f)) from (by unfold widthF; simp [*])), rfl⟩⟩
  · skip
    refine vp_seq ?_
    refine vp_region ?_
    refine vpOps_pure (x := .v (.bool (decide (f.kind = 2)))) (pure_bin rfl rfl rfl rfl) rfl rfl rfl rfl ?_
    refine vpOps_pure (x := .v (.bool (decide (f.kind = 2)))) (pAs rfl rfl rfl) rfl rfl rfl rfl ?_
    refine vpOps_nil ?_
    refine vIf rfl (fun h2 => ?_) (fun h2 => ?_)
    · skip
      refine vp_seq ?_
      refine vp_region ?_
      refine vpOps_pure (x := .v (.int .i64 f.size)) (pMv rfl rfl rfl) rfl rfl rfl rfl ?_
      refine vpOps_pure (x := .v (.int .i64 (5 * f.size))) (pure_mul rfl rfl rfl (in64 (by omega) (by omega))) rfl rfl rfl rfl ?_
      refine vpOps_pure (x := .v (.int .i64 (5 * f.size))) (pAs rfl rfl rfl) rfl rfl rfl rfl ?_
      refine vpOps_nil ?_
      refine vp_ret ?_
      exact ⟨[.v (.int .i64 (5 * f.size))], [2], (.cons (.tmp rfl rfl) .nil), rfl, ⟨(show (.v (.int .i64 (5 * f.size)) : PV) = .v (.int .i64 (widthF f)) from (by unfold widthF; simp [*])), rfl⟩⟩
    · skip
      refine vp_seq ?_
      refine vp_region ?_
      refine vpOps_pure (x := .v (.bool (decide (f.kind = 3)))) (pure_bin rfl rfl rfl rfl) rfl rfl rfl rfl ?_
      refine vpOps_pure (x := .v (.bool (decide (f.kind = 3)))) (pAs rfl rfl rfl) rfl rfl rfl rfl ?_
      refine vpOps_nil ?_
      refine vIf rfl (fun h3 => ?_) (fun h3 => ?_)
      · skip
        refine vp_seq ?_
        refine vp_region ?_
        refine vpOps_pure (x := .v (.int .i64 f.size)) (pMv rfl rfl rfl) rfl rfl rfl rfl ?_
        refine vpOps_pure (x := .v (.int .i64 (f.size + 1))) (pure_add rfl rfl rfl (in64 (by omega) (by omega))) rfl rfl rfl rfl ?_
        refine vpOps_pure (x := .v (.int .i64 (f.size + 1))) (pAs rfl rfl rfl) rfl rfl rfl rfl ?_
        refine vpOps_nil ?_
        refine vp_ret ?_
        exact ⟨[.v (.int .i64 (f.size + 1))], [2], (.cons (.tmp rfl rfl) .nil), rfl, ⟨(show (.v (.int .i64 (f.size + 1)) : PV) = .v (.int .i64 (widthF f)) from (by unfold widthF; simp [*])), rfl⟩⟩
      · skip
        refine vp_skip ?_
        refine vp_seq ?_
        refine vp_region ?_
        refine vpOps_pure (x := .v (.int .i64 f.size)) (pMv rfl rfl rfl) rfl rfl rfl rfl ?_
        refine vpOps_pure (x := .v (.int .i64 f.size)) (pAs rfl rfl rfl) rfl rfl rfl rfl ?_
        refine vpOps_nil ?_
        refine vp_ret ?_
        exact ⟨[.v (.int .i64 f.size)], [2], (.cons (.tmp rfl rfl) .nil), rfl, ⟨(show (.v (.int .i64 f.size) : PV) = .v (.int .i64 (widthF f)) from (by unfold widthF; simp [*])), rfl⟩⟩

/-- spec.l01Drawn -/
theorem c_sDrawn {G : World → Prop} (code : List Int) (at_ : Int) (sd : Nat) (hc : ∀ x ∈ code, 0 ≤ x ∧ x ≤ 255) (hcl : code.length ≤ 1048576) (hat : 0 ≤ at_ ∧ at_ ≤ 1152921504606846916) (hsd : sd < 18446744073709551616) : CallsV Tryd.prog G 15 [.box [.sh 1 (code.map u8c), .v (.int .i64 at_), .v (.int .u64 ((sd : Nat) : Int))]] (fun r outs => ∃ (list : List Field) (at2 : Int) (sd2 : Nat), r = .own 4 (list.map fieldc) ∧ outs = [.box [.sh 1 (code.map u8c), .v (.int .i64 at2), .v (.int .u64 ((sd2 : Nat) : Int))]] ∧ (SchemeTo list 200) ∧ (1 ≤ list.length ∧ list.length ≤ 5) ∧ (at_ ≤ at2 ∧ at2 ≤ at_ + 50) ∧ (sd2 < 18446744073709551616)) := by
  refine callsV_enter [0] Tryd.func15 rfl rfl rfl ?_
  refine vp_seq ?_
  refine vp_region ?_
  refine vpOps_pure (x := .v (.slice none 0 0)) (pAs rfl rfl rfl) rfl rfl rfl rfl ?_
  refine vpOps_nil ?_
  refine vp_seq ?_
  refine vp_region ?_
  refine vpOps_pure (x := .own 4 []) (pBs (cs := []) rfl rfl rfl rfl rfl rfl rfl) rfl rfl rfl rfl ?_
  refine vpOps_assign (x := .own 4 []) rfl rfl rfl rfl rfl rfl rfl ?_
  refine vpOps_nil ?_
  refine vp_seq ?_
  refine vp_region ?_
  refine vpOps_pure (x := .lv 0 []) (pure_move_lv rfl) rfl rfl rfl rfl ?_
  refine vpOps_call (gs := [⟨.tmp 9, .box [.sh 1 (code.map u8c), .v (.int .i64 at_), .v (.int .u64 ((sd : Nat) : Int))], some (0, id), none⟩, ⟨.const (.int .i64 6), .v (.int .i64 6), none, none⟩]) (c_pick code at_ sd 6 (by first | assumption | omega | (dsimp only; omega) | decide) (by first | assumption | omega | (dsimp only; omega) | decide) (by first | assumption | omega | (dsimp only; omega) | decide) (by first | assumption | omega | (dsimp only; omega) | decide) (by first | assumption | omega | (dsimp only; omega) | decide)) rfl rfl rfl rfl rfl trivial (by kernel_rfl) rfl rfl (gives_cons (give_lendLv rfl rfl rfl) (gives_cons (gC rfl rfl) gives_nil)) rfl (fun _ _ _ => .inl rfl) ?_
  rintro _ _ ⟨x_1, at2_1, sd2_1, rfl, rfl, hx_1, ha_1, hs_1⟩
  refine vpOps_pure (x := .v (.int .i64 x_1)) (pAs rfl rfl rfl) rfl rfl rfl rfl ?_
  refine vpOps_nil ?_
  refine vp_seq ?_
  refine vp_region ?_
  refine vpOps_call (gs := []) (c_sNames  ) rfl rfl rfl rfl rfl trivial (by kernel_rfl) rfl rfl gives_nil rfl (fun _ _ _ => .inl rfl) ?_
  rintro _ _ ⟨rfl, rfl⟩
  refine vpOps_assign (x := .own 1 (namesL.map strc)) rfl rfl rfl rfl rfl rfl rfl ?_
  refine vpOps_nil ?_
  refine vp_seq ?_
  refine vp_seq ?_
  refine vp_region ?_
  refine vpOps_pure (x := .lv 0 []) (pure_move_lv rfl) rfl rfl rfl rfl ?_
  refine vpOps_call (gs := [⟨.tmp 12, .box [.sh 1 (code.map u8c), .v (.int .i64 at2_1), .v (.int .u64 ((sd2_1 : Nat) : Int))], some (0, id), none⟩, ⟨.const (.int .i64 5), .v (.int .i64 5), none, none⟩]) (c_pick code at2_1 sd2_1 5 (by first | assumption | omega | (dsimp only; omega) | decide) (by first | assumption | omega | (dsimp only; omega) | decide) (by first | assumption | omega | (dsimp only; omega) | decide) (by first | assumption | omega | (dsimp only; omega) | decide) (by first | assumption | omega | (dsimp only; omega) | decide)) rfl rfl rfl rfl rfl trivial (by kernel_rfl) rfl rfl (gives_cons (give_lendLv rfl rfl rfl) (gives_cons (gC rfl rfl) gives_nil)) rfl (fun _ _ _ => .inl rfl) ?_
  rintro _ _ ⟨x_3, at2_3, sd2_3, rfl, rfl, hx_3, ha_3, hs_3⟩
  refine vpOps_pure (x := .v (.int .i64 (1 + x_3))) (pure_add rfl rfl rfl (in64 (by omega) (by omega))) rfl rfl rfl rfl ?_
  refine vpOps_pure (x := .v (.int .i64 (1 + x_3))) (pAs rfl rfl rfl) rfl rfl rfl rfl ?_
  refine vpOps_nil ?_
  refine vp_block ?_
  refine vLoop (α := List Field × Int × Int × Int × Nat) (fun (list, start, k, at1, sd1) => k.toNat) (fun (list, start, k, at1, sd1) => (SchemeTo list start) ∧ (0 ≤ k ∧ list.length + k ≤ 5 ∧ (list.length = 0 → 1 ≤ k ∧ start ≤ 5) ∧ 0 ≤ start ∧ start ≤ 99) ∧ (at_ ≤ at1 ∧ at1 ≤ at_ + 50 - 8 * k) ∧ (sd1 < 18446744073709551616) ∧ True) (fun (list, start, k, at1, sd1) => [(0, .box [.sh 1 (code.map u8c), .v (.int .i64 at1), .v (.int .u64 ((sd1 : Nat) : Int))]), (2, .v (.slice none 0 0)), (3, .own 4 (list.map fieldc)), (4, .v (.int .i64 start)), (5, .own 1 (namesL.map strc)), (6, .v (.int .i64 k))]) (fun ⟨_, _, _, _, _⟩ => rfl) (fun ⟨_, _, _, _, _⟩ => rfl) ([], x_1, 1 + x_3, at2_3, sd2_3) ⟨(by exact schemeTo_nil _), (by simp only [List.length_append, List.length_cons, List.length_nil]; omega), (by omega), (by assumption), trivial⟩ ⟨rfl, rfl, rfl, rfl, rfl, rfl, trivial⟩ ?_
  rintro ⟨list, start, k, at1, sd1⟩ ⟨hS, hk, ha1, hs1, -⟩
  have hnl : namesL.length = 12 := rfl
  have hno := namesL_ok (i := list.length) (by omega)
  refine vp_seq ?_
  refine vp_seq ?_
  refine vp_region ?_
  refine vpOps_pure (x := .v (.int .i64 k)) (pMv rfl rfl rfl) rfl rfl rfl rfl ?_
  refine vpOps_pure (x := .v (.bool (decide (0 < k)))) (pure_bin rfl rfl rfl rfl) rfl rfl rfl rfl ?_
  refine vpOps_nil ?_
  refine vIf rfl (fun h1 => ?_) (fun h1 => ?_)
  · skip
    refine vp_skip ?_
    refine vp_seq ?_
    refine vp_block ?_
    refine vp_seq ?_
    refine vRegP 12 ((19, .lv 5 []) :: (20, .lv 3 []) :: (21, .v (.int .i64 ((list.length : Nat) : Int))) :: (22, .pl 5 [⟨list.length, 0, 1⟩]) :: (23, .v (.string (namesL.getD list.length default))) :: (24, .lv 0 []) :: (25, .junk) :: (26, .junk) :: (27, .v (.int .i64 start)) :: (28, .v (.int .i16 start)) :: (29, .junk) :: (7, .box [.v (.string (ByteArray.mk #[])), .v (.int .i8 0), .v (.int .i16 0), .v (.int .i16 0)]) :: []) (0 :: 0 :: 2 :: 7 :: 15 :: 0 :: 32 :: 96 :: 0 :: 256 :: 1023 :: 0 :: 4095 :: []) [6] (by kernel_rfl) (by kernel_rfl) ?_
    refine phCall 6 [false, false, false, false, false, false, true, true, false, false, true, false] rfl rfl rfl (by kernel_rfl) (by kernel_rfl) rfl (by kernel_rfl) (by kernel_rfl) ⟨
        dPure rfl (pure_move_lv rfl),
        dPure rfl (pure_move_lv rfl),
        dPure rfl (pLenR rfl rfl rfl rfl rfl (List.length_map _)),
        dPure rfl (pIxR (m := list.length) rfl rfl rfl rfl rfl rfl (by first | rfl | omega) (by rw [List.length_map]; omega) rfl),
        dPure rfl (pure_load_pl rfl rfl rfl rfl rfl (row_map (by omega)) rfl trivial rfl),
        dPure rfl (pure_move_lv rfl),
        trivial,
        trivial,
        dPure rfl (pMv rfl rfl rfl),
        dPure rfl (pure_conv_in rfl rfl (in16 (by omega) (by omega))),
        trivial,
        dPure rfl (pure_alloc rfl),
        trivial⟩ (gs := [⟨.tmp 24, .box [.sh 1 (code.map u8c), .v (.int .i64 at1), .v (.int .u64 ((sd1 : Nat) : Int))], some (0, id), none⟩, ⟨.const (.int .i64 4), .v (.int .i64 4), none, none⟩]) (c_pick code at1 sd1 4 (by first | assumption | omega | (dsimp only; omega) | decide) (by first | assumption | omega | (dsimp only; omega) | decide) (by first | assumption | omega | (dsimp only; omega) | decide) (by first | assumption | omega | (dsimp only; omega) | decide) (by first | assumption | omega | (dsimp only; omega) | decide)) rfl (by kernel_rfl) rfl (gives_cons (give_lendLv rfl rfl rfl) (gives_cons (gC rfl rfl) gives_nil)) ⟨trivial, trivial⟩ rfl (fun _ _ _ => .inl rfl) ?_
    rintro _ _ ⟨x_4, at2_4, sd2_4, rfl, rfl, hx_4, ha_4, hs_4⟩
    refine ⟨(19, .lv 5 []) :: (20, .lv 3 []) :: (21, .v (.int .i64 ((list.length : Nat) : Int))) :: (22, .pl 5 [⟨list.length, 0, 1⟩]) :: (23, .v (.string (namesL.getD list.length default))) :: (24, .junk) :: (25, .v (.int .i64 x_4)) :: (26, .v (.int .i8 x_4)) :: (27, .v (.int .i64 start)) :: (28, .v (.int .i16 start)) :: (29, .agg [.v (.string (namesL.getD list.length default)), .v (.int .i8 x_4), .v (.int .i16 start), .v (.int .i16 0)]) :: (7, .box [.v (.string (ByteArray.mk #[])), .v (.int .i8 0), .v (.int .i16 0), .v (.int .i16 0)]) :: [], [(0, .box [.sh 1 (code.map u8c), .v (.int .i64 at2_4), .v (.int .u64 ((sd2_4 : Nat) : Int))])], rfl, rfl, rfl, rfl, rfl, rfl, rfl, (by kernel_rfl), (by kernel_rfl), ?_⟩
    refine phLast [false, false, false, false, false, true, true, false, false, false, false, false] (by kernel_rfl) rfl (by kernel_rfl) (by kernel_rfl) ⟨
        dPure rfl (pure_move_lv rfl),
        dPure rfl (pure_move_lv rfl),
        dPure rfl (pLenR rfl rfl rfl rfl rfl (List.length_map _)),
        dPure rfl (pIxR (m := list.length) rfl rfl rfl rfl rfl rfl (by first | rfl | omega) (by rw [List.length_map]; omega) rfl),
        dPure rfl (pure_load_pl rfl rfl rfl rfl rfl (row_map (by omega)) rfl trivial rfl),
        trivial,
        trivial,
        dPure rfl (pure_conv_in rfl rfl (ini8 (by omega) (by omega))),
        dPure rfl (pMv rfl rfl rfl),
        dPure rfl (pure_conv_in rfl rfl (in16 (by omega) (by omega))),
        dPure rfl (pure_build_st rfl (flatsB_ok rfl) rfl),
        dPure rfl (pure_alloc rfl),
        trivial⟩ ?_
    refine vStB (x := .agg [.v (.string (namesL.getD list.length default)), .v (.int .i8 x_4), .v (.int .i16 start), .v (.int .i16 0)]) (row' := [.v (.string (namesL.getD list.length default)), .v (.int .i8 x_4), .v (.int .i16 start), .v (.int .i16 0)]) rfl rfl rfl rfl rfl rfl rfl rfl rfl rfl rfl rfl ?_
    refine vpOps_nil ?_
    refine vp_seq ?_
    refine vp_region ?_
    refine vpOps_pure (x := .lv 0 []) (pure_move_lv rfl) rfl rfl rfl rfl ?_
    refine vpOps_pure (x := .pl 7 [⟨0, 1, 0⟩]) (pure_field_ref rfl rfl rfl rfl) rfl rfl rfl rfl ?_
    refine vpOps_pure (x := .v (.int .i8 x_4)) (pure_load_pl rfl rfl rfl rfl rfl rfl rfl trivial rfl) rfl rfl rfl rfl ?_
    refine vpOps_call (gs := [⟨.tmp 30, .box [.sh 1 (code.map u8c), .v (.int .i64 at2_4), .v (.int .u64 ((sd2_4 : Nat) : Int))], some (0, id), none⟩, ⟨.tmp 32, .v (.int .i8 x_4), none, none⟩]) (c_sSized code at2_4 sd2_4 x_4 (by first | assumption | omega | (dsimp only; omega) | decide) (by first | assumption | omega | (dsimp only; omega) | decide) (by first | assumption | omega | (dsimp only; omega) | decide) (by first | assumption | omega | (dsimp only; omega) | decide)) rfl rfl rfl rfl rfl trivial (by kernel_rfl) rfl rfl (gives_cons (give_lendLv rfl rfl rfl) (gives_cons (gC rfl rfl) gives_nil)) rfl (fun _ _ _ => .inl rfl) ?_
    rintro _ _ ⟨x_5, at2_5, sd2_5, rfl, rfl, hx_5, ha_5, hs_5⟩
    refine vpOps_pure (x := .pl 7 [⟨0, 3, 0⟩]) (pure_field_ref rfl rfl rfl rfl) rfl rfl rfl rfl ?_
    refine vStB (x := .v (.int .i16 x_5)) (row' := [.v (.string (namesL.getD list.length default)), .v (.int .i8 x_4), .v (.int .i16 start), .v (.int .i16 x_5)]) rfl rfl rfl rfl rfl rfl rfl rfl rfl rfl rfl rfl ?_
    refine vpOps_nil ?_
    refine vp_seq ?_
    refine vp_seq ?_
    refine vp_region ?_
    have hwb := width_mk (n := namesL.getD list.length default) (k := x_4) (s := start) (z := x_5) (by omega) hx_5
    refine vpOps_pure (x := .v (.int .i64 start)) (pMv rfl rfl rfl) rfl rfl rfl rfl ?_
    refine vpOps_call (gs := [⟨.tmp 7, .rbox [.v (.string (namesL.getD list.length default)), .v (.int .i8 x_4), .v (.int .i16 start), .v (.int .i16 x_5)], none, some 7⟩]) (c_sWidth (⟨namesL.getD list.length default, x_4, start, x_5⟩ : Field) (by first | assumption | omega | (dsimp only; omega) | decide)) rfl rfl rfl rfl rfl trivial (by kernel_rfl) rfl rfl (gives_cons (give_view (c := .box [.v (.string (namesL.getD list.length default)), .v (.int .i8 x_4), .v (.int .i16 start), .v (.int .i16 x_5)]) rfl rfl rfl rfl rfl) gives_nil) rfl (fun _ _ h => .inr (by obtain ⟨h1, h2⟩ := h; subst h1; subst h2; exact ⟨by simp [PV.closed, PV.closedL, closedE_map], by simp [PV.closedL, PV.closed]⟩)) ?_
    rintro _ _ ⟨rfl, rfl⟩
    refine vpOps_pure (x := .v (.int .i64 (start + (widthF (⟨namesL.getD list.length default, x_4, start, x_5⟩ : Field))))) (pure_add rfl rfl rfl (in64 (by omega) (by omega))) rfl rfl rfl rfl ?_
    refine vpOps_pure (x := .v (.bool (decide (96 < (start + (widthF (⟨namesL.getD list.length default, x_4, start, x_5⟩ : Field))))))) (pure_bin rfl rfl rfl rfl) rfl rfl rfl rfl ?_
    refine vpOps_nil ?_
    refine vIf rfl (fun h2 => ?_) (fun h2 => ?_)
    · skip
      refine vp_exit ?_
      refine vp_seq ?_
      refine vp_region ?_
      refine vpOps_pure (x := .lv 3 []) (pure_move_lv rfl) rfl rfl rfl rfl ?_
      refine vpOps_ghost (ghost_own (t := 49) rfl rfl rfl rfl) ?_
      refine vpOps_assign (x := .own 4 (list.map fieldc)) rfl rfl rfl rfl rfl rfl rfl ?_
      refine vpOps_nil ?_
      refine vp_ret ?_
      exact ⟨[.own 4 (list.map fieldc)], [2], (.cons (.tmp rfl rfl) .nil), rfl, ⟨list, at2_5, sd2_5, (show (.own 4 (list.map fieldc) : PV) = .own 4 (list.map fieldc) from rfl), rfl, (by exact hS.weak (by omega)), (by omega), (by omega), (by first | assumption | omega)⟩⟩
    · skip
      refine vp_skip ?_
      refine vp_seq ?_
      refine vp_region ?_
      refine vpOps_pure (x := .lv 3 []) (pure_move_lv rfl) rfl rfl rfl rfl ?_
      have hfo : fieldOk ⟨namesL.getD list.length default, x_4, start, x_5⟩ := fieldOk_mk hno (by omega) hx_5 (by omega) (by omega)
      refine vpOps_pure (x := .agg [.v (.string (namesL.getD list.length default)), .v (.int .i8 x_4), .v (.int .i16 start), .v (.int .i16 x_5)]) (pure_load_pl_agg rfl rfl rfl rfl rfl rfl rfl rfl (by simp [PV.flatL, PV.flat])) rfl rfl rfl rfl ?_
      refine vpOps_pure (x := .own 4 [[.v (.string (namesL.getD list.length default)), .v (.int .i8 x_4), .v (.int .i16 start), .v (.int .i16 x_5)]]) (pBs (cs := [.v (.string (namesL.getD list.length default)), .v (.int .i8 x_4), .v (.int .i16 start), .v (.int .i16 x_5)]) rfl rfl rfl rfl rfl rfl rfl) rfl rfl rfl rfl ?_
      refine vpOps_ghost (ghost_own (t := 39) rfl rfl rfl rfl) ?_
      refine vApp (f := fieldc) (xs := list) (ys := [(⟨namesL.getD list.length default, x_4, start, x_5⟩ : Field)]) (l := 1) rfl rfl rfl rfl rfl (srcOwn rfl rfl (fun _ => mvOkL_flat _ rfl)) rfl rfl (fun _ => rfl) (.inl ⟨_, rfl⟩) rfl rfl rfl (rfl) (by omega) (by omega) ?_
      refine vpOps_assign (x := .own 4 ((list ++ [(⟨namesL.getD list.length default, x_4, start, x_5⟩ : Field)]).map fieldc)) rfl rfl rfl rfl rfl rfl rfl ?_
      refine vpOps_nil ?_
      refine vp_region ?_
      refine vpOps_pure (x := .v (.int .i64 start)) (pMv rfl rfl rfl) rfl rfl rfl rfl ?_
      refine vpOps_call (gs := [⟨.tmp 7, .rbox [.v (.string (namesL.getD list.length default)), .v (.int .i8 x_4), .v (.int .i16 start), .v (.int .i16 x_5)], none, some 7⟩]) (c_sWidth (⟨namesL.getD list.length default, x_4, start, x_5⟩ : Field) (by first | assumption | omega | (dsimp only; omega) | decide)) rfl rfl rfl rfl rfl trivial (by kernel_rfl) rfl rfl (gives_cons (give_view (c := .box [.v (.string (namesL.getD list.length default)), .v (.int .i8 x_4), .v (.int .i16 start), .v (.int .i16 x_5)]) rfl rfl rfl rfl rfl) gives_nil) rfl (fun _ _ h => .inr (by obtain ⟨h1, h2⟩ := h; subst h1; subst h2; exact ⟨by simp [PV.closed, PV.closedL, closedE_map], by simp [PV.closedL, PV.closed]⟩)) ?_
      rintro _ _ ⟨rfl, rfl⟩
      refine vpOps_pure (x := .lv 0 []) (pure_move_lv rfl) rfl rfl rfl rfl ?_
      refine vpOps_call (gs := [⟨.tmp 45, .box [.sh 1 (code.map u8c), .v (.int .i64 at2_5), .v (.int .u64 ((sd2_5 : Nat) : Int))], some (0, id), none⟩, ⟨.const (.int .i64 4), .v (.int .i64 4), none, none⟩]) (c_pick code at2_5 sd2_5 4 (by first | assumption | omega | (dsimp only; omega) | decide) (by first | assumption | omega | (dsimp only; omega) | decide) (by first | assumption | omega | (dsimp only; omega) | decide) (by first | assumption | omega | (dsimp only; omega) | decide) (by first | assumption | omega | (dsimp only; omega) | decide)) rfl rfl rfl rfl rfl trivial (by kernel_rfl) rfl rfl (gives_cons (give_lendLv rfl rfl rfl) (gives_cons (gC rfl rfl) gives_nil)) rfl (fun _ _ _ => .inl rfl) ?_
      rintro _ _ ⟨x_8, at2_8, sd2_8, rfl, rfl, hx_8, ha_8, hs_8⟩
      refine vpOps_pure (x := .v (.int .i64 ((widthF (⟨namesL.getD list.length default, x_4, start, x_5⟩ : Field)) + x_8))) (pure_add rfl rfl rfl (in64 (by omega) (by omega))) rfl rfl rfl rfl ?_
      refine vpOps_pure (x := .v (.int .i64 (start + ((widthF (⟨namesL.getD list.length default, x_4, start, x_5⟩ : Field)) + x_8)))) (pure_add rfl rfl rfl (in64 (by omega) (by omega))) rfl rfl rfl rfl ?_
      refine vpOps_pure (x := .v (.int .i64 (start + ((widthF (⟨namesL.getD list.length default, x_4, start, x_5⟩ : Field)) + x_8)))) (pAs rfl rfl rfl) rfl rfl rfl rfl ?_
      refine vpOps_nil ?_
      refine vp_region ?_
      refine vpOps_pure (x := .v (.int .i64 k)) (pMv rfl rfl rfl) rfl rfl rfl rfl ?_
      refine vpOps_pure (x := .v (.int .i64 (k - 1))) (pure_sub rfl rfl rfl (in64 (by omega) (by omega))) rfl rfl rfl rfl ?_
      refine vpOps_pure (x := .v (.int .i64 (k - 1))) (pAs rfl rfl rfl) rfl rfl rfl rfl ?_
      refine vpOps_nil ?_
      exact ⟨(list ++ [(⟨namesL.getD list.length default, x_4, start, x_5⟩ : Field)], start + ((widthF (⟨namesL.getD list.length default, x_4, start, x_5⟩ : Field)) + x_8), k - 1, at2_8, sd2_8), (by first | omega | (dsimp only; omega)), ⟨(by exact hS.push hfo rfl (Int.le_refl _) (by show start + _ ≤ _; omega)), (by simp only [List.length_append, List.length_cons, List.length_nil]; omega), (by omega), (by assumption), trivial⟩, ⟨rfl, rfl, rfl, rfl, rfl, rfl, trivial⟩⟩
  · skip
    refine vp_exit ?_
    refine vp_seq ?_
    refine vp_region ?_
    refine vpOps_pure (x := .lv 3 []) (pure_move_lv rfl) rfl rfl rfl rfl ?_
    refine vpOps_ghost (ghost_own (t := 49) rfl rfl rfl rfl) ?_
    refine vpOps_assign (x := .own 4 (list.map fieldc)) rfl rfl rfl rfl rfl rfl rfl ?_
    refine vpOps_nil ?_
    refine vp_ret ?_
    exact ⟨[.own 4 (list.map fieldc)], [2], (.cons (.tmp rfl rfl) .nil), rfl, ⟨list, at1, sd1, (show (.own 4 (list.map fieldc) : PV) = .own 4 (list.map fieldc) from rfl), rfl, (by exact hS.weak (by omega)), (by omega), (by omega), (by first | assumption | omega)⟩⟩

/-- spec.A2Scheme -/
theorem c_A2Scheme {G : World → Prop} (code : List Int) (hc : ∀ x ∈ code, 0 ≤ x ∧ x ≤ 255) (hcl : code.length ≤ 1048576) : CallsV Tryd.prog G 5 [.sh 1 (code.map u8c)] (fun r outs => ∃ (list : List Field), r = .own 4 (list.map fieldc) ∧ outs = [.junk] ∧ (SchemeTo list 200) ∧ (1 ≤ list.length ∧ list.length ≤ 5)) := by
  refine callsV_enter [] Tryd.func5 rfl rfl rfl ?_
  refine vp_seq ?_
  refine vp_region ?_
  refine vpOps_pure (x := .v (.slice none 0 0)) (pAs rfl rfl rfl) rfl rfl rfl rfl ?_
  refine vpOps_nil ?_
  refine vp_seq ?_
  refine vp_region ?_
  refine vpOps_pure (x := .sh 1 (code.map u8c)) (pMv rfl rfl rfl) rfl rfl rfl rfl ?_
  refine vpOps_call (gs := [⟨.tmp 3, .sh 1 (code.map u8c), none, none⟩]) (c_l00From code ) rfl rfl rfl rfl rfl trivial (by kernel_rfl) rfl rfl (gives_cons (gC rfl rfl) gives_nil) rfl (fun _ _ _ => .inl rfl) ?_
  rintro _ _ ⟨rfl, rfl⟩
  refine vpOps_call (gs := [⟨.tmp 4, .box [.sh 1 (code.map u8c), .v (.int .i64 0), .v (.int .u64 ((0 : Nat) : Int))], some (4, id), none⟩]) (c_sDrawn code 0 0 (by first | assumption | omega) (by first | assumption | omega) (by first | assumption | omega) (by first | assumption | omega)) rfl rfl rfl rfl rfl trivial (by kernel_rfl) rfl rfl (gives_cons (give_lend rfl rfl) gives_nil) rfl (fun _ _ _ => .inl rfl) ?_
  rintro _ _ ⟨list_2, at2_2, sd2_2, rfl, rfl, hS_2, hl_2, ha_2, hs_2⟩
  refine vpOps_assign (x := .own 4 (list_2.map fieldc)) rfl rfl rfl rfl rfl rfl rfl ?_
  refine vpOps_nil ?_
  refine vp_ret ?_
  exact ⟨[.own 4 (list_2.map fieldc)], [2], (.cons (.tmp rfl rfl) .nil), rfl, ⟨list_2, (show (.own 4 (list_2.map fieldc) : PV) = .own 4 (list_2.map fieldc) from rfl), rfl, (by assumption), (by assumption)⟩⟩

/-- spec.l02Named -/
theorem c_sNamed {G : World → Prop} (i : Int) (hi : 0 ≤ i ∧ i ≤ 1000) : CallsV Tryd.prog G 36 [.v (.int .i64 i)] (fun r outs => r = .v (.string (namedAt i.toNat)) ∧ outs = [.junk]) := by
  refine callsV_enter [] Tryd.func36 rfl rfl rfl ?_
  refine vp_seq ?_
  refine vp_region ?_
  refine vpOps_pure (x := .v (.string (ByteArray.mk #[]))) (pAs rfl rfl rfl) rfl rfl rfl rfl ?_
  refine vpOps_nil ?_
  refine vp_seq ?_
  refine vp_region ?_
  refine vpOps_call (gs := []) (c_sNames  ) rfl rfl rfl rfl rfl trivial (by kernel_rfl) rfl rfl gives_nil rfl (fun _ _ _ => .inl rfl) ?_
  rintro _ _ ⟨rfl, rfl⟩
  refine vpOps_assign (x := .own 1 (namesL.map strc)) rfl rfl rfl rfl rfl rfl rfl ?_
  refine vpOps_nil ?_
  refine vp_seq ?_
  refine vp_region ?_
  refine vpOps_pure (x := .lv 3 []) (pure_move_lv rfl) rfl rfl rfl rfl ?_
  refine vpOps_pure (x := .v (.int .i64 12)) (pEqI (pLenR rfl rfl rfl rfl rfl (List.length_map _)) (rfl)) rfl rfl rfl rfl ?_
  refine vpOps_pure (x := .v (.int .i64 12)) (pAs rfl rfl rfl) rfl rfl rfl rfl ?_
  refine vpOps_nil ?_
  refine vp_seq ?_
  refine vp_region ?_
  refine vpOps_pure (x := .lv 3 []) (pure_move_lv rfl) rfl rfl rfl rfl ?_
  refine vpOps_pure (x := .v (.int .i64 i)) (pMv rfl rfl rfl) rfl rfl rfl rfl ?_
  refine vpOps_pure (x := .v (.int .i64 12)) (pMv rfl rfl rfl) rfl rfl rfl rfl ?_
  refine vpOps_pure (x := .v (.int .i64 (i % 12))) (pRemN rfl rfl rfl (by omega) (by decide)) rfl rfl rfl rfl ?_
  have hnl : namesL.length = 12 := rfl
  refine vpOps_pure (x := .pl 3 [⟨i.toNat % 12, 0, 1⟩]) (pIxR (m := i.toNat % 12) rfl rfl rfl rfl rfl rfl (by omega) (by rw [List.length_map]; omega) rfl) rfl rfl rfl rfl ?_
  refine vpOps_pure (x := .v (.string (namesL.getD (i.toNat % 12) default))) (pure_load_pl rfl rfl rfl rfl rfl (row_map (by omega)) rfl trivial rfl) rfl rfl rfl rfl ?_
  refine vpOps_pure (x := .v (.string (namesL.getD (i.toNat % 12) default))) (pAs rfl rfl rfl) rfl rfl rfl rfl ?_
  refine vpOps_nil ?_
  refine vp_seq ?_
  refine vp_seq ?_
  refine vp_region ?_
  refine vpOps_pure (x := .v (.int .i64 i)) (pMv rfl rfl rfl) rfl rfl rfl rfl ?_
  refine vpOps_pure (x := .v (.int .i64 12)) (pMv rfl rfl rfl) rfl rfl rfl rfl ?_
  refine vpOps_pure (x := .v (.int .i64 (i / 12))) (pQuoN rfl rfl rfl (by omega) (by decide) (in64 (by omega) (by omega))) rfl rfl rfl rfl ?_
  refine vpOps_pure (x := .v (.int .i64 (i / 12))) (pAs rfl rfl rfl) rfl rfl rfl rfl ?_
  refine vpOps_nil ?_
  refine vp_block ?_
  refine vLoop (α := Int × ByteArray) (fun (k, a) => k.toNat) (fun (k, a) => (0 ≤ k ∧ k ≤ i / 12) ∧ (a = namedTo i.toNat (i / 12 - k).toNat) ∧ (a.size ≤ 4 + (i / 12 - k).toNat) ∧ True) (fun (k, a) => [(0, .v (.int .i64 i)), (2, .v (.string (ByteArray.mk #[]))), (3, .own 1 (namesL.map strc)), (4, .v (.int .i64 12)), (5, .v (.string a)), (6, .v (.int .i64 k))]) (fun ⟨_, _⟩ => rfl) (fun ⟨_, _⟩ => rfl) (i / 12, namesL.getD (i.toNat % 12) default) ⟨(by omega), (by rw [show (i / 12 - i / 12).toNat = 0 by omega]; rfl), (by have := namesL_size (i.toNat % 12); omega), trivial⟩ ⟨rfl, rfl, rfl, rfl, rfl, rfl, trivial⟩ ?_
  rintro ⟨k, a⟩ ⟨hk, ha, hz, -⟩
  refine vp_seq ?_
  refine vp_seq ?_
  refine vp_region ?_
  refine vpOps_pure (x := .v (.int .i64 k)) (pMv rfl rfl rfl) rfl rfl rfl rfl ?_
  refine vpOps_pure (x := .v (.bool (decide (0 < k)))) (pure_bin rfl rfl rfl rfl) rfl rfl rfl rfl ?_
  refine vpOps_nil ?_
  refine vIf rfl (fun h1 => ?_) (fun h1 => ?_)
  · skip
    refine vp_skip ?_
    refine vp_seq ?_
    refine vp_block ?_
    refine vp_region ?_
    refine vpOps_pure (x := .v (.string a)) (pMv rfl rfl rfl) rfl rfl rfl rfl ?_
    refine vpOps_pure (x := .v (.string (a ++ (ByteArray.mk #[120])))) (pure_str_add rfl rfl rfl (by have : (ByteArray.mk #[120]).size = 1 := rfl; omega)) rfl rfl rfl rfl ?_
    refine vpOps_pure (x := .v (.string (a ++ (ByteArray.mk #[120])))) (pAs rfl rfl rfl) rfl rfl rfl rfl ?_
    refine vpOps_nil ?_
    refine vp_region ?_
    refine vpOps_pure (x := .v (.int .i64 k)) (pMv rfl rfl rfl) rfl rfl rfl rfl ?_
    refine vpOps_pure (x := .v (.int .i64 (k - 1))) (pure_sub rfl rfl rfl (in64 (by omega) (by omega))) rfl rfl rfl rfl ?_
    refine vpOps_pure (x := .v (.int .i64 (k - 1))) (pAs rfl rfl rfl) rfl rfl rfl rfl ?_
    refine vpOps_nil ?_
    exact ⟨(k - 1, a ++ (ByteArray.mk #[120])), (by first | omega | (dsimp only; omega)), ⟨(by omega), (by rw [show (i / 12 - (k - 1)).toNat = (i / 12 - k).toNat + 1 by omega, namedTo, ← ha]), (by rw [ByteArray.size_append]; have : (ByteArray.mk #[120]).size = 1 := rfl; omega), trivial⟩, ⟨rfl, rfl, rfl, rfl, rfl, rfl, trivial⟩⟩
  · skip
    refine vp_exit ?_
    refine vp_seq ?_
    refine vp_region ?_
    refine vpOps_pure (x := .v (.string a)) (pMv rfl rfl rfl) rfl rfl rfl rfl ?_
    refine vpOps_pure (x := .v (.string a)) (pAs rfl rfl rfl) rfl rfl rfl rfl ?_
    refine vpOps_nil ?_
    refine vp_ret ?_
    exact ⟨[.v (.string a)], [2], (.cons (.tmp rfl rfl) .nil), rfl, ⟨(show (.v (.string a) : PV) = .v (.string (namedAt i.toNat)) from (by rw [ha, namedAt, show (i / 12 - k).toNat = i.toNat / 12 by omega])), rfl⟩⟩

/-- (*spec.l00Src).one -/
theorem c_one {G : World → Prop} (code : List Int) (at_ : Int) (sd : Nat) (n : Int) (hc : ∀ x ∈ code, 0 ≤ x ∧ x ≤ 255) (hcl : code.length ≤ 1048576) (hat : 0 ≤ at_ ∧ at_ ≤ 1152921504606846972) (hsd : sd < 18446744073709551616) (hn : n ≤ 1099511627776) : CallsV Tryd.prog G 37 [.box [.sh 1 (code.map u8c), .v (.int .i64 at_), .v (.int .u64 ((sd : Nat) : Int))], .v (.int .i64 n)] (fun r outs => ∃ (b : Bool) (at2 : Int) (sd2 : Nat), r = .v (.bool (b)) ∧ outs = [.box [.sh 1 (code.map u8c), .v (.int .i64 at2), .v (.int .u64 ((sd2 : Nat) : Int))], .junk] ∧ (at_ ≤ at2 ∧ at2 ≤ at_ + 2) ∧ (sd2 < 18446744073709551616)) := by
  refine callsV_enter [0] Tryd.func37 rfl rfl rfl ?_
  refine vp_seq ?_
  refine vp_region ?_
  refine vpOps_pure (x := .v (.bool (false))) (pAs rfl rfl rfl) rfl rfl rfl rfl ?_
  refine vpOps_nil ?_
  refine vp_seq ?_
  refine vp_region ?_
  refine vpOps_pure (x := .lv 0 []) (pure_move_lv rfl) rfl rfl rfl rfl ?_
  refine vpOps_pure (x := .v (.int .i64 n)) (pMv rfl rfl rfl) rfl rfl rfl rfl ?_
  refine vpOps_call (gs := [⟨.tmp 5, .box [.sh 1 (code.map u8c), .v (.int .i64 at_), .v (.int .u64 ((sd : Nat) : Int))], some (0, id), none⟩, ⟨.tmp 6, .v (.int .i64 n), none, none⟩]) (c_pick code at_ sd n (by first | assumption | omega) (by first | assumption | omega) (by first | assumption | omega) (by first | assumption | omega) (by first | assumption | omega)) rfl rfl rfl rfl rfl trivial (by kernel_rfl) rfl rfl (gives_cons (give_lendLv rfl rfl rfl) (gives_cons (gC rfl rfl) gives_nil)) rfl (fun _ _ _ => .inl rfl) ?_
  rintro _ _ ⟨x_1, at2_1, sd2_1, rfl, rfl, hx_1, ha_1, hs_1⟩
  refine vpOps_pure (x := .v (.bool (decide (x_1 = 0)))) (pure_bin rfl rfl rfl rfl) rfl rfl rfl rfl ?_
  refine vpOps_pure (x := .v (.bool (decide (x_1 = 0)))) (pAs rfl rfl rfl) rfl rfl rfl rfl ?_
  refine vpOps_nil ?_
  refine vp_ret ?_
  exact ⟨[.v (.bool (decide (x_1 = 0)))], [4], (.cons (.tmp rfl rfl) .nil), rfl, ⟨decide (x_1 = 0), at2_1, sd2_1, (show (.v (.bool (decide (x_1 = 0))) : PV) = .v (.bool ((decide (x_1 = 0)))) from rfl), rfl, (by omega), (by first | assumption | omega)⟩⟩

end Go.Vr
/- Walks of the functions that the law reaches: what each gives, by value. -/
namespace Go.Vr
open Go Go.Proofs
set_option linter.unusedVariables false
set_option linter.unusedSimpArgs false
set_option maxRecDepth 8000

/-- spec.l01Power -/
theorem c_sPower {G : World → Prop} (b : Nat) (n : Int) (hb : 1 ≤ b) (hn : 0 ≤ n ∧ n ≤ 100) (hp : b ^ n.toNat ≤ 9223372036854775807) : CallsV Tryd.prog G 57 [.v (.int .i64 ((b : Nat) : Int)), .v (.int .i64 n)] (fun r outs => r = .v (.int .i64 ((((b ^ n.toNat) : Nat) : Int))) ∧ outs = [.junk, .junk]) := by
  refine callsV_enter [] Tryd.func57 rfl rfl rfl ?_
  refine vp_seq ?_
  refine vp_region ?_
  refine vpOps_pure (x := .v (.int .i64 0)) (pAs rfl rfl rfl) rfl rfl rfl rfl ?_
  refine vpOps_nil ?_
  refine vp_seq ?_
  refine vp_region ?_
  refine vpOps_pure (x := .v (.int .i64 1)) (pAs rfl rfl rfl) rfl rfl rfl rfl ?_
  refine vpOps_nil ?_
  refine vp_seq ?_
  refine vp_seq ?_
  refine vp_region ?_
  refine vpOps_pure (x := .v (.int .i64 0)) (pAs rfl rfl rfl) rfl rfl rfl rfl ?_
  refine vpOps_nil ?_
  refine vp_block ?_
  refine vLoop (α := Nat) (fun k => n.toNat - k) (fun k => (k ≤ n.toNat) ∧ True) (fun k => [(0, .v (.int .i64 ((b : Nat) : Int))), (1, .v (.int .i64 n)), (4, .v (.int .i64 0)), (5, .v (.int .i64 ((((b ^ k) : Nat) : Int)))), (6, .v (.int .i64 ((k : Nat) : Int)))]) (fun _ => rfl) (fun _ => rfl) 0 ⟨(by omega), trivial⟩ ⟨rfl, rfl, rfl, (show (.v (.int .i64 1) : PV) = .v (.int .i64 ((((b ^ 0) : Nat) : Int))) from by simp), rfl, trivial⟩ ?_
  rintro k ⟨hk, -⟩
  refine vp_seq ?_
  refine vp_seq ?_
  refine vp_region ?_
  refine vpOps_pure (x := .v (.int .i64 ((k : Nat) : Int))) (pMv rfl rfl rfl) rfl rfl rfl rfl ?_
  refine vpOps_pure (x := .v (.int .i64 n)) (pMv rfl rfl rfl) rfl rfl rfl rfl ?_
  refine vpOps_pure (x := .v (.bool (decide (((k : Nat) : Int) < n)))) (pure_bin rfl rfl rfl rfl) rfl rfl rfl rfl ?_
  refine vpOps_nil ?_
  refine vIf rfl (fun h1 => ?_) (fun h1 => ?_)
  · skip
    refine vp_skip ?_
    refine vp_seq ?_
    refine vp_block ?_
    refine vp_region ?_
    refine vpOps_pure (x := .v (.int .i64 ((((b ^ k) : Nat) : Int)))) (pMv rfl rfl rfl) rfl rfl rfl rfl ?_
    refine vpOps_pure (x := .v (.int .i64 ((b : Nat) : Int))) (pMv rfl rfl rfl) rfl rfl rfl rfl ?_
    have hpk := pow_mul_le hb (show k + 1 ≤ n.toNat by omega) hp
    refine vpOps_pure (x := .v (.int .i64 (((((b ^ k) : Nat) : Int)) * ((b : Nat) : Int)))) (pure_mul rfl rfl rfl (in64 (by omega) (by omega))) rfl rfl rfl rfl ?_
    refine vpOps_pure (x := .v (.int .i64 (((((b ^ k) : Nat) : Int)) * ((b : Nat) : Int)))) (pAs rfl rfl rfl) rfl rfl rfl rfl ?_
    refine vpOps_nil ?_
    refine vp_region ?_
    refine vpOps_pure (x := .v (.int .i64 ((k : Nat) : Int))) (pMv rfl rfl rfl) rfl rfl rfl rfl ?_
    refine vpOps_pure (x := .v (.int .i64 (((k : Nat) : Int) + 1))) (pure_add rfl rfl rfl (in64 (by omega) (by omega))) rfl rfl rfl rfl ?_
    refine vpOps_pure (x := .v (.int .i64 (((k : Nat) : Int) + 1))) (pAs rfl rfl rfl) rfl rfl rfl rfl ?_
    refine vpOps_nil ?_
    exact ⟨k + 1, (by first | omega | (dsimp only; omega)), ⟨(by omega), trivial⟩, ⟨rfl, rfl, rfl, (show (.v (.int .i64 (((((b ^ k) : Nat) : Int)) * ((b : Nat) : Int))) : PV) = .v (.int .i64 ((((b ^ (k + 1)) : Nat) : Int))) from by rw [Nat.pow_succ]; simp), rfl, trivial⟩⟩
  · skip
    refine vp_exit ?_
    refine vp_seq ?_
    refine vp_region ?_
    refine vpOps_pure (x := .v (.int .i64 ((((b ^ k) : Nat) : Int)))) (pMv rfl rfl rfl) rfl rfl rfl rfl ?_
    refine vpOps_pure (x := .v (.int .i64 ((((b ^ k) : Nat) : Int)))) (pAs rfl rfl rfl) rfl rfl rfl rfl ?_
    refine vpOps_nil ?_
    refine vp_ret ?_
    exact ⟨[.v (.int .i64 ((((b ^ k) : Nat) : Int)))], [4], (.cons (.tmp rfl rfl) .nil), rfl, ⟨(show (.v (.int .i64 ((((b ^ k) : Nat) : Int))) : PV) = .v (.int .i64 ((((b ^ n.toNat) : Nat) : Int))) from (by rw [show k = n.toNat by omega])), rfl⟩⟩

/-- spec.l01Most -/
theorem c_sMost {G : World → Prop} (f : Field) (hf : fieldOk f) : CallsV Tryd.prog G 40 [.rbox [.v (.string f.name), .v (.int .i8 f.kind), .v (.int .i16 f.start), .v (.int .i16 f.size)]] (fun r outs => r = .v (.int .i64 (mostF f)) ∧ outs = [.junk]) := by
  refine callsV_enter [] Tryd.func40 rfl rfl rfl ?_
  have hk := fieldOk_kind hf
  have hn := fieldOk_num hf
  have hm := mostF_pow hf
  refine vp_seq ?_
  refine vp_region ?_
  refine vpOps_pure (x := .v (.int .i64 0)) (pAs rfl rfl rfl) rfl rfl rfl rfl ?_
  refine vpOps_nil ?_
  refine vp_seq ?_
  refine vp_seq ?_
  refine vp_region ?_
  refine vpOps_pure (x := .rbox [.v (.string f.name), .v (.int .i8 f.kind), .v (.int .i16 f.start), .v (.int .i16 f.size)]) (pMv rfl rfl rfl) rfl rfl rfl rfl ?_
  refine vpOps_pure (x := .rbox [.v (.string f.name), .v (.int .i8 f.kind), .v (.int .i16 f.start), .v (.int .i16 f.size)]) (pure_nil_flat rfl rfl) rfl rfl rfl rfl ?_
  refine vpOps_pure (x := .rbox [.v (.int .i8 f.kind), .v (.int .i16 f.start), .v (.int .i16 f.size)]) (pure_field_rbox rfl rfl rfl rfl) rfl rfl rfl rfl ?_
  refine vpOps_pure (x := .v (.int .i8 f.kind)) (pure_load_rbox rfl rfl rfl) rfl rfl rfl rfl ?_
  refine vpOps_nil ?_
  refine vp_block ?_
  refine vp_seq ?_
  refine vp_region ?_
  refine vpOps_pure (x := .v (.bool (decide (f.kind = 0)))) (pure_bin rfl rfl rfl rfl) rfl rfl rfl rfl ?_
  refine vpOps_pure (x := .v (.bool (decide (f.kind = 0)))) (pAs rfl rfl rfl) rfl rfl rfl rfl ?_
  refine vpOps_nil ?_
  refine vIf rfl (fun h1 => ?_) (fun h1 => ?_)
  · skip
    refine vp_seq ?_
    refine vp_region ?_
    refine vpOps_pure (x := .rbox [.v (.string f.name), .v (.int .i8 f.kind), .v (.int .i16 f.start), .v (.int .i16 f.size)]) (pMv rfl rfl rfl) rfl rfl rfl rfl ?_
    refine vpOps_pure (x := .rbox [.v (.string f.name), .v (.int .i8 f.kind), .v (.int .i16 f.start), .v (.int .i16 f.size)]) (pure_nil_flat rfl rfl) rfl rfl rfl rfl ?_
    refine vpOps_pure (x := .rbox [.v (.int .i16 f.size)]) (pure_field_rbox rfl rfl rfl rfl) rfl rfl rfl rfl ?_
    refine vpOps_pure (x := .v (.int .i16 f.size)) (pure_load_rbox rfl rfl rfl) rfl rfl rfl rfl ?_
    refine vpOps_pure (x := .v (.int .i64 f.size)) (pure_conv_in rfl rfl (in64 (by omega) (by omega))) rfl rfl rfl rfl ?_
    refine vpOps_pure (x := .v (.int .i64 (f.size - 1))) (pure_sub rfl rfl rfl (in64 (by omega) (by omega))) rfl rfl rfl rfl ?_
    refine vpOps_pure (x := .v (.int .i64 (f.size - 1))) (pAs rfl rfl rfl) rfl rfl rfl rfl ?_
    refine vpOps_nil ?_
    refine vp_ret ?_
    exact ⟨[.v (.int .i64 (f.size - 1))], [2], (.cons (.tmp rfl rfl) .nil), rfl, ⟨(show (.v (.int .i64 (f.size - 1)) : PV) = .v (.int .i64 (mostF f)) from (by unfold mostF; simp [*])), rfl⟩⟩
  · skip
    refine vp_seq ?_
    refine vp_region ?_
    refine vpOps_pure (x := .v (.bool (decide (f.kind = 3)))) (pure_bin rfl rfl rfl rfl) rfl rfl rfl rfl ?_
    refine vpOps_pure (x := .v (.bool (decide (f.kind = 3)))) (pAs rfl rfl rfl) rfl rfl rfl rfl ?_
    refine vpOps_nil ?_
    refine vIf rfl (fun h2 => ?_) (fun h2 => ?_)
    · skip
      refine vp_seq ?_
      refine vp_region ?_
      refine vpOps_pure (x := .rbox [.v (.string f.name), .v (.int .i8 f.kind), .v (.int .i16 f.start), .v (.int .i16 f.size)]) (pMv rfl rfl rfl) rfl rfl rfl rfl ?_
      refine vpOps_pure (x := .rbox [.v (.string f.name), .v (.int .i8 f.kind), .v (.int .i16 f.start), .v (.int .i16 f.size)]) (pure_nil_flat rfl rfl) rfl rfl rfl rfl ?_
      refine vpOps_pure (x := .rbox [.v (.int .i16 f.size)]) (pure_field_rbox rfl rfl rfl rfl) rfl rfl rfl rfl ?_
      refine vpOps_pure (x := .v (.int .i16 f.size)) (pure_load_rbox rfl rfl rfl) rfl rfl rfl rfl ?_
      refine vpOps_pure (x := .v (.int .i64 f.size)) (pure_conv_in rfl rfl (in64 (by omega) (by omega))) rfl rfl rfl rfl ?_
      refine vpOps_call (gs := [⟨.const (.int .i64 2), .v (.int .i64 2), none, none⟩, ⟨.tmp 21, .v (.int .i64 f.size), none, none⟩]) (c_sPower 2 f.size (by first | assumption | omega | exact powB (n := f.size) (by omega) | exact powB2 (n := f.size) (by omega)) (by first | assumption | omega | exact powB (n := f.size) (by omega) | exact powB2 (n := f.size) (by omega)) (by first | assumption | omega | exact powB (n := f.size) (by omega) | exact powB2 (n := f.size) (by omega))) rfl rfl rfl rfl rfl trivial (by kernel_rfl) rfl rfl (gives_cons (gC rfl rfl) (gives_cons (gC rfl rfl) gives_nil)) rfl (fun _ _ _ => .inl rfl) ?_
      rintro _ _ ⟨rfl, rfl⟩
      refine vpOps_pure (x := .v (.int .i64 (((((2 ^ f.size.toNat) : Nat) : Int)) - 1))) (pure_sub rfl rfl rfl (in64 (by omega) (by omega))) rfl rfl rfl rfl ?_
      refine vpOps_pure (x := .v (.int .i64 (((((2 ^ f.size.toNat) : Nat) : Int)) - 1))) (pAs rfl rfl rfl) rfl rfl rfl rfl ?_
      refine vpOps_nil ?_
      refine vp_ret ?_
      exact ⟨[.v (.int .i64 (((((2 ^ f.size.toNat) : Nat) : Int)) - 1))], [2], (.cons (.tmp rfl rfl) .nil), rfl, ⟨(show (.v (.int .i64 (((((2 ^ f.size.toNat) : Nat) : Int)) - 1)) : PV) = .v (.int .i64 (mostF f)) from (by unfold mostF; simp [*])), rfl⟩⟩
    · skip
      refine vp_skip ?_
      refine vp_seq ?_
      refine vp_region ?_
      refine vpOps_pure (x := .rbox [.v (.string f.name), .v (.int .i8 f.kind), .v (.int .i16 f.start), .v (.int .i16 f.size)]) (pMv rfl rfl rfl) rfl rfl rfl rfl ?_
      refine vpOps_pure (x := .rbox [.v (.string f.name), .v (.int .i8 f.kind), .v (.int .i16 f.start), .v (.int .i16 f.size)]) (pure_nil_flat rfl rfl) rfl rfl rfl rfl ?_
      refine vpOps_pure (x := .rbox [.v (.int .i16 f.size)]) (pure_field_rbox rfl rfl rfl rfl) rfl rfl rfl rfl ?_
      refine vpOps_pure (x := .v (.int .i16 f.size)) (pure_load_rbox rfl rfl rfl) rfl rfl rfl rfl ?_
      refine vpOps_pure (x := .v (.int .i64 f.size)) (pure_conv_in rfl rfl (in64 (by omega) (by omega))) rfl rfl rfl rfl ?_
      refine vpOps_call (gs := [⟨.const (.int .i64 10), .v (.int .i64 10), none, none⟩, ⟨.tmp 28, .v (.int .i64 f.size), none, none⟩]) (c_sPower 10 f.size (by first | assumption | omega | exact powB (n := f.size) (by omega) | exact powB2 (n := f.size) (by omega)) (by first | assumption | omega | exact powB (n := f.size) (by omega) | exact powB2 (n := f.size) (by omega)) (by first | assumption | omega | exact powB (n := f.size) (by omega) | exact powB2 (n := f.size) (by omega))) rfl rfl rfl rfl rfl trivial (by kernel_rfl) rfl rfl (gives_cons (gC rfl rfl) (gives_cons (gC rfl rfl) gives_nil)) rfl (fun _ _ _ => .inl rfl) ?_
      rintro _ _ ⟨rfl, rfl⟩
      refine vpOps_pure (x := .v (.int .i64 (((((10 ^ f.size.toNat) : Nat) : Int)) - 1))) (pure_sub rfl rfl rfl (in64 (by omega) (by omega))) rfl rfl rfl rfl ?_
      refine vpOps_pure (x := .v (.int .i64 (((((10 ^ f.size.toNat) : Nat) : Int)) - 1))) (pAs rfl rfl rfl) rfl rfl rfl rfl ?_
      refine vpOps_nil ?_
      refine vp_ret ?_
      exact ⟨[.v (.int .i64 (((((10 ^ f.size.toNat) : Nat) : Int)) - 1))], [2], (.cons (.tmp rfl rfl) .nil), rfl, ⟨(show (.v (.int .i64 (((((10 ^ f.size.toNat) : Nat) : Int)) - 1)) : PV) = .v (.int .i64 (mostF f)) from (by unfold mostF; simp [*])), rfl⟩⟩

/-- spec.l01Bit -/
theorem c_sBit {G : World → Prop} (h : Int) (hh : 0 ≤ h ∧ h < 128) : CallsV Tryd.prog G 41 [.v (.int .i64 h)] (fun r outs => r = .agg [.v (.int .u64 ((((bitM h.toNat).a : Nat) : Int))), .v (.int .u64 ((((bitM h.toNat).b : Nat) : Int)))] ∧ outs = [.junk]) := by
  refine callsV_enter [] Tryd.func41 rfl rfl rfl ?_
  refine vp_seq ?_
  refine vp_region ?_
  refine vpOps_pure (x := .box [.v (.int .u64 0), .v (.int .u64 0)]) (pure_alloc rfl) rfl rfl rfl rfl ?_
  refine vpOps_nil ?_
  refine vp_seq ?_
  refine vp_region ?_
  refine vpOps_pure (x := .agg [.v (.int .u64 0), .v (.int .u64 0)]) (pure_build_arr rfl (flatsB_ok rfl) rfl) rfl rfl rfl rfl ?_
  refine vpOps_pure (x := .box [.v (.int .u64 0), .v (.int .u64 0)]) (pure_alloc rfl) rfl rfl rfl rfl ?_
  refine vStB (x := .agg [.v (.int .u64 0), .v (.int .u64 0)]) (row' := [.v (.int .u64 0), .v (.int .u64 0)]) rfl rfl rfl rfl rfl rfl rfl rfl rfl rfl rfl rfl ?_
  refine vpOps_nil ?_
  refine vp_seq ?_
  refine vp_region ?_
  refine vpOps_pure (x := .v (.int .i64 h)) (pMv rfl rfl rfl) rfl rfl rfl rfl ?_
  refine vpOps_pure (x := .v (.int .i64 (h / 64))) (pQuoN rfl rfl rfl (by omega) (by decide) (in64 (by omega) (by omega))) rfl rfl rfl rfl ?_
  refine vpOps_pure (x := .v (.int .i64 h)) (pMv rfl rfl rfl) rfl rfl rfl rfl ?_
  refine vpOps_pure (x := .v (.int .i64 ((((h % 64).toNat : Nat) : Int)))) (pEqI (pRemN rfl rfl rfl (by omega) (by decide)) (by omega : (h % 64) = (((h % 64).toNat : Nat) : Int))) rfl rfl rfl rfl ?_
  refine vpOps_pure (x := .v (.int .u64 ((((h % 64).toNat : Nat) : Int)))) (pure_conv_in rfl rfl (inu64 (by omega) (by omega))) rfl rfl rfl rfl ?_
  refine vpOps_pure (x := .v (.int .u64 ((((1 * 2 ^ ((h % 64).toNat) % 18446744073709551616) : Nat) : Int)))) (pShl64 (p := 1) (s := ((h % 64).toNat)) rfl rfl rfl (by first | rfl | omega) (by omega)) rfl rfl rfl rfl ?_
  have h1_ : h / 64 = 0 ∨ h / 64 = 1 := by omega
  rcases h1_ with h1 | h1
  · skip
    refine vpOps_pure (x := .pl 3 [⟨0, 0, 0⟩]) (pIxAR (l := 0) rfl rfl rfl rfl (by first | exact h1 | omega) rfl rfl) rfl rfl rfl rfl ?_
    refine vStB (x := .v (.int .u64 ((((1 * 2 ^ ((h % 64).toNat) % 18446744073709551616) : Nat) : Int)))) (row' := [.v (.int .u64 ((((1 * 2 ^ ((h % 64).toNat) % 18446744073709551616) : Nat) : Int))), .v (.int .u64 0)]) rfl rfl rfl rfl rfl rfl rfl rfl rfl rfl rfl rfl ?_
    refine vpOps_nil ?_
    refine vp_seq ?_
    refine vp_region ?_
    refine vpOps_pure (x := .agg [.v (.int .u64 ((((1 * 2 ^ ((h % 64).toNat) % 18446744073709551616) : Nat) : Int))), .v (.int .u64 0)]) (pure_load_pl_agg rfl rfl rfl rfl rfl rfl rfl rfl (by simp [PV.flatL, PV.flat])) rfl rfl rfl rfl ?_
    refine vStB (x := .agg [.v (.int .u64 ((((1 * 2 ^ ((h % 64).toNat) % 18446744073709551616) : Nat) : Int))), .v (.int .u64 0)]) (row' := [.v (.int .u64 ((((1 * 2 ^ ((h % 64).toNat) % 18446744073709551616) : Nat) : Int))), .v (.int .u64 0)]) rfl rfl rfl rfl rfl rfl rfl rfl rfl rfl rfl rfl ?_
    refine vpOps_nil ?_
    refine vp_ret ?_
    exact ⟨[.agg [.v (.int .u64 ((((1 * 2 ^ ((h % 64).toNat) % 18446744073709551616) : Nat) : Int))), .v (.int .u64 0)]], [2], (.cons (.cellAgg rfl rfl rfl) .nil), rfl, ⟨(show (.agg [.v (.int .u64 ((((1 * 2 ^ ((h % 64).toNat) % 18446744073709551616) : Nat) : Int))), .v (.int .u64 0)] : PV) = .agg [.v (.int .u64 ((((bitM h.toNat).a : Nat) : Int))), .v (.int .u64 ((((bitM h.toNat).b : Nat) : Int)))] from (by first | (rw [bitM_lo (h := h.toNat) (by omega), show (h % 64).toNat = h.toNat by omega]; rfl) | (rw [bitM_hi (h := h.toNat) (by omega) (by omega), show (h % 64).toNat = h.toNat - 64 by omega]; rfl))), rfl⟩⟩
  · skip
    refine vpOps_pure (x := .pl 3 [⟨0, 1, 0⟩]) (pIxAR (l := 1) rfl rfl rfl rfl (by first | exact h1 | omega) rfl rfl) rfl rfl rfl rfl ?_
    refine vStB (x := .v (.int .u64 ((((1 * 2 ^ ((h % 64).toNat) % 18446744073709551616) : Nat) : Int)))) (row' := [.v (.int .u64 0), .v (.int .u64 ((((1 * 2 ^ ((h % 64).toNat) % 18446744073709551616) : Nat) : Int)))]) rfl rfl rfl rfl rfl rfl rfl rfl rfl rfl rfl rfl ?_
    refine vpOps_nil ?_
    refine vp_seq ?_
    refine vp_region ?_
    refine vpOps_pure (x := .agg [.v (.int .u64 0), .v (.int .u64 ((((1 * 2 ^ ((h % 64).toNat) % 18446744073709551616) : Nat) : Int)))]) (pure_load_pl_agg rfl rfl rfl rfl rfl rfl rfl rfl (by simp [PV.flatL, PV.flat])) rfl rfl rfl rfl ?_
    refine vStB (x := .agg [.v (.int .u64 0), .v (.int .u64 ((((1 * 2 ^ ((h % 64).toNat) % 18446744073709551616) : Nat) : Int)))]) (row' := [.v (.int .u64 0), .v (.int .u64 ((((1 * 2 ^ ((h % 64).toNat) % 18446744073709551616) : Nat) : Int)))]) rfl rfl rfl rfl rfl rfl rfl rfl rfl rfl rfl rfl ?_
    refine vpOps_nil ?_
    refine vp_ret ?_
    exact ⟨[.agg [.v (.int .u64 0), .v (.int .u64 ((((1 * 2 ^ ((h % 64).toNat) % 18446744073709551616) : Nat) : Int)))]], [2], (.cons (.cellAgg rfl rfl rfl) .nil), rfl, ⟨(show (.agg [.v (.int .u64 0), .v (.int .u64 ((((1 * 2 ^ ((h % 64).toNat) % 18446744073709551616) : Nat) : Int)))] : PV) = .agg [.v (.int .u64 ((((bitM h.toNat).a : Nat) : Int))), .v (.int .u64 ((((bitM h.toNat).b : Nat) : Int)))] from (by first | (rw [bitM_lo (h := h.toNat) (by omega), show (h % 64).toNat = h.toNat by omega]; rfl) | (rw [bitM_hi (h := h.toNat) (by omega) (by omega), show (h % 64).toNat = h.toNat - 64 by omega]; rfl))), rfl⟩⟩

/-- spec.l01Join -/
theorem c_sJoin {G : World → Prop} (m : Mask) (n : Mask) (hm : m.wf) (hn : n.wf) : CallsV Tryd.prog G 38 [.agg [.v (.int .u64 ((m.a : Nat) : Int)), .v (.int .u64 ((m.b : Nat) : Int))], .agg [.v (.int .u64 ((n.a : Nat) : Int)), .v (.int .u64 ((n.b : Nat) : Int))]] (fun r outs => r = .agg [.v (.int .u64 ((((joinM m n).a : Nat) : Int))), .v (.int .u64 ((((joinM m n).b : Nat) : Int)))] ∧ outs = [.junk, .junk]) := by
  refine callsV_enter [] Tryd.func38 rfl rfl rfl ?_
  have hma := hm.a
  have hmb := hm.b
  have hna := hn.a
  have hnb := hn.b
  refine vp_seq ?_
  refine vp_region ?_
  refine vpOps_pure (x := .box [.v (.int .u64 ((m.a : Nat) : Int)), .v (.int .u64 ((m.b : Nat) : Int))]) (pure_box rfl rfl (mvOk_flat _ rfl) rfl rfl) rfl rfl rfl rfl ?_
  refine vpOps_pure (x := .box [.v (.int .u64 ((n.a : Nat) : Int)), .v (.int .u64 ((n.b : Nat) : Int))]) (pure_box rfl rfl (mvOk_flat _ rfl) rfl rfl) rfl rfl rfl rfl ?_
  refine vpOps_pure (x := .box [.v (.int .u64 0), .v (.int .u64 0)]) (pure_alloc rfl) rfl rfl rfl rfl ?_
  refine vpOps_nil ?_
  refine vp_seq ?_
  refine vp_region ?_
  refine vpOps_pure (x := .pl 2 [⟨0, 0, 0⟩]) (pIxAR (l := 0) rfl rfl rfl rfl rfl rfl rfl) rfl rfl rfl rfl ?_
  refine vpOps_pure (x := .v (.int .u64 ((m.a : Nat) : Int))) (pure_load_pl rfl rfl rfl rfl rfl rfl rfl trivial rfl) rfl rfl rfl rfl ?_
  refine vpOps_pure (x := .pl 3 [⟨0, 0, 0⟩]) (pIxAR (l := 0) rfl rfl rfl rfl rfl rfl rfl) rfl rfl rfl rfl ?_
  refine vpOps_pure (x := .v (.int .u64 ((n.a : Nat) : Int))) (pure_load_pl rfl rfl rfl rfl rfl rfl rfl trivial rfl) rfl rfl rfl rfl ?_
  refine vpOps_pure (x := .v (.int .u64 ((((m.a ||| n.a) : Nat) : Int)))) (pOr64 (p := m.a) (q := n.a) rfl rfl rfl (by omega) (by omega)) rfl rfl rfl rfl ?_
  refine vpOps_pure (x := .pl 2 [⟨0, 1, 0⟩]) (pIxAR (l := 1) rfl rfl rfl rfl rfl rfl rfl) rfl rfl rfl rfl ?_
  refine vpOps_pure (x := .v (.int .u64 ((m.b : Nat) : Int))) (pure_load_pl rfl rfl rfl rfl rfl rfl rfl trivial rfl) rfl rfl rfl rfl ?_
  refine vpOps_pure (x := .pl 3 [⟨0, 1, 0⟩]) (pIxAR (l := 1) rfl rfl rfl rfl rfl rfl rfl) rfl rfl rfl rfl ?_
  refine vpOps_pure (x := .v (.int .u64 ((n.b : Nat) : Int))) (pure_load_pl rfl rfl rfl rfl rfl rfl rfl trivial rfl) rfl rfl rfl rfl ?_
  refine vpOps_pure (x := .v (.int .u64 ((((m.b ||| n.b) : Nat) : Int)))) (pOr64 (p := m.b) (q := n.b) rfl rfl rfl (by omega) (by omega)) rfl rfl rfl rfl ?_
  refine vpOps_pure (x := .agg [.v (.int .u64 ((((m.a ||| n.a) : Nat) : Int))), .v (.int .u64 ((((m.b ||| n.b) : Nat) : Int)))]) (pure_build_arr rfl (flatsB_ok rfl) rfl) rfl rfl rfl rfl ?_
  refine vStB (x := .agg [.v (.int .u64 ((((m.a ||| n.a) : Nat) : Int))), .v (.int .u64 ((((m.b ||| n.b) : Nat) : Int)))]) (row' := [.v (.int .u64 ((((m.a ||| n.a) : Nat) : Int))), .v (.int .u64 ((((m.b ||| n.b) : Nat) : Int)))]) rfl rfl rfl rfl rfl rfl rfl rfl rfl rfl rfl rfl ?_
  refine vpOps_nil ?_
  refine vp_ret ?_
  exact ⟨[.agg [.v (.int .u64 ((((m.a ||| n.a) : Nat) : Int))), .v (.int .u64 ((((m.b ||| n.b) : Nat) : Int)))]], [4], (.cons (.cellAgg rfl rfl rfl) .nil), rfl, ⟨(show (.agg [.v (.int .u64 ((((m.a ||| n.a) : Nat) : Int))), .v (.int .u64 ((((m.b ||| n.b) : Nat) : Int)))] : PV) = .agg [.v (.int .u64 ((((joinM m n).a : Nat) : Int))), .v (.int .u64 ((((joinM m n).b : Nat) : Int)))] from (by rfl)), rfl⟩⟩

/-- spec.l01Notch -/
theorem c_sNotch {G : World → Prop} (m : Mask) (start : Int) (holes : Int) (bits : Int) (hm : m.ok) (hs : 0 ≤ start) (hh : 0 ≤ holes ∧ holes ≤ 12) (hsh : start + holes ≤ 96) (hb : 0 ≤ bits ∧ bits ≤ 1099511627776) : CallsV Tryd.prog G 53 [.agg [.v (.int .u64 ((m.a : Nat) : Int)), .v (.int .u64 ((m.b : Nat) : Int))], .v (.int .i64 start), .v (.int .i64 holes), .v (.int .i64 bits)] (fun r outs => r = .agg [.v (.int .u64 ((((notchTo m start holes bits holes.toNat).a : Nat) : Int))), .v (.int .u64 ((((notchTo m start holes bits holes.toNat).b : Nat) : Int)))] ∧ outs = [.junk, .junk, .junk, .junk]) := by
  refine callsV_enter [] Tryd.func53 rfl rfl rfl ?_
  refine vp_seq ?_
  refine vp_region ?_
  refine vpOps_pure (x := .box [.v (.int .u64 ((m.a : Nat) : Int)), .v (.int .u64 ((m.b : Nat) : Int))]) (pure_box rfl rfl (mvOk_flat _ rfl) rfl rfl) rfl rfl rfl rfl ?_
  refine vpOps_pure (x := .box [.v (.int .u64 0), .v (.int .u64 0)]) (pure_alloc rfl) rfl rfl rfl rfl ?_
  refine vpOps_nil ?_
  refine vp_seq ?_
  refine vp_seq ?_
  refine vp_region ?_
  refine vpOps_pure (x := .v (.int .i64 0)) (pAs rfl rfl rfl) rfl rfl rfl rfl ?_
  refine vpOps_nil ?_
  refine vp_block ?_
  refine vLoop (α := Nat) (fun k => holes.toNat - k) (fun k => (k ≤ holes.toNat) ∧ True) (fun k => [(0, .agg [.v (.int .u64 ((m.a : Nat) : Int)), .v (.int .u64 ((m.b : Nat) : Int))]), (1, .v (.int .i64 start)), (2, .v (.int .i64 holes)), (3, .v (.int .i64 bits)), (4, .box [.v (.int .u64 ((((notchTo m start holes bits k).a : Nat) : Int))), .v (.int .u64 ((((notchTo m start holes bits k).b : Nat) : Int)))]), (8, .box [.v (.int .u64 0), .v (.int .u64 0)]), (9, .v (.int .i64 ((k : Nat) : Int)))]) (fun _ => rfl) (fun _ => rfl) 0 ⟨(by omega), trivial⟩ ⟨rfl, rfl, rfl, rfl, (show (.box [.v (.int .u64 ((m.a : Nat) : Int)), .v (.int .u64 ((m.b : Nat) : Int))] : PV) = .box [.v (.int .u64 ((((notchTo m start holes bits 0).a : Nat) : Int))), .v (.int .u64 ((((notchTo m start holes bits 0).b : Nat) : Int)))] from by rfl), rfl, rfl, trivial⟩ ?_
  rintro k ⟨hk, -⟩
  have hok := notchTo_ok (holes := holes) (bits := bits) hm hs k (by omega)
  have hwf := hok.wf
  refine vp_seq ?_
  refine vp_seq ?_
  refine vp_region ?_
  refine vpOps_pure (x := .v (.int .i64 ((k : Nat) : Int))) (pMv rfl rfl rfl) rfl rfl rfl rfl ?_
  refine vpOps_pure (x := .v (.int .i64 holes)) (pMv rfl rfl rfl) rfl rfl rfl rfl ?_
  refine vpOps_pure (x := .v (.bool (decide (((k : Nat) : Int) < holes)))) (pure_bin rfl rfl rfl rfl) rfl rfl rfl rfl ?_
  refine vpOps_nil ?_
  refine vIf rfl (fun h1 => ?_) (fun h1 => ?_)
  · skip
    refine vp_skip ?_
    refine vp_seq ?_
    refine vp_block ?_
    refine vp_seq ?_
    refine vp_region ?_
    refine vpOps_pure (x := .v (.int .i64 bits)) (pMv rfl rfl rfl) rfl rfl rfl rfl ?_
    refine vpOps_pure (x := .v (.int .i64 holes)) (pMv rfl rfl rfl) rfl rfl rfl rfl ?_
    refine vpOps_pure (x := .v (.int .i64 (holes - 1))) (pure_sub rfl rfl rfl (in64 (by omega) (by omega))) rfl rfl rfl rfl ?_
    refine vpOps_pure (x := .v (.int .i64 ((k : Nat) : Int))) (pMv rfl rfl rfl) rfl rfl rfl rfl ?_
    refine vpOps_pure (x := .v (.int .i64 ((holes - 1) - ((k : Nat) : Int)))) (pure_sub rfl rfl rfl (in64 (by omega) (by omega))) rfl rfl rfl rfl ?_
    refine vpOps_call (gs := [⟨.const (.int .i64 2), .v (.int .i64 2), none, none⟩, ⟨.tmp 19, .v (.int .i64 ((holes - 1) - ((k : Nat) : Int))), none, none⟩]) (c_sPower 2 ((holes - 1) - ((k : Nat) : Int)) (by first | assumption | omega | exact powB2 (by omega) | exact (bitM_ok (by omega)).wf) (by first | assumption | omega | exact powB2 (by omega) | exact (bitM_ok (by omega)).wf) (by first | assumption | omega | exact powB2 (by omega) | exact (bitM_ok (by omega)).wf)) rfl rfl rfl rfl rfl trivial (by kernel_rfl) rfl rfl (gives_cons (gC rfl rfl) (gives_cons (gC rfl rfl) gives_nil)) rfl (fun _ _ _ => .inl rfl) ?_
    rintro _ _ ⟨rfl, rfl⟩
    have hpp := pow2_pos (holes - 1 - ↑k).toNat
    have hdv := ediv_le hb.1 (show (0 : Int) < ((2 ^ (holes - 1 - (k : Int)).toNat : Nat) : Int) by omega)
    refine vpOps_pure (x := .v (.int .i64 (bits / ((((2 ^ ((holes - 1) - ((k : Nat) : Int)).toNat) : Nat) : Int))))) (pQuoP rfl rfl rfl (by omega) (by omega) (in64 (by omega) (by omega)).2) rfl rfl rfl rfl ?_
    refine vpOps_pure (x := .v (.int .i64 ((bits / ((((2 ^ ((holes - 1) - ((k : Nat) : Int)).toNat) : Nat) : Int))) % 2))) (pRemN rfl rfl rfl (by omega) (by decide)) rfl rfl rfl rfl ?_
    refine vpOps_pure (x := .v (.bool (decide (((bits / ((((2 ^ ((holes - 1) - ((k : Nat) : Int)).toNat) : Nat) : Int))) % 2) = 1)))) (pure_bin rfl rfl rfl rfl) rfl rfl rfl rfl ?_
    refine vpOps_nil ?_
    refine vIf rfl (fun h2 => ?_) (fun h2 => ?_)
    · skip
      refine vRegD 6 ((24, .agg [.v (.int .u64 ((((notchTo m start holes bits k).a : Nat) : Int))), .v (.int .u64 ((((notchTo m start holes bits k).b : Nat) : Int)))]) :: (25, .v (.int .i64 start)) :: (26, .v (.int .i64 ((k : Nat) : Int))) :: (27, .v (.int .i64 (start + ((k : Nat) : Int)))) :: (28, .agg [.v (.int .u64 ((((bitM (start + ((k : Nat) : Int)).toNat).a : Nat) : Int))), .v (.int .u64 ((((bitM (start + ((k : Nat) : Int)).toNat).b : Nat) : Int)))]) :: (29, .agg [.v (.int .u64 ((((joinM (notchTo m start holes bits k) (bitM (start + ((k : Nat) : Int)).toNat)).a : Nat) : Int))), .v (.int .u64 ((((joinM (notchTo m start holes bits k) (bitM (start + ((k : Nat) : Int)).toNat)).b : Nat) : Int)))]) :: []) (0 :: 0 :: 0 :: 6 :: 14 :: 31 :: 63 :: []) (by kernel_rfl) rfl (by kernel_rfl) (by kernel_rfl) (by kernel_rfl) (by kernel_rfl) (by kernel_rfl) ⟨
          dPure rfl (pure_load_pl_agg rfl rfl rfl rfl rfl rfl rfl rfl (by simp [PV.flatL, PV.flat])),
          dPure rfl (pMv rfl rfl rfl),
          dPure rfl (pMv rfl rfl rfl),
          dPure rfl (pure_add rfl rfl rfl (in64 (by omega) (by omega))),
          dPure rfl (pure_call (gs := [⟨.tmp 27, .v (.int .i64 (start + ((k : Nat) : Int))), none, none⟩]) (c_sBit (start + ((k : Nat) : Int)) (by first | assumption | omega | exact powB2 (by omega) | exact (bitM_ok (by omega)).wf)) rfl rfl trivial (by kernel_rfl) rfl rfl (gives_cons (gC rfl rfl) gives_nil) rfl (fun _ _ h => h.1) ⟨trivial, ⟨trivial, trivial⟩⟩),
          dPure rfl (pure_call (gs := [⟨.tmp 24, .agg [.v (.int .u64 ((((notchTo m start holes bits k).a : Nat) : Int))), .v (.int .u64 ((((notchTo m start holes bits k).b : Nat) : Int)))], none, none⟩, ⟨.tmp 28, .agg [.v (.int .u64 ((((bitM (start + ((k : Nat) : Int)).toNat).a : Nat) : Int))), .v (.int .u64 ((((bitM (start + ((k : Nat) : Int)).toNat).b : Nat) : Int)))], none, none⟩]) (c_sJoin (notchTo m start holes bits k) (bitM (start + ((k : Nat) : Int)).toNat) (by first | assumption | omega | exact powB2 (by omega) | exact (bitM_ok (by omega)).wf) (by first | assumption | omega | exact powB2 (by omega) | exact (bitM_ok (by omega)).wf)) rfl rfl trivial (by kernel_rfl) rfl rfl (gives_cons (gC rfl rfl) (gives_cons (gC rfl rfl) gives_nil)) rfl (fun _ _ h => h.1) ⟨trivial, ⟨trivial, trivial⟩⟩),
          trivial⟩ ?_
      refine vStB (x := .agg [.v (.int .u64 ((((joinM (notchTo m start holes bits k) (bitM (start + ((k : Nat) : Int)).toNat)).a : Nat) : Int))), .v (.int .u64 ((((joinM (notchTo m start holes bits k) (bitM (start + ((k : Nat) : Int)).toNat)).b : Nat) : Int)))]) (row' := [.v (.int .u64 ((((joinM (notchTo m start holes bits k) (bitM (start + ((k : Nat) : Int)).toNat)).a : Nat) : Int))), .v (.int .u64 ((((joinM (notchTo m start holes bits k) (bitM (start + ((k : Nat) : Int)).toNat)).b : Nat) : Int)))]) rfl rfl rfl rfl rfl rfl rfl rfl rfl rfl rfl rfl ?_
      refine vpOps_nil ?_
      refine vp_region ?_
      refine vpOps_pure (x := .v (.int .i64 ((k : Nat) : Int))) (pMv rfl rfl rfl) rfl rfl rfl rfl ?_
      refine vpOps_pure (x := .v (.int .i64 (((k : Nat) : Int) + 1))) (pure_add rfl rfl rfl (in64 (by omega) (by omega))) rfl rfl rfl rfl ?_
      refine vpOps_pure (x := .v (.int .i64 (((k : Nat) : Int) + 1))) (pAs rfl rfl rfl) rfl rfl rfl rfl ?_
      refine vpOps_nil ?_
      exact ⟨k + 1, (by first | omega | (dsimp only; omega)), ⟨(by omega), trivial⟩, ⟨rfl, rfl, rfl, rfl, (show (.box [.v (.int .u64 ((((joinM (notchTo m start holes bits k) (bitM (start + ((k : Nat) : Int)).toNat)).a : Nat) : Int))), .v (.int .u64 ((((joinM (notchTo m start holes bits k) (bitM (start + ((k : Nat) : Int)).toNat)).b : Nat) : Int)))] : PV) = .box [.v (.int .u64 ((((notchTo m start holes bits (k + 1)).a : Nat) : Int))), .v (.int .u64 ((((notchTo m start holes bits (k + 1)).b : Nat) : Int)))] from by rw [notchTo]; first | (rw [if_pos (by assumption)]; done) | (rw [if_neg (by assumption)]; done)), rfl, rfl, trivial⟩⟩
    · skip
      refine vp_skip ?_
      refine vp_region ?_
      refine vpOps_pure (x := .v (.int .i64 ((k : Nat) : Int))) (pMv rfl rfl rfl) rfl rfl rfl rfl ?_
      refine vpOps_pure (x := .v (.int .i64 (((k : Nat) : Int) + 1))) (pure_add rfl rfl rfl (in64 (by omega) (by omega))) rfl rfl rfl rfl ?_
      refine vpOps_pure (x := .v (.int .i64 (((k : Nat) : Int) + 1))) (pAs rfl rfl rfl) rfl rfl rfl rfl ?_
      refine vpOps_nil ?_
      exact ⟨k + 1, (by first | omega | (dsimp only; omega)), ⟨(by omega), trivial⟩, ⟨rfl, rfl, rfl, rfl, (show (.box [.v (.int .u64 ((((notchTo m start holes bits k).a : Nat) : Int))), .v (.int .u64 ((((notchTo m start holes bits k).b : Nat) : Int)))] : PV) = .box [.v (.int .u64 ((((notchTo m start holes bits (k + 1)).a : Nat) : Int))), .v (.int .u64 ((((notchTo m start holes bits (k + 1)).b : Nat) : Int)))] from by rw [notchTo]; first | (rw [if_pos (by assumption)]; done) | (rw [if_neg (by assumption)]; done)), rfl, rfl, trivial⟩⟩
  · skip
    refine vp_exit ?_
    refine vp_seq ?_
    refine vp_region ?_
    refine vpOps_pure (x := .agg [.v (.int .u64 ((((notchTo m start holes bits k).a : Nat) : Int))), .v (.int .u64 ((((notchTo m start holes bits k).b : Nat) : Int)))]) (pure_load_pl_agg rfl rfl rfl rfl rfl rfl rfl rfl (by simp [PV.flatL, PV.flat])) rfl rfl rfl rfl ?_
    refine vStB (x := .agg [.v (.int .u64 ((((notchTo m start holes bits k).a : Nat) : Int))), .v (.int .u64 ((((notchTo m start holes bits k).b : Nat) : Int)))]) (row' := [.v (.int .u64 ((((notchTo m start holes bits k).a : Nat) : Int))), .v (.int .u64 ((((notchTo m start holes bits k).b : Nat) : Int)))]) rfl rfl rfl rfl rfl rfl rfl rfl rfl rfl rfl rfl ?_
    refine vpOps_nil ?_
    refine vp_ret ?_
    exact ⟨[.agg [.v (.int .u64 ((((notchTo m start holes bits k).a : Nat) : Int))), .v (.int .u64 ((((notchTo m start holes bits k).b : Nat) : Int)))]], [8], (.cons (.cellAgg rfl rfl rfl) .nil), rfl, ⟨(show (.agg [.v (.int .u64 ((((notchTo m start holes bits k).a : Nat) : Int))), .v (.int .u64 ((((notchTo m start holes bits k).b : Nat) : Int)))] : PV) = .agg [.v (.int .u64 ((((notchTo m start holes bits holes.toNat).a : Nat) : Int))), .v (.int .u64 ((((notchTo m start holes bits holes.toNat).b : Nat) : Int)))] from (by rw [show k = holes.toNat by omega])), rfl⟩⟩

/-- spec.CountHoles -/
theorem c_sCount {G : World → Prop} (m : Mask) (hm : m.wf) : CallsV Tryd.prog G 54 [.agg [.v (.int .u64 ((m.a : Nat) : Int)), .v (.int .u64 ((m.b : Nat) : Int))]] (fun r outs => r = .v (.int .i64 ((((countM m) : Nat) : Int))) ∧ outs = [.junk]) := by
  refine callsV_enter [] Tryd.func54 rfl rfl rfl ?_
  have hma := hm.a
  have hmb := hm.b
  have hcl := countM_le hm
  have hpa := popN_lt 64 m.a hm.a
  refine vp_seq ?_
  refine vp_region ?_
  refine vpOps_pure (x := .box [.v (.int .u64 ((m.a : Nat) : Int)), .v (.int .u64 ((m.b : Nat) : Int))]) (pure_box rfl rfl (mvOk_flat _ rfl) rfl rfl) rfl rfl rfl rfl ?_
  refine vpOps_pure (x := .v (.int .i64 0)) (pAs rfl rfl rfl) rfl rfl rfl rfl ?_
  refine vpOps_nil ?_
  refine vp_seq ?_
  refine vp_region ?_
  refine vpOps_pure (x := .v (.int .i64 0)) (pAs rfl rfl rfl) rfl rfl rfl rfl ?_
  refine vpOps_nil ?_
  refine vp_seq ?_
  refine vp_seq ?_
  refine vp_region ?_
  refine vpOps_pure (x := .v (.int .i64 0)) (pAs rfl rfl rfl) rfl rfl rfl rfl ?_
  refine vpOps_nil ?_
  refine vp_block ?_
  refine vLoop (α := Nat) (fun i => 2 - i) (fun i => (i ≤ 2) ∧ True) (fun i => [(0, .agg [.v (.int .u64 ((m.a : Nat) : Int)), .v (.int .u64 ((m.b : Nat) : Int))]), (1, .box [.v (.int .u64 ((m.a : Nat) : Int)), .v (.int .u64 ((m.b : Nat) : Int))]), (2, .v (.int .i64 0)), (3, .v (.int .i64 ((((cntTo m i) : Nat) : Int)))), (4, .v (.int .i64 ((i : Nat) : Int)))]) (fun _ => rfl) (fun _ => rfl) 0 ⟨(by omega), trivial⟩ ⟨rfl, rfl, rfl, (show (.v (.int .i64 0) : PV) = .v (.int .i64 ((((cntTo m 0) : Nat) : Int))) from by rfl), rfl, trivial⟩ ?_
  rintro i ⟨hi, -⟩
  refine vp_seq ?_
  refine vp_seq ?_
  refine vp_region ?_
  refine vpOps_pure (x := .v (.int .i64 ((i : Nat) : Int))) (pMv rfl rfl rfl) rfl rfl rfl rfl ?_
  refine vpOps_pure (x := .v (.bool (decide (((i : Nat) : Int) < 2)))) (pure_bin rfl rfl rfl rfl) rfl rfl rfl rfl ?_
  refine vpOps_nil ?_
  refine vIf rfl (fun h1 => ?_) (fun h1 => ?_)
  · skip
    refine vp_skip ?_
    refine vp_seq ?_
    refine vp_block ?_
    refine vp_seq ?_
    refine vp_region ?_
    refine vpOps_pure (x := .v (.int .i64 ((i : Nat) : Int))) (pMv rfl rfl rfl) rfl rfl rfl rfl ?_
    have h2_ : ((i : Nat) : Int) = 0 ∨ ((i : Nat) : Int) = 1 := by omega
    rcases h2_ with h2 | h2
    · skip
      refine vpOps_pure (x := .pl 1 [⟨0, 0, 0⟩]) (pIxAR (l := 0) rfl rfl rfl rfl (by first | exact h2 | omega) rfl rfl) rfl rfl rfl rfl ?_
      refine vpOps_pure (x := .v (.int .u64 ((m.a : Nat) : Int))) (pure_load_pl rfl rfl rfl rfl rfl rfl rfl trivial rfl) rfl rfl rfl rfl ?_
      refine vpOps_pure (x := .v (.int .u64 ((m.a : Nat) : Int))) (pAs rfl rfl rfl) rfl rfl rfl rfl ?_
      refine vpOps_nil ?_
      refine vp_block ?_
      refine vLoop (α := Nat × Nat) (fun (x, n) => x) (fun (x, n) => (i = 0 ∧ n + popN x = popN m.a ∨ i = 1 ∧ n + popN x = countM m) ∧ (x < 18446744073709551616) ∧ True) (fun (x, n) => [(0, .agg [.v (.int .u64 ((m.a : Nat) : Int)), .v (.int .u64 ((m.b : Nat) : Int))]), (1, .box [.v (.int .u64 ((m.a : Nat) : Int)), .v (.int .u64 ((m.b : Nat) : Int))]), (2, .v (.int .i64 0)), (3, .v (.int .i64 ((n : Nat) : Int))), (4, .v (.int .i64 ((i : Nat) : Int))), (5, .v (.int .u64 ((x : Nat) : Int)))]) (fun ⟨_, _⟩ => rfl) (fun ⟨_, _⟩ => rfl) (m.a, (cntTo m i)) ⟨(by first | (have hii : i = 0 := (by omega); subst hii; left; exact ⟨rfl, by simp [cntTo]⟩) | (have hii : i = 1 := (by omega); subst hii; right; exact ⟨rfl, by simp [cntTo, countM]⟩)), (by first | omega | assumption), trivial⟩ ⟨rfl, rfl, rfl, rfl, rfl, rfl, trivial⟩ ?_
      rintro ⟨x, n⟩ ⟨hi2, hx, -⟩
      have hpx := popN_step x
      refine vp_seq ?_
      refine vp_seq ?_
      refine vp_region ?_
      refine vpOps_pure (x := .v (.int .u64 ((x : Nat) : Int))) (pMv rfl rfl rfl) rfl rfl rfl rfl ?_
      refine vpOps_pure (x := .v (.bool (decide (0 < ((x : Nat) : Int))))) (pure_bin rfl rfl rfl rfl) rfl rfl rfl rfl ?_
      refine vpOps_nil ?_
      refine vIf rfl (fun h3 => ?_) (fun h3 => ?_)
      · skip
        refine vp_skip ?_
        refine vp_seq ?_
        refine vp_block ?_
        refine vp_region ?_
        refine vpOps_pure (x := .v (.int .i64 ((n : Nat) : Int))) (pMv rfl rfl rfl) rfl rfl rfl rfl ?_
        refine vpOps_pure (x := .v (.int .u64 ((x : Nat) : Int))) (pMv rfl rfl rfl) rfl rfl rfl rfl ?_
        refine vpOps_pure (x := .v (.int .u64 ((((x % 2) : Nat) : Int)))) (pRemNat (p := x) (q := 2) rfl rfl rfl (by omega)) rfl rfl rfl rfl ?_
        refine vpOps_pure (x := .v (.int .i64 ((((x % 2) : Nat) : Int)))) (pure_conv_in rfl rfl (in64 (by omega) (by omega))) rfl rfl rfl rfl ?_
        refine vpOps_pure (x := .v (.int .i64 (((n : Nat) : Int) + ((((x % 2) : Nat) : Int))))) (pure_add rfl rfl rfl (in64 (by omega) (by omega))) rfl rfl rfl rfl ?_
        refine vpOps_pure (x := .v (.int .i64 (((n : Nat) : Int) + ((((x % 2) : Nat) : Int))))) (pAs rfl rfl rfl) rfl rfl rfl rfl ?_
        refine vpOps_nil ?_
        refine vp_region ?_
        refine vpOps_pure (x := .v (.int .u64 ((x : Nat) : Int))) (pMv rfl rfl rfl) rfl rfl rfl rfl ?_
        refine vpOps_pure (x := .v (.int .u64 ((((x / 2) : Nat) : Int)))) (pQuoNat (p := x) (q := 2) rfl rfl rfl (by omega) (inu64 (by omega) (by omega))) rfl rfl rfl rfl ?_
        refine vpOps_pure (x := .v (.int .u64 ((((x / 2) : Nat) : Int)))) (pAs rfl rfl rfl) rfl rfl rfl rfl ?_
        refine vpOps_nil ?_
        exact ⟨((x / 2), n + (x % 2)), (by first | omega | (dsimp only; omega)), ⟨(by omega), (by first | omega | assumption), trivial⟩, ⟨rfl, rfl, rfl, rfl, rfl, rfl, trivial⟩⟩
      · skip
        refine vp_exit ?_
        refine vp_region ?_
        refine vpOps_pure (x := .v (.int .i64 ((i : Nat) : Int))) (pMv rfl rfl rfl) rfl rfl rfl rfl ?_
        refine vpOps_pure (x := .v (.int .i64 (((i : Nat) : Int) + 1))) (pure_add rfl rfl rfl (in64 (by omega) (by omega))) rfl rfl rfl rfl ?_
        refine vpOps_pure (x := .v (.int .i64 (((i : Nat) : Int) + 1))) (pAs rfl rfl rfl) rfl rfl rfl rfl ?_
        refine vpOps_nil ?_
        exact ⟨i + 1, (by first | omega | (dsimp only; omega)), ⟨(by omega), trivial⟩, ⟨rfl, rfl, rfl, (show (.v (.int .i64 ((n : Nat) : Int)) : PV) = .v (.int .i64 ((((cntTo m (i + 1)) : Nat) : Int))) from by rw [cnt_end hi2 (by omega)]), rfl, trivial⟩⟩
    · skip
      refine vpOps_pure (x := .pl 1 [⟨0, 1, 0⟩]) (pIxAR (l := 1) rfl rfl rfl rfl (by first | exact h2 | omega) rfl rfl) rfl rfl rfl rfl ?_
      refine vpOps_pure (x := .v (.int .u64 ((m.b : Nat) : Int))) (pure_load_pl rfl rfl rfl rfl rfl rfl rfl trivial rfl) rfl rfl rfl rfl ?_
      refine vpOps_pure (x := .v (.int .u64 ((m.b : Nat) : Int))) (pAs rfl rfl rfl) rfl rfl rfl rfl ?_
      refine vpOps_nil ?_
      refine vp_block ?_
      refine vLoop (α := Nat × Nat) (fun (x, n) => x) (fun (x, n) => (i = 0 ∧ n + popN x = popN m.a ∨ i = 1 ∧ n + popN x = countM m) ∧ (x < 18446744073709551616) ∧ True) (fun (x, n) => [(0, .agg [.v (.int .u64 ((m.a : Nat) : Int)), .v (.int .u64 ((m.b : Nat) : Int))]), (1, .box [.v (.int .u64 ((m.a : Nat) : Int)), .v (.int .u64 ((m.b : Nat) : Int))]), (2, .v (.int .i64 0)), (3, .v (.int .i64 ((n : Nat) : Int))), (4, .v (.int .i64 ((i : Nat) : Int))), (5, .v (.int .u64 ((x : Nat) : Int)))]) (fun ⟨_, _⟩ => rfl) (fun ⟨_, _⟩ => rfl) (m.b, (cntTo m i)) ⟨(by first | (have hii : i = 0 := (by omega); subst hii; left; exact ⟨rfl, by simp [cntTo]⟩) | (have hii : i = 1 := (by omega); subst hii; right; exact ⟨rfl, by simp [cntTo, countM]⟩)), (by first | omega | assumption), trivial⟩ ⟨rfl, rfl, rfl, rfl, rfl, rfl, trivial⟩ ?_
      rintro ⟨x, n⟩ ⟨hi2, hx, -⟩
      have hpx := popN_step x
      refine vp_seq ?_
      refine vp_seq ?_
      refine vp_region ?_
      refine vpOps_pure (x := .v (.int .u64 ((x : Nat) : Int))) (pMv rfl rfl rfl) rfl rfl rfl rfl ?_
      refine vpOps_pure (x := .v (.bool (decide (0 < ((x : Nat) : Int))))) (pure_bin rfl rfl rfl rfl) rfl rfl rfl rfl ?_
      refine vpOps_nil ?_
      refine vIf rfl (fun h4 => ?_) (fun h4 => ?_)
      · skip
        refine vp_skip ?_
        refine vp_seq ?_
        refine vp_block ?_
        refine vp_region ?_
        refine vpOps_pure (x := .v (.int .i64 ((n : Nat) : Int))) (pMv rfl rfl rfl) rfl rfl rfl rfl ?_
        refine vpOps_pure (x := .v (.int .u64 ((x : Nat) : Int))) (pMv rfl rfl rfl) rfl rfl rfl rfl ?_
        refine vpOps_pure (x := .v (.int .u64 ((((x % 2) : Nat) : Int)))) (pRemNat (p := x) (q := 2) rfl rfl rfl (by omega)) rfl rfl rfl rfl ?_
        refine vpOps_pure (x := .v (.int .i64 ((((x % 2) : Nat) : Int)))) (pure_conv_in rfl rfl (in64 (by omega) (by omega))) rfl rfl rfl rfl ?_
        refine vpOps_pure (x := .v (.int .i64 (((n : Nat) : Int) + ((((x % 2) : Nat) : Int))))) (pure_add rfl rfl rfl (in64 (by omega) (by omega))) rfl rfl rfl rfl ?_
        refine vpOps_pure (x := .v (.int .i64 (((n : Nat) : Int) + ((((x % 2) : Nat) : Int))))) (pAs rfl rfl rfl) rfl rfl rfl rfl ?_
        refine vpOps_nil ?_
        refine vp_region ?_
        refine vpOps_pure (x := .v (.int .u64 ((x : Nat) : Int))) (pMv rfl rfl rfl) rfl rfl rfl rfl ?_
        refine vpOps_pure (x := .v (.int .u64 ((((x / 2) : Nat) : Int)))) (pQuoNat (p := x) (q := 2) rfl rfl rfl (by omega) (inu64 (by omega) (by omega))) rfl rfl rfl rfl ?_
        refine vpOps_pure (x := .v (.int .u64 ((((x / 2) : Nat) : Int)))) (pAs rfl rfl rfl) rfl rfl rfl rfl ?_
        refine vpOps_nil ?_
        exact ⟨((x / 2), n + (x % 2)), (by first | omega | (dsimp only; omega)), ⟨(by omega), (by first | omega | assumption), trivial⟩, ⟨rfl, rfl, rfl, rfl, rfl, rfl, trivial⟩⟩
      · skip
        refine vp_exit ?_
        refine vp_region ?_
        refine vpOps_pure (x := .v (.int .i64 ((i : Nat) : Int))) (pMv rfl rfl rfl) rfl rfl rfl rfl ?_
        refine vpOps_pure (x := .v (.int .i64 (((i : Nat) : Int) + 1))) (pure_add rfl rfl rfl (in64 (by omega) (by omega))) rfl rfl rfl rfl ?_
        refine vpOps_pure (x := .v (.int .i64 (((i : Nat) : Int) + 1))) (pAs rfl rfl rfl) rfl rfl rfl rfl ?_
        refine vpOps_nil ?_
        exact ⟨i + 1, (by first | omega | (dsimp only; omega)), ⟨(by omega), trivial⟩, ⟨rfl, rfl, rfl, (show (.v (.int .i64 ((n : Nat) : Int)) : PV) = .v (.int .i64 ((((cntTo m (i + 1)) : Nat) : Int))) from by rw [cnt_end hi2 (by omega)]), rfl, trivial⟩⟩
  · skip
    refine vp_exit ?_
    refine vp_seq ?_
    refine vp_region ?_
    refine vpOps_pure (x := .v (.int .i64 ((((cntTo m i) : Nat) : Int)))) (pMv rfl rfl rfl) rfl rfl rfl rfl ?_
    refine vpOps_pure (x := .v (.int .i64 ((((cntTo m i) : Nat) : Int)))) (pAs rfl rfl rfl) rfl rfl rfl rfl ?_
    refine vpOps_nil ?_
    refine vp_ret ?_
    exact ⟨[.v (.int .i64 ((((cntTo m i) : Nat) : Int)))], [2], (.cons (.tmp rfl rfl) .nil), rfl, ⟨(show (.v (.int .i64 ((((cntTo m i) : Nat) : Int))) : PV) = .v (.int .i64 ((((countM m) : Nat) : Int))) from (by rw [show i = 2 by omega]; rfl)), rfl⟩⟩

/-- spec.l01Sums -/
theorem c_sSums {G : World → Prop}   : CallsV Tryd.prog G 55 [] (fun r outs => r = .own 1 (sumsL.map i64c) ∧ outs = []) := by
  refine callsV_enter [] Tryd.func55 rfl rfl rfl ?_
  refine vp_seq ?_
  refine vp_region ?_
  refine vpOps_pure (x := .v (.slice none 0 0)) (pAs rfl rfl rfl) rfl rfl rfl rfl ?_
  refine vpOps_nil ?_
  refine vp_seq ?_
  refine vp_region ?_
  refine vpOps_pure (x := .own 1 [[.v (.int .i64 12)], [.v (.int .i64 1)], [.v (.int .i64 2)], [.v (.int .i64 3)], [.v (.int .i64 4)], [.v (.int .i64 5)], [.v (.int .i64 6)], [.v (.int .i64 8)], [.v (.int .i64 9)], [.v (.int .i64 10)]]) (pBs (cs := [.v (.int .i64 12), .v (.int .i64 1), .v (.int .i64 2), .v (.int .i64 3), .v (.int .i64 4), .v (.int .i64 5), .v (.int .i64 6), .v (.int .i64 8), .v (.int .i64 9), .v (.int .i64 10)]) rfl rfl rfl rfl rfl rfl rfl) rfl rfl rfl rfl ?_
  refine vpOps_assign (x := .own 1 [[.v (.int .i64 12)], [.v (.int .i64 1)], [.v (.int .i64 2)], [.v (.int .i64 3)], [.v (.int .i64 4)], [.v (.int .i64 5)], [.v (.int .i64 6)], [.v (.int .i64 8)], [.v (.int .i64 9)], [.v (.int .i64 10)]]) rfl rfl rfl rfl rfl rfl rfl ?_
  refine vpOps_nil ?_
  refine vp_ret ?_
  exact ⟨[.own 1 [[.v (.int .i64 12)], [.v (.int .i64 1)], [.v (.int .i64 2)], [.v (.int .i64 3)], [.v (.int .i64 4)], [.v (.int .i64 5)], [.v (.int .i64 6)], [.v (.int .i64 8)], [.v (.int .i64 9)], [.v (.int .i64 10)]]], [0], (.cons (.tmp rfl rfl) .nil), rfl, ⟨(show (.own 1 [[.v (.int .i64 12)], [.v (.int .i64 1)], [.v (.int .i64 2)], [.v (.int .i64 3)], [.v (.int .i64 4)], [.v (.int .i64 5)], [.v (.int .i64 6)], [.v (.int .i64 8)], [.v (.int .i64 9)], [.v (.int .i64 10)]] : PV) = .own 1 (sumsL.map i64c) from (by rfl)), rfl⟩⟩

/-- spec.l01Pairs -/
theorem c_sPairs {G : World → Prop}   : CallsV Tryd.prog G 56 [] (fun r outs => r = .own 1 (pairsL.map i64c) ∧ outs = []) := by
  refine callsV_enter [] Tryd.func56 rfl rfl rfl ?_
  refine vp_seq ?_
  refine vp_region ?_
  refine vpOps_pure (x := .v (.slice none 0 0)) (pAs rfl rfl rfl) rfl rfl rfl rfl ?_
  refine vpOps_nil ?_
  refine vp_seq ?_
  refine vp_region ?_
  refine vpOps_pure (x := .own 1 [[.v (.int .i64 24)], [.v (.int .i64 20)], [.v (.int .i64 18)], [.v (.int .i64 17)], [.v (.int .i64 12)], [.v (.int .i64 10)], [.v (.int .i64 9)], [.v (.int .i64 6)], [.v (.int .i64 5)], [.v (.int .i64 3)]]) (pBs (cs := [.v (.int .i64 24), .v (.int .i64 20), .v (.int .i64 18), .v (.int .i64 17), .v (.int .i64 12), .v (.int .i64 10), .v (.int .i64 9), .v (.int .i64 6), .v (.int .i64 5), .v (.int .i64 3)]) rfl rfl rfl rfl rfl rfl rfl) rfl rfl rfl rfl ?_
  refine vpOps_assign (x := .own 1 [[.v (.int .i64 24)], [.v (.int .i64 20)], [.v (.int .i64 18)], [.v (.int .i64 17)], [.v (.int .i64 12)], [.v (.int .i64 10)], [.v (.int .i64 9)], [.v (.int .i64 6)], [.v (.int .i64 5)], [.v (.int .i64 3)]]) rfl rfl rfl rfl rfl rfl rfl ?_
  refine vpOps_nil ?_
  refine vp_ret ?_
  exact ⟨[.own 1 [[.v (.int .i64 24)], [.v (.int .i64 20)], [.v (.int .i64 18)], [.v (.int .i64 17)], [.v (.int .i64 12)], [.v (.int .i64 10)], [.v (.int .i64 9)], [.v (.int .i64 6)], [.v (.int .i64 5)], [.v (.int .i64 3)]]], [0], (.cons (.tmp rfl rfl) .nil), rfl, ⟨(show (.own 1 [[.v (.int .i64 24)], [.v (.int .i64 20)], [.v (.int .i64 18)], [.v (.int .i64 17)], [.v (.int .i64 12)], [.v (.int .i64 10)], [.v (.int .i64 9)], [.v (.int .i64 6)], [.v (.int .i64 5)], [.v (.int .i64 3)]] : PV) = .own 1 (pairsL.map i64c) from (by rfl)), rfl⟩⟩

end Go.Vr
/- Walks of the functions that the law reaches: what each gives, by value. -/
namespace Go.Vr
open Go Go.Proofs
set_option linter.unusedVariables false
set_option linter.unusedSimpArgs false
set_option maxRecDepth 8000

/-- spec.l01Code -/
theorem c_sCode {G : World → Prop} (f : Field) (v : Int) (hf : fieldOk f) (hv : 0 ≤ v ∧ v ≤ mostF f) : CallsV Tryd.prog G 39 [.rbox [.v (.string f.name), .v (.int .i8 f.kind), .v (.int .i16 f.start), .v (.int .i16 f.size)], .v (.int .i64 v)] (fun r outs => r = .agg [.v (.int .u64 ((((codeM f v).a : Nat) : Int))), .v (.int .u64 ((((codeM f v).b : Nat) : Int)))] ∧ outs = [.junk, .junk]) := by
  refine callsV_enter [] Tryd.func39 rfl rfl rfl ?_
  have hk1 := fieldOk_kind hf
  have hn1 := fieldOk_num hf
  have hm1 := mostF_num hf
  have hm2 := mostF_0 (f := f)
  have hbok := binM_ok (v := v) hf
  refine vp_seq ?_
  refine vp_region ?_
  refine vpOps_pure (x := .box [.v (.int .u64 0), .v (.int .u64 0)]) (pure_alloc rfl) rfl rfl rfl rfl ?_
  refine vpOps_nil ?_
  refine vp_seq ?_
  refine vp_region ?_
  refine vpOps_pure (x := .rbox [.v (.string f.name), .v (.int .i8 f.kind), .v (.int .i16 f.start), .v (.int .i16 f.size)]) (pMv rfl rfl rfl) rfl rfl rfl rfl ?_
  refine vpOps_pure (x := .rbox [.v (.string f.name), .v (.int .i8 f.kind), .v (.int .i16 f.start), .v (.int .i16 f.size)]) (pure_nil_flat rfl rfl) rfl rfl rfl rfl ?_
  refine vpOps_pure (x := .rbox [.v (.int .i16 f.start), .v (.int .i16 f.size)]) (pure_field_rbox rfl rfl rfl rfl) rfl rfl rfl rfl ?_
  refine vpOps_pure (x := .v (.int .i16 f.start)) (pure_load_rbox rfl rfl rfl) rfl rfl rfl rfl ?_
  refine vpOps_pure (x := .v (.int .i64 f.start)) (pure_conv_in rfl rfl (in64 (by omega) (by omega))) rfl rfl rfl rfl ?_
  refine vpOps_pure (x := .v (.int .i64 f.start)) (pAs rfl rfl rfl) rfl rfl rfl rfl ?_
  refine vpOps_nil ?_
  refine vp_seq ?_
  refine vp_region ?_
  refine vpOps_pure (x := .rbox [.v (.string f.name), .v (.int .i8 f.kind), .v (.int .i16 f.start), .v (.int .i16 f.size)]) (pMv rfl rfl rfl) rfl rfl rfl rfl ?_
  refine vpOps_pure (x := .rbox [.v (.string f.name), .v (.int .i8 f.kind), .v (.int .i16 f.start), .v (.int .i16 f.size)]) (pure_nil_flat rfl rfl) rfl rfl rfl rfl ?_
  refine vpOps_pure (x := .rbox [.v (.int .i16 f.size)]) (pure_field_rbox rfl rfl rfl rfl) rfl rfl rfl rfl ?_
  refine vpOps_pure (x := .v (.int .i16 f.size)) (pure_load_rbox rfl rfl rfl) rfl rfl rfl rfl ?_
  refine vpOps_pure (x := .v (.int .i64 f.size)) (pure_conv_in rfl rfl (in64 (by omega) (by omega))) rfl rfl rfl rfl ?_
  refine vpOps_pure (x := .v (.int .i64 f.size)) (pAs rfl rfl rfl) rfl rfl rfl rfl ?_
  refine vpOps_nil ?_
  refine vp_seq ?_
  refine vp_region ?_
  refine vpOps_pure (x := .agg [.v (.int .u64 0), .v (.int .u64 0)]) (pure_build_arr rfl (flatsB_ok rfl) rfl) rfl rfl rfl rfl ?_
  refine vpOps_pure (x := .box [.v (.int .u64 0), .v (.int .u64 0)]) (pure_alloc rfl) rfl rfl rfl rfl ?_
  refine vStB (x := .agg [.v (.int .u64 0), .v (.int .u64 0)]) (row' := [.v (.int .u64 0), .v (.int .u64 0)]) rfl rfl rfl rfl rfl rfl rfl rfl rfl rfl rfl rfl ?_
  refine vpOps_nil ?_
  refine vp_seq ?_
  refine vp_seq ?_
  refine vp_region ?_
  refine vpOps_pure (x := .rbox [.v (.string f.name), .v (.int .i8 f.kind), .v (.int .i16 f.start), .v (.int .i16 f.size)]) (pMv rfl rfl rfl) rfl rfl rfl rfl ?_
  refine vpOps_pure (x := .rbox [.v (.string f.name), .v (.int .i8 f.kind), .v (.int .i16 f.start), .v (.int .i16 f.size)]) (pure_nil_flat rfl rfl) rfl rfl rfl rfl ?_
  refine vpOps_pure (x := .rbox [.v (.int .i8 f.kind), .v (.int .i16 f.start), .v (.int .i16 f.size)]) (pure_field_rbox rfl rfl rfl rfl) rfl rfl rfl rfl ?_
  refine vpOps_pure (x := .v (.int .i8 f.kind)) (pure_load_rbox rfl rfl rfl) rfl rfl rfl rfl ?_
  refine vpOps_nil ?_
  refine vp_block ?_
  refine vp_seq ?_
  refine vp_region ?_
  refine vpOps_pure (x := .v (.bool (decide (f.kind = 0)))) (pure_bin rfl rfl rfl rfl) rfl rfl rfl rfl ?_
  refine vpOps_pure (x := .v (.bool (decide (f.kind = 0)))) (pAs rfl rfl rfl) rfl rfl rfl rfl ?_
  refine vpOps_nil ?_
  refine vIf rfl (fun h1 => ?_) (fun h1 => ?_)
  · skip
    refine vp_seq ?_
    refine vp_region ?_
    refine vpOps_pure (x := .v (.int .i64 f.start)) (pMv rfl rfl rfl) rfl rfl rfl rfl ?_
    refine vpOps_pure (x := .v (.int .i64 v)) (pMv rfl rfl rfl) rfl rfl rfl rfl ?_
    refine vpOps_pure (x := .v (.int .i64 (f.start + v))) (pure_add rfl rfl rfl (in64 (by omega) (by omega))) rfl rfl rfl rfl ?_
    refine vpOps_call (gs := [⟨.tmp 31, .v (.int .i64 (f.start + v)), none, none⟩]) (c_sBit (f.start + v) (by first | assumption | omega | exact noM_ok | exact (hbok (by assumption)).wf | exact (bitM_ok (by omega)).wf | exact powB (n := f.size - 1 - ↑k) (by omega))) rfl rfl rfl rfl rfl trivial (by kernel_rfl) rfl rfl (gives_cons (gC rfl rfl) gives_nil) rfl (fun _ _ _ => .inl rfl) ?_
    rintro _ _ ⟨rfl, rfl⟩
    refine vStB (x := .agg [.v (.int .u64 ((((bitM (f.start + v).toNat).a : Nat) : Int))), .v (.int .u64 ((((bitM (f.start + v).toNat).b : Nat) : Int)))]) (row' := [.v (.int .u64 ((((bitM (f.start + v).toNat).a : Nat) : Int))), .v (.int .u64 ((((bitM (f.start + v).toNat).b : Nat) : Int)))]) rfl rfl rfl rfl rfl rfl rfl rfl rfl rfl rfl rfl ?_
    refine vpOps_nil ?_
    refine vp_ret ?_
    exact ⟨[.agg [.v (.int .u64 ((((bitM (f.start + v).toNat).a : Nat) : Int))), .v (.int .u64 ((((bitM (f.start + v).toNat).b : Nat) : Int)))]], [4], (.cons (.cellAgg rfl rfl rfl) .nil), rfl, ⟨(show (.agg [.v (.int .u64 ((((bitM (f.start + v).toNat).a : Nat) : Int))), .v (.int .u64 ((((bitM (f.start + v).toNat).b : Nat) : Int)))] : PV) = .agg [.v (.int .u64 ((((codeM f v).a : Nat) : Int))), .v (.int .u64 ((((codeM f v).b : Nat) : Int)))] from (by first | (rw [codeM, if_pos (by assumption)]; done) | (rw [codeM, if_neg (by assumption), if_pos (by assumption), if_pos (by assumption)]; rfl) | (rw [codeM, if_neg (by assumption), if_pos (by assumption), if_neg (by assumption)]; rfl) | (rw [codeM, if_neg (by assumption), if_neg (by assumption), show f.size.toNat = k by omega]))), rfl⟩⟩
  · skip
    refine vp_seq ?_
    refine vp_region ?_
    refine vpOps_pure (x := .v (.bool (decide (f.kind = 3)))) (pure_bin rfl rfl rfl rfl) rfl rfl rfl rfl ?_
    refine vpOps_pure (x := .v (.bool (decide (f.kind = 3)))) (pAs rfl rfl rfl) rfl rfl rfl rfl ?_
    refine vpOps_nil ?_
    refine vIf rfl (fun h2 => ?_) (fun h2 => ?_)
    · skip
      refine vp_seq ?_
      refine vp_region ?_
      refine vpOps_pure (x := .agg [.v (.int .u64 0), .v (.int .u64 0)]) (pure_load_pl_agg rfl rfl rfl rfl rfl rfl rfl rfl (by simp [PV.flatL, PV.flat])) rfl rfl rfl rfl ?_
      refine vpOps_pure (x := .v (.int .i64 f.start)) (pMv rfl rfl rfl) rfl rfl rfl rfl ?_
      refine vpOps_pure (x := .v (.int .i64 f.size)) (pMv rfl rfl rfl) rfl rfl rfl rfl ?_
      refine vpOps_pure (x := .v (.int .i64 v)) (pMv rfl rfl rfl) rfl rfl rfl rfl ?_
      refine vpOps_call (gs := [⟨.tmp 35, .agg [.v (.int .u64 0), .v (.int .u64 0)], none, none⟩, ⟨.tmp 36, .v (.int .i64 f.start), none, none⟩, ⟨.tmp 37, .v (.int .i64 f.size), none, none⟩, ⟨.tmp 38, .v (.int .i64 v), none, none⟩]) (c_sNotch (⟨0, 0⟩ : Mask) f.start f.size v (by first | assumption | omega | exact noM_ok | exact (hbok (by assumption)).wf | exact (bitM_ok (by omega)).wf | exact powB (n := f.size - 1 - ↑k) (by omega)) (by first | assumption | omega | exact noM_ok | exact (hbok (by assumption)).wf | exact (bitM_ok (by omega)).wf | exact powB (n := f.size - 1 - ↑k) (by omega)) (by first | assumption | omega | exact noM_ok | exact (hbok (by assumption)).wf | exact (bitM_ok (by omega)).wf | exact powB (n := f.size - 1 - ↑k) (by omega)) (by first | assumption | omega | exact noM_ok | exact (hbok (by assumption)).wf | exact (bitM_ok (by omega)).wf | exact powB (n := f.size - 1 - ↑k) (by omega)) (by first | assumption | omega | exact noM_ok | exact (hbok (by assumption)).wf | exact (bitM_ok (by omega)).wf | exact powB (n := f.size - 1 - ↑k) (by omega))) rfl rfl rfl rfl rfl trivial (by kernel_rfl) rfl rfl (gives_cons (gC rfl rfl) (gives_cons (gC rfl rfl) (gives_cons (gC rfl rfl) (gives_cons (gC rfl rfl) gives_nil)))) rfl (fun _ _ _ => .inl rfl) ?_
      rintro _ _ ⟨rfl, rfl⟩
      refine vStB (x := .agg [.v (.int .u64 ((((notchTo (⟨0, 0⟩ : Mask) f.start f.size v f.size.toNat).a : Nat) : Int))), .v (.int .u64 ((((notchTo (⟨0, 0⟩ : Mask) f.start f.size v f.size.toNat).b : Nat) : Int)))]) (row' := [.v (.int .u64 ((((notchTo (⟨0, 0⟩ : Mask) f.start f.size v f.size.toNat).a : Nat) : Int))), .v (.int .u64 ((((notchTo (⟨0, 0⟩ : Mask) f.start f.size v f.size.toNat).b : Nat) : Int)))]) rfl rfl rfl rfl rfl rfl rfl rfl rfl rfl rfl rfl ?_
      refine vpOps_nil ?_
      refine vp_seq ?_
      refine vp_seq ?_
      refine vp_region ?_
      refine vpOps_pure (x := .agg [.v (.int .u64 ((((notchTo (⟨0, 0⟩ : Mask) f.start f.size v f.size.toNat).a : Nat) : Int))), .v (.int .u64 ((((notchTo (⟨0, 0⟩ : Mask) f.start f.size v f.size.toNat).b : Nat) : Int)))]) (pure_load_pl_agg rfl rfl rfl rfl rfl rfl rfl rfl (by simp [PV.flatL, PV.flat])) rfl rfl rfl rfl ?_
      refine vpOps_call (gs := [⟨.tmp 40, .agg [.v (.int .u64 ((((notchTo (⟨0, 0⟩ : Mask) f.start f.size v f.size.toNat).a : Nat) : Int))), .v (.int .u64 ((((notchTo (⟨0, 0⟩ : Mask) f.start f.size v f.size.toNat).b : Nat) : Int)))], none, none⟩]) (c_sCount (notchTo (⟨0, 0⟩ : Mask) f.start f.size v f.size.toNat) (by first | assumption | omega | exact noM_ok | exact (hbok (by assumption)).wf | exact (bitM_ok (by omega)).wf | exact powB (n := f.size - 1 - ↑k) (by omega))) rfl rfl rfl rfl rfl trivial (by kernel_rfl) rfl rfl (gives_cons (gC rfl rfl) gives_nil) rfl (fun _ _ _ => .inl rfl) ?_
      rintro _ _ ⟨rfl, rfl⟩
      refine vpOps_pure (x := .v (.int .i64 (((((countM (notchTo (⟨0, 0⟩ : Mask) f.start f.size v f.size.toNat)) : Nat) : Int)) % 2))) (pRemN rfl rfl rfl (by omega) (by decide)) rfl rfl rfl rfl ?_
      refine vpOps_pure (x := .v (.bool (decide ((((((countM (notchTo (⟨0, 0⟩ : Mask) f.start f.size v f.size.toNat)) : Nat) : Int)) % 2) = 0)))) (pure_bin rfl rfl rfl rfl) rfl rfl rfl rfl ?_
      refine vpOps_nil ?_
      refine vIf rfl (fun h3 => ?_) (fun h3 => ?_)
      · skip
        refine vRegD 6 ((44, .agg [.v (.int .u64 ((((notchTo (⟨0, 0⟩ : Mask) f.start f.size v f.size.toNat).a : Nat) : Int))), .v (.int .u64 ((((notchTo (⟨0, 0⟩ : Mask) f.start f.size v f.size.toNat).b : Nat) : Int)))]) :: (45, .v (.int .i64 f.start)) :: (46, .v (.int .i64 f.size)) :: (47, .v (.int .i64 (f.start + f.size))) :: (48, .agg [.v (.int .u64 ((((bitM (f.start + f.size).toNat).a : Nat) : Int))), .v (.int .u64 ((((bitM (f.start + f.size).toNat).b : Nat) : Int)))]) :: (49, .agg [.v (.int .u64 ((((joinM (notchTo (⟨0, 0⟩ : Mask) f.start f.size v f.size.toNat) (bitM (f.start + f.size).toNat)).a : Nat) : Int))), .v (.int .u64 ((((joinM (notchTo (⟨0, 0⟩ : Mask) f.start f.size v f.size.toNat) (bitM (f.start + f.size).toNat)).b : Nat) : Int)))]) :: []) (0 :: 0 :: 0 :: 6 :: 14 :: 31 :: 63 :: []) (by kernel_rfl) rfl (by kernel_rfl) (by kernel_rfl) (by kernel_rfl) (by kernel_rfl) (by kernel_rfl) ⟨
            dPure rfl (pure_load_pl_agg rfl rfl rfl rfl rfl rfl rfl rfl (by simp [PV.flatL, PV.flat])),
            dPure rfl (pMv rfl rfl rfl),
            dPure rfl (pMv rfl rfl rfl),
            dPure rfl (pure_add rfl rfl rfl (in64 (by omega) (by omega))),
            dPure rfl (pure_call (gs := [⟨.tmp 47, .v (.int .i64 (f.start + f.size)), none, none⟩]) (c_sBit (f.start + f.size) (by first | assumption | omega | exact noM_ok | exact (hbok (by assumption)).wf | exact (bitM_ok (by omega)).wf | exact powB (n := f.size - 1 - ↑k) (by omega))) rfl rfl trivial (by kernel_rfl) rfl rfl (gives_cons (gC rfl rfl) gives_nil) rfl (fun _ _ h => h.1) ⟨trivial, ⟨trivial, trivial⟩⟩),
            dPure rfl (pure_call (gs := [⟨.tmp 44, .agg [.v (.int .u64 ((((notchTo (⟨0, 0⟩ : Mask) f.start f.size v f.size.toNat).a : Nat) : Int))), .v (.int .u64 ((((notchTo (⟨0, 0⟩ : Mask) f.start f.size v f.size.toNat).b : Nat) : Int)))], none, none⟩, ⟨.tmp 48, .agg [.v (.int .u64 ((((bitM (f.start + f.size).toNat).a : Nat) : Int))), .v (.int .u64 ((((bitM (f.start + f.size).toNat).b : Nat) : Int)))], none, none⟩]) (c_sJoin (notchTo (⟨0, 0⟩ : Mask) f.start f.size v f.size.toNat) (bitM (f.start + f.size).toNat) (by first | assumption | omega | exact noM_ok | exact (hbok (by assumption)).wf | exact (bitM_ok (by omega)).wf | exact powB (n := f.size - 1 - ↑k) (by omega)) (by first | assumption | omega | exact noM_ok | exact (hbok (by assumption)).wf | exact (bitM_ok (by omega)).wf | exact powB (n := f.size - 1 - ↑k) (by omega))) rfl rfl trivial (by kernel_rfl) rfl rfl (gives_cons (gC rfl rfl) (gives_cons (gC rfl rfl) gives_nil)) rfl (fun _ _ h => h.1) ⟨trivial, ⟨trivial, trivial⟩⟩),
            trivial⟩ ?_
        refine vStB (x := .agg [.v (.int .u64 ((((joinM (notchTo (⟨0, 0⟩ : Mask) f.start f.size v f.size.toNat) (bitM (f.start + f.size).toNat)).a : Nat) : Int))), .v (.int .u64 ((((joinM (notchTo (⟨0, 0⟩ : Mask) f.start f.size v f.size.toNat) (bitM (f.start + f.size).toNat)).b : Nat) : Int)))]) (row' := [.v (.int .u64 ((((joinM (notchTo (⟨0, 0⟩ : Mask) f.start f.size v f.size.toNat) (bitM (f.start + f.size).toNat)).a : Nat) : Int))), .v (.int .u64 ((((joinM (notchTo (⟨0, 0⟩ : Mask) f.start f.size v f.size.toNat) (bitM (f.start + f.size).toNat)).b : Nat) : Int)))]) rfl rfl rfl rfl rfl rfl rfl rfl rfl rfl rfl rfl ?_
        refine vpOps_nil ?_
        refine vp_seq ?_
        refine vp_region ?_
        refine vpOps_pure (x := .agg [.v (.int .u64 ((((joinM (notchTo (⟨0, 0⟩ : Mask) f.start f.size v f.size.toNat) (bitM (f.start + f.size).toNat)).a : Nat) : Int))), .v (.int .u64 ((((joinM (notchTo (⟨0, 0⟩ : Mask) f.start f.size v f.size.toNat) (bitM (f.start + f.size).toNat)).b : Nat) : Int)))]) (pure_load_pl_agg rfl rfl rfl rfl rfl rfl rfl rfl (by simp [PV.flatL, PV.flat])) rfl rfl rfl rfl ?_
        refine vStB (x := .agg [.v (.int .u64 ((((joinM (notchTo (⟨0, 0⟩ : Mask) f.start f.size v f.size.toNat) (bitM (f.start + f.size).toNat)).a : Nat) : Int))), .v (.int .u64 ((((joinM (notchTo (⟨0, 0⟩ : Mask) f.start f.size v f.size.toNat) (bitM (f.start + f.size).toNat)).b : Nat) : Int)))]) (row' := [.v (.int .u64 ((((joinM (notchTo (⟨0, 0⟩ : Mask) f.start f.size v f.size.toNat) (bitM (f.start + f.size).toNat)).a : Nat) : Int))), .v (.int .u64 ((((joinM (notchTo (⟨0, 0⟩ : Mask) f.start f.size v f.size.toNat) (bitM (f.start + f.size).toNat)).b : Nat) : Int)))]) rfl rfl rfl rfl rfl rfl rfl rfl rfl rfl rfl rfl ?_
        refine vpOps_nil ?_
        refine vp_ret ?_
        exact ⟨[.agg [.v (.int .u64 ((((joinM (notchTo (⟨0, 0⟩ : Mask) f.start f.size v f.size.toNat) (bitM (f.start + f.size).toNat)).a : Nat) : Int))), .v (.int .u64 ((((joinM (notchTo (⟨0, 0⟩ : Mask) f.start f.size v f.size.toNat) (bitM (f.start + f.size).toNat)).b : Nat) : Int)))]], [4], (.cons (.cellAgg rfl rfl rfl) .nil), rfl, ⟨(show (.agg [.v (.int .u64 ((((joinM (notchTo (⟨0, 0⟩ : Mask) f.start f.size v f.size.toNat) (bitM (f.start + f.size).toNat)).a : Nat) : Int))), .v (.int .u64 ((((joinM (notchTo (⟨0, 0⟩ : Mask) f.start f.size v f.size.toNat) (bitM (f.start + f.size).toNat)).b : Nat) : Int)))] : PV) = .agg [.v (.int .u64 ((((codeM f v).a : Nat) : Int))), .v (.int .u64 ((((codeM f v).b : Nat) : Int)))] from (by first | (rw [codeM, if_pos (by assumption)]; done) | (rw [codeM, if_neg (by assumption), if_pos (by assumption), if_pos (by assumption)]; rfl) | (rw [codeM, if_neg (by assumption), if_pos (by assumption), if_neg (by assumption)]; rfl) | (rw [codeM, if_neg (by assumption), if_neg (by assumption), show f.size.toNat = k by omega]))), rfl⟩⟩
      · skip
        refine vp_skip ?_
        refine vp_seq ?_
        refine vp_region ?_
        refine vpOps_pure (x := .agg [.v (.int .u64 ((((notchTo (⟨0, 0⟩ : Mask) f.start f.size v f.size.toNat).a : Nat) : Int))), .v (.int .u64 ((((notchTo (⟨0, 0⟩ : Mask) f.start f.size v f.size.toNat).b : Nat) : Int)))]) (pure_load_pl_agg rfl rfl rfl rfl rfl rfl rfl rfl (by simp [PV.flatL, PV.flat])) rfl rfl rfl rfl ?_
        refine vStB (x := .agg [.v (.int .u64 ((((notchTo (⟨0, 0⟩ : Mask) f.start f.size v f.size.toNat).a : Nat) : Int))), .v (.int .u64 ((((notchTo (⟨0, 0⟩ : Mask) f.start f.size v f.size.toNat).b : Nat) : Int)))]) (row' := [.v (.int .u64 ((((notchTo (⟨0, 0⟩ : Mask) f.start f.size v f.size.toNat).a : Nat) : Int))), .v (.int .u64 ((((notchTo (⟨0, 0⟩ : Mask) f.start f.size v f.size.toNat).b : Nat) : Int)))]) rfl rfl rfl rfl rfl rfl rfl rfl rfl rfl rfl rfl ?_
        refine vpOps_nil ?_
        refine vp_ret ?_
        exact ⟨[.agg [.v (.int .u64 ((((notchTo (⟨0, 0⟩ : Mask) f.start f.size v f.size.toNat).a : Nat) : Int))), .v (.int .u64 ((((notchTo (⟨0, 0⟩ : Mask) f.start f.size v f.size.toNat).b : Nat) : Int)))]], [4], (.cons (.cellAgg rfl rfl rfl) .nil), rfl, ⟨(show (.agg [.v (.int .u64 ((((notchTo (⟨0, 0⟩ : Mask) f.start f.size v f.size.toNat).a : Nat) : Int))), .v (.int .u64 ((((notchTo (⟨0, 0⟩ : Mask) f.start f.size v f.size.toNat).b : Nat) : Int)))] : PV) = .agg [.v (.int .u64 ((((codeM f v).a : Nat) : Int))), .v (.int .u64 ((((codeM f v).b : Nat) : Int)))] from (by first | (rw [codeM, if_pos (by assumption)]; done) | (rw [codeM, if_neg (by assumption), if_pos (by assumption), if_pos (by assumption)]; rfl) | (rw [codeM, if_neg (by assumption), if_pos (by assumption), if_neg (by assumption)]; rfl) | (rw [codeM, if_neg (by assumption), if_neg (by assumption), show f.size.toNat = k by omega]))), rfl⟩⟩
    · skip
      refine vp_skip ?_
      refine vp_seq ?_
      refine vp_region ?_
      have h0 : f.kind ≠ 0 := by assumption
      have h3 : f.kind ≠ 3 := by assumption
      refine vpOps_call (gs := []) (c_sSums  ) rfl rfl rfl rfl rfl trivial (by kernel_rfl) rfl rfl gives_nil rfl (fun _ _ _ => .inl rfl) ?_
      rintro _ _ ⟨rfl, rfl⟩
      refine vpOps_assign (x := .own 1 (sumsL.map i64c)) rfl rfl rfl rfl rfl rfl rfl ?_
      refine vpOps_nil ?_
      refine vp_seq ?_
      refine vp_region ?_
      refine vpOps_pure (x := .v (.int .i64 4)) (pAs rfl rfl rfl) rfl rfl rfl rfl ?_
      refine vpOps_nil ?_
      refine vp_seq ?_
      refine vp_seq ?_
      refine vp_region ?_
      refine vpOps_pure (x := .rbox [.v (.string f.name), .v (.int .i8 f.kind), .v (.int .i16 f.start), .v (.int .i16 f.size)]) (pMv rfl rfl rfl) rfl rfl rfl rfl ?_
      refine vpOps_pure (x := .rbox [.v (.string f.name), .v (.int .i8 f.kind), .v (.int .i16 f.start), .v (.int .i16 f.size)]) (pure_nil_flat rfl rfl) rfl rfl rfl rfl ?_
      refine vpOps_pure (x := .rbox [.v (.int .i8 f.kind), .v (.int .i16 f.start), .v (.int .i16 f.size)]) (pure_field_rbox rfl rfl rfl rfl) rfl rfl rfl rfl ?_
      refine vpOps_pure (x := .v (.int .i8 f.kind)) (pure_load_rbox rfl rfl rfl) rfl rfl rfl rfl ?_
      refine vpOps_pure (x := .v (.bool (decide (f.kind = 2)))) (pure_bin rfl rfl rfl rfl) rfl rfl rfl rfl ?_
      refine vpOps_nil ?_
      refine vIf rfl (fun h4 => ?_) (fun h4 => ?_)
      · skip
        refine vp_seq ?_
        refine vp_region ?_
        refine vpOps_call (gs := []) (c_sPairs  ) rfl rfl rfl rfl rfl trivial (by kernel_rfl) rfl rfl gives_nil rfl (fun _ _ _ => .inl rfl) ?_
        rintro _ _ ⟨rfl, rfl⟩
        refine vpOps_assign (x := .own 1 (pairsL.map i64c)) rfl rfl rfl rfl rfl rfl rfl ?_
        refine vpOps_nil ?_
        refine vp_region ?_
        refine vpOps_pure (x := .v (.int .i64 5)) (pAs rfl rfl rfl) rfl rfl rfl rfl ?_
        refine vpOps_nil ?_
        refine vp_seq ?_
        refine vp_seq ?_
        refine vp_region ?_
        refine vpOps_pure (x := .v (.int .i64 0)) (pAs rfl rfl rfl) rfl rfl rfl rfl ?_
        refine vpOps_nil ?_
        refine vp_block ?_
        refine vLoop (α := Nat) (fun k => f.size.toNat - k) (fun k => ((k : Int) ≤ f.size) ∧ True) (fun k => [(0, .rbox [.v (.string f.name), .v (.int .i8 f.kind), .v (.int .i16 f.start), .v (.int .i16 f.size)]), (1, .v (.int .i64 v)), (4, .box [.v (.int .u64 0), .v (.int .u64 0)]), (5, .v (.int .i64 f.start)), (6, .v (.int .i64 f.size)), (7, .box [.v (.int .u64 ((((digitsTo f v k).a : Nat) : Int))), .v (.int .u64 ((((digitsTo f v k).b : Nat) : Int)))]), (8, .own 1 (pairsL.map i64c)), (9, .v (.int .i64 5)), (10, .v (.int .i64 ((k : Nat) : Int))), (26, .v (.int .i8 f.kind))]) (fun _ => rfl) (fun _ => rfl) 0 ⟨(by omega), trivial⟩ ⟨rfl, rfl, rfl, rfl, rfl, (show (.box [.v (.int .u64 0), .v (.int .u64 0)] : PV) = .box [.v (.int .u64 ((((digitsTo f v 0).a : Nat) : Int))), .v (.int .u64 ((((digitsTo f v 0).b : Nat) : Int)))] from by rfl), rfl, rfl, rfl, rfl, trivial⟩ ?_
        rintro k ⟨hk, -⟩
        have hok := digitsTo_ok (v := v) hf h0 h3 k hk
        have hwf := hok.wf
        have hpp := pow10_pos (f.size - 1 - (k : Int)).toNat
        have hdv := ediv_le hv.1 (show (0 : Int) < ((10 ^ (f.size - 1 - (k : Int)).toNat : Nat) : Int) by omega)
        have hl1 : sumsL.length = 10 := rfl
        have hl2 : pairsL.length = 10 := rfl
        have hc1 := sums_num (v / ((10 ^ (f.size - 1 - (k : Int)).toNat : Nat) : Int) % 10).toNat
        have hc2 := pairs_num (v / ((10 ^ (f.size - 1 - (k : Int)).toNat : Nat) : Int) % 10).toNat
        refine vp_seq ?_
        refine vp_seq ?_
        refine vp_region ?_
        refine vpOps_pure (x := .v (.int .i64 ((k : Nat) : Int))) (pMv rfl rfl rfl) rfl rfl rfl rfl ?_
        refine vpOps_pure (x := .v (.int .i64 f.size)) (pMv rfl rfl rfl) rfl rfl rfl rfl ?_
        refine vpOps_pure (x := .v (.bool (decide (((k : Nat) : Int) < f.size)))) (pure_bin rfl rfl rfl rfl) rfl rfl rfl rfl ?_
        refine vpOps_nil ?_
        refine vIf rfl (fun h5 => ?_) (fun h5 => ?_)
        · skip
          refine vp_skip ?_
          refine vp_seq ?_
          refine vp_block ?_
          refine vp_seq ?_
          refine vp_region ?_
          refine vpOps_pure (x := .v (.int .i64 v)) (pMv rfl rfl rfl) rfl rfl rfl rfl ?_
          refine vpOps_pure (x := .v (.int .i64 f.size)) (pMv rfl rfl rfl) rfl rfl rfl rfl ?_
          refine vpOps_pure (x := .v (.int .i64 (f.size - 1))) (pure_sub rfl rfl rfl (in64 (by omega) (by omega))) rfl rfl rfl rfl ?_
          refine vpOps_pure (x := .v (.int .i64 ((k : Nat) : Int))) (pMv rfl rfl rfl) rfl rfl rfl rfl ?_
          refine vpOps_pure (x := .v (.int .i64 ((f.size - 1) - ((k : Nat) : Int)))) (pure_sub rfl rfl rfl (in64 (by omega) (by omega))) rfl rfl rfl rfl ?_
          refine vpOps_call (gs := [⟨.const (.int .i64 10), .v (.int .i64 10), none, none⟩, ⟨.tmp 67, .v (.int .i64 ((f.size - 1) - ((k : Nat) : Int))), none, none⟩]) (c_sPower 10 ((f.size - 1) - ((k : Nat) : Int)) (by first | assumption | omega | exact noM_ok | exact (hbok (by assumption)).wf | exact (bitM_ok (by omega)).wf | exact powB (n := f.size - 1 - ↑k) (by omega)) (by first | assumption | omega | exact noM_ok | exact (hbok (by assumption)).wf | exact (bitM_ok (by omega)).wf | exact powB (n := f.size - 1 - ↑k) (by omega)) (by first | assumption | omega | exact noM_ok | exact (hbok (by assumption)).wf | exact (bitM_ok (by omega)).wf | exact powB (n := f.size - 1 - ↑k) (by omega))) rfl rfl rfl rfl rfl trivial (by kernel_rfl) rfl rfl (gives_cons (gC rfl rfl) (gives_cons (gC rfl rfl) gives_nil)) rfl (fun _ _ _ => .inl rfl) ?_
          rintro _ _ ⟨rfl, rfl⟩
          refine vpOps_pure (x := .v (.int .i64 (v / ((((10 ^ ((f.size - 1) - ((k : Nat) : Int)).toNat) : Nat) : Int))))) (pQuoP rfl rfl rfl (by omega) (by omega) (in64 (by omega) (by omega)).2) rfl rfl rfl rfl ?_
          refine vpOps_pure (x := .v (.int .i64 ((v / ((((10 ^ ((f.size - 1) - ((k : Nat) : Int)).toNat) : Nat) : Int))) % 10))) (pRemN rfl rfl rfl (by omega) (by decide)) rfl rfl rfl rfl ?_
          refine vpOps_pure (x := .v (.int .i64 ((v / ((((10 ^ ((f.size - 1) - ((k : Nat) : Int)).toNat) : Nat) : Int))) % 10))) (pAs rfl rfl rfl) rfl rfl rfl rfl ?_
          refine vpOps_nil ?_
          refine vRegD 12 ((71, .agg [.v (.int .u64 ((((digitsTo f v k).a : Nat) : Int))), .v (.int .u64 ((((digitsTo f v k).b : Nat) : Int)))]) :: (72, .v (.int .i64 f.start)) :: (73, .v (.int .i64 5)) :: (74, .v (.int .i64 ((k : Nat) : Int))) :: (75, .v (.int .i64 (5 * ((k : Nat) : Int)))) :: (76, .v (.int .i64 (f.start + (5 * ((k : Nat) : Int))))) :: (77, .v (.int .i64 5)) :: (78, .lv 8 []) :: (79, .v (.int .i64 ((v / ((((10 ^ ((f.size - 1) - ((k : Nat) : Int)).toNat) : Nat) : Int))) % 10))) :: (80, .pl 8 [⟨((v / ((((10 ^ ((f.size - 1) - ((k : Nat) : Int)).toNat) : Nat) : Int))) % 10).toNat, 0, 1⟩]) :: (81, .v (.int .i64 (pairsL.getD (((v / ((((10 ^ ((f.size - 1) - ((k : Nat) : Int)).toNat) : Nat) : Int))) % 10).toNat) default))) :: (82, .agg [.v (.int .u64 ((((notchTo (digitsTo f v k) (f.start + (5 * ((k : Nat) : Int))) 5 (pairsL.getD (((v / ((((10 ^ ((f.size - 1) - ((k : Nat) : Int)).toNat) : Nat) : Int))) % 10).toNat) default) 5).a : Nat) : Int))), .v (.int .u64 ((((notchTo (digitsTo f v k) (f.start + (5 * ((k : Nat) : Int))) 5 (pairsL.getD (((v / ((((10 ^ ((f.size - 1) - ((k : Nat) : Int)).toNat) : Nat) : Int))) % 10).toNat) default) 5).b : Nat) : Int)))]) :: []) (0 :: 0 :: 0 :: 0 :: 12 :: 30 :: 0 :: 0 :: 0 :: 384 :: 896 :: 2047 :: 4095 :: []) (by kernel_rfl) rfl (by kernel_rfl) (by kernel_rfl) (by kernel_rfl) (by kernel_rfl) (by kernel_rfl) ⟨
              dPure rfl (pure_load_pl_agg rfl rfl rfl rfl rfl rfl rfl rfl (by simp [PV.flatL, PV.flat])),
              dPure rfl (pMv rfl rfl rfl),
              dPure rfl (pMv rfl rfl rfl),
              dPure rfl (pMv rfl rfl rfl),
              dPure rfl (pure_mul rfl rfl rfl (in64 (by omega) (by omega))),
              dPure rfl (pure_add rfl rfl rfl (in64 (by omega) (by omega))),
              dPure rfl (pMv rfl rfl rfl),
              dPure rfl (pure_move_lv rfl),
              dPure rfl (pMv rfl rfl rfl),
              dPure rfl (pIxR (m := ((v / ((((10 ^ ((f.size - 1) - ((k : Nat) : Int)).toNat) : Nat) : Int))) % 10).toNat) rfl rfl rfl rfl rfl rfl (by first | rfl | omega) (by rw [List.length_map]; omega) rfl),
              dPure rfl (pure_load_pl rfl rfl rfl rfl rfl (row_map (by omega)) rfl trivial rfl),
              dPure rfl (pure_call (gs := [⟨.tmp 71, .agg [.v (.int .u64 ((((digitsTo f v k).a : Nat) : Int))), .v (.int .u64 ((((digitsTo f v k).b : Nat) : Int)))], none, none⟩, ⟨.tmp 76, .v (.int .i64 (f.start + (5 * ((k : Nat) : Int)))), none, none⟩, ⟨.tmp 77, .v (.int .i64 5), none, none⟩, ⟨.tmp 81, .v (.int .i64 (pairsL.getD (((v / ((((10 ^ ((f.size - 1) - ((k : Nat) : Int)).toNat) : Nat) : Int))) % 10).toNat) default)), none, none⟩]) (c_sNotch (digitsTo f v k) (f.start + (5 * ((k : Nat) : Int))) 5 (pairsL.getD (((v / ((((10 ^ ((f.size - 1) - ((k : Nat) : Int)).toNat) : Nat) : Int))) % 10).toNat) default) (by first | assumption | omega | exact noM_ok | exact (hbok (by assumption)).wf | exact (bitM_ok (by omega)).wf | exact powB (n := f.size - 1 - ↑k) (by omega)) (by first | assumption | omega | exact noM_ok | exact (hbok (by assumption)).wf | exact (bitM_ok (by omega)).wf | exact powB (n := f.size - 1 - ↑k) (by omega)) (by first | assumption | omega | exact noM_ok | exact (hbok (by assumption)).wf | exact (bitM_ok (by omega)).wf | exact powB (n := f.size - 1 - ↑k) (by omega)) (by first | assumption | omega | exact noM_ok | exact (hbok (by assumption)).wf | exact (bitM_ok (by omega)).wf | exact powB (n := f.size - 1 - ↑k) (by omega)) (by first | assumption | omega | exact noM_ok | exact (hbok (by assumption)).wf | exact (bitM_ok (by omega)).wf | exact powB (n := f.size - 1 - ↑k) (by omega))) rfl rfl trivial (by kernel_rfl) rfl rfl (gives_cons (gC rfl rfl) (gives_cons (gC rfl rfl) (gives_cons (gC rfl rfl) (gives_cons (gC rfl rfl) gives_nil)))) rfl (fun _ _ h => h.1) ⟨trivial, ⟨trivial, trivial⟩⟩),
              trivial⟩ ?_
          refine vStB (x := .agg [.v (.int .u64 ((((notchTo (digitsTo f v k) (f.start + (5 * ((k : Nat) : Int))) 5 (pairsL.getD (((v / ((((10 ^ ((f.size - 1) - ((k : Nat) : Int)).toNat) : Nat) : Int))) % 10).toNat) default) 5).a : Nat) : Int))), .v (.int .u64 ((((notchTo (digitsTo f v k) (f.start + (5 * ((k : Nat) : Int))) 5 (pairsL.getD (((v / ((((10 ^ ((f.size - 1) - ((k : Nat) : Int)).toNat) : Nat) : Int))) % 10).toNat) default) 5).b : Nat) : Int)))]) (row' := [.v (.int .u64 ((((notchTo (digitsTo f v k) (f.start + (5 * ((k : Nat) : Int))) 5 (pairsL.getD (((v / ((((10 ^ ((f.size - 1) - ((k : Nat) : Int)).toNat) : Nat) : Int))) % 10).toNat) default) 5).a : Nat) : Int))), .v (.int .u64 ((((notchTo (digitsTo f v k) (f.start + (5 * ((k : Nat) : Int))) 5 (pairsL.getD (((v / ((((10 ^ ((f.size - 1) - ((k : Nat) : Int)).toNat) : Nat) : Int))) % 10).toNat) default) 5).b : Nat) : Int)))]) rfl rfl rfl rfl rfl rfl rfl rfl rfl rfl rfl rfl ?_
          refine vpOps_nil ?_
          refine vp_region ?_
          refine vpOps_pure (x := .v (.int .i64 ((k : Nat) : Int))) (pMv rfl rfl rfl) rfl rfl rfl rfl ?_
          refine vpOps_pure (x := .v (.int .i64 (((k : Nat) : Int) + 1))) (pure_add rfl rfl rfl (in64 (by omega) (by omega))) rfl rfl rfl rfl ?_
          refine vpOps_pure (x := .v (.int .i64 (((k : Nat) : Int) + 1))) (pAs rfl rfl rfl) rfl rfl rfl rfl ?_
          refine vpOps_nil ?_
          exact ⟨k + 1, (by first | omega | (dsimp only; omega)), ⟨(by omega), trivial⟩, ⟨rfl, rfl, rfl, rfl, rfl, (show (.box [.v (.int .u64 ((((notchTo (digitsTo f v k) (f.start + (5 * ((k : Nat) : Int))) 5 (pairsL.getD (((v / ((((10 ^ ((f.size - 1) - ((k : Nat) : Int)).toNat) : Nat) : Int))) % 10).toNat) default) 5).a : Nat) : Int))), .v (.int .u64 ((((notchTo (digitsTo f v k) (f.start + (5 * ((k : Nat) : Int))) 5 (pairsL.getD (((v / ((((10 ^ ((f.size - 1) - ((k : Nat) : Int)).toNat) : Nat) : Int))) % 10).toNat) default) 5).b : Nat) : Int)))] : PV) = .box [.v (.int .u64 ((((digitsTo f v (k + 1)).a : Nat) : Int))), .v (.int .u64 ((((digitsTo f v (k + 1)).b : Nat) : Int)))] from by rw [digitsTo, holesF, codesF]; first | (simp only [*, if_true, if_false, digitF]; done) | (simp only [*, if_true, if_false, digitF]; rfl)), rfl, rfl, rfl, rfl, trivial⟩⟩
        · skip
          refine vp_exit ?_
          refine vp_seq ?_
          refine vp_region ?_
          refine vpOps_pure (x := .agg [.v (.int .u64 ((((digitsTo f v k).a : Nat) : Int))), .v (.int .u64 ((((digitsTo f v k).b : Nat) : Int)))]) (pure_load_pl_agg rfl rfl rfl rfl rfl rfl rfl rfl (by simp [PV.flatL, PV.flat])) rfl rfl rfl rfl ?_
          refine vStB (x := .agg [.v (.int .u64 ((((digitsTo f v k).a : Nat) : Int))), .v (.int .u64 ((((digitsTo f v k).b : Nat) : Int)))]) (row' := [.v (.int .u64 ((((digitsTo f v k).a : Nat) : Int))), .v (.int .u64 ((((digitsTo f v k).b : Nat) : Int)))]) rfl rfl rfl rfl rfl rfl rfl rfl rfl rfl rfl rfl ?_
          refine vpOps_nil ?_
          refine vp_ret ?_
          exact ⟨[.agg [.v (.int .u64 ((((digitsTo f v k).a : Nat) : Int))), .v (.int .u64 ((((digitsTo f v k).b : Nat) : Int)))]], [4], (.cons (.cellAgg rfl rfl rfl) .nil), rfl, ⟨(show (.agg [.v (.int .u64 ((((digitsTo f v k).a : Nat) : Int))), .v (.int .u64 ((((digitsTo f v k).b : Nat) : Int)))] : PV) = .agg [.v (.int .u64 ((((codeM f v).a : Nat) : Int))), .v (.int .u64 ((((codeM f v).b : Nat) : Int)))] from (by first | (rw [codeM, if_pos (by assumption)]; done) | (rw [codeM, if_neg (by assumption), if_pos (by assumption), if_pos (by assumption)]; rfl) | (rw [codeM, if_neg (by assumption), if_pos (by assumption), if_neg (by assumption)]; rfl) | (rw [codeM, if_neg (by assumption), if_neg (by assumption), show f.size.toNat = k by omega]))), rfl⟩⟩
      · skip
        refine vp_skip ?_
        refine vp_seq ?_
        refine vp_seq ?_
        refine vp_region ?_
        refine vpOps_pure (x := .v (.int .i64 0)) (pAs rfl rfl rfl) rfl rfl rfl rfl ?_
        refine vpOps_nil ?_
        refine vp_block ?_
        refine vLoop (α := Nat) (fun k => f.size.toNat - k) (fun k => ((k : Int) ≤ f.size) ∧ True) (fun k => [(0, .rbox [.v (.string f.name), .v (.int .i8 f.kind), .v (.int .i16 f.start), .v (.int .i16 f.size)]), (1, .v (.int .i64 v)), (4, .box [.v (.int .u64 0), .v (.int .u64 0)]), (5, .v (.int .i64 f.start)), (6, .v (.int .i64 f.size)), (7, .box [.v (.int .u64 ((((digitsTo f v k).a : Nat) : Int))), .v (.int .u64 ((((digitsTo f v k).b : Nat) : Int)))]), (8, .own 1 (sumsL.map i64c)), (9, .v (.int .i64 4)), (10, .v (.int .i64 ((k : Nat) : Int))), (26, .v (.int .i8 f.kind))]) (fun _ => rfl) (fun _ => rfl) 0 ⟨(by omega), trivial⟩ ⟨rfl, rfl, rfl, rfl, rfl, (show (.box [.v (.int .u64 0), .v (.int .u64 0)] : PV) = .box [.v (.int .u64 ((((digitsTo f v 0).a : Nat) : Int))), .v (.int .u64 ((((digitsTo f v 0).b : Nat) : Int)))] from by rfl), rfl, rfl, rfl, rfl, trivial⟩ ?_
        rintro k ⟨hk, -⟩
        have hok := digitsTo_ok (v := v) hf h0 h3 k hk
        have hwf := hok.wf
        have hpp := pow10_pos (f.size - 1 - (k : Int)).toNat
        have hdv := ediv_le hv.1 (show (0 : Int) < ((10 ^ (f.size - 1 - (k : Int)).toNat : Nat) : Int) by omega)
        have hl1 : sumsL.length = 10 := rfl
        have hl2 : pairsL.length = 10 := rfl
        have hc1 := sums_num (v / ((10 ^ (f.size - 1 - (k : Int)).toNat : Nat) : Int) % 10).toNat
        have hc2 := pairs_num (v / ((10 ^ (f.size - 1 - (k : Int)).toNat : Nat) : Int) % 10).toNat
        refine vp_seq ?_
        refine vp_seq ?_
        refine vp_region ?_
        refine vpOps_pure (x := .v (.int .i64 ((k : Nat) : Int))) (pMv rfl rfl rfl) rfl rfl rfl rfl ?_
        refine vpOps_pure (x := .v (.int .i64 f.size)) (pMv rfl rfl rfl) rfl rfl rfl rfl ?_
        refine vpOps_pure (x := .v (.bool (decide (((k : Nat) : Int) < f.size)))) (pure_bin rfl rfl rfl rfl) rfl rfl rfl rfl ?_
        refine vpOps_nil ?_
        refine vIf rfl (fun h6 => ?_) (fun h6 => ?_)
        · skip
          refine vp_skip ?_
          refine vp_seq ?_
          refine vp_block ?_
          refine vp_seq ?_
          refine vp_region ?_
          refine vpOps_pure (x := .v (.int .i64 v)) (pMv rfl rfl rfl) rfl rfl rfl rfl ?_
          refine vpOps_pure (x := .v (.int .i64 f.size)) (pMv rfl rfl rfl) rfl rfl rfl rfl ?_
          refine vpOps_pure (x := .v (.int .i64 (f.size - 1))) (pure_sub rfl rfl rfl (in64 (by omega) (by omega))) rfl rfl rfl rfl ?_
          refine vpOps_pure (x := .v (.int .i64 ((k : Nat) : Int))) (pMv rfl rfl rfl) rfl rfl rfl rfl ?_
          refine vpOps_pure (x := .v (.int .i64 ((f.size - 1) - ((k : Nat) : Int)))) (pure_sub rfl rfl rfl (in64 (by omega) (by omega))) rfl rfl rfl rfl ?_
          refine vpOps_call (gs := [⟨.const (.int .i64 10), .v (.int .i64 10), none, none⟩, ⟨.tmp 67, .v (.int .i64 ((f.size - 1) - ((k : Nat) : Int))), none, none⟩]) (c_sPower 10 ((f.size - 1) - ((k : Nat) : Int)) (by first | assumption | omega | exact noM_ok | exact (hbok (by assumption)).wf | exact (bitM_ok (by omega)).wf | exact powB (n := f.size - 1 - ↑k) (by omega)) (by first | assumption | omega | exact noM_ok | exact (hbok (by assumption)).wf | exact (bitM_ok (by omega)).wf | exact powB (n := f.size - 1 - ↑k) (by omega)) (by first | assumption | omega | exact noM_ok | exact (hbok (by assumption)).wf | exact (bitM_ok (by omega)).wf | exact powB (n := f.size - 1 - ↑k) (by omega))) rfl rfl rfl rfl rfl trivial (by kernel_rfl) rfl rfl (gives_cons (gC rfl rfl) (gives_cons (gC rfl rfl) gives_nil)) rfl (fun _ _ _ => .inl rfl) ?_
          rintro _ _ ⟨rfl, rfl⟩
          refine vpOps_pure (x := .v (.int .i64 (v / ((((10 ^ ((f.size - 1) - ((k : Nat) : Int)).toNat) : Nat) : Int))))) (pQuoP rfl rfl rfl (by omega) (by omega) (in64 (by omega) (by omega)).2) rfl rfl rfl rfl ?_
          refine vpOps_pure (x := .v (.int .i64 ((v / ((((10 ^ ((f.size - 1) - ((k : Nat) : Int)).toNat) : Nat) : Int))) % 10))) (pRemN rfl rfl rfl (by omega) (by decide)) rfl rfl rfl rfl ?_
          refine vpOps_pure (x := .v (.int .i64 ((v / ((((10 ^ ((f.size - 1) - ((k : Nat) : Int)).toNat) : Nat) : Int))) % 10))) (pAs rfl rfl rfl) rfl rfl rfl rfl ?_
          refine vpOps_nil ?_
          refine vRegD 12 ((71, .agg [.v (.int .u64 ((((digitsTo f v k).a : Nat) : Int))), .v (.int .u64 ((((digitsTo f v k).b : Nat) : Int)))]) :: (72, .v (.int .i64 f.start)) :: (73, .v (.int .i64 4)) :: (74, .v (.int .i64 ((k : Nat) : Int))) :: (75, .v (.int .i64 (4 * ((k : Nat) : Int)))) :: (76, .v (.int .i64 (f.start + (4 * ((k : Nat) : Int))))) :: (77, .v (.int .i64 4)) :: (78, .lv 8 []) :: (79, .v (.int .i64 ((v / ((((10 ^ ((f.size - 1) - ((k : Nat) : Int)).toNat) : Nat) : Int))) % 10))) :: (80, .pl 8 [⟨((v / ((((10 ^ ((f.size - 1) - ((k : Nat) : Int)).toNat) : Nat) : Int))) % 10).toNat, 0, 1⟩]) :: (81, .v (.int .i64 (sumsL.getD (((v / ((((10 ^ ((f.size - 1) - ((k : Nat) : Int)).toNat) : Nat) : Int))) % 10).toNat) default))) :: (82, .agg [.v (.int .u64 ((((notchTo (digitsTo f v k) (f.start + (4 * ((k : Nat) : Int))) 4 (sumsL.getD (((v / ((((10 ^ ((f.size - 1) - ((k : Nat) : Int)).toNat) : Nat) : Int))) % 10).toNat) default) 4).a : Nat) : Int))), .v (.int .u64 ((((notchTo (digitsTo f v k) (f.start + (4 * ((k : Nat) : Int))) 4 (sumsL.getD (((v / ((((10 ^ ((f.size - 1) - ((k : Nat) : Int)).toNat) : Nat) : Int))) % 10).toNat) default) 4).b : Nat) : Int)))]) :: []) (0 :: 0 :: 0 :: 0 :: 12 :: 30 :: 0 :: 0 :: 0 :: 384 :: 896 :: 2047 :: 4095 :: []) (by kernel_rfl) rfl (by kernel_rfl) (by kernel_rfl) (by kernel_rfl) (by kernel_rfl) (by kernel_rfl) ⟨
              dPure rfl (pure_load_pl_agg rfl rfl rfl rfl rfl rfl rfl rfl (by simp [PV.flatL, PV.flat])),
              dPure rfl (pMv rfl rfl rfl),
              dPure rfl (pMv rfl rfl rfl),
              dPure rfl (pMv rfl rfl rfl),
              dPure rfl (pure_mul rfl rfl rfl (in64 (by omega) (by omega))),
              dPure rfl (pure_add rfl rfl rfl (in64 (by omega) (by omega))),
              dPure rfl (pMv rfl rfl rfl),
              dPure rfl (pure_move_lv rfl),
              dPure rfl (pMv rfl rfl rfl),
              dPure rfl (pIxR (m := ((v / ((((10 ^ ((f.size - 1) - ((k : Nat) : Int)).toNat) : Nat) : Int))) % 10).toNat) rfl rfl rfl rfl rfl rfl (by first | rfl | omega) (by rw [List.length_map]; omega) rfl),
              dPure rfl (pure_load_pl rfl rfl rfl rfl rfl (row_map (by omega)) rfl trivial rfl),
              dPure rfl (pure_call (gs := [⟨.tmp 71, .agg [.v (.int .u64 ((((digitsTo f v k).a : Nat) : Int))), .v (.int .u64 ((((digitsTo f v k).b : Nat) : Int)))], none, none⟩, ⟨.tmp 76, .v (.int .i64 (f.start + (4 * ((k : Nat) : Int)))), none, none⟩, ⟨.tmp 77, .v (.int .i64 4), none, none⟩, ⟨.tmp 81, .v (.int .i64 (sumsL.getD (((v / ((((10 ^ ((f.size - 1) - ((k : Nat) : Int)).toNat) : Nat) : Int))) % 10).toNat) default)), none, none⟩]) (c_sNotch (digitsTo f v k) (f.start + (4 * ((k : Nat) : Int))) 4 (sumsL.getD (((v / ((((10 ^ ((f.size - 1) - ((k : Nat) : Int)).toNat) : Nat) : Int))) % 10).toNat) default) (by first | assumption | omega | exact noM_ok | exact (hbok (by assumption)).wf | exact (bitM_ok (by omega)).wf | exact powB (n := f.size - 1 - ↑k) (by omega)) (by first | assumption | omega | exact noM_ok | exact (hbok (by assumption)).wf | exact (bitM_ok (by omega)).wf | exact powB (n := f.size - 1 - ↑k) (by omega)) (by first | assumption | omega | exact noM_ok | exact (hbok (by assumption)).wf | exact (bitM_ok (by omega)).wf | exact powB (n := f.size - 1 - ↑k) (by omega)) (by first | assumption | omega | exact noM_ok | exact (hbok (by assumption)).wf | exact (bitM_ok (by omega)).wf | exact powB (n := f.size - 1 - ↑k) (by omega)) (by first | assumption | omega | exact noM_ok | exact (hbok (by assumption)).wf | exact (bitM_ok (by omega)).wf | exact powB (n := f.size - 1 - ↑k) (by omega))) rfl rfl trivial (by kernel_rfl) rfl rfl (gives_cons (gC rfl rfl) (gives_cons (gC rfl rfl) (gives_cons (gC rfl rfl) (gives_cons (gC rfl rfl) gives_nil)))) rfl (fun _ _ h => h.1) ⟨trivial, ⟨trivial, trivial⟩⟩),
              trivial⟩ ?_
          refine vStB (x := .agg [.v (.int .u64 ((((notchTo (digitsTo f v k) (f.start + (4 * ((k : Nat) : Int))) 4 (sumsL.getD (((v / ((((10 ^ ((f.size - 1) - ((k : Nat) : Int)).toNat) : Nat) : Int))) % 10).toNat) default) 4).a : Nat) : Int))), .v (.int .u64 ((((notchTo (digitsTo f v k) (f.start + (4 * ((k : Nat) : Int))) 4 (sumsL.getD (((v / ((((10 ^ ((f.size - 1) - ((k : Nat) : Int)).toNat) : Nat) : Int))) % 10).toNat) default) 4).b : Nat) : Int)))]) (row' := [.v (.int .u64 ((((notchTo (digitsTo f v k) (f.start + (4 * ((k : Nat) : Int))) 4 (sumsL.getD (((v / ((((10 ^ ((f.size - 1) - ((k : Nat) : Int)).toNat) : Nat) : Int))) % 10).toNat) default) 4).a : Nat) : Int))), .v (.int .u64 ((((notchTo (digitsTo f v k) (f.start + (4 * ((k : Nat) : Int))) 4 (sumsL.getD (((v / ((((10 ^ ((f.size - 1) - ((k : Nat) : Int)).toNat) : Nat) : Int))) % 10).toNat) default) 4).b : Nat) : Int)))]) rfl rfl rfl rfl rfl rfl rfl rfl rfl rfl rfl rfl ?_
          refine vpOps_nil ?_
          refine vp_region ?_
          refine vpOps_pure (x := .v (.int .i64 ((k : Nat) : Int))) (pMv rfl rfl rfl) rfl rfl rfl rfl ?_
          refine vpOps_pure (x := .v (.int .i64 (((k : Nat) : Int) + 1))) (pure_add rfl rfl rfl (in64 (by omega) (by omega))) rfl rfl rfl rfl ?_
          refine vpOps_pure (x := .v (.int .i64 (((k : Nat) : Int) + 1))) (pAs rfl rfl rfl) rfl rfl rfl rfl ?_
          refine vpOps_nil ?_
          exact ⟨k + 1, (by first | omega | (dsimp only; omega)), ⟨(by omega), trivial⟩, ⟨rfl, rfl, rfl, rfl, rfl, (show (.box [.v (.int .u64 ((((notchTo (digitsTo f v k) (f.start + (4 * ((k : Nat) : Int))) 4 (sumsL.getD (((v / ((((10 ^ ((f.size - 1) - ((k : Nat) : Int)).toNat) : Nat) : Int))) % 10).toNat) default) 4).a : Nat) : Int))), .v (.int .u64 ((((notchTo (digitsTo f v k) (f.start + (4 * ((k : Nat) : Int))) 4 (sumsL.getD (((v / ((((10 ^ ((f.size - 1) - ((k : Nat) : Int)).toNat) : Nat) : Int))) % 10).toNat) default) 4).b : Nat) : Int)))] : PV) = .box [.v (.int .u64 ((((digitsTo f v (k + 1)).a : Nat) : Int))), .v (.int .u64 ((((digitsTo f v (k + 1)).b : Nat) : Int)))] from by rw [digitsTo, holesF, codesF]; first | (simp only [*, if_true, if_false, digitF]; done) | (simp only [*, if_true, if_false, digitF]; rfl)), rfl, rfl, rfl, rfl, trivial⟩⟩
        · skip
          refine vp_exit ?_
          refine vp_seq ?_
          refine vp_region ?_
          refine vpOps_pure (x := .agg [.v (.int .u64 ((((digitsTo f v k).a : Nat) : Int))), .v (.int .u64 ((((digitsTo f v k).b : Nat) : Int)))]) (pure_load_pl_agg rfl rfl rfl rfl rfl rfl rfl rfl (by simp [PV.flatL, PV.flat])) rfl rfl rfl rfl ?_
          refine vStB (x := .agg [.v (.int .u64 ((((digitsTo f v k).a : Nat) : Int))), .v (.int .u64 ((((digitsTo f v k).b : Nat) : Int)))]) (row' := [.v (.int .u64 ((((digitsTo f v k).a : Nat) : Int))), .v (.int .u64 ((((digitsTo f v k).b : Nat) : Int)))]) rfl rfl rfl rfl rfl rfl rfl rfl rfl rfl rfl rfl ?_
          refine vpOps_nil ?_
          refine vp_ret ?_
          exact ⟨[.agg [.v (.int .u64 ((((digitsTo f v k).a : Nat) : Int))), .v (.int .u64 ((((digitsTo f v k).b : Nat) : Int)))]], [4], (.cons (.cellAgg rfl rfl rfl) .nil), rfl, ⟨(show (.agg [.v (.int .u64 ((((digitsTo f v k).a : Nat) : Int))), .v (.int .u64 ((((digitsTo f v k).b : Nat) : Int)))] : PV) = .agg [.v (.int .u64 ((((codeM f v).a : Nat) : Int))), .v (.int .u64 ((((codeM f v).b : Nat) : Int)))] from (by first | (rw [codeM, if_pos (by assumption)]; done) | (rw [codeM, if_neg (by assumption), if_pos (by assumption), if_pos (by assumption)]; rfl) | (rw [codeM, if_neg (by assumption), if_pos (by assumption), if_neg (by assumption)]; rfl) | (rw [codeM, if_neg (by assumption), if_neg (by assumption), show f.size.toNat = k by omega]))), rfl⟩⟩

end Go.Vr
