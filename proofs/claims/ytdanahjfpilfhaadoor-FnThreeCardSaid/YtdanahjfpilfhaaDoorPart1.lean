/- Walks through functions that the law reaches, and what these compute in plain terms; a part of the proof of the statement in YtdanahjfpilfhaaDoorClose. -/
import Derived.Test.YtdanahjfpilfhaaDoorLayer2
/- Plain definitions and laws: lists, masks, fields, cards. -/
namespace Go.Vr
open Go
set_option linter.unusedVariables false
set_option linter.unusedSimpArgs false

def i64c (x : Int) : List PV := [.v (.int .i64 x)]
def i32c (x : Int) : List PV := [.v (.int .i32 x)]
def i16c (x : Int) : List PV := [.v (.int .i16 x)]
def i8c (x : Int) : List PV := [.v (.int .i8 x)]
def strc (x : ByteArray) : List PV := [.v (.string x)]
def boolc (x : Bool) : List PV := [.v (.bool x)]
def i64sO (x : List Int) : List PV := [.own 1 (x.map i64c)]
def i64sS (x : List Int) : List PV := [.sh 1 (x.map i64c)]
/-! ### lists by index -/
theorem drop_eq_step {α : Type} [Inhabited α] {xs ys : List α} {i : Nat} (hl : xs.length = ys.length) (h : i < xs.length) : xs.drop i = ys.drop i ↔ xs.getD i default = ys.getD i default ∧ xs.drop (i + 1) = ys.drop (i + 1) := by
  rw [List.drop_eq_getElem_cons h, List.drop_eq_getElem_cons (show i < ys.length by omega), List.cons.injEq]
  simp [h, show i < ys.length by omega]
theorem drop_eq_end {α : Type} {xs ys : List α} {i : Nat} (hl : xs.length = ys.length) (h : ¬ i < xs.length) : xs.drop i = ys.drop i := by
  rw [List.drop_of_length_le (by omega), List.drop_of_length_le (by omega)]
theorem getD_of {α : Type} [Inhabited α] {p : α → Prop} {xs : List α} (h : ∀ x ∈ xs, p x) (hd : p default) (i : Nat) : p (xs.getD i default) := by
  rw [List.getD_eq_getElem?_getD]
  cases hc : xs[i]? with
  | none => exact hd
  | some k => exact h k (List.mem_of_getElem? hc)
theorem len_nil {α : Type} {xs : List α} : ((xs.length : Nat) : Int) = 0 ↔ xs = [] := by cases xs <;> simp; omega
theorem getD_mem {α : Type} [Inhabited α] {xs : List α} {i : Nat} (h : i < xs.length) : xs.getD i default ∈ xs := by
  rw [List.getD_eq_getElem?_getD, List.getElem?_eq_getElem h]; exact List.getElem_mem h
theorem getD_app_lt {α : Type} [Inhabited α] {xs ys : List α} {i : Nat} (h : i < xs.length) : (xs ++ ys).getD i default = xs.getD i default := by
  simp only [List.getD_eq_getElem?_getD]; rw [List.getElem?_append_left h]
theorem getD_app_eq {α : Type} [Inhabited α] {xs : List α} {y : α} {i : Nat} (h : i = xs.length) : (xs ++ [y]).getD i default = y := by
  subst h; simp [List.getD_eq_getElem?_getD]
theorem len_app1 {α : Type} {xs : List α} {y : α} : (xs ++ [y]).length = xs.length + 1 := by simp
theorem mem_drop_step {α : Type} [Inhabited α] {xs : List α} {n : α} {i : Nat} (h : i < xs.length) : n ∈ xs.drop i ↔ n = xs.getD i default ∨ n ∈ xs.drop (i + 1) := by
  rw [List.drop_eq_getElem_cons h, List.mem_cons]; simp [h]
theorem pickF {p n : Int} (hp : 0 ≤ p) (hn : 1 < n) : 0 ≤ p % n ∧ (p % n < n ∨ p % n = 0) := ⟨Int.emod_nonneg _ (by omega), .inl (Int.emod_lt_of_pos _ (by omega))⟩
theorem ediv_le {p q : Int} (hp : 0 ≤ p) (hq : 0 < q) : 0 ≤ p / q ∧ p / q ≤ p := ⟨Int.ediv_nonneg hp (by omega), Int.ediv_le_self q hp⟩

/-! ### masks: two words of bits -/
structure Mask where
  a : Nat
  b : Nat
  deriving DecidableEq, Inhabited
def maskc (m : Mask) : List PV := [.v (.int .u64 m.a), .v (.int .u64 m.b)]
theorem mask_inj {m n : Mask} : [Value.int .u64 (m.a : Int), .int .u64 (m.b : Int)] = [Value.int .u64 (n.a : Int), .int .u64 (n.b : Int)] ↔ m = n := by
  cases m; cases n; simp; omega
/-- Both words fit. -/
structure Mask.wf (m : Mask) : Prop where
  a : m.a < 18446744073709551616
  b : m.b < 18446744073709551616
/-- Only 96 holes. -/
structure Mask.ok (m : Mask) : Prop where
  a : m.a < 18446744073709551616
  b : m.b < 4294967296
theorem Mask.ok.wf {m : Mask} (h : m.ok) : m.wf := ⟨h.a, by have := h.b; omega⟩
def noM : Mask := ⟨0, 0⟩
def joinM (m n : Mask) : Mask := ⟨m.a ||| n.a, m.b ||| n.b⟩
def meetM (m n : Mask) : Mask := ⟨m.a &&& n.a, m.b &&& n.b⟩
def lessM (m n : Mask) : Mask := ⟨natLess m.a n.a, natLess m.b n.b⟩
def Mask.has (m : Mask) (h : Nat) : Bool := if h < 64 then m.a.testBit h else m.b.testBit (h - 64)
def bitM (h : Nat) : Mask := if h < 64 then ⟨2 ^ h, 0⟩ else ⟨0, 2 ^ (h - 64)⟩

theorem or_lt64 {a b : Nat} (ha : a < 18446744073709551616) (hb : b < 18446744073709551616) : a ||| b < 18446744073709551616 := Nat.or_lt_two_pow (n := 64) ha hb
theorem and_lt64 {a b : Nat} (ha : a < 18446744073709551616) : a &&& b < 18446744073709551616 := Nat.lt_of_le_of_lt Nat.and_le_left ha
theorem less_lt64 {a b : Nat} (ha : a < 18446744073709551616) : natLess a b < 18446744073709551616 := natLess_lt (n := 64) ha
theorem or_lt32 {a b : Nat} (ha : a < 4294967296) (hb : b < 4294967296) : a ||| b < 4294967296 := Nat.or_lt_two_pow (n := 32) ha hb
theorem and_lt32 {a b : Nat} (ha : a < 4294967296) : a &&& b < 4294967296 := Nat.lt_of_le_of_lt Nat.and_le_left ha
theorem less_lt32 {a b : Nat} (ha : a < 4294967296) : natLess a b < 4294967296 := natLess_lt (n := 32) ha
theorem joinM_wf {m n : Mask} (hm : m.wf) (hn : n.wf) : (joinM m n).wf := ⟨or_lt64 hm.a hn.a, or_lt64 hm.b hn.b⟩
theorem joinM_ok {m n : Mask} (hm : m.ok) (hn : n.ok) : (joinM m n).ok := ⟨or_lt64 hm.a hn.a, or_lt32 hm.b hn.b⟩
theorem meetM_wf {m n : Mask} (hm : m.wf) : (meetM m n).wf := ⟨and_lt64 hm.a, and_lt64 hm.b⟩
theorem meetM_ok {m n : Mask} (hm : m.ok) : (meetM m n).ok := ⟨and_lt64 hm.a, and_lt32 hm.b⟩
theorem lessM_wf {m n : Mask} (hm : m.wf) : (lessM m n).wf := ⟨less_lt64 hm.a, less_lt64 hm.b⟩
theorem lessM_ok {m n : Mask} (hm : m.ok) : (lessM m n).ok := ⟨less_lt64 hm.a, less_lt32 hm.b⟩
theorem noM_ok : noM.ok := ⟨by decide, by decide⟩
theorem bitM_wf {h : Nat} (hh : h < 128) : (bitM h).wf := by
  unfold bitM
  split
  · exact ⟨Nat.pow_lt_pow_right (a := 2) (n := 64) (by decide) (by omega), (show (0 : Nat) < _ by decide)⟩
  · exact ⟨(show (0 : Nat) < _ by decide), Nat.pow_lt_pow_right (a := 2) (n := 64) (by decide) (by omega)⟩
theorem bitM_ok {h : Nat} (hh : h < 96) : (bitM h).ok := by
  unfold bitM
  split
  · exact ⟨Nat.pow_lt_pow_right (a := 2) (n := 64) (by decide) (by omega), (show (0 : Nat) < _ by decide)⟩
  · exact ⟨(show (0 : Nat) < _ by decide), Nat.pow_lt_pow_right (a := 2) (n := 32) (by decide) (by omega)⟩
theorem bitM_lo {h : Nat} (hh : h < 64) : bitM h = ⟨1 * 2 ^ h % 18446744073709551616, 0⟩ := by
  unfold bitM
  rw [if_pos hh, Nat.one_mul, Nat.mod_eq_of_lt (Nat.pow_lt_pow_right (a := 2) (n := 64) (by decide) (by omega))]
theorem bitM_hi {h : Nat} (h1 : 64 ≤ h) (hh : h < 128) : bitM h = ⟨0, 1 * 2 ^ (h - 64) % 18446744073709551616⟩ := by
  unfold bitM
  rw [if_neg (by omega), Nat.one_mul, Nat.mod_eq_of_lt (Nat.pow_lt_pow_right (a := 2) (n := 64) (by decide) (by omega))]

/-! ### cards and fields -/
structure Card where
  name : ByteArray
  notches : Mask
  deriving DecidableEq, Inhabited
structure Field where
  name : ByteArray
  kind : Int
  start : Int
  size : Int
  deriving DecidableEq, Inhabited
def cardc (c : Card) : List PV := [.v (.string c.name), .v (.int .u64 c.notches.a), .v (.int .u64 c.notches.b)]
def fieldc (f : Field) : List PV := [.v (.string f.name), .v (.int .i8 f.kind), .v (.int .i16 f.start), .v (.int .i16 f.size)]
theorem card_inj {c d : Card} : [Value.string c.name, .int .u64 (c.notches.a : Int), .int .u64 (c.notches.b : Int)] = [Value.string d.name, .int .u64 (d.notches.a : Int), .int .u64 (d.notches.b : Int)] ↔ c = d := by
  cases c; rename_i n m; cases m; cases d; rename_i n' m'; cases m'; simp; omega
theorem field_inj {c d : Field} : [Value.string c.name, .int .i8 c.kind, .int .i16 c.start, .int .i16 c.size] = [Value.string d.name, .int .i8 d.kind, .int .i16 d.start, .int .i16 d.size] ↔ c = d := by
  cases c; cases d; simp
/-- A name: 1 to 16 small letters. -/
def letterB (b : UInt8) : Bool := 97 ≤ b.toNat && b.toNat ≤ 122
def nameOk (s : ByteArray) : Prop := (s.data.toList.all letterB) = true ∧ 1 ≤ s.size ∧ s.size ≤ 16
instance (s : ByteArray) : Decidable (nameOk s) := by unfold nameOk; infer_instance
def maskOk (m : Mask) : Prop := m.b / 2 ^ 32 = 0
instance (m : Mask) : Decidable (maskOk m) := by unfold maskOk; infer_instance
theorem maskOk_ok {m : Mask} (h : m.wf) (hm : maskOk m) : m.ok := ⟨h.a, by unfold maskOk at hm; have := h.b; rcases Nat.lt_or_ge m.b 4294967296 with h1 | h1; exact h1; exact absurd hm (by have : 1 ≤ m.b / 2 ^ 32 := (Nat.le_div_iff_mul_le (by decide)).2 (by omega); omega)⟩
theorem ok_maskOk {m : Mask} (h : m.ok) : maskOk m := by unfold maskOk; exact Nat.div_eq_of_lt h.b
def cardOk (c : Card) : Prop := nameOk c.name ∧ maskOk c.notches
instance (c : Card) : Decidable (cardOk c) := by unfold cardOk; infer_instance
structure Card.wf (c : Card) : Prop where
  n : c.name.size ≤ 9223372036854775807
  m : c.notches.wf
def deckOk (d : List Card) : Prop := d.length ≤ 80 ∧ ∀ i, i < d.length → cardOk (d.getD i default) ∧ ∀ k, k < i → (d.getD k default).name ≠ (d.getD i default).name
instance (d : List Card) : Decidable (deckOk d) := by unfold deckOk; infer_instance
end Go.Vr
/- Plain definitions and laws: fields in their codes, counts of holes, what the source of choices draws. -/
namespace Go.Vr
open Go
set_option linter.unusedVariables false
set_option linter.unusedSimpArgs false
set_option maxRecDepth 4000

def widthF (f : Field) : Int := if f.kind = 1 then 4 * f.size else if f.kind = 2 then 5 * f.size else if f.kind = 3 then f.size + 1 else f.size
def topF (f : Field) : Int := if f.kind = 0 then 24 else if f.kind = 1 then 4 else if f.kind = 2 then 4 else if f.kind = 3 then 12 else 0
def fieldOk (f : Field) : Prop := nameOk f.name ∧ (1 ≤ f.size ∧ f.size ≤ topF f) ∧ (0 ≤ f.start ∧ f.start ≤ 96 - widthF f)
instance (f : Field) : Decidable (fieldOk f) := by unfold fieldOk; infer_instance
structure Field.wf (f : Field) : Prop where
  n : f.name.size ≤ 9223372036854775807
  k : -128 ≤ f.kind ∧ f.kind ≤ 127
  a : -32768 ≤ f.start ∧ f.start ≤ 32767
  z : -32768 ≤ f.size ∧ f.size ≤ 32767
theorem fieldOk_kind {f : Field} (h : fieldOk f) : f.kind = 0 ∧ f.size ≤ 24 ∧ widthF f = f.size ∨ f.kind = 1 ∧ f.size ≤ 4 ∧ widthF f = 4 * f.size ∨ f.kind = 2 ∧ f.size ≤ 4 ∧ widthF f = 5 * f.size ∨ f.kind = 3 ∧ f.size ≤ 12 ∧ widthF f = f.size + 1 := by
  obtain ⟨_, ⟨h1, h2⟩, _⟩ := h
  unfold topF at h2
  unfold widthF
  split at h2
  · rename_i e; left; simp [e]; omega
  · split at h2
    · rename_i e; right; left; simp [e]; omega
    · split at h2
      · rename_i e; right; right; left; simp [e]; omega
      · split at h2
        · rename_i e; right; right; right; simp [e]; omega
        · omega
/-- The numbers of a valid field, for linear arithmetic. -/
theorem fieldOk_num {f : Field} (h : fieldOk f) : 1 ≤ f.size ∧ f.size ≤ 24 ∧ 0 ≤ f.start ∧ f.start + widthF f ≤ 96 ∧ 1 ≤ widthF f ∧ 0 ≤ f.kind ∧ f.kind ≤ 3 := by
  have hk := fieldOk_kind h
  obtain ⟨_, ⟨h1, h2⟩, h3, h4⟩ := h
  omega
def mostF (f : Field) : Int := if f.kind = 0 then f.size - 1 else if f.kind = 3 then ((2 ^ f.size.toNat : Nat) : Int) - 1 else ((10 ^ f.size.toNat : Nat) : Int) - 1
theorem pow2_le {n k : Nat} (h : n ≤ k) : 2 ^ n ≤ 2 ^ k := Nat.pow_le_pow_right (by decide) h
theorem pow10_le {n k : Nat} (h : n ≤ k) : 10 ^ n ≤ 10 ^ k := Nat.pow_le_pow_right (by decide) h
theorem mostF_num {f : Field} (h : fieldOk f) : 0 ≤ mostF f ∧ mostF f ≤ 9999 := by
  have hk := fieldOk_kind h
  have hn := fieldOk_num h
  unfold mostF
  split
  · omega
  · split
    · have h1 : f.size.toNat ≤ 12 := by omega
      have := pow2_le h1
      have h2 : 0 < 2 ^ f.size.toNat := Nat.pow_pos (by decide)
      omega
    · have h1 : f.size.toNat ≤ 4 := by omega
      have := pow10_le h1
      have h2 : 0 < 10 ^ f.size.toNat := Nat.pow_pos (by decide)
      omega

/-! ### counting bits -/
def popN (n : Nat) : Nat := if h : n = 0 then 0 else n % 2 + popN (n / 2)
termination_by n
decreasing_by omega
theorem popN_0 : popN 0 = 0 := by unfold popN; simp
theorem popN_step (n : Nat) : popN n = n % 2 + popN (n / 2) := by
  by_cases h : n = 0
  · subst h; simp [popN_0]
  · rw [popN]; simp [h]
theorem popN_lt : ∀ (k n : Nat), n < 2 ^ k → popN n ≤ k
  | 0, n, h => by have : n = 0 := by simpa using h
                  subst this; simp [popN_0]
  | k + 1, n, h => by
    rw [popN_step]
    have := popN_lt k (n / 2) (by rw [Nat.pow_succ] at h; omega)
    omega
def countM (m : Mask) : Nat := popN m.a + popN m.b
def cntTo (m : Mask) (i : Nat) : Nat := if i = 0 then 0 else if i = 1 then popN m.a else countM m
theorem countM_le {m : Mask} (h : m.wf) : countM m ≤ 128 := by
  have h1 := popN_lt 64 m.a h.a
  have h2 := popN_lt 64 m.b h.b
  unfold countM; omega

/-! ### codes -/
def notchTo (m : Mask) (start holes bits : Int) : Nat → Mask
  | 0 => m
  | k + 1 => if bits / ((2 ^ (holes - 1 - k).toNat : Nat) : Int) % 2 = 1 then joinM (notchTo m start holes bits k) (bitM (start + k).toNat) else notchTo m start holes bits k
theorem notchTo_ok {m : Mask} {start holes bits : Int} (hm : m.ok) (hs : 0 ≤ start) : ∀ k : Nat, start + k ≤ 96 → (notchTo m start holes bits k).ok
  | 0, _ => hm
  | k + 1, h => by
    have ih := notchTo_ok (holes := holes) (bits := bits) hm hs k (by omega)
    rw [notchTo]
    split
    · exact joinM_ok ih (bitM_ok (by omega))
    · exact ih
def sumsL : List Int := [12, 1, 2, 3, 4, 5, 6, 8, 9, 10]
def pairsL : List Int := [24, 20, 18, 17, 12, 10, 9, 6, 5, 3]
def codesF (f : Field) : List Int := if f.kind = 2 then pairsL else sumsL
def holesF (f : Field) : Int := if f.kind = 2 then 5 else 4
theorem codesF_num (f : Field) (i : Nat) : 0 ≤ (codesF f).getD i default ∧ (codesF f).getD i default ≤ 24 := by
  unfold codesF
  have key : ∀ l : List Int, (∀ x ∈ l, 0 ≤ x ∧ x ≤ 24) → 0 ≤ l.getD i default ∧ l.getD i default ≤ 24 := fun l h => getD_of (p := fun x => 0 ≤ x ∧ x ≤ 24) h (by decide) i
  split
  · exact key _ (by decide)
  · exact key _ (by decide)
def digitF (f : Field) (v : Int) (k : Nat) : Int := v / ((10 ^ (f.size - 1 - k).toNat : Nat) : Int) % 10
def digitsTo (f : Field) (v : Int) : Nat → Mask
  | 0 => noM
  | k + 1 => notchTo (digitsTo f v k) (f.start + holesF f * k) (holesF f) ((codesF f).getD (digitF f v k).toNat default) (holesF f).toNat
def binM (f : Field) (v : Int) : Mask := notchTo noM f.start f.size v f.size.toNat
def codeM (f : Field) (v : Int) : Mask :=
  if f.kind = 0 then bitM (f.start + v).toNat else if f.kind = 3 then (if (countM (binM f v) : Int) % 2 = 0 then joinM (binM f v) (bitM (f.start + f.size).toNat) else binM f v) else digitsTo f v f.size.toNat
theorem digitsTo_ok {f : Field} {v : Int} (hf : fieldOk f) (h0 : f.kind ≠ 0) (h3 : f.kind ≠ 3) : ∀ k : Nat, (k : Int) ≤ f.size → (digitsTo f v k).ok
  | 0, _ => noM_ok
  | k + 1, h => by
    have ih := digitsTo_ok (v := v) hf h0 h3 k (by omega)
    have hk := fieldOk_kind hf
    have hn := fieldOk_num hf
    rw [digitsTo]
    refine notchTo_ok ih ?_ _ ?_
    · unfold holesF; split <;> omega
    · unfold holesF; split <;> omega
theorem codeM_ok {f : Field} {v : Int} (hf : fieldOk f) (hv : 0 ≤ v ∧ v ≤ mostF f) : (codeM f v).ok := by
  have hk := fieldOk_kind hf
  have hn := fieldOk_num hf
  unfold codeM
  split
  · rename_i e
    have : mostF f = f.size - 1 := by unfold mostF; rw [if_pos e]
    exact bitM_ok (by omega)
  · split
    · have hb : (binM f v).ok := notchTo_ok noM_ok hn.2.2.1 _ (by omega)
      split
      · exact joinM_ok hb (bitM_ok (by omega))
      · exact hb
    · exact digitsTo_ok hf (by assumption) (by assumption) _ (by omega)

/-! ### names -/
def namesL : List ByteArray := [ByteArray.mk #[97, 110, 116], ByteArray.mk #[98, 101, 101], ByteArray.mk #[99, 111, 119], ByteArray.mk #[100, 111, 103], ByteArray.mk #[101, 101, 108], ByteArray.mk #[102, 111, 120], ByteArray.mk #[103, 110, 117], ByteArray.mk #[104, 101, 110], ByteArray.mk #[105, 98, 105, 115], ByteArray.mk #[106, 97, 121], ByteArray.mk #[107, 105, 116, 101], ByteArray.mk #[108, 97, 114, 107]]
theorem namesL_size (i : Nat) : (namesL.getD i default).size ≤ 4 := getD_of (p := fun x : ByteArray => x.size ≤ 4) (by decide) (by decide) i
theorem namesL_ok {i : Nat} (h : i < 12) : nameOk (namesL.getD i default) := by
  have : ∀ i, i < 12 → nameOk (namesL.getD i default) := by decide
  exact this i h
theorem namesL_inj {i j : Nat} (hi : i < 12) (hj : j < 12) (h : namesL.getD i default = namesL.getD j default) : i = j := by
  have : ∀ i, i < 12 → ∀ j, j < 12 → namesL.getD i default = namesL.getD j default → i = j := by decide
  exact this i hi j hj h
def namedTo (i : Nat) : Nat → ByteArray
  | 0 => namesL.getD (i % 12) default
  | k + 1 => namedTo i k ++ ByteArray.mk #[120]
def namedAt (i : Nat) : ByteArray := namedTo i (i / 12)
theorem namedAt_lt {i : Nat} (h : i < 12) : namedAt i = namesL.getD i default := by
  unfold namedAt
  rw [Nat.div_eq_of_lt h, namedTo, Nat.mod_eq_of_lt h]

/-! ### what is drawn -/
structure SchemeTo (list : List Field) (start : Int) : Prop where
  f : ∀ i, i < list.length → fieldOk (list.getD i default)
  nm : ∀ i, i < list.length → (list.getD i default).name = namesL.getD i default
  o : ∀ i, i < list.length → (list.getD i default).start + widthF (list.getD i default) ≤ start
  p : ∀ i j, i < j → j < list.length → (list.getD i default).start + widthF (list.getD i default) ≤ (list.getD j default).start
theorem schemeTo_nil (start : Int) : SchemeTo [] start := ⟨fun i h => by simp at h, fun i h => by simp at h, fun i h => by simp at h, fun i j _ h => by simp at h⟩
theorem SchemeTo.push {list : List Field} {start start' : Int} {f : Field} (h : SchemeTo list start) (hf : fieldOk f) (hn : f.name = namesL.getD list.length default) (hs : start ≤ f.start) (h' : f.start + widthF f ≤ start') : SchemeTo (list ++ [f]) start' := by
  have hw := fieldOk_num hf
  have key : ∀ i, i < (list ++ [f]).length → i < list.length ∧ (list ++ [f]).getD i default = list.getD i default ∨ i = list.length ∧ (list ++ [f]).getD i default = f := by
    intro i hi
    rw [len_app1] at hi
    rcases Nat.lt_or_ge i list.length with h | h
    · exact .inl ⟨h, getD_app_lt h⟩
    · exact .inr ⟨by omega, getD_app_eq (by omega)⟩
  refine ⟨fun i hi => ?_, fun i hi => ?_, fun i hi => ?_, fun i j hij hj => ?_⟩
  · rcases key i hi with ⟨h1, h2⟩ | ⟨h1, h2⟩ <;> rw [h2]
    · exact h.f i h1
    · exact hf
  · rcases key i hi with ⟨h1, h2⟩ | ⟨h1, h2⟩ <;> rw [h2]
    · exact h.nm i h1
    · rw [hn, h1]
  · rcases key i hi with ⟨h1, h2⟩ | ⟨h1, h2⟩ <;> rw [h2]
    · have := h.o i h1; omega
    · exact h'
  · have hi : i < (list ++ [f]).length := by omega
    rcases key i hi with ⟨h1, h2⟩ | ⟨h1, h2⟩ <;> rcases key j hj with ⟨h3, h4⟩ | ⟨h3, h4⟩ <;> rw [h2, h4]
    · exact h.p i j hij h3
    · have := h.o i h1; omega
    · omega
    · omega
structure DeckTo (deck : List Card) : Prop where
  nm : ∀ i, i < deck.length → (deck.getD i default).name = namedAt i
  m : ∀ i, i < deck.length → (deck.getD i default).notches.ok
theorem deckTo_nil : DeckTo [] := ⟨fun i h => by simp at h, fun i h => by simp at h⟩
theorem DeckTo.push {deck : List Card} {c : Card} (h : DeckTo deck) (hn : c.name = namedAt deck.length) (hm : c.notches.ok) : DeckTo (deck ++ [c]) := by
  have key : ∀ i, i < (deck ++ [c]).length → i < deck.length ∧ (deck ++ [c]).getD i default = deck.getD i default ∨ i = deck.length ∧ (deck ++ [c]).getD i default = c := by
    intro i hi
    rw [len_app1] at hi
    rcases Nat.lt_or_ge i deck.length with h | h
    · exact .inl ⟨h, getD_app_lt h⟩
    · exact .inr ⟨by omega, getD_app_eq (by omega)⟩
  refine ⟨fun i hi => ?_, fun i hi => ?_⟩
  · rcases key i hi with ⟨h1, h2⟩ | ⟨h1, h2⟩ <;> rw [h2]
    · exact h.nm i h1
    · rw [hn, h1]
  · rcases key i hi with ⟨h1, h2⟩ | ⟨h1, h2⟩ <;> rw [h2]
    · exact h.m i h1
    · exact hm
theorem DeckTo.ok {deck : List Card} (h : DeckTo deck) (hl : deck.length ≤ 12) : deckOk deck := by
  refine ⟨by omega, fun i hi => ⟨⟨?_, ok_maskOk (h.m i hi)⟩, fun k hk e => ?_⟩⟩
  · rw [h.nm i hi, namedAt_lt (by omega)]; exact namesL_ok (by omega)
  · rw [h.nm i hi, h.nm k (by omega), namedAt_lt (by omega), namedAt_lt (by omega)] at e
    have := namesL_inj (by omega) (by omega) e
    omega
end Go.Vr
namespace Go.Vr
theorem pow_mul_le {b k n : Nat} (hb : 1 ≤ b) (hk : k + 1 ≤ n) (h : b ^ n ≤ 9223372036854775807) : 0 ≤ ((b ^ k : Nat) : Int) * (b : Int) ∧ ((b ^ k : Nat) : Int) * (b : Int) ≤ 9223372036854775807 := by
  have h1 : b ^ (k + 1) ≤ b ^ n := Nat.pow_le_pow_right hb hk
  rw [Nat.pow_succ] at h1
  have h2 : ((b ^ k : Nat) : Int) * (b : Int) = ((b ^ k * b : Nat) : Int) := by simp
  rw [h2]; omega
theorem powB {n : Int} (h : n ≤ 12) : 10 ^ n.toNat ≤ 9223372036854775807 := by
  have := pow10_le (show n.toNat ≤ 12 by omega); omega
theorem powB2 {n : Int} (h : n ≤ 40) : 2 ^ n.toNat ≤ 9223372036854775807 := by
  have := pow2_le (show n.toNat ≤ 40 by omega); omega
theorem mostF_pow {f : Field} (h : fieldOk f) : (f.kind = 3 → 2 ^ f.size.toNat ≤ 4096) ∧ (f.kind ≠ 0 → f.kind ≠ 3 → 10 ^ f.size.toNat ≤ 10000) ∧ 1 ≤ 2 ^ f.size.toNat ∧ 1 ≤ 10 ^ f.size.toNat := by
  have hk := fieldOk_kind h
  refine ⟨fun e => ?_, fun e0 e3 => ?_, Nat.pow_pos (by decide), Nat.pow_pos (by decide)⟩
  · exact pow2_le (k := 12) (by omega)
  · exact pow10_le (k := 4) (by omega)
theorem mostF_0 {f : Field} (h : f.kind = 0) : mostF f = f.size - 1 := by unfold mostF; rw [if_pos h]
theorem binM_ok {f : Field} {v : Int} (h : fieldOk f) (h3 : f.kind = 3) : (binM f v).ok := by
  have hk := fieldOk_kind h
  have hn := fieldOk_num h
  exact notchTo_ok noM_ok hn.2.2.1 _ (by omega)
theorem digit_num {f : Field} {v : Int} {k : Nat} (hv : 0 ≤ v) : 0 ≤ digitF f v k ∧ digitF f v k < 10 := by
  unfold digitF
  have : 0 ≤ v / ((10 ^ (f.size - 1 - k).toNat : Nat) : Int) := Int.ediv_nonneg hv (Int.natCast_nonneg _)
  omega
theorem sums_num (i : Nat) : 0 ≤ sumsL.getD i default ∧ sumsL.getD i default ≤ 24 := getD_of (p := fun x : Int => 0 ≤ x ∧ x ≤ 24) (by decide) (by decide) i
theorem pairs_num (i : Nat) : 0 ≤ pairsL.getD i default ∧ pairsL.getD i default ≤ 24 := getD_of (p := fun x : Int => 0 ≤ x ∧ x ≤ 24) (by decide) (by decide) i
theorem SchemeTo.weak {list : List Field} {a b : Int} (h : SchemeTo list a) (hab : a ≤ b) : SchemeTo list b := ⟨h.f, h.nm, fun i hi => by have := h.o i hi; omega, h.p⟩
theorem fieldOk_mk {n : ByteArray} {k s z : Int} (hn : nameOk n) (hk : 0 ≤ k ∧ k ≤ 3) (hz : 1 ≤ z ∧ (k = 0 → z ≤ 8) ∧ (k = 3 → z ≤ 6) ∧ (k ≠ 0 → k ≠ 3 → z ≤ 2)) (hs : 0 ≤ s) (hw : s + widthF ⟨n, k, s, z⟩ ≤ 96) : fieldOk ⟨n, k, s, z⟩ := by
  refine ⟨hn, ⟨hz.1, ?_⟩, hs, by show s ≤ _; omega⟩
  unfold topF
  obtain ⟨h1, h2, h3, h4⟩ := hz
  show z ≤ if k = 0 then 24 else if k = 1 then 4 else if k = 2 then 4 else if k = 3 then 12 else 0
  by_cases e0 : k = 0
  · rw [if_pos e0]; omega
  · rw [if_neg e0]
    by_cases e1 : k = 1
    · rw [if_pos e1]; omega
    · rw [if_neg e1]
      by_cases e2 : k = 2
      · rw [if_pos e2]; omega
      · rw [if_neg e2, if_pos (by omega)]; omega
theorem width_mk {n : ByteArray} {k s z : Int} (hk : 0 ≤ k ∧ k ≤ 3) (hz : 1 ≤ z ∧ (k = 0 → z ≤ 8) ∧ (k = 3 → z ≤ 6) ∧ (k ≠ 0 → k ≠ 3 → z ≤ 2)) : 1 ≤ widthF ⟨n, k, s, z⟩ ∧ widthF ⟨n, k, s, z⟩ ≤ 10 := by
  show 1 ≤ (if k = 1 then 4 * z else if k = 2 then 5 * z else if k = 3 then z + 1 else z) ∧ (if k = 1 then 4 * z else if k = 2 then 5 * z else if k = 3 then z + 1 else z) ≤ 10
  split
  · omega
  · split
    · omega
    · split <;> omega
theorem pow2_pos (n : Nat) : 1 ≤ 2 ^ n := Nat.pow_pos (by decide)
theorem pow10_pos (n : Nat) : 1 ≤ 10 ^ n := Nat.pow_pos (by decide)
theorem cnt_end {m : Mask} {i n x : Nat} (h : i = 0 ∧ n + popN x = popN m.a ∨ i = 1 ∧ n + popN x = countM m) (h0 : x = 0) : n = cntTo m (i + 1) := by
  subst h0
  rw [popN_0] at h
  rcases h with ⟨h1, h2⟩ | ⟨h1, h2⟩
  · have : i = 0 := by omega
    subst this; simp [cntTo]; omega
  · have : i = 1 := by omega
    subst this; simp [cntTo]; omega
end Go.Vr
namespace Go.Vr
theorem anyM_wf {m : Mask} {k : Nat} (h : m.ok) : (⟨m.a, m.b ||| 1 * 2 ^ k % 18446744073709551616⟩ : Mask).wf := ⟨h.a, or_lt64 h.wf.b (Nat.mod_lt _ (by decide))⟩
theorem full_ok : (⟨18446744073709551615, 4294967295⟩ : Mask).ok := ⟨by decide, by decide⟩
theorem cutM_ok {m : Mask} (h : m.wf) : (⟨m.a, m.b * 2 ^ 32 % 18446744073709551616 / 2 ^ 32⟩ : Mask).ok := ⟨h.a, by show _ / 2 ^ 32 < 4294967296; omega⟩
end Go.Vr
/- Plain laws: the population count by adding fields of a word. -/
namespace Go.Vr
open Go
set_option linter.unusedVariables false
set_option linter.unusedSimpArgs false
set_option maxRecDepth 20000

def S256 (g : Nat → Nat) : Nat → Nat → Nat
  | 0, _ => 0
  | k + 1, x => g (x % 256) + 256 * S256 g k (x / 256)
def repM (m : Nat) : Nat → Nat
  | 0 => 0
  | k + 1 => m + 256 * repM m k
theorem and_split {a b c d : Nat} (ha : a < 256) (hc : c < 256) : (a + 256 * b) &&& (c + 256 * d) = (a &&& c) + 256 * (b &&& d) := by
  have key : ∀ {a b : Nat}, a < 256 → ∀ i, (a + 256 * b).testBit i = if i < 8 then a.testBit i else b.testBit (i - 8) := by
    intro a b ha i
    rw [Nat.add_comm]
    exact Nat.testBit_two_pow_mul_add (i := 8) b ha i
  apply Nat.eq_of_testBit_eq
  intro i
  rw [Nat.testBit_and, key ha, key hc, key (Nat.lt_of_le_of_lt Nat.and_le_left ha)]
  split
  · rw [Nat.testBit_and]
  · rw [Nat.testBit_and]
theorem sw_step {s m : Nat} {g : Nat → Nat} (hs : s ≤ 8) (hm : m < 256) (hg : ∀ b, b < 256 → g b < 256) (H : ∀ d, d < 256 → ∀ t, t < 2 ^ s → (d / 2 ^ s + 2 ^ (8 - s) * t) < 256 ∧ (d / 2 ^ s + 2 ^ (8 - s) * t) &&& m = d / 2 ^ s &&& m) :
    ∀ k x, (S256 g k x / 2 ^ s &&& repM m k) + (S256 g k x &&& repM m k) = S256 (fun b => (g b / 2 ^ s &&& m) + (g b &&& m)) k x
  | 0, x => by simp [S256, repM]
  | k + 1, x => by
    have ih := sw_step hs hm hg H k (x / 256)
    have hb : g (x % 256) < 256 := hg _ (Nat.mod_lt _ (by decide))
    simp only [S256, repM]
    generalize hd : g (x % 256) = d at hb ⊢
    generalize hq : S256 g k (x / 256) = q at ih ⊢
    have hp : 2 ^ s * 2 ^ (8 - s) = 256 := by rw [← Nat.pow_add, show s + (8 - s) = 8 by omega]
    have hpos : 0 < 2 ^ s := Nat.pow_pos (by decide)
    have e : (d + 256 * q) / 2 ^ s = (d / 2 ^ s + 2 ^ (8 - s) * (q % 2 ^ s)) + 256 * (q / 2 ^ s) := by
      rw [← hp, Nat.mul_assoc, Nat.add_mul_div_left _ _ hpos]
      have := Nat.div_add_mod q (2 ^ s)
      generalize q % 2 ^ s = t at this
      generalize q / 2 ^ s = u at this ⊢
      rw [← this, Nat.mul_add]
      have : 2 ^ s * 2 ^ (8 - s) * u = 2 ^ (8 - s) * (2 ^ s * u) := by rw [Nat.mul_comm (2 ^ s), Nat.mul_assoc]
      omega
    obtain ⟨h1, h2⟩ := H d hb (q % 2 ^ s) (Nat.mod_lt _ hpos)
    rw [e, and_split h1 hm, and_split hb hm, h2, ← ih]
    omega
theorem S256_mod {g : Nat → Nat} (hg : ∀ b, b < 256 → g b < 256) (k x : Nat) : S256 g k x % 256 = 0 ∨ ∃ b, b < 256 ∧ S256 g k x % 256 = g b := by
  cases k with
  | zero => left; rfl
  | succ k =>
    right
    refine ⟨x % 256, Nat.mod_lt _ (by decide), ?_⟩
    have := hg (x % 256) (Nat.mod_lt _ (by decide))
    simp only [S256]; omega
theorem sw_last {g : Nat → Nat} (hg : ∀ b, b < 256 → g b ≤ 68 ∧ g b % 16 ≤ 4) : ∀ k x, ((S256 g k x / 2 ^ 4 + S256 g k x) &&& repM 15 k) = S256 (fun b => (g b / 16 + g b) &&& 15) k x
  | 0, x => by simp [S256, repM]
  | k + 1, x => by
    have ih := sw_last hg k (x / 256)
    have hb := hg (x % 256) (Nat.mod_lt _ (by decide))
    have hq4 : S256 g k (x / 256) % 16 ≤ 4 := by
      rcases S256_mod (g := g) (fun b hb => by have := hg b hb; omega) k (x / 256) with h | ⟨b, h1, h2⟩
      · omega
      · have := hg b h1; omega
    simp only [S256, repM]
    generalize hd : g (x % 256) = d at hb ⊢
    generalize hq : S256 g k (x / 256) = q at ih hq4 ⊢
    have e : (d + 256 * q) / 2 ^ 4 + (d + 256 * q) = (d / 16 + d + 16 * (q % 16)) + 256 * (q / 2 ^ 4 + q) := by omega
    have table : ∀ d, d < 69 → ∀ t, t < 5 → (d / 16 + d + 16 * t) &&& 15 = (d / 16 + d) &&& 15 := by decide
    rw [e, and_split (by omega) (by decide), table d (by omega) _ (by omega), ih]
def popF : Nat → Nat → Nat
  | 0, _ => 0
  | f + 1, n => n % 2 + popF f (n / 2)
theorem popF_N : ∀ f n, n < 2 ^ f → popN n = popF f n
  | 0, n, h => by have : n = 0 := by simpa using h
                  subst this; simp [popN_0, popF]
  | f + 1, n, h => by rw [popN_step, popF, popF_N f (n / 2) (by rw [Nat.pow_succ] at h; omega)]
theorem popN_split : ∀ k b q, b < 2 ^ k → popN (b + 2 ^ k * q) = popN b + popN q
  | 0, b, q, h => by have : b = 0 := by simpa using h
                     subst this; simp [popN_0]
  | k + 1, b, q, h => by
    rw [popN_step (b + 2 ^ (k + 1) * q), popN_step b]
    have e : (b + 2 ^ (k + 1) * q) % 2 = b % 2 := by rw [Nat.pow_succ, Nat.mul_comm (2 ^ k) 2, Nat.mul_assoc]; omega
    have e2 : (b + 2 ^ (k + 1) * q) / 2 = b / 2 + 2 ^ k * q := by rw [Nat.pow_succ, Nat.mul_comm (2 ^ k) 2, Nat.mul_assoc]; omega
    rw [e, e2, popN_split k (b / 2) q (by rw [Nat.pow_succ] at h; omega)]
    omega
theorem S256_id : ∀ k x, x < 256 ^ k → S256 (fun b => b) k x = x
  | 0, x, h => by have : x = 0 := by simpa using h
                  subst this; rfl
  | k + 1, x, h => by
    simp only [S256]
    rw [S256_id k (x / 256) (by rw [Nat.pow_succ] at h; omega)]
    omega
def sumB (g : Nat → Nat) : Nat → Nat → Nat
  | 0, _ => 0
  | k + 1, x => g (x % 256) + sumB g k (x / 256)
theorem popN_sum : ∀ k x, x < 256 ^ k → popN x = sumB popN k x
  | 0, x, h => by have : x = 0 := by simpa using h
                  subst this; simp [popN_0, sumB]
  | k + 1, x, h => by
    have := popN_split 8 (x % 256) (x / 256) (Nat.mod_lt _ (by decide))
    rw [show x % 256 + 2 ^ 8 * (x / 256) = x by omega] at this
    rw [this, sumB, popN_sum k (x / 256) (by rw [Nat.pow_succ] at h; omega)]
theorem S256_congr {g h : Nat → Nat} (H : ∀ b, b < 256 → g b = h b) : ∀ k x, S256 g k x = S256 h k x
  | 0, _ => rfl
  | k + 1, x => by simp only [S256]; rw [H _ (Nat.mod_lt _ (by decide)), S256_congr H k]
def sw1 (x : Nat) : Nat := (x / 2 ^ 1 &&& 6148914691236517205) + (x &&& 6148914691236517205)
def sw2 (x : Nat) : Nat := (x / 2 ^ 2 &&& 3689348814741910323) + (x &&& 3689348814741910323)
def sw3 (x : Nat) : Nat := (x / 2 ^ 4 + x) &&& 1085102592571150095
def sw4 (x : Nat) : Nat := x + x / 2 ^ 8
def sw5 (x : Nat) : Nat := x + x / 2 ^ 16
def sw6 (x : Nat) : Nat := x + x / 2 ^ 32
theorem sw_bytes {x : Nat} (h : x < 18446744073709551616) : sw3 (sw2 (sw1 x)) = S256 popN 8 x := by
  have h1 : sw1 x = S256 (fun b => (b / 2 ^ 1 &&& 85) + (b &&& 85)) 8 x := by
    have := sw_step (s := 1) (m := 85) (g := fun b => b) (by decide) (by decide) (fun b hb => hb) (by decide) 8 x
    rw [S256_id 8 x h] at this
    exact this
  have h2 : sw2 (sw1 x) = S256 (fun b => (((b / 2 ^ 1 &&& 85) + (b &&& 85)) / 2 ^ 2 &&& 51) + (((b / 2 ^ 1 &&& 85) + (b &&& 85)) &&& 51)) 8 x := by
    rw [h1]
    exact sw_step (s := 2) (m := 51) (g := fun b => (b / 2 ^ 1 &&& 85) + (b &&& 85)) (by decide) (by decide) (by decide) (by decide) 8 x
  have h3 : sw3 (sw2 (sw1 x)) = S256 (fun b => ((((b / 2 ^ 1 &&& 85) + (b &&& 85)) / 2 ^ 2 &&& 51) + (((b / 2 ^ 1 &&& 85) + (b &&& 85)) &&& 51)) / 16 + ((((b / 2 ^ 1 &&& 85) + (b &&& 85)) / 2 ^ 2 &&& 51) + (((b / 2 ^ 1 &&& 85) + (b &&& 85)) &&& 51)) &&& 15) 8 x := by
    rw [h2]
    exact sw_last (by decide) 8 x
  rw [h3]
  refine S256_congr (fun b hb => ?_) 8 x
  rw [popF_N 8 b hb]
  have table : ∀ b, b < 256 → ((((b / 2 ^ 1 &&& 85) + (b &&& 85)) / 2 ^ 2 &&& 51) + (((b / 2 ^ 1 &&& 85) + (b &&& 85)) &&& 51)) / 16 + ((((b / 2 ^ 1 &&& 85) + (b &&& 85)) / 2 ^ 2 &&& 51) + (((b / 2 ^ 1 &&& 85) + (b &&& 85)) &&& 51)) &&& 15 = popF 8 b := by decide
  exact table b hb
theorem sw_all {x : Nat} (h : x < 18446744073709551616) : sw6 (sw5 (sw4 (sw3 (sw2 (sw1 x))))) % 128 = popN x := by
  rw [sw_bytes h, popN_sum 8 x h]
  have hb : ∀ y, popN (y % 256) ≤ 8 := fun y => popN_lt 8 _ (Nat.mod_lt _ (by decide))
  simp only [S256, sumB]
  have h0 := hb x
  have h1 := hb (x / 256)
  have h2 := hb (x / 256 / 256)
  have h3 := hb (x / 256 / 256 / 256)
  have h4 := hb (x / 256 / 256 / 256 / 256)
  have h5 := hb (x / 256 / 256 / 256 / 256 / 256)
  have h6 := hb (x / 256 / 256 / 256 / 256 / 256 / 256)
  have h7 := hb (x / 256 / 256 / 256 / 256 / 256 / 256 / 256)
  generalize popN (x % 256) = c0 at *
  generalize popN (x / 256 % 256) = c1 at *
  generalize popN (x / 256 / 256 % 256) = c2 at *
  generalize popN (x / 256 / 256 / 256 % 256) = c3 at *
  generalize popN (x / 256 / 256 / 256 / 256 % 256) = c4 at *
  generalize popN (x / 256 / 256 / 256 / 256 / 256 % 256) = c5 at *
  generalize popN (x / 256 / 256 / 256 / 256 / 256 / 256 % 256) = c6 at *
  generalize popN (x / 256 / 256 / 256 / 256 / 256 / 256 / 256 % 256) = c7 at *
  unfold sw6 sw5 sw4
  obtain ⟨z, hz⟩ : ∃ z, z = c0 + 256 * (c1 + 256 * (c2 + 256 * (c3 + 256 * (c4 + 256 * (c5 + 256 * (c6 + 256 * (c7 + 256 * 0))))))) := ⟨_, rfl⟩
  rw [← hz]
  have e1 : z / 2 ^ 8 = c1 + 256 * (c2 + 256 * (c3 + 256 * (c4 + 256 * (c5 + 256 * (c6 + 256 * c7))))) := by omega
  obtain ⟨y, hy⟩ : ∃ y, y = z + z / 2 ^ 8 := ⟨_, rfl⟩
  rw [← hy]
  rw [e1, hz] at hy
  have e2 : y / 2 ^ 16 = (c2 + c3) + 256 * ((c3 + c4) + 256 * ((c4 + c5) + 256 * ((c5 + c6) + 256 * ((c6 + c7) + 256 * c7)))) := by clear e1 hz; omega
  obtain ⟨u, hu⟩ : ∃ u, u = y + y / 2 ^ 16 := ⟨_, rfl⟩
  rw [← hu]
  rw [e2, hy] at hu
  have e3 : u / 2 ^ 32 = (c4 + c5 + c6 + c7) + 256 * ((c5 + c6 + c7) + 256 * ((c6 + c7) + 256 * c7)) := by clear e1 hz e2 hy; omega
  rw [e3, hu]
  clear e1 hz e2 hy e3 hu
  omega
theorem sw1_le (x : Nat) : sw1 x ≤ 12297829382473034410 := by
  have h1 := @Nat.and_le_right (x / 2 ^ 1) 6148914691236517205
  have h2 := @Nat.and_le_right x 6148914691236517205
  unfold sw1; omega
theorem sw2_le (x : Nat) : sw2 x ≤ 7378697629483820646 := by
  have h1 := @Nat.and_le_right (x / 2 ^ 2) 3689348814741910323
  have h2 := @Nat.and_le_right x 3689348814741910323
  unfold sw2; omega
theorem sw3_le (x : Nat) : sw3 x ≤ 1085102592571150095 := Nat.and_le_right
end Go.Vr
namespace Go.Vr
theorem and127 {n : Nat} (h : n ≤ 9223372036854775807) : IntKind.wrap .i64 (BitVec.ofInt 64 (n : Int) &&& BitVec.ofInt 64 127).toNat = ((n % 128 : Nat) : Int) := by
  have e : (BitVec.ofInt 64 (n : Int) &&& BitVec.ofInt 64 127).toNat = n % 128 := by
    rw [u64_ofInt, BitVec.toNat_and, BitVec.toNat_ofNat, Nat.mod_eq_of_lt (by omega)]
    exact Nat.and_two_pow_sub_one_eq_mod n 7
  rw [e]
  simp [IntKind.wrap, IntKind.signed, IntKind.bits]; omega
/-- How many holes are in one of two masks alone. -/
def farM (m n : Mask) : Nat := countM (lessM m n) + countM (lessM n m)
end Go.Vr
/- Plain laws: names; what strings.Trim leaves. -/
namespace Go.Vr
open Go
set_option linter.unusedVariables false
set_option linter.unusedSimpArgs false
set_option maxRecDepth 8000

theorem all_step {s : ByteArray} {i : Nat} (h : i < s.size) : (s.data.toList.drop i).all letterB = true ↔ (97 ≤ sb s i ∧ sb s i ≤ 122) ∧ (s.data.toList.drop (i + 1)).all letterB = true := by
  have hl : i < s.data.toList.length := by simpa using h
  rw [List.drop_eq_getElem_cons hl, List.all_cons, Bool.and_eq_true]
  have : sb s i = (s.data.toList[i]).toNat := by unfold sb; rw [List.getD_eq_getElem?_getD, List.getElem?_eq_getElem hl]; rfl
  rw [this]
  simp [letterB]
theorem all_end {s : ByteArray} {i : Nat} (h : ¬ i < s.size) : (s.data.toList.drop i).all letterB = true ↔ True := by
  rw [List.drop_of_length_le (by have : s.data.toList.length = s.size := by simp
                                 omega)]; simp
theorem all_iff (s : ByteArray) : s.data.toList.all letterB = true ↔ ∀ j, j < s.size → 97 ≤ sb s j ∧ sb s j ≤ 122 := by
  have key : ∀ n i, i + n = s.size → ((s.data.toList.drop i).all letterB = true ↔ ∀ j, i ≤ j → j < s.size → 97 ≤ sb s j ∧ sb s j ≤ 122) := by
    intro n
    induction n with
    | zero => intro i hi; rw [all_end (by omega)]; simp; intro j h1 h2; omega
    | succ n ih =>
      intro i hi
      rw [all_step (by omega), ih (i + 1) (by omega)]
      constructor
      · rintro ⟨h1, h2⟩ j hj hjs
        rcases Nat.lt_or_ge i j with h | h
        · exact h2 j (by omega) hjs
        · rw [show j = i by omega]; exact h1
      · intro h; exact ⟨h i (Nat.le_refl _) (by omega), fun j hj hjs => h j (by omega) hjs⟩
  have := key s.size 0 (by omega)
  rw [List.drop_zero] at this
  rw [this]; simp
def abcB : ByteArray := ByteArray.mk #[97, 98, 99, 100, 101, 102, 103, 104, 105, 106, 107, 108, 109, 110, 111, 112, 113, 114, 115, 116, 117, 118, 119, 120, 121, 122]
def setTo (s : ByteArray) : Nat → List Bool
  | 0 => List.replicate 256 false
  | k + 1 => (setTo s k).set (sb s k) true
theorem setTo_len (s : ByteArray) : ∀ k, (setTo s k).length = 256
  | 0 => by simp [setTo]
  | k + 1 => by rw [setTo, List.length_set, setTo_len s k]
theorem set0 (s : ByteArray) : List.replicate 256 (PV.v (.bool false)) = (setTo s 0).map boolv := by simp [setTo, boolv]
theorem abc_lt (j : Nat) (h : j < abcB.size) : sb abcB j < 128 := by
  have : ∀ j, j < 26 → sb abcB j < 128 := by decide
  exact this j h
theorem setTo_get (s : ByteArray) : ∀ (k c : Nat), k ≤ s.size → (∀ j, j < s.size → sb s j < 128) → (setTo s k).getD c false = decide (∃ j, j < k ∧ sb s j = c)
  | 0, c, _, _ => by
    have : (setTo s 0).getD c false = false := by
      rw [setTo, List.getD_eq_getElem?_getD, List.getElem?_replicate]; split <;> rfl
    rw [this]; symm; simp
  | k + 1, c, h, hb => by
    have ih := setTo_get s k c (by omega) hb
    have hk := hb k (by omega)
    rw [setTo]
    by_cases e : sb s k = c
    · subst e
      rw [List.getD_eq_getElem?_getD, List.getElem?_set_self (by rw [setTo_len]; omega)]
      symm; simpa using ⟨k, by omega, rfl⟩
    · rw [List.getD_eq_getElem?_getD, List.getElem?_set_ne e, ← List.getD_eq_getElem?_getD, ih]
      congr 1
      apply propext
      constructor
      · rintro ⟨j, h1, h2⟩; exact ⟨j, by omega, h2⟩
      · rintro ⟨j, h1, h2⟩
        rcases Nat.lt_or_ge j k with h | h
        · exact ⟨j, h, h2⟩
        · rw [show j = k by omega] at h2; exact absurd h2 e
def abcT : List Bool := setTo abcB abcB.size
theorem abcT_get {c : Nat} (h : c < 256) : abcT.getD c false = true ↔ 97 ≤ c ∧ c ≤ 122 := by
  unfold abcT
  rw [setTo_get abcB abcB.size c (Nat.le_refl _) abc_lt]
  have h1 : ∀ j, j < 26 → sb abcB j = 97 + j := by decide
  have h2 : abcB.size = 26 := rfl
  rw [decide_eq_true_eq, h2]
  constructor
  · rintro ⟨j, hj, e⟩; have := h1 j hj; omega
  · rintro ⟨ha, hb⟩; exact ⟨c - 97, by omega, by have := h1 (c - 97) (by omega); omega⟩
theorem sb_lt (s : ByteArray) (i : Nat) : sb s i < 256 := UInt8.toNat_lt _
theorem sbr (s : ByteArray) (i : Nat) : 0 ≤ ((sb s i : Nat) : Int) ∧ ((sb s i : Nat) : Int) < 256 := ⟨Int.natCast_nonneg _, by have := sb_lt s i; omega⟩
/-- What is left when letters are taken off both ends. -/
theorem trim_none {s r : ByteArray} {k1 k2 : Nat} (h1 : k1 ≤ s.size) (ha1 : ∀ j, k1 ≤ j → j < s.size → abcT.getD (sb s j) false = true) (hz1 : k1 = 0 ∨ abcT.getD (sb s (k1 - 1)) false = false)
    (h2 : k2 ≤ k1) (ha2 : ∀ j, j < k2 → abcT.getD (sb (s.extract 0 k1) j) false = true) (hr : r = (s.extract 0 k1).extract k2 k1) : r = ByteArray.mk #[] ↔ s.data.toList.all letterB = true := by
  have hsz : r.size = k1 - k2 := by rw [hr, ext_ext (by omega), ext_size (by omega) (by omega)]; omega
  have hin : ∀ j, j < k1 → sb (s.extract 0 k1) j = sb s j := fun j hj => by rw [sb_ext (by omega) h1, Nat.zero_add]
  rw [all_iff]
  constructor
  · intro e
    have h0 : k1 = k2 := by rw [e] at hsz; have : (ByteArray.mk #[]).size = 0 := rfl; omega
    intro j hj
    rw [← abcT_get (sb_lt _ _)]
    rcases Nat.lt_or_ge j k1 with h | h
    · rw [← hin j h]; exact ha2 j (by omega)
    · exact ha1 j h hj
  · intro h
    have h0 : k1 = 0 := by
      rcases hz1 with h3 | h3
      · exact h3
      · rcases Nat.eq_zero_or_pos k1 with h4 | h4
        · exact h4
        · have := (abcT_get (sb_lt s (k1 - 1))).2 (h (k1 - 1) (by omega))
          rw [h3] at this; simp at this
    have : r.size = 0 := by omega
    exact ByteArray.ext (Array.eq_empty_of_size_eq_zero this)
end Go.Vr
