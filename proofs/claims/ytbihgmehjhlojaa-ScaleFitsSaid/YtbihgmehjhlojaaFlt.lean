import Derived.Test.YtbihgmehjhlojaaSca
import Ieee.Arith
set_option linter.unusedVariables false
set_option linter.unusedSimpArgs false
namespace TP
open Ieee

def refFloat (n : Nat) : Nat :=
  if n = 0 then 0 else
  let k := n.log2
  if k ≤ 52 then (1023 + k) * 2^52 + (n * 2^(52-k) - 2^52)
  else
    let low := 2^(k-52)
    let q := n / low
    let rest := n % low
    let q := if rest > low / 2 ∨ (rest = low / 2 ∧ q % 2 = 1) then q + 1 else q
    (1023 + k) * 2^52 + (q - 2^52)

def nearest64 (n : Nat) : Nat := double.write (.number false n 0)

theorem log2_le' {n k : Nat} (h : n < 2^(k+1)) : n.log2 ≤ k := by
  rcases Nat.eq_zero_or_pos n with rfl | hp
  · simp
  · have := (Nat.log2_lt (by omega)).2 h; omega

theorem nearest64_zero : nearest64 0 = 0 := by decide

theorem nearest64_small {n : Nat} (h0 : 0 < n) (h : n.log2 ≤ 52) :
    nearest64 n = (1022 + n.log2) * 2^52 + n * 2^(52 - n.log2) := by
  unfold nearest64 Format.write Format.nearest
  have hn : n ≠ 0 := by omega
  simp only [hn, if_false]
  generalize hk : n.log2 = k at *
  have e1 : (double.leastPlace : Int) = -1074 := by decide
  have e2 : (double.fractionBits) = 52 := rfl
  have e3 : double.binade = 2^52 := by decide
  rw [e1, e2, e3]
  have e4 : max ((0:Int) + (k:Int) - ((52:Nat):Int)) (-1074) = (k:Int) - 52 := by omega
  rw [e4]
  have e5 : ((0:Int) - ((k:Int) - 52)).toNat = 52 - k := by omega
  have e6 : ((k:Int) - 52 - 0).toNat = 0 := by omega
  have e7 : ((k:Int) - 52 - -1074).toNat = k + 1022 := by omega
  rw [e5, e6, e7]
  have e8 : Toward.even.cut false (n <<< (52 - k)) 0 = n * 2^(52-k) := by
    simp [Toward.cut, Nat.shiftLeft_eq, Nat.mod_one]
  rw [e8]
  have hlt : n < 2^(k+1) := by rw [← hk]; exact Nat.lt_log2_self
  have e9 : n * 2^(52-k) < 2^53 := by
    calc n * 2^(52-k) < 2^(k+1) * 2^(52-k) := Nat.mul_lt_mul_of_pos_right hlt (Nat.two_pow_pos _)
      _ = 2^53 := by rw [← Nat.pow_add]; congr 1; omega
  have e10 : double.infRung = 2047 * 2^52 := by decide
  rw [e10, Nat.min_eq_left (by omega)]
  simp [Format.word]; omega

/-- a whole number of more than 53 bits, cut to 53, to the nearest, of two the even one -/
def kept64 (n d : Nat) : Nat :=
  n / 2^d + (decide (2^d < 2 * (n % 2^d)) || (decide (2^d = 2 * (n % 2^d)) && (n / 2^d) % 2 == 1)).toNat

theorem nearest64_great {n : Nat} (h : 52 < n.log2) (hn64 : n.log2 ≤ 63) :
    nearest64 n = (1022 + n.log2) * 2^52 + kept64 n (n.log2 - 52) := by
  have h0 : n ≠ 0 := by rintro rfl; simp at h
  unfold nearest64 Format.write Format.nearest
  simp only [h0, if_false]
  have hlt : n < 2^(n.log2+1) := Nat.lt_log2_self
  generalize hk : n.log2 = k at *
  have e1 : (double.leastPlace : Int) = -1074 := by decide
  have e2 : (double.fractionBits) = 52 := rfl
  have e3 : double.binade = 2^52 := by decide
  rw [e1, e2, e3]
  have e4 : max ((0:Int) + (k:Int) - ((52:Nat):Int)) (-1074) = (k:Int) - 52 := by omega
  rw [e4]
  have e5 : ((0:Int) - ((k:Int) - 52)).toNat = 0 := by omega
  have e6 : ((k:Int) - 52 - 0).toNat = k - 52 := by omega
  have e7 : ((k:Int) - 52 - -1074).toNat = k + 1022 := by omega
  rw [e5, e6, e7]
  have e8 : Toward.even.cut false (n <<< 0) (k - 52) = kept64 n (k - 52) := by
    have hm : min (k - 52) (n.log2 + 2) = k - 52 := by omega
    simp only [Toward.cut, Nat.shiftLeft_eq, Nat.pow_zero, Nat.mul_one, Nat.one_mul, hm, kept64]
    rfl
  rw [e8]
  have e9 : kept64 n (k-52) ≤ 2^53 := by
    unfold kept64
    have : n / 2^(k-52) < 2^53 := by
      rw [Nat.div_lt_iff_lt_mul (Nat.two_pow_pos _), ← Nat.pow_add]
      have : 53 + (k - 52) = k + 1 := by omega
      rw [this]; exact hlt
    have hb : ∀ b : Bool, b.toNat ≤ 1 := by decide
    have := hb (decide (2^(k-52) < 2 * (n % 2^(k-52))) || (decide (2^(k-52) = 2 * (n % 2^(k-52))) && (n / 2^(k-52)) % 2 == 1))
    omega
  have e10 : double.infRung = 2047 * 2^52 := by decide
  rw [e10, Nat.min_eq_left (by omega)]
  simp [Format.word]; omega

theorem pow_log2_le {n : Nat} (h : n ≠ 0) : 2^n.log2 ≤ n := Nat.log2_self_le h

theorem nearest64_ref {n : Nat} (h : n < 2^64) : nearest64 n = refFloat n := by
  unfold refFloat
  by_cases h0 : n = 0
  · subst h0; decide
  simp only [h0, if_false]
  have hk64 : n.log2 ≤ 63 := log2_le' h
  have hp := pow_log2_le h0
  by_cases hk : n.log2 ≤ 52
  · rw [nearest64_small (by omega) hk]
    simp only [hk, if_true]
    have : 2^52 ≤ n * 2^(52 - n.log2) := by
      calc 2^52 = 2^n.log2 * 2^(52 - n.log2) := by rw [← Nat.pow_add]; congr 1; omega
        _ ≤ _ := Nat.mul_le_mul_right _ hp
    omega
  · rw [nearest64_great (by omega) hk64]
    simp only [hk, if_false]
    generalize n.log2 = k at *
    have hq : 2^52 ≤ n / 2^(k-52) := by
      rw [Nat.le_div_iff_mul_le (Nat.two_pow_pos _), ← Nat.pow_add]
      have : 52 + (k - 52) = k := by omega
      rw [this]; exact hp
    have he : 2^(k-52) = 2 * 2^(k-53) := by
      have : k - 52 = (k - 53) + 1 := by omega
      rw [this, Nat.pow_succ, Nat.mul_comm]
    have hhalf : 2^(k-52) / 2 = 2^(k-53) := by rw [he]; omega
    rw [hhalf]
    unfold kept64
    by_cases c : n % 2^(k-52) > 2^(k-53) ∨ (n % 2^(k-52) = 2^(k-53) ∧ (n / 2^(k-52)) % 2 = 1)
    · rw [if_pos c]
      have : (decide (2^(k-52) < 2 * (n % 2^(k-52))) || (decide (2^(k-52) = 2 * (n % 2^(k-52))) && (n / 2^(k-52)) % 2 == 1)) = true := by
        rcases c with c | ⟨c, d⟩
        · rw [Bool.or_eq_true]; left; rw [decide_eq_true_iff]; omega
        · rw [Bool.or_eq_true]; right; rw [Bool.and_eq_true, decide_eq_true_iff, beq_iff_eq]; exact ⟨by omega, d⟩
      rw [this]; simp only [Bool.toNat_true]; omega
    · rw [if_neg c]
      have : (decide (2^(k-52) < 2 * (n % 2^(k-52))) || (decide (2^(k-52) = 2 * (n % 2^(k-52))) && (n / 2^(k-52)) % 2 == 1)) = false := by
        rw [not_or] at c
        obtain ⟨c1, c2⟩ := c
        rw [Bool.or_eq_false_iff, decide_eq_false_iff_not, Bool.and_eq_false_iff, decide_eq_false_iff_not, beq_eq_false_iff_ne]
        refine ⟨by omega, ?_⟩
        by_cases d : n % 2^(k-52) = 2^(k-53)
        · right; exact fun e => c2 ⟨d, e⟩
        · left; omega
      rw [this]; simp only [Bool.toNat_false]; omega

theorem kept64_lo {n k : Nat} (hp : 2^k ≤ n) (h : 52 < k) : 2^52 ≤ kept64 n (k-52) := by
  have hq : 2^52 ≤ n / 2^(k-52) := by
    rw [Nat.le_div_iff_mul_le (Nat.two_pow_pos _), ← Nat.pow_add]
    have : 52 + (k - 52) = k := by omega
    rw [this]; exact hp
  unfold kept64; omega
theorem kept64_hi {n k : Nat} (hlt : n < 2^(k+1)) (h : 52 < k) : kept64 n (k-52) ≤ 2^53 := by
  unfold kept64
  have : n / 2^(k-52) < 2^53 := by
    rw [Nat.div_lt_iff_lt_mul (Nat.two_pow_pos _), ← Nat.pow_add]
    have : 53 + (k - 52) = k + 1 := by omega
    rw [this]; exact hlt
  have hb : ∀ b : Bool, b.toNat ≤ 1 := by decide
  have := hb (decide (2^(k-52) < 2 * (n % 2^(k-52))) || (decide (2^(k-52) = 2 * (n % 2^(k-52))) && (n / 2^(k-52)) % 2 == 1))
  omega
theorem kept64_mono {n m d : Nat} (h : n ≤ m) : kept64 n d ≤ kept64 m d := by
  unfold kept64
  have hb : ∀ b : Bool, b.toNat ≤ 1 := by decide
  have hq : n / 2^d ≤ m / 2^d := Nat.div_le_div_right h
  rcases Nat.lt_or_ge (n / 2^d) (m / 2^d) with hlt | hge
  · have := hb (decide (2^d < 2 * (n % 2^d)) || (decide (2^d = 2 * (n % 2^d)) && (n / 2^d) % 2 == 1)); omega
  · have e : n / 2^d = m / 2^d := by omega
    have hr : n % 2^d ≤ m % 2^d := by
      have h1 := Nat.div_add_mod n (2^d); have h2 := Nat.div_add_mod m (2^d); rw [e] at h1; omega
    rw [e]
    apply Nat.add_le_add_left
    generalize hA : (decide (2^d < 2 * (n % 2^d)) || (decide (2^d = 2 * (n % 2^d)) && (m / 2^d) % 2 == 1)) = A
    generalize hB : (decide (2^d < 2 * (m % 2^d)) || (decide (2^d = 2 * (m % 2^d)) && (m / 2^d) % 2 == 1)) = B
    have : A = true → B = true := by
      rintro rfl
      rw [← hB]
      rw [Bool.or_eq_true, decide_eq_true_iff, Bool.and_eq_true, decide_eq_true_iff] at hA ⊢
      rcases hA with a | ⟨a, b⟩
      · left; omega
      · rcases Nat.lt_or_ge (n % 2^d) (m % 2^d) with l | l
        · left; omega
        · right; exact ⟨by omega, b⟩
    revert this; cases A <;> cases B <;> simp

/-- the rung of a whole number that isn't 0: its binade, and what is kept -/
def keep (n : Nat) : Nat := if n.log2 ≤ 52 then n * 2^(52 - n.log2) else kept64 n (n.log2 - 52)
theorem nearest64_keep {n : Nat} (h0 : n ≠ 0) (h : n < 2^64) : nearest64 n = (1022 + n.log2) * 2^52 + keep n ∧ 2^52 ≤ keep n ∧ keep n ≤ 2^53 := by
  have hk64 : n.log2 ≤ 63 := log2_le' h
  have hp := pow_log2_le h0
  have hlt : n < 2^(n.log2+1) := Nat.lt_log2_self
  unfold keep
  by_cases hk : n.log2 ≤ 52
  · simp only [hk, if_true]
    refine ⟨nearest64_small (by omega) hk, ?_, ?_⟩
    · calc 2^52 = 2^n.log2 * 2^(52 - n.log2) := by rw [← Nat.pow_add]; congr 1; omega
        _ ≤ _ := Nat.mul_le_mul_right _ hp
    · apply Nat.le_of_lt
      calc n * 2^(52-n.log2) < 2^(n.log2+1) * 2^(52-n.log2) := Nat.mul_lt_mul_of_pos_right hlt (Nat.two_pow_pos _)
        _ = 2^53 := by rw [← Nat.pow_add]; congr 1; omega
  · simp only [hk, if_false]
    exact ⟨nearest64_great (by omega) hk64, kept64_lo hp (by omega), kept64_hi hlt (by omega)⟩

theorem log2_mono' {n m : Nat} (h0 : n ≠ 0) (h : n ≤ m) : n.log2 ≤ m.log2 := by
  have h1 := pow_log2_le h0
  have h2 : m < 2^(m.log2+1) := Nat.lt_log2_self
  have : 2^n.log2 < 2^(m.log2+1) := by omega
  have := (Nat.pow_lt_pow_iff_right (by decide : 1 < 2)).1 this
  omega

theorem nearest64_mono {n m : Nat} (h : n ≤ m) (hm : m < 2^64) : nearest64 n ≤ nearest64 m := by
  by_cases h0 : n = 0
  · subst h0; rw [nearest64_zero]; omega
  have hm0 : m ≠ 0 := by omega
  obtain ⟨e1, l1, u1⟩ := nearest64_keep h0 (by omega)
  obtain ⟨e2, l2, u2⟩ := nearest64_keep hm0 hm
  have hl := log2_mono' h0 h
  rw [e1, e2]
  rcases Nat.lt_or_ge n.log2 m.log2 with lt | ge
  · generalize n.log2 = a at *; generalize m.log2 = b at *; omega
  · have e : n.log2 = m.log2 := by omega
    have : keep n ≤ keep m := by
      unfold keep; rw [e]
      split
      · exact Nat.mul_le_mul_right _ h
      · exact kept64_mono h
    rw [e]; omega

theorem nearest64_lt {n : Nat} (h : n < 2^64) : nearest64 n < 2047 * 2^52 := by
  by_cases h0 : n = 0
  · subst h0; rw [nearest64_zero]; decide
  obtain ⟨e1, l1, u1⟩ := nearest64_keep h0 h
  have : n.log2 ≤ 63 := log2_le' h
  rw [e1]; generalize n.log2 = a at *; omega

theorem read_lt {v : Nat} (h : v < 2047 * 2^52) : double.read v = if v < 2^52 then .number false v (-1074) else .number false (2^52 + v % 2^52) (-1074 + ((v / 2^52 - 1 : Nat) : Int)) := by
  have e1 : (double.leastPlace : Int) = -1074 := by decide
  have e3 : double.binade = 2^52 := by decide
  have e10 : double.infRung = 2047 * 2^52 := by decide
  have e11 : double.signWeight = 2^63 := by decide
  unfold Format.read
  rw [e1, e3, e10, e11]
  have a1 : v / 2^63 % 2 = 0 := by omega
  have a2 : v % 2^63 = v := by omega
  simp only [a1, a2]
  by_cases c : v < 2^52
  · simp [c]
  · simp [c, h]

/-- is it at or beyond 2^64? -/
def atLeast64 (v : Nat) : Bool := double.order v (1087 * 2^52) == some .gt || double.order v (1087 * 2^52) == some .eq
/-- cut to a whole number -/
def trunc64 (v : Nat) : Nat := double.write ((double.read v).integral .zero)
/-- the number of a float, cut -/
def toInt64 (v : Nat) : Option Int := (double.read v).toInt .zero

/-- the document's whole number of a float -/
def refWhole (v : Nat) : Option Nat :=
  if v = 0 then some 0 else
  let e := v / 2^52
  let m := v % 2^52 + 2^52
  if e < 1023 ∨ 1086 < e then none else
  if e ≤ 1075 then (if m % 2^(1075-e) = 0 then some (m / 2^(1075-e)) else none) else some (m * 2^(e-1075))

theorem order_num {a b : Nat} {m n : Nat} {i j : Int} (ha : double.read a = .number false m i) (hb : double.read b = .number false n j) :
    double.order a b = some (compare ((m * 2^(i - min i j).toNat : Nat) : Int) ((n * 2^(j - min i j).toNat : Nat) : Int)) := by
  unfold Format.order; rw [ha, hb]; simp [Datum.order, signed, Nat.shiftLeft_eq]

theorem read_1087 : double.read (1087 * 2^52) = .number false (2^52) 12 := by decide

theorem cmp_ge (a b : Int) : ((some (compare a b) : Option Ordering) == some .gt || (some (compare a b) : Option Ordering) == some .eq) = decide (b ≤ a) := by
  rcases Int.lt_trichotomy a b with h | h | h
  · have : compare a b = .lt := by rw [Int.compare_eq_lt]; exact h
    rw [this]; simp; omega
  · subst h; have : compare a a = .eq := by rw [Int.compare_eq_eq]
    rw [this]; simp
  · have : compare a b = .gt := by rw [Int.compare_eq_gt]; exact h
    rw [this]; simp; omega

theorem cmp_eq (a b : Int) : ((some (compare a b) : Option Ordering) == some .eq) = decide (a = b) := by
  rcases Int.lt_trichotomy a b with h | h | h
  · have : compare a b = .lt := by rw [Int.compare_eq_lt]; exact h
    rw [this]; simp; omega
  · subst h; have : compare a a = .eq := by rw [Int.compare_eq_eq]
    rw [this]; simp
  · have : compare a b = .gt := by rw [Int.compare_eq_gt]; exact h
    rw [this]; simp; omega

theorem le_mul_pow (n : Nat) : 2^52 ≤ 2^52 * 2^n := Nat.le_mul_of_pos_right _ (Nat.two_pow_pos n)
theorem pow_le52 (n : Nat) (h : 52 ≤ n) : 2^52 ≤ 2^n := Nat.pow_le_pow_right (by decide) h
theorem atLeast64_eq {v : Nat} (h : v < 2047 * 2^52) : atLeast64 v = decide (1087 * 2^52 ≤ v) := by
  unfold atLeast64
  have hr := read_lt h
  by_cases c : v < 2^52
  · rw [if_pos c] at hr
    rw [order_num hr read_1087, cmp_ge]
    have e1 : ((-1074 : Int) - min (-1074) 12).toNat = 0 := by decide
    have e2 : ((12 : Int) - min (-1074) 12).toNat = 1086 := by decide
    rw [e1, e2]
    have h1 : ¬ (1087 * 2^52 ≤ v) := by omega
    have h2 : ¬ (((2^52 * 2^1086 : Nat) : Int) ≤ ((v * 2^0 : Nat) : Int)) := by
      have := le_mul_pow 1086
      rw [Nat.pow_zero, Nat.mul_one]
      generalize 2^52 * 2^1086 = X at *
      omega
    rw [decide_eq_false h1, decide_eq_false h2]
  · rw [if_neg c] at hr
    rw [order_num hr read_1087, cmp_ge]
    have hd := Nat.div_add_mod v (2^52)
    have hm : v % 2^52 < 2^52 := Nat.mod_lt _ (by decide)
    have he1 : 1 ≤ v / 2^52 := by omega
    generalize v / 2^52 = e at *
    generalize v % 2^52 = r at *
    congr 1
    apply propext
    by_cases q : e ≤ 1087
    · have m1 : min (-1074 + ((e - 1 : Nat) : Int)) 12 = (-1074 + ((e - 1 : Nat) : Int)) := by omega
      rw [m1]
      have z1 : ((-1074 + ((e - 1 : Nat) : Int)) - (-1074 + ((e - 1 : Nat) : Int))).toNat = 0 := by omega
      have z2 : ((12:Int) - (-1074 + ((e - 1 : Nat) : Int))).toNat = 1087 - e := by omega
      rw [z1, z2, Nat.pow_zero, Nat.mul_one]
      rcases Nat.lt_or_ge e 1087 with l | l
      · have : 2^52 * 2^1 ≤ 2^52 * 2^(1087 - e) := Nat.mul_le_mul_left _ (Nat.pow_le_pow_right (by decide) (by omega))
        generalize 2^52 * 2^(1087 - e) = X at *
        omega
      · have : e = 1087 := by omega
        subst this
        simp only [Nat.sub_self, Nat.pow_zero, Nat.mul_one]
        omega
    · have m1 : min (-1074 + ((e - 1 : Nat) : Int)) 12 = 12 := by omega
      rw [m1]
      have z1 : ((-1074 + ((e - 1 : Nat) : Int)) - 12).toNat = e - 1087 := by omega
      have z2 : ((12:Int) - 12).toNat = 0 := by omega
      rw [z1, z2, Nat.pow_zero, Nat.mul_one]
      have : (2^52 + r) * 1 ≤ (2^52 + r) * 2^(e - 1087) := Nat.mul_le_mul_left _ (Nat.one_le_two_pow)
      generalize (2^52 + r) * 2^(e - 1087) = X at *
      omega

/-- a number of 53 bits, shifted: its word -/
theorem nearest64_exact {m i : Nat} (h1 : 2^52 ≤ m) (h2 : m < 2^53) (hi : i ≤ 11) : nearest64 (m * 2^i) = (1075 + i - 1) * 2^52 + m ∧ m * 2^i < 2^64 := by
  have hl : (m * 2^i).log2 = 52 + i := by
    have a : 2^(52 + i) ≤ m * 2^i := by rw [Nat.pow_add]; exact Nat.mul_le_mul_right _ h1
    have b : m * 2^i < 2^(52 + i + 1) := by
      have : 2^(52 + i + 1) = 2^53 * 2^i := by rw [← Nat.pow_add]; congr 1; omega
      rw [this]; exact Nat.mul_lt_mul_of_pos_right h2 (Nat.two_pow_pos _)
    have h0 : m * 2^i ≠ 0 := by have := Nat.two_pow_pos (52 + i); omega
    have x1 := log2_le' b
    have x2 : 52 + i ≤ (m * 2^i).log2 := (Nat.le_log2 h0).2 a
    omega
  have hb : m * 2^i < 2^64 := by
    have : m * 2^i < 2^53 * 2^i := Nat.mul_lt_mul_of_pos_right h2 (Nat.two_pow_pos _)
    have : 2^53 * 2^i ≤ 2^53 * 2^11 := Nat.mul_le_mul_left _ (Nat.pow_le_pow_right (by decide) hi)
    omega
  have h0 : m * 2^i ≠ 0 := by have := Nat.two_pow_pos i; have : 0 < m := by omega
                              exact Nat.ne_of_gt (Nat.mul_pos this (Nat.two_pow_pos _))
  refine ⟨?_, hb⟩
  obtain ⟨e, -, -⟩ := nearest64_keep h0 hb
  rw [e, hl]
  have hk : keep (m * 2^i) = m := by
    unfold keep; rw [hl]
    split
    · have : i = 0 := by omega
      subst this; simp
    · have : 52 + i - 52 = i := by omega
      rw [this]; unfold kept64
      have d1 : m * 2^i / 2^i = m := Nat.mul_div_cancel _ (Nat.two_pow_pos _)
      have d2 : m * 2^i % 2^i = 0 := Nat.mul_mod_left _ _
      rw [d1, d2]
      have : 2^i ≠ 0 := Nat.ne_of_gt (Nat.two_pow_pos _)
      simp [this]
  rw [hk]; omega

/-- a whole number of 53 bits or fewer: its word is read as itself -/
theorem read_nearest64 {n : Nat} (h0 : n ≠ 0) (h : n < 2^53) : double.read (nearest64 n) = .number false (n * 2^(52 - n.log2)) ((n.log2 : Int) - 52) := by
  have hk : n.log2 ≤ 52 := log2_le' h
  have e := nearest64_small (by omega) hk
  have hlt : n < 2^(n.log2+1) := Nat.lt_log2_self
  have hp := pow_log2_le h0
  have b1 : 2^52 ≤ n * 2^(52 - n.log2) := by
    calc 2^52 = 2^n.log2 * 2^(52 - n.log2) := by rw [← Nat.pow_add]; congr 1; omega
      _ ≤ _ := Nat.mul_le_mul_right _ hp
  have b2 : n * 2^(52-n.log2) < 2^53 := by
    calc n * 2^(52-n.log2) < 2^(n.log2+1) * 2^(52-n.log2) := Nat.mul_lt_mul_of_pos_right hlt (Nat.two_pow_pos _)
      _ = 2^53 := by rw [← Nat.pow_add]; congr 1; omega
  generalize n.log2 = k at *
  generalize n * 2^(52 - k) = X at *
  have l1 : (1022 + k) * 2^52 + X < 2047 * 2^52 := by omega
  have l2 : ¬ ((1022 + k) * 2^52 + X < 2^52) := by omega
  rw [e, read_lt l1, if_neg l2]
  have q1 : 2^52 + ((1022 + k) * 2^52 + X) % 2^52 = X := by omega
  have q2 : -1074 + ((((1022 + k) * 2^52 + X) / 2^52 - 1 : Nat) : Int) = (k : Int) - 52 := by omega
  rw [q1, q2]

theorem integral_num (way : Toward) (s : Bool) (m : Nat) (i : Int) : (Datum.number s m i).integral way = .number s (way.cut s (m <<< i.toNat) (-i).toNat) 0 := rfl
theorem toInt_num (way : Toward) (s : Bool) (m : Nat) (i : Int) : (Datum.number s m i).toInt way = some (signed s (way.cut s (m <<< i.toNat) (-i).toNat) 0) := rfl

theorem trunc_small {v : Nat} (h : v < 1023 * 2^52) : trunc64 v = 0 ∧ toInt64 v = some 0 := by
  have hr := read_lt (show v < 2047 * 2^52 by omega)
  unfold trunc64 toInt64
  by_cases c : v < 2^52
  · rw [if_pos c] at hr
    rw [hr, integral_num, toInt_num]
    have : Toward.zero.cut false (v <<< (-1074 : Int).toNat) (-(-1074 : Int)).toNat = 0 := by
      simp only [Toward.cut, Nat.shiftLeft_eq, Nat.one_mul]
      have : v * 2 ^ (-1074 : Int).toNat = v := by have : (-1074 : Int).toNat = 0 := by decide
                                                   rw [this]; simp
      rw [this]
      have hl : v < 2^min (-(-1074 : Int)).toNat (v.log2 + 2) := by
        have a : v < 2^(v.log2+1) := Nat.lt_log2_self
        have b : 2^(v.log2+1) ≤ 2^(v.log2+2) := Nat.pow_le_pow_right (by decide) (by omega)
        have v52 : v < 2^52 := by omega
        have c2 : v < 2^(-(-1074 : Int)).toNat := Nat.lt_of_lt_of_le v52 (pow_le52 _ (by decide))
        rcases Nat.le_total (-(-1074 : Int)).toNat (v.log2 + 2) with q | q
        · rw [Nat.min_eq_left q]; exact c2
        · rw [Nat.min_eq_right q]; exact Nat.lt_of_lt_of_le a b
      rw [Nat.div_eq_of_lt hl]; rfl
    rw [this]
    exact ⟨by decide, by decide⟩
  · rw [if_neg c] at hr
    rw [hr, integral_num, toInt_num]
    have hd := Nat.div_add_mod v (2^52)
    have hm : v % 2^52 < 2^52 := Nat.mod_lt _ (by decide)
    generalize v / 2^52 = e at *
    generalize v % 2^52 = r at *
    have i1 : (-1074 + ((e - 1 : Nat) : Int)).toNat = 0 := by omega
    have i2 : 53 ≤ (-(-1074 + ((e - 1 : Nat) : Int))).toNat := by omega
    have : Toward.zero.cut false ((2^52 + r) <<< (-1074 + ((e - 1 : Nat) : Int)).toNat) (-(-1074 + ((e - 1 : Nat) : Int))).toNat = 0 := by
      rw [i1]
      generalize (-(-1074 + ((e - 1 : Nat) : Int))).toNat = d at *
      simp only [Toward.cut, Nat.shiftLeft_eq, Nat.one_mul, Nat.pow_zero, Nat.mul_one]
      have hl : 2^52 + r < 2^min d ((2^52 + r).log2 + 2) := by
        have a : 2^52 + r < 2^((2^52 + r).log2+1) := Nat.lt_log2_self
        have b : 2^((2^52 + r).log2+1) ≤ 2^((2^52 + r).log2+2) := Nat.pow_le_pow_right (by decide) (by omega)
        have c2 : 2^53 ≤ 2^d := Nat.pow_le_pow_right (by decide) i2
        rcases Nat.le_total d ((2^52 + r).log2 + 2) with q | q
        · rw [Nat.min_eq_left q]; omega
        · rw [Nat.min_eq_right q]; exact Nat.lt_of_lt_of_le a b
      rw [Nat.div_eq_of_lt hl]; rfl
    rw [this]
    exact ⟨by decide, by decide⟩

theorem trunc_mid {e m : Nat} (h1 : 1023 ≤ e) (h2 : e ≤ 1075) (h3 : m < 2^52) :
    trunc64 (e * 2^52 + m) = nearest64 ((2^52 + m) / 2^(1075 - e)) ∧ toInt64 (e * 2^52 + m) = some (((2^52 + m) / 2^(1075 - e) : Nat) : Int) := by
  have hr := read_lt (show e * 2^52 + m < 2047 * 2^52 by omega)
  rw [if_neg (by omega)] at hr
  have q1 : (e * 2^52 + m) % 2^52 = m := by omega
  have q2 : (e * 2^52 + m) / 2^52 = e := by omega
  rw [q1, q2] at hr
  unfold trunc64 toInt64 nearest64
  rw [hr, integral_num, toInt_num]
  have hl : (2^52 + m).log2 = 52 := by
    have a := log2_le' (show 2^52 + m < 2^(52+1) by omega)
    have b : 52 ≤ (2^52 + m).log2 := (Nat.le_log2 (by omega)).2 (by omega)
    omega
  have : Toward.zero.cut false ((2^52 + m) <<< (-1074 + ((e - 1 : Nat) : Int)).toNat) (-(-1074 + ((e - 1 : Nat) : Int))).toNat = (2^52 + m) / 2^(1075 - e) := by
    have i1 : (-1074 + ((e - 1 : Nat) : Int)).toNat = 0 := by omega
    have i2 : (-(-1074 + ((e - 1 : Nat) : Int))).toNat = 1075 - e := by omega
    rw [i1, i2]
    simp only [Toward.cut, Nat.shiftLeft_eq, Nat.one_mul, Nat.pow_zero, Nat.mul_one, hl]
    rw [Nat.min_eq_left (by omega)]; simp
  rw [this]
  refine ⟨rfl, ?_⟩
  simp [signed]

theorem trunc_great {e m : Nat} (h1 : 1075 ≤ e) (h2 : e ≤ 1086) (h3 : m < 2^52) :
    trunc64 (e * 2^52 + m) = nearest64 ((2^52 + m) * 2^(e - 1075)) ∧ toInt64 (e * 2^52 + m) = some (((2^52 + m) * 2^(e - 1075) : Nat) : Int) := by
  have hr := read_lt (show e * 2^52 + m < 2047 * 2^52 by omega)
  rw [if_neg (by omega)] at hr
  have q1 : (e * 2^52 + m) % 2^52 = m := by omega
  have q2 : (e * 2^52 + m) / 2^52 = e := by omega
  rw [q1, q2] at hr
  unfold trunc64 toInt64 nearest64
  rw [hr, integral_num, toInt_num]
  have : Toward.zero.cut false ((2^52 + m) <<< (-1074 + ((e - 1 : Nat) : Int)).toNat) (-(-1074 + ((e - 1 : Nat) : Int))).toNat = (2^52 + m) * 2^(e - 1075) := by
    have i1 : (-1074 + ((e - 1 : Nat) : Int)).toNat = e - 1075 := by omega
    have i2 : (-(-1074 + ((e - 1 : Nat) : Int))).toNat = 0 := by omega
    rw [i1, i2]
    simp [Toward.cut, Nat.shiftLeft_eq]
  rw [this]
  refine ⟨rfl, ?_⟩
  simp [signed]

/-- what the code tells of a float: beyond 64 bits, or no whole number: none -/
def codeWhole (v : Nat) : Option Int :=
  if decide (v < 2047 * 2^52) = false ∨ atLeast64 v = true ∨ (double.order (trunc64 v) v == some .eq) = false then none else toInt64 v

theorem codeWhole_eq {v : Nat} : codeWhole v = (if v < 2047 * 2^52 then refWhole v else none).map (fun n : Nat => (n : Int)) ∧ (∀ n, v < 2047 * 2^52 → refWhole v = some n → nearest64 n = v ∧ n < 2^64) := by
  by_cases h : v < 2047 * 2^52
  case neg =>
    have : codeWhole v = none := by unfold codeWhole; rw [if_pos]; left; exact decide_eq_false h
    rw [this, if_neg h]
    exact ⟨rfl, fun n a => absurd a h⟩
  rw [if_pos h]
  unfold codeWhole
  rw [atLeast64_eq h, decide_eq_true h]
  have hd := Nat.div_add_mod v (2^52)
  have hm : v % 2^52 < 2^52 := Nat.mod_lt _ (by decide)
  by_cases c1 : v < 1023 * 2^52
  · obtain ⟨t1, t2⟩ := trunc_small c1
    rw [t1, t2]
    by_cases c0 : v = 0
    · subst c0
      refine ⟨by decide, fun n _ hn => ?_⟩
      have hz : refWhole 0 = some 0 := by decide
      rw [hz] at hn; injection hn with hn
      subst hn; exact ⟨by decide, by decide⟩
    · have hr : refWhole v = none := by unfold refWhole; simp only [c0, if_false]; rw [if_pos (by left; omega)]
      rw [hr]
      refine ⟨?_, fun n _ hn => by cases hn⟩
      rw [if_pos]; rfl
      right; right
      have r0 : double.read 0 = .number false 0 (-1074) := by decide
      have hrd := read_lt h
      split at hrd
      · rw [order_num r0 hrd, cmp_eq]; apply decide_eq_false; simp; omega
      · rw [order_num r0 hrd, cmp_eq]; apply decide_eq_false
        have := Nat.two_pow_pos ((-1074 + ((v / 2^52 - 1 : Nat) : Int)) - min (-1074) (-1074 + ((v / 2^52 - 1 : Nat) : Int))).toNat
        have : 0 < (2^52 + v % 2^52) * 2^((-1074 + ((v / 2^52 - 1 : Nat) : Int)) - min (-1074) (-1074 + ((v / 2^52 - 1 : Nat) : Int))).toNat := Nat.mul_pos (by omega) this
        generalize (2^52 + v % 2^52) * 2^((-1074 + ((v / 2^52 - 1 : Nat) : Int)) - min (-1074) (-1074 + ((v / 2^52 - 1 : Nat) : Int))).toNat = X at *
        rw [Nat.zero_mul]; omega
  · have hv0 : v ≠ 0 := by omega
    unfold refWhole
    simp only [hv0, if_false]
    generalize he : v / 2^52 = e at *
    generalize hr : v % 2^52 = m at *
    have hv : v = e * 2^52 + m := by omega
    subst hv
    by_cases c3 : 1086 < e
    · refine ⟨?_, fun n _ hn => by rw [if_pos (Or.inr c3)] at hn; cases hn⟩
      rw [if_pos (Or.inr c3), if_pos]; rfl
      right; left; apply decide_eq_true; omega
    · have c2 : ¬ (e < 1023 ∨ 1086 < e) := by omega
      rw [if_neg c2]
      have c4 : decide (1087 * 2^52 ≤ e * 2^52 + m) = false := by apply decide_eq_false; omega
      rw [c4]
      have hrd := read_lt h
      rw [if_neg (by omega), he, hr] at hrd
      by_cases c5 : e ≤ 1075
      · obtain ⟨t1, t2⟩ := trunc_mid (by omega) c5 hm
        rw [t1, t2, if_pos c5, Nat.add_comm m (2^52)]
        have hq : (2^52 + m) / 2^(1075 - e) ≠ 0 := by
          have : 2^(1075 - e) ≤ 2^52 := Nat.pow_le_pow_right (by decide) (by omega)
          have := Nat.div_pos (show 2^(1075 - e) ≤ 2^52 + m by omega) (Nat.two_pow_pos _)
          omega
        have hq2 : (2^52 + m) / 2^(1075 - e) < 2^53 := by
          have := Nat.div_le_self (2^52 + m) (2^(1075-e)); omega
        have hrn := read_nearest64 hq hq2
        have hdm := Nat.div_add_mod (2^52 + m) (2^(1075 - e))
        by_cases c6 : (2^52 + m) % 2^(1075 - e) = 0
        · rw [if_pos c6]
          have hval : nearest64 ((2^52 + m) / 2^(1075 - e)) = e * 2^52 + m := by
            have hl : ((2^52 + m) / 2^(1075 - e)).log2 = e - 1023 := by
              rw [c6, Nat.add_zero] at hdm
              generalize (2^52 + m) / 2^(1075 - e) = q at *
              have x1 : q < 2^(e - 1023 + 1) := by
                have : 2^(1075 - e) * q < 2^(1075 - e) * 2^(e - 1023 + 1) := by
                  rw [hdm, ← Nat.pow_add]; have : 1075 - e + (e - 1023 + 1) = 53 := by omega
                  rw [this]; omega
                exact Nat.lt_of_mul_lt_mul_left this
              have x2 : 2^(e - 1023) ≤ q := by
                have : 2^(1075 - e) * 2^(e - 1023) ≤ 2^(1075 - e) * q := by
                  rw [hdm, ← Nat.pow_add]; have : 1075 - e + (e - 1023) = 52 := by omega
                  rw [this]; omega
                exact Nat.le_of_mul_le_mul_left this (Nat.two_pow_pos _)
              have x3 := log2_le' x1
              have x4 := (Nat.le_log2 hq).2 x2
              omega
            rw [nearest64_small (Nat.pos_of_ne_zero hq) (by omega), hl]
            have : (2^52 + m) / 2^(1075 - e) * 2^(52 - (e - 1023)) = 2^52 + m := by
              have : 52 - (e - 1023) = 1075 - e := by omega
              rw [this, Nat.mul_comm]; omega
            rw [this]; omega
          refine ⟨?_, fun n _ hn => by injection hn with hn; subst hn; exact ⟨hval, by omega⟩⟩
          rw [hval, if_neg]; rfl
          rw [order_num hrd hrd, cmp_eq]; simp
        · rw [if_neg c6]
          refine ⟨?_, fun n _ hn => by cases hn⟩
          rw [if_pos]; rfl
          right; right
          rw [order_num hrn hrd, cmp_eq]
          apply decide_eq_false
          intro heq
          apply c6
          -- the cut number's value is the float's
          have hl : ((2^52 + m) / 2^(1075 - e)).log2 ≤ 52 := log2_le' hq2
          have hcast := Int.ofNat.inj heq
          generalize ((2^52 + m) / 2^(1075 - e)).log2 = L at *
          generalize hqq : (2^52 + m) / 2^(1075 - e) = q at *
          have hb : 2^(1075 - e) * q = 2^52 + m := by
            rcases Int.le_total ((L : Int) - 52) (-1074 + ((e - 1 : Nat) : Int)) with g | g
            · rw [Int.min_eq_left g] at hcast
              have z1 : ((L : Int) - 52 - ((L : Int) - 52)).toNat = 0 := by omega
              have z2 : (-1074 + ((e - 1 : Nat) : Int) - ((L : Int) - 52)).toNat = e - 1023 - L := by omega
              rw [z1, z2, Nat.pow_zero, Nat.mul_one] at hcast
              have e3 : 2^(52 - L) = 2^(1075 - e) * 2^(e - 1023 - L) := by rw [← Nat.pow_add]; congr 1; omega
              rw [e3, ← Nat.mul_assoc] at hcast
              have := Nat.eq_of_mul_eq_mul_right (Nat.two_pow_pos _) hcast
              rw [Nat.mul_comm]; exact this
            · rw [Int.min_eq_right g] at hcast
              have z1 : ((L : Int) - 52 - (-1074 + ((e - 1 : Nat) : Int))).toNat = L - (e - 1023) := by omega
              have z2 : (-1074 + ((e - 1 : Nat) : Int) - (-1074 + ((e - 1 : Nat) : Int))).toNat = 0 := by omega
              rw [z1, z2, Nat.pow_zero, Nat.mul_one, Nat.mul_assoc, ← Nat.pow_add] at hcast
              have : 52 - L + (L - (e - 1023)) = 1075 - e := by omega
              rw [this] at hcast; rw [Nat.mul_comm]; exact hcast
          have := Nat.mul_mod_right (2^(1075 - e)) q
          rw [hb] at this; exact this
      · obtain ⟨t1, t2⟩ := trunc_great (e := e) (m := m) (by omega) (by omega) hm
        rw [t1, t2, if_neg c5, Nat.add_comm m (2^52)]
        have hex := nearest64_exact (m := 2^52 + m) (i := e - 1075) (by omega) (by omega) (by omega)
        have hval : nearest64 ((2^52 + m) * 2^(e - 1075)) = e * 2^52 + m := by rw [hex.1]; omega
        refine ⟨?_, fun n _ hn => by rw [Option.some.injEq] at hn; rw [← hn]; exact ⟨hval, hex.2⟩⟩
        rw [hval, if_neg, Option.map_some]
        rw [order_num hrd hrd, cmp_eq]; simp

/-! sums -/
theorem sum_comm (a b : Datum) : a.sum b = b.sum a := by
  cases a <;> cases b <;> simp only [Datum.sum]
  · rename_i s m i t n j
    rw [Int.min_comm i j, Int.add_comm (signed s m _), Bool.and_comm s t]
  · rename_i s t
    by_cases h : s = t
    · subst h; rfl
    · rw [if_neg h, if_neg (fun e => h e.symm)]
theorem add_comm64 (a b : Nat) : double.add a b = double.add b a := by
  unfold Format.add; rw [sum_comm]

/-- what is written of a number of 53 bits at some place -/
theorem write_normal {m d : Nat} (h1 : 2^52 ≤ m) (h2 : m < 2^53) (hd : d ≤ 2045) : double.write (.number false (m * 2^d) (-1074)) = d * 2^52 + m := by
  have hl : (m * 2^d).log2 = 52 + d := by
    have a : 2^(52 + d) ≤ m * 2^d := by rw [Nat.pow_add]; exact Nat.mul_le_mul_right _ h1
    have b : m * 2^d < 2^(52 + d + 1) := by
      have : 2^(52 + d + 1) = 2^53 * 2^d := by rw [← Nat.pow_add]; congr 1; omega
      rw [this]; exact Nat.mul_lt_mul_of_pos_right h2 (Nat.two_pow_pos _)
    have h0 : m * 2^d ≠ 0 := by have := Nat.two_pow_pos (52 + d); omega
    have x1 := log2_le' b
    have x2 : 52 + d ≤ (m * 2^d).log2 := (Nat.le_log2 h0).2 a
    omega
  have h0 : m * 2^d ≠ 0 := Nat.ne_of_gt (Nat.mul_pos (by omega) (Nat.two_pow_pos _))
  unfold Format.write Format.nearest
  simp only [h0, if_false]
  have e1 : (double.leastPlace : Int) = -1074 := by decide
  have e2 : (double.fractionBits) = 52 := rfl
  have e3 : double.binade = 2^52 := by decide
  have e10 : double.infRung = 2047 * 2^52 := by decide
  rw [e1, e2, e3, e10, hl]
  have e4 : max ((-1074:Int) + ((52 + d : Nat):Int) - ((52:Nat):Int)) (-1074) = (d:Int) - 1074 := by omega
  rw [e4]
  have e5 : ((-1074:Int) - ((d:Int) - 1074)).toNat = 0 := by omega
  have e6 : ((d:Int) - 1074 - -1074).toNat = d := by omega
  rw [e5, e6]
  have e8 : Toward.even.cut false ((m * 2^d) <<< 0) d = m := by
    simp only [Toward.cut, Nat.shiftLeft_eq, Nat.pow_zero, Nat.mul_one, Nat.one_mul, hl]
    rw [Nat.min_eq_left (by omega)]
    have d1 : m * 2^d / 2^d = m := Nat.mul_div_cancel _ (Nat.two_pow_pos _)
    have d2 : m * 2^d % 2^d = 0 := Nat.mul_mod_left _ _
    rw [d1, d2]
    simp
  rw [e8, Nat.min_eq_left (by omega)]
  simp [Format.word]

theorem write_subnormal {m : Nat} (h2 : m < 2^52) : double.write (.number false m (-1074)) = m := by
  by_cases h0 : m = 0
  · subst h0; decide
  unfold Format.write Format.nearest
  simp only [h0, if_false]
  have e1 : (double.leastPlace : Int) = -1074 := by decide
  have e2 : (double.fractionBits) = 52 := rfl
  have e3 : double.binade = 2^52 := by decide
  have e10 : double.infRung = 2047 * 2^52 := by decide
  have hl : m.log2 ≤ 51 := log2_le' h2
  rw [e1, e2, e3, e10]
  have e4 : max ((-1074:Int) + (m.log2:Int) - ((52:Nat):Int)) (-1074) = -1074 := by omega
  rw [e4]
  have e5 : ((-1074:Int) - -1074).toNat = 0 := by decide
  rw [e5]
  have e8 : Toward.even.cut false (m <<< 0) 0 = m := by simp [Toward.cut, Nat.mod_one]
  rw [e8, Nat.min_eq_left (by omega)]
  simp [Format.word]

theorem word_false (r : Nat) : double.word false r = r := rfl
theorem write_le_inf (m : Nat) (p : Int) : double.write (.number false m p) ≤ 2047 * 2^52 := by
  have e10 : double.infRung = 2047 * 2^52 := by decide
  unfold Format.write Format.nearest
  dsimp only
  split
  · rw [word_false]; omega
  · rw [word_false, e10]; exact Nat.min_le_right _ _

/-- two counts together are a float that isn't below 0 -/
theorem add_right {a b : Nat} (ha : a < 2047 * 2^52) (hb : b < 2047 * 2^52) : ∃ r, double.add a b = some r ∧ r ≤ 2047 * 2^52 := by
  have h : ∀ v, v < 2047 * 2^52 → ∃ m p, double.read v = .number false m p := by
    intro v hv; rw [read_lt hv]; split <;> exact ⟨_, _, rfl⟩
  obtain ⟨m, i, ea⟩ := h a ha
  obtain ⟨n, j, eb⟩ := h b hb
  unfold Format.add
  rw [ea, eb]
  simp only [Datum.sum, Option.map_some]
  refine ⟨_, rfl, ?_⟩
  have hs : ∀ m k, signed false m k = ((m <<< k : Nat) : Int) := fun m k => rfl
  rw [hs, hs]
  generalize m <<< (i - min i j).toNat = A
  generalize n <<< (j - min i j).toNat = B
  have : (if (A : Int) + (B : Int) = 0 then false && false else decide ((A : Int) + (B : Int) < 0)) = false := by
    split
    · rfl
    · apply decide_eq_false; omega
  rw [this]
  exact write_le_inf _ _

/-- nothing and a count are the count -/
theorem add_zero_left {b : Nat} (hb : b < 2047 * 2^52) : double.add 0 b = some b := by
  have r0 : double.read 0 = .number false 0 (-1074) := by decide
  have hr := read_lt hb
  unfold Format.add
  by_cases c : b < 2^52
  · rw [if_pos c] at hr
    rw [r0, hr]
    have hs : ∀ m k, signed false m k = ((m <<< k : Nat) : Int) := fun m k => rfl
    have z3 : ((-1074 : Int) - -1074).toNat = 0 := by decide
    have z1 : min (-1074 : Int) (-1074) = -1074 := by decide
    simp only [Datum.sum, Option.map_some, z1, z3, hs]
    rw [Nat.shiftLeft_zero, Nat.shiftLeft_zero]
    have : (if ((0 : Nat) : Int) + (b : Int) = 0 then false && false else decide (((0 : Nat) : Int) + (b : Int) < 0)) = false := by
      split
      · rfl
      · apply decide_eq_false; omega
    rw [this]
    have e : (((0 : Nat) : Int) + (b : Int)).natAbs = b := by omega
    rw [e, write_subnormal c]
  · rw [if_neg c] at hr
    have hm : b % 2^52 < 2^52 := Nat.mod_lt _ (by decide)
    have hd := Nat.div_add_mod b (2^52)
    rw [r0, hr]
    generalize b / 2^52 = e at *
    generalize b % 2^52 = r at *
    have he : 1 ≤ e := by omega
    have z1 : min (-1074 : Int) (-1074 + ((e - 1 : Nat) : Int)) = -1074 := by omega
    have z2 : (-1074 + ((e - 1 : Nat) : Int) - -1074).toNat = e - 1 := by omega
    have z3 : ((-1074 : Int) - -1074).toNat = 0 := by decide
    have hs : ∀ m k, signed false m k = ((m <<< k : Nat) : Int) := fun m k => rfl
    simp only [Datum.sum, Option.map_some, z1, z2, z3, hs]
    rw [Nat.zero_shiftLeft, Nat.shiftLeft_eq]
    have hp : 0 < (2^52 + r) * 2^(e - 1) := Nat.mul_pos (by omega) (Nat.two_pow_pos _)
    have hw := write_normal (m := 2^52 + r) (d := e - 1) (by omega) (by omega) (by omega)
    generalize (2^52 + r) * 2^(e - 1) = X at *
    have : (if ((0 : Nat) : Int) + (X : Int) = 0 then false && false else decide (((0 : Nat) : Int) + (X : Int) < 0)) = false := by
      rw [if_neg (by omega)]; apply decide_eq_false; omega
    rw [this]
    have e : (((0 : Nat) : Int) + (X : Int)).natAbs = X := by omega
    rw [e, hw]; congr 1; omega

/-- what is beyond all stays so -/
theorem add_inf_left {b : Nat} (hb : b < 2047 * 2^52) : double.add (2047 * 2^52) b = some (2047 * 2^52) := by
  have r0 : double.read (2047 * 2^52) = .infinity false := by decide
  have hr := read_lt hb
  unfold Format.add
  have hw : double.write (.infinity false) = 2047 * 2^52 := by decide
  have hs : ∀ m p, (Datum.infinity false).sum (.number false m p) = some (.infinity false) := fun _ _ => rfl
  rw [r0]
  split at hr <;> rw [hr, hs, Option.map_some, hw]
end TP
