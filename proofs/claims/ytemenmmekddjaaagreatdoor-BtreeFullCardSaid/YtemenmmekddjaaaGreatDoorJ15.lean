/- Rules for words of 64 bits and for whole numbers. No condition. Counting the bits of a word as the library does. No condition. Slices that are read, wherever they lie. No condition. Lists of objects that are owned each by itself. No condition. Cutting, copying and clearing slices. No condition. -/
import Derived.Laws.Bits64b
import Derived.Lib.TrailingZeros
import Derived.Test.YtemenmmekddjaaaGreatDoorJ03
set_option linter.all false
set_option linter.unusedVariables false
set_option linter.unusedSimpArgs false
set_option linter.unnecessarySimpa false
set_option linter.unusedSectionVars false
set_option linter.constructorNameAsVariable false
section
namespace Go.W
open Go Go.Wx
@[reducible] def u64 (n : Nat) : Value := .int .u64 (n : Int)
section
variable {w : World} {k : K}
theorem shr_u64 {a : Nat} {i : Int} {j : IntKind} (ha : a < 18446744073709551616) (h0 : 0 ≤ i) (hk : k (u64 (a >>> i.toNat)) w) : bin w .shr (u64 a) (.int j i) k := by
  refine ⟨_, if_neg (by omega), ?_⟩
  have : ((a : Int).fdiv (2 ^ min i.toNat IntKind.u64.bits)) = ((a >>> i.toNat : Nat) : Int) := by
    rw [Int.fdiv_eq_ediv_of_nonneg _ (by exact Int.pow_nonneg (by decide)), Nat.shiftRight_eq_div_pow]
    show (a : Int) / (2 ^ min i.toNat 64) = _
    rcases Nat.le_total i.toNat 64 with h | h
    · rw [Nat.min_eq_left h]; simp
    · rw [Nat.min_eq_right h]
      have e1 : a / 2 ^ 64 = 0 := Nat.div_eq_of_lt (by omega)
      have e2 : a / 2 ^ i.toNat = 0 := Nat.div_eq_of_lt (Nat.lt_of_lt_of_le (by omega) (Nat.pow_le_pow_right (by decide) h))
      rw [e2]
      have : (a : Int) / 2 ^ 64 = ((a / 2 ^ 64 : Nat) : Int) := by simp
      rw [this, e1]
  rw [this]; exact hk
theorem shl1_u64 {i : Int} {j : IntKind} (h0 : 0 ≤ i) (h1 : i < 64) (hk : k (u64 (2 ^ i.toNat)) w) : bin w .shl (.int .u64 1) (.int j i) k := by
  refine ⟨_, if_neg (by omega), ?_⟩
  have : IntKind.u64.wrap (1 * 2 ^ min i.toNat IntKind.u64.bits) = ((2 ^ i.toNat : Nat) : Int) := by
    show IntKind.u64.wrap (1 * 2 ^ min i.toNat 64) = _
    rw [Nat.min_eq_left (by omega), IntKind.wrap_u64, Int.one_mul]
    have h2 : (2:Nat) ^ i.toNat < 2 ^ 64 := Nat.pow_lt_pow_right (by decide) (by omega)
    have e : (2:Int) ^ i.toNat = ((2 ^ i.toNat : Nat) : Int) := by simp
    rw [e]
    generalize 2 ^ i.toNat = x at h2
    omega
  rw [this]; exact hk
theorem and_u64 {a b : Nat} (ha : a < 18446744073709551616) (hb : b < 18446744073709551616) (hk : k (u64 (a &&& b)) w) : bin w .and (u64 a) (u64 b) k := by
  refine ⟨.int .u64 (bits .and .u64 a b), by simp [intBin], ?_⟩; rw [bits_and_u64_nat a b ha hb]; exact hk
theorem or_u64 {a b : Nat} (ha : a < 18446744073709551616) (hb : b < 18446744073709551616) (hk : k (u64 (a ||| b)) w) : bin w .or (u64 a) (u64 b) k := by
  refine ⟨.int .u64 (bits .or .u64 a b), by simp [intBin], ?_⟩; rw [bits_or_u64_nat a b ha hb]; exact hk
theorem xor_u64 {a b : Nat} (ha : a < 18446744073709551616) (hb : b < 18446744073709551616) (hk : k (u64 (a ^^^ b)) w) : bin w .xor (u64 a) (u64 b) k := by
  refine ⟨.int .u64 (bits .xor .u64 a b), by simp [intBin], ?_⟩; rw [bits_xor_u64_nat a b ha hb]; exact hk
theorem andNot_u64 {a b : Nat} (ha : a < 18446744073709551616) (hb : b < 18446744073709551616) (hk : k (u64 (a &&& (18446744073709551615 - b))) w) : bin w .andNot (u64 a) (u64 b) k := by
  refine ⟨.int .u64 (bits .andNot .u64 a b), by simp [intBin], ?_⟩
  have : bits .andNot .u64 (a : Int) (b : Int) = ((a &&& (18446744073709551615 - b) : Nat) : Int) := by
    have hx : a &&& (18446744073709551615 - b) < 2 ^ 64 := Nat.and_lt_two_pow _ (by omega)
    have h1 : (BitVec.ofInt 64 (a : Int)).toNat = a := by
      rw [BitVec.ofInt_natCast, BitVec.toNat_ofNat]; exact Nat.mod_eq_of_lt (by omega)
    have h2 : (BitVec.ofInt 64 (b : Int)).toNat = b := by
      rw [BitVec.ofInt_natCast, BitVec.toNat_ofNat]; exact Nat.mod_eq_of_lt (by omega)
    show IntKind.u64.wrap ((BitVec.ofInt 64 (a : Int) &&& ~~~ BitVec.ofInt 64 (b : Int)).toNat : Int) = _
    rw [BitVec.toNat_and, BitVec.toNat_not, h1, h2, IntKind.wrap_u64]
    show ((a &&& (18446744073709551615 - b) : Nat) : Int) % _ = _
    omega
  rw [this]; exact hk
theorem testBit_andNot {a b i : Nat} (ha : a < 18446744073709551616) (hb : b < 18446744073709551616) : (a &&& (18446744073709551615 - b)).testBit i = (a.testBit i && !b.testBit i) := by
  have e : 18446744073709551615 - b = 2 ^ 64 - (b + 1) := by omega
  rw [Nat.testBit_and, e, Nat.testBit_two_pow_sub_succ (by omega)]
  by_cases hi : i < 64
  · simp [hi]
  · have h1 : a.testBit i = false := Nat.testBit_lt_two_pow (Nat.lt_of_lt_of_le (show a < 2 ^ 64 by omega) (Nat.pow_le_pow_right (by decide) (by omega)))
    simp [h1]
theorem add_u64 {a b : Nat} (h : a + b < 18446744073709551616) (hk : k (u64 (a + b)) w) : bin w .add (u64 a) (u64 b) k := by
  refine ⟨.int .u64 (IntKind.u64.wrap ((a : Int) + (b : Int))), by simp [intBin], ?_⟩
  have : IntKind.u64.wrap ((a : Int) + (b : Int)) = ((a + b : Nat) : Int) := by rw [IntKind.wrap_u64]; omega
  rw [this]; exact hk
theorem mul_u64 {a b : Nat} (hk : k (u64 (a * b % 18446744073709551616)) w) : bin w .mul (u64 a) (u64 b) k := by
  refine ⟨.int .u64 (IntKind.u64.wrap ((a : Int) * (b : Int))), by simp [intBin], ?_⟩
  have : IntKind.u64.wrap ((a : Int) * (b : Int)) = ((a * b % 18446744073709551616 : Nat) : Int) := by rw [IntKind.wrap_u64]; simp
  rw [this]; exact hk
theorem ext_max {a b : Int} (hk : k (int (if a < b then b else a)) w) : ext w true (int a) (int b) k := by
  exact ⟨_, rfl, hk⟩
theorem ext_min {a b : Int} (hk : k (int (if b < a then b else a)) w) : ext w false (int a) (int b) k := by
  exact ⟨_, rfl, hk⟩
end
end Go.W
end
section
namespace Go.W
/-- digits to the base 2^4, changed one by one. -/
def digs (g : Nat → Nat) : Nat → Nat → Nat
  | 0, _ => 0
  | f + 1, y => g (y % 16) + 16 * digs g f (y / 16)
def mask (m : Nat) : Nat → Nat
  | 0 => 0
  | f + 1 => m + 16 * mask m f
theorem and_16 (a b c d : Nat) (ha : a < 16) (hc : c < 16) : (a + 16 * b) &&& (c + 16 * d) = (a &&& c) + 16 * (b &&& d) := by
  have h1 : a &&& c < 16 := Nat.and_lt_two_pow (n := 4) _ hc
  apply Nat.eq_of_testBit_eq
  intro i
  have key : ∀ x y j, x < 16 → (x + 16 * y).testBit j = if j < 4 then x.testBit j else y.testBit (j - 4) := by
    intro x y j hx
    rw [Nat.add_comm, show (16:Nat) = 2 ^ 4 from rfl, Nat.testBit_two_pow_mul_add _ (by simpa using hx)]
  rw [Nat.testBit_and, key _ _ _ ha, key _ _ _ hc, key _ _ _ h1]
  split <;> simp [Nat.testBit_and]
theorem step1 : ∀ f y, y < 16 ^ f → ((y >>> 1) &&& mask 5 f) + (y &&& mask 5 f) = digs (fun h => ((h / 2) &&& 5) + (h &&& 5)) f y
  | 0, y, h => by simp [mask, digs]
  | f + 1, y, h => by
    have ih := step1 f (y / 16) (by rw [Nat.pow_succ] at h; omega)
    have e1 : y >>> 1 = (y % 16 / 2 + 8 * (y / 16 % 2)) + 16 * ((y / 16) >>> 1) := by simp only [Nat.shiftRight_eq_div_pow]; omega
    have e2 : y &&& mask 5 (f + 1) = (y % 16 &&& 5) + 16 * (y / 16 &&& mask 5 f) := by
      have := and_16 (y % 16) (y / 16) 5 (mask 5 f) (by omega) (by omega)
      rw [show y % 16 + 16 * (y / 16) = y by omega] at this
      exact this
    have e3 : (y >>> 1) &&& mask 5 (f + 1) = ((y % 16 / 2) &&& 5) + 16 * (((y / 16) >>> 1) &&& mask 5 f) := by
      rw [e1, mask, and_16 _ _ _ _ (by omega) (by omega)]
      congr 1
      have : ∀ a < 16, ∀ b < 2, (a / 2 + 8 * b) &&& 5 = (a / 2) &&& 5 := by decide
      exact this _ (by omega) _ (by omega)
    rw [e2, e3, digs, ← ih]
    omega
theorem step2 (g : Nat → Nat) (hg : ∀ h < 16, g h < 16) : ∀ f y, y < 16 ^ f → ((digs g f y >>> 2) &&& mask 3 f) + (digs g f y &&& mask 3 f) = digs (fun h => ((g h / 4) &&& 3) + (g h &&& 3)) f y
  | 0, y, h => by simp [mask, digs]
  | f + 1, y, h => by
    have ih := step2 g hg f (y / 16) (by rw [Nat.pow_succ] at h; omega)
    have hgy := hg (y % 16) (by omega)
    generalize hz : digs g f (y / 16) = z at ih
    have e0 : digs g (f + 1) y = g (y % 16) + 16 * z := by rw [digs, hz]
    have e1 : (g (y % 16) + 16 * z) >>> 2 = (g (y % 16) / 4 + 4 * (z % 4)) + 16 * (z >>> 2) := by simp only [Nat.shiftRight_eq_div_pow]; omega
    rw [e0, digs, ← ih, e1, mask, and_16 _ _ _ _ (by omega) (by omega), and_16 _ _ _ _ (by omega) (by omega)]
    have : ∀ a < 16, ∀ b < 4, (a / 4 + 4 * b) &&& 3 = (a / 4) &&& 3 := by decide
    rw [this _ hgy _ (by omega)]
    omega
/-- how many bits of four are set. -/
def nib (h : Nat) : Nat := ((((h / 2) &&& 5) + (h &&& 5)) / 4 &&& 3) + ((((h / 2) &&& 5) + (h &&& 5)) &&& 3)
theorem nib_le (h : Nat) (hh : h < 16) : nib h ≤ 4 := by
  have : ∀ h < 16, nib h ≤ 4 := by decide
  exact this h hh
def bitCount (x : Nat) : Nat := (List.range 64).countP x.testBit
theorem nib_bits (h : Nat) (hh : h < 16) : nib h = (List.range 4).countP h.testBit := by
  have : ∀ h < 16, nib h = (List.range 4).countP h.testBit := by decide
  exact this h hh
def nibs : Nat → Nat → Nat
  | 0, _ => 0
  | f + 1, y => nib (y % 16) + nibs f (y / 16)
theorem nibs_count : ∀ f y, nibs f y = (List.range (4 * f)).countP y.testBit
  | 0, y => rfl
  | f + 1, y => by
    rw [nibs, nibs_count f, nib_bits _ (by omega), show 4 * (f + 1) = 4 + 4 * f by omega, List.range_add, List.countP_append, List.countP_map]
    congr 1
    · apply List.countP_congr
      intro i hi
      have hi : i < 4 := List.mem_range.1 hi
      rw [show (16:Nat) = 2 ^ 4 from rfl, Nat.testBit_mod_two_pow]
      simp [hi]
    · apply List.countP_congr
      intro i _
      simp only [Function.comp]
      rw [show (16:Nat) = 2 ^ 4 from rfl, Nat.testBit_div_two_pow, Nat.add_comm]
def val (B : Nat) : List Nat → Nat
  | [] => 0
  | a :: l => a + B * val B l
def zadd : List Nat → List Nat → List Nat
  | [], m => m
  | a :: l, [] => a :: l
  | a :: l, b :: m => (a + b) :: zadd l m
theorem val_zadd (B : Nat) : ∀ l m, val B l + val B m = val B (zadd l m)
  | [], m => by simp [val, zadd]
  | a :: l, [] => by simp [val, zadd]
  | a :: l, b :: m => by
    simp only [val, zadd, ← val_zadd B l m, Nat.mul_add]
    omega
theorem val_div {B a : Nat} {l : List Nat} (h : a < B) : val B (a :: l) / B = val B l := by
  rw [val, Nat.add_mul_div_left _ _ (by omega), Nat.div_eq_of_lt h]
  omega
theorem val_mod {B a : Nat} {l : List Nat} (h : a < B) : val B (a :: l) % B = a := by
  rw [val, Nat.add_mul_mod_self_left, Nat.mod_eq_of_lt h]
def spread : List Nat → List Nat
  | [] => []
  | a :: l => a :: 0 :: spread l
theorem val_spread : ∀ l, val 16 (spread l) = val 256 l
  | [] => rfl
  | a :: l => by simp only [spread, val, val_spread l]; omega
def evens : List Nat → List Nat
  | a :: _ :: l => a :: evens l
  | _ => []
theorem and_evens : ∀ (l : List Nat), l.length % 2 = 0 → (∀ a ∈ l, a < 16) → val 16 l &&& val 16 (spread (List.replicate (l.length / 2) 15)) = val 256 (evens l)
  | [], _, _ => by simp [val, evens]
  | [a], h, _ => by simp at h
  | a :: b :: l, h, hl => by
    have ih := and_evens l (by simp at h; omega) (fun x hx => hl x (by simp [hx]))
    have e : (a :: b :: l).length / 2 = l.length / 2 + 1 := by simp only [List.length_cons]; omega
    have m15 : ∀ a < 16, a &&& 15 = a := by decide
    rw [e, List.replicate_succ, spread, val, val, val, val, and_16 _ _ _ _ (hl a (by simp)) (by omega), and_16 _ _ _ _ (hl b (by simp)) (by omega), m15 a (hl a (by simp)), ih, evens, val, Nat.and_zero]
    omega
def sumG (g : Nat → Nat) : Nat → Nat → Nat
  | 0, _ => 0
  | f + 1, y => g (y % 16) + sumG g f (y / 16)
theorem digs_val (g : Nat → Nat) : ∀ f y, ∃ l, l.length = f ∧ digs g f y = val 16 l ∧ (∀ a ∈ l, ∃ h < 16, a = g h) ∧ l.sum = sumG g f y
  | 0, y => ⟨[], rfl, rfl, by simp, rfl⟩
  | f + 1, y => by
    obtain ⟨l, h1, h2, h3, h4⟩ := digs_val g f (y / 16)
    refine ⟨g (y % 16) :: l, by simp [h1], by rw [digs, val, h2], fun a ha => ?_, ?_⟩
    · rcases List.mem_cons.1 ha with rfl | ha
      · exact ⟨y % 16, by omega, rfl⟩
      · exact h3 a ha
    · rw [List.sum_cons, h4]; rfl
theorem val_lt (B : Nat) (hB : 0 < B) : ∀ l, (∀ a ∈ l, a < B) → val B l < B ^ l.length
  | [], _ => by simp [val]
  | a :: l, h => by
    have := val_lt B hB l (fun x hx => h x (by simp [hx]))
    have ha := h a (by simp)
    simp only [val, List.length_cons, Nat.pow_succ]
    have : B * (val B l + 1) ≤ B * B ^ l.length := Nat.mul_le_mul_left _ this
    rw [Nat.mul_comm (B ^ l.length)]
    rw [Nat.mul_add] at this
    omega
theorem bytes_sum (a b c d e f g h : Nat) (ha : a ≤ 8) (hb : b ≤ 8) (hc : c ≤ 8) (hd : d ≤ 8) (he : e ≤ 8) (hf : f ≤ 8) (hg : g ≤ 8) (hh : h ≤ 8) (s : Nat) (hs : s = val 256 [a, b, c, d, e, f, g, h]) :
    s < 18446744073709551616 / 4 ∧ s + s / 256 + (s + s / 256) / 65536 + (s + s / 256 + (s + s / 256) / 65536) / 4294967296 < 9223372036854775808 ∧
      (s + s / 256 + (s + s / 256) / 65536 + (s + s / 256 + (s + s / 256) / 65536) / 4294967296) % 128 = a + b + c + d + e + f + g + h := by
  have e1 : s / 256 = val 256 [b, c, d, e, f, g, h] := by rw [hs, val_div (by omega)]
  have e2 : s + s / 256 = val 256 [a + b, b + c, c + d, d + e, e + f, f + g, g + h, h] := by rw [e1, hs, val_zadd]; rfl
  have e3 : (s + s / 256) / 65536 = val 256 [c + d, d + e, e + f, f + g, g + h, h] := by
    rw [e2, show 65536 = 256 * 256 from rfl, ← Nat.div_div_eq_div_mul, val_div (by omega), val_div (by omega)]
  have e4 : s + s / 256 + (s + s / 256) / 65536 = val 256 [a + b + (c + d), b + c + (d + e), c + d + (e + f), d + e + (f + g), e + f + (g + h), f + g + h, g + h, h] := by rw [e3, e2, val_zadd]; rfl
  have e5 : (s + s / 256 + (s + s / 256) / 65536) / 4294967296 = val 256 [e + f + (g + h), f + g + h, g + h, h] := by
    rw [e4, show 4294967296 = 256 * 256 * 256 * 256 from rfl, ← Nat.div_div_eq_div_mul, ← Nat.div_div_eq_div_mul, ← Nat.div_div_eq_div_mul, val_div (by omega), val_div (by omega), val_div (by omega), val_div (by omega)]
  have e6 : s + s / 256 + (s + s / 256) / 65536 + (s + s / 256 + (s + s / 256) / 65536) / 4294967296 = val 256 [a + b + (c + d) + (e + f + (g + h)), b + c + (d + e) + (f + g + h), c + d + (e + f) + (g + h), d + e + (f + g) + h, e + f + (g + h), f + g + h, g + h, h] := by rw [e5, e4, val_zadd]; rfl
  have hsl : s < 18446744073709551616 / 4 := by
    rw [hs]; simp only [val]; omega
  refine ⟨hsl, ?_, ?_⟩
  · generalize h1 : s / 256 = x1
    generalize h2 : (s + x1) / 65536 = x2
    generalize h3 : (s + x1 + x2) / 4294967296 = x3
    omega
  · rw [e6, show (128 : Nat) = 128 from rfl, ← Nat.mod_mod_of_dvd _ (show 128 ∣ 256 by decide), val_mod (by omega), Nat.mod_eq_of_lt (by omega)]
    omega
/-- the library's way to count. -/
theorem mask5 : mask 5 16 = 6148914691236517205 := by decide +kernel
theorem mask15 : val 16 (spread (List.replicate 8 15)) = 1085102592571150095 := by decide +kernel
theorem mask3 : mask 3 16 = 3689348814741910323 := by decide +kernel
theorem count_ok (x : Nat) (hx : x < 18446744073709551616) :
    let t8 := ((x >>> 1) &&& 6148914691236517205) + (x &&& 6148914691236517205)
    let t14 := ((t8 >>> 2) &&& 3689348814741910323) + (t8 &&& 3689348814741910323)
    let s := ((t14 >>> 4) + t14) &&& 1085102592571150095
    let s1 := s + s >>> 8
    let s2 := s1 + s1 >>> 16
    let s3 := s2 + s2 >>> 32
    t8 < 18446744073709551616 ∧ t14 < 18446744073709551616 ∧ (t14 >>> 4) + t14 < 18446744073709551616 ∧ s < 18446744073709551616 / 4 ∧ s3 < 9223372036854775808 ∧ s3 % 128 = bitCount x := by
  intro t8 t14 s s1 s2 s3
  have h5 : ∀ h < 16, ((h / 2) &&& 5) + (h &&& 5) < 16 := by decide
  have e8 : t8 = digs (fun h => ((h / 2) &&& 5) + (h &&& 5)) 16 x := by
    have := step1 16 x (by simpa using hx)
    rw [mask5] at this; exact this
  have e14 : t14 = digs nib 16 x := by
    have := step2 _ h5 16 x (by simpa using hx)
    rw [mask3, ← e8] at this; exact this
  obtain ⟨l0, l1, l2, l3, _⟩ := digs_val (fun h => ((h / 2) &&& 5) + (h &&& 5)) 16 x
  obtain ⟨l, k1, k2, k3, k4⟩ := digs_val nib 16 x
  have hn : ∀ a ∈ l, a ≤ 4 := by
    intro a ha
    obtain ⟨h, hh, rfl⟩ := k3 a ha
    exact nib_le h hh
  have hsum : l.sum = bitCount x := by
    have : ∀ f y, sumG nib f y = nibs f y := by
      intro f
      induction f with
      | zero => intro y; rfl
      | succ f ih => intro y; simp only [sumG, nibs, ih]
    rw [k4, this, nibs_count]; rfl
  have b8 : t8 < 18446744073709551616 := by
    rw [e8, l2]
    have := val_lt 16 (by decide) l0 (fun a ha => by obtain ⟨h, hh, rfl⟩ := l3 a ha; exact h5 h hh)
    rw [l1] at this; exact this
  have b14 : t14 < 16 ^ 16 := by
    rw [e14, k2]
    have := val_lt 16 (by decide) l (fun a ha => by have := hn a ha; omega)
    rw [k1] at this; exact this
  obtain ⟨p0, l, rfl⟩ : ∃ a l', l = a :: l' := List.exists_cons_of_length_pos (by omega)
  rw [List.length_cons] at k1
  obtain ⟨p1, l, rfl⟩ : ∃ a l', l = a :: l' := List.exists_cons_of_length_pos (by omega)
  rw [List.length_cons] at k1
  obtain ⟨p2, l, rfl⟩ : ∃ a l', l = a :: l' := List.exists_cons_of_length_pos (by omega)
  rw [List.length_cons] at k1
  obtain ⟨p3, l, rfl⟩ : ∃ a l', l = a :: l' := List.exists_cons_of_length_pos (by omega)
  rw [List.length_cons] at k1
  obtain ⟨p4, l, rfl⟩ : ∃ a l', l = a :: l' := List.exists_cons_of_length_pos (by omega)
  rw [List.length_cons] at k1
  obtain ⟨p5, l, rfl⟩ : ∃ a l', l = a :: l' := List.exists_cons_of_length_pos (by omega)
  rw [List.length_cons] at k1
  obtain ⟨p6, l, rfl⟩ : ∃ a l', l = a :: l' := List.exists_cons_of_length_pos (by omega)
  rw [List.length_cons] at k1
  obtain ⟨p7, l, rfl⟩ : ∃ a l', l = a :: l' := List.exists_cons_of_length_pos (by omega)
  rw [List.length_cons] at k1
  obtain ⟨p8, l, rfl⟩ : ∃ a l', l = a :: l' := List.exists_cons_of_length_pos (by omega)
  rw [List.length_cons] at k1
  obtain ⟨p9, l, rfl⟩ : ∃ a l', l = a :: l' := List.exists_cons_of_length_pos (by omega)
  rw [List.length_cons] at k1
  obtain ⟨p10, l, rfl⟩ : ∃ a l', l = a :: l' := List.exists_cons_of_length_pos (by omega)
  rw [List.length_cons] at k1
  obtain ⟨p11, l, rfl⟩ : ∃ a l', l = a :: l' := List.exists_cons_of_length_pos (by omega)
  rw [List.length_cons] at k1
  obtain ⟨p12, l, rfl⟩ : ∃ a l', l = a :: l' := List.exists_cons_of_length_pos (by omega)
  rw [List.length_cons] at k1
  obtain ⟨p13, l, rfl⟩ : ∃ a l', l = a :: l' := List.exists_cons_of_length_pos (by omega)
  rw [List.length_cons] at k1
  obtain ⟨p14, l, rfl⟩ : ∃ a l', l = a :: l' := List.exists_cons_of_length_pos (by omega)
  rw [List.length_cons] at k1
  obtain ⟨p15, l, rfl⟩ : ∃ a l', l = a :: l' := List.exists_cons_of_length_pos (by omega)
  rw [List.length_cons] at k1
  obtain rfl : l = [] := List.eq_nil_of_length_eq_zero (by omega)
  simp only [List.mem_cons, List.not_mem_nil, or_false, forall_eq_or_imp, forall_eq] at hn
  obtain ⟨h0, h1, h2, h3, h4, h5, h6, h7, h8, h9, h10, h11, h12, h13, h14, h15⟩ := hn
  have ed : t14 >>> 4 = val 16 [p1, p2, p3, p4, p5, p6, p7, p8, p9, p10, p11, p12, p13, p14, p15] := by
    rw [Nat.shiftRight_eq_div_pow, e14, k2]
    exact val_div (by omega)
  have es : (t14 >>> 4) + t14 = val 16 [p1 + p0, p2 + p1, p3 + p2, p4 + p3, p5 + p4, p6 + p5, p7 + p6, p8 + p7, p9 + p8, p10 + p9, p11 + p10, p12 + p11, p13 + p12, p14 + p13, p15 + p14, p15] := by
    rw [ed, e14, k2, val_zadd]; rfl
  have hsm : s = val 256 [p1 + p0, p3 + p2, p5 + p4, p7 + p6, p9 + p8, p11 + p10, p13 + p12, p15 + p14] := by
    show ((t14 >>> 4) + t14) &&& 1085102592571150095 = _
    rw [es]
    have hev := and_evens [p1 + p0, p2 + p1, p3 + p2, p4 + p3, p5 + p4, p6 + p5, p7 + p6, p8 + p7, p9 + p8, p10 + p9, p11 + p10, p12 + p11, p13 + p12, p14 + p13, p15 + p14, p15] (by simp only [List.length_cons, List.length_nil]) ?_
    · simp only [List.length_cons, List.length_nil, Nat.zero_add, Nat.reduceAdd, Nat.reduceDiv] at hev
      rw [mask15] at hev
      rw [hev]; rfl
    simp only [List.mem_cons, List.not_mem_nil, or_false, forall_eq_or_imp, forall_eq]
    refine ⟨?_, ?_, ?_, ?_, ?_, ?_, ?_, ?_, ?_, ?_, ?_, ?_, ?_, ?_, ?_, ?_⟩ <;> omega
  obtain ⟨r1, r2, r3⟩ := bytes_sum (p1 + p0) (p3 + p2) (p5 + p4) (p7 + p6) (p9 + p8) (p11 + p10) (p13 + p12) (p15 + p14) (Nat.add_le_add h1 h0) (Nat.add_le_add h3 h2) (Nat.add_le_add h5 h4) (Nat.add_le_add h7 h6) (Nat.add_le_add h9 h8) (Nat.add_le_add h11 h10) (Nat.add_le_add h13 h12) (Nat.add_le_add h15 h14) s hsm
  have hlt : (t14 >>> 4) + t14 < 18446744073709551616 := by
    rw [es]
    have hv := val_lt 16 (by decide) [p1 + p0, p2 + p1, p3 + p2, p4 + p3, p5 + p4, p6 + p5, p7 + p6, p8 + p7, p9 + p8, p10 + p9, p11 + p10, p12 + p11, p13 + p12, p14 + p13, p15 + p14, p15] ?_
    · simp only [List.length_cons, List.length_nil, Nat.zero_add, Nat.reduceAdd, Nat.reducePow] at hv
      exact hv
    simp only [List.mem_cons, List.not_mem_nil, or_false, forall_eq_or_imp, forall_eq]
    refine ⟨?_, ?_, ?_, ?_, ?_, ?_, ?_, ?_, ?_, ?_, ?_, ?_, ?_, ?_, ?_, ?_⟩ <;> omega
  have q3 : s3 = s + s / 256 + (s + s / 256) / 65536 + (s + s / 256 + (s + s / 256) / 65536) / 4294967296 := by
    simp only [s3, s2, s1, Nat.shiftRight_eq_div_pow]
  refine ⟨b8, b14, hlt, r1, by rw [q3]; exact r2, ?_⟩
  rw [q3, r3, ← hsum]
  simp only [List.sum_cons, List.sum_nil]
  omega
end Go.W
end
section
namespace Go.W
open Go Go.Wx
/-- a block of H has these cells. -/
structure Cel (H : List Blk) (b : Nat) (T : TypeId) (cs : List Value) : Prop where
  ex : ∃ fr, (b, Obj.cells cs.toArray T fr) ∈ H
theorem Cel.of {H : List Blk} {b : Nat} {T : TypeId} {cs : List Value} (h : (b, row T cs) ∈ H) : Cel H b T cs := ⟨(0, 0), h⟩
theorem Cel.mono {H H' : List Blk} {b : Nat} {T : TypeId} {cs : List Value} (h : Cel H b T cs) (hm : ∀ p ∈ H, p ∈ H') : Cel H' b T cs := by
  obtain ⟨fr, h⟩ := h.ex
  exact ⟨fr, hm _ h⟩
theorem Cel.cell [Origin] {G H : List Blk} {w : World} {b off : Nat} {T : TypeId} {cs : List Value} {v : Value} (h : Cel H b T cs) (hs : Sat G w H) (hc : cs[off]? = some v) : w.cell? ⟨b, off, none⟩ = some v := by
  obtain ⟨fr, h⟩ := h.ex
  exact cell_fr (hs.get h) hc
theorem Cel.cellG [Origin] {G H : List Blk} {w : World} {b off : Nat} {T : TypeId} {cs : List Value} {v : Value} (h : Cel G b T cs) (hs : Sat G w H) (hc : cs[off]? = some v) : w.cell? ⟨b, off, none⟩ = some v := by
  obtain ⟨fr, h⟩ := h.ex
  exact cell_fr (hs.getG h) hc
/-- from a place on a block of H has the cells xs. -/
def Lies (H : List Blk) (b o : Nat) (xs : List Value) : Prop := ∃ T cs, Cel H b T cs ∧ ∀ j x, xs[j]? = some x → cs[o + j]? = some x
/-- the slice v, of elements of 'size' cells, shows the cells xs. -/
inductive Rd (size : Nat) (v : Value) (xs : List Value) (H : List Blk) : Prop
  | nil {c : Nat} (hv : v = .slice none 0 c) (hx : xs = [])
  | some {b o n c : Nat} (hv : v = .slice (some ⟨b, o, none⟩) n c) (hn : xs.length = n * size) (hl : Lies H b o xs)
section
variable {ω : Go.W.Origin}
variable {G H H' R : List Blk} {w : World} {k : K} {size : Nat} {v : Value} {xs : List Value}
theorem Lies.mono {b o : Nat} (h : Lies H b o xs) (hm : ∀ p ∈ H, p ∈ H') : Lies H' b o xs := by
  obtain ⟨T, cs, h1, h2⟩ := h
  exact ⟨T, cs, h1.mono hm, h2⟩
theorem Rd.mono (h : Rd size v xs H) (hm : ∀ p ∈ H, p ∈ H') : Rd size v xs H' := by
  cases h with
  | nil hv hx => exact .nil hv hx
  | some hv hn hl => exact .some hv hn (hl.mono hm)
theorem Own.rd {T : TypeId} {Hv : List Blk} (h : Own T size v xs Hv) (hm : ∀ p ∈ Hv, p ∈ H) : Rd size v xs H := by
  cases h with
  | nil => exact .nil rfl rfl
  | @some b n c xs sp hn hc =>
    refine .some rfl hn ⟨T, xs ++ sp, .of (hm _ (List.Mem.head _)), fun j x hj => ?_⟩
    rw [Nat.zero_add, List.getElem?_append_left (List.getElem?_eq_some_iff.1 hj).1]; exact hj
theorem Own.form {T : TypeId} {Hv : List Blk} (h : Own T size v xs Hv) : ∃ a n c, v = .slice a n c := by
  cases h <;> exact ⟨_, _, _, rfl⟩
theorem Rd.form (h : Rd size v xs H) : ∃ a n c, v = .slice a n c := by
  cases h with
  | nil hv _ => exact ⟨_, _, _, hv⟩
  | some hv _ _ => exact ⟨_, _, _, hv⟩
theorem Own.one {T : TypeId} {Hv : List Blk} (h : Own T size v xs Hv) : v.oneCell' = true := by
  cases h <;> rfl
theorem Rd.one (h : Rd size v xs H) : v.oneCell' = true := by
  obtain ⟨_, _, _, rfl⟩ := h.form; rfl
theorem Rd.len (h : Rd size v xs H) (n : Nat) (hn : xs.length = n * size) (h0 : 0 < size) (hk : k (int n) w) : len w v k := by
  cases h with
  | nil hv hx =>
    subst hv; subst hx
    have : n = 0 := by
      rcases Nat.mul_eq_zero.1 (show n * size = 0 from hn.symm) with h | h
      · exact h
      · omega
    subst this
    exact len_r hk
  | some hv hn' hl =>
    subst hv
    have := Nat.eq_of_mul_eq_mul_right h0 (hn'.symm.trans hn)
    subst this
    exact len_r hk
theorem flat_len {α : Type} {l : List α} {f : α → List Value} (hf : ∀ x ∈ l, (f x).length = size) : (l.flatMap f).length = l.length * size := by
  induction l with
  | nil => simp
  | cons a l ih =>
    rw [List.flatMap_cons, List.length_append, ih (fun x hx => hf x (by simp [hx])), hf a (by simp), List.length_cons, Nat.add_mul]
    omega
theorem flat_get {α : Type} : ∀ {l : List α} {f : α → List Value} (hf : ∀ x ∈ l, (f x).length = size) {i : Nat} (hi : i < l.length) {j : Nat} {x : Value}, (f l[i])[j]? = some x → (l.flatMap f)[i * size + j]? = some x
  | a :: l, f, hf, i, hi, j, x, h => by
    rw [List.flatMap_cons]
    have ha := hf a (by simp)
    cases i with
    | zero =>
      have hj : j < (f a).length := (List.getElem?_eq_some_iff.1 h).1
      rw [Nat.zero_mul, Nat.zero_add, List.getElem?_append_left hj]; exact h
    | succ i =>
      rw [List.getElem?_append_right (by rw [ha, Nat.add_mul]; omega), ha]
      have : (i + 1) * size + j - size = i * size + j := by rw [Nat.add_mul]; omega
      rw [this]
      exact flat_get (fun x hx => hf x (by simp [hx])) (by simpa using hi) h
theorem Rd.idx {α : Type} {l : List α} {f : α → List Value} (h : Rd size v (l.flatMap f) H) (hf : ∀ x ∈ l, (f x).length = size) (h0 : 0 < size) {i : Nat} (hi : i < l.length) {j : IntKind}
    (hk : ∀ b o, Lies H b o (f l[i]) → k (at_ b o) w) : idx w size v (.int j i) k := by
  cases h with
  | nil hv hx =>
    have := flat_len hf
    rw [hx] at this
    rcases Nat.mul_eq_zero.1 (show l.length * size = 0 from this.symm) with h | h
    · omega
    · omega
  | @some b o n c hv hn hl =>
    subst hv
    rw [flat_len hf] at hn
    have := Nat.eq_of_mul_eq_mul_right h0 hn
    refine idx_r (by omega) (by omega) (hk b _ ?_)
    obtain ⟨T, cs, h1, h2⟩ := hl
    refine ⟨T, cs, h1, fun j x hj => ?_⟩
    rw [Nat.add_assoc]
    exact h2 _ _ (flat_get hf hi hj)
theorem Lies.ld {b o i : Nat} {x : Value} (h : Lies H b o xs) (hs : Sat G w H) (hx : xs[i]? = some x) (hk : k x w) : ld w (at_ b (o + i)) k := by
  obtain ⟨T, cs, h1, h2⟩ := h
  exact ⟨_, x, rfl, h1.cell hs (h2 _ _ hx), hk⟩
theorem Lies.ldN {b o n : Nat} (h : Lies H b o xs) (hs : Sat G w H) (hn : xs.length = n) (hk : k (.agg xs.toArray) w) : ldN w n (at_ b o) k := by
  obtain ⟨T, cs, h1, h2⟩ := h
  exact ⟨_, xs, rfl, hn, fun j v hv => by rw [Addr.add_lit]; exact h1.cell hs (h2 _ _ hv), hk⟩
theorem map_flat {α : Type} (l : List α) (f : α → Value) : l.map f = l.flatMap fun x => [f x] := by
  induction l with
  | nil => rfl
  | cons a l ih => simp [ih]
/-- an element of one cell. -/
theorem Rd.ld1 {α : Type} {l : List α} {f : α → Value} (h : Rd 1 v (l.map f) H) (hs : Sat G w H) {i : Nat} (hi : i < l.length) {j : IntKind} (hk : k (f l[i]) w) : W.idx w 1 v (.int j i) fun t w => W.ld w t k := by
  rw [map_flat] at h
  exact h.idx (fun _ _ => rfl) (by decide) hi fun b o hl => hl.ld (i := 0) hs rfl hk
theorem Rd.ldN {α : Type} {l : List α} {f : α → List Value} (h : Rd size v (l.flatMap f) H) (hs : Sat G w H) (hf : ∀ x ∈ l, (f x).length = size) (h0 : 0 < size) {i : Nat} (hi : i < l.length) {j : IntKind} (hk : k (.agg (f l[i]).toArray) w) : W.idx w size v (.int j i) fun t w => W.ldN w size t k :=
  h.idx hf h0 hi fun b o hl => hl.ldN hs (hf _ (List.getElem_mem _)) hk
theorem Rd.cells (h : Rd size v xs H) (hs : Sat G w H) : Cells w size v xs := by
  cases h with
  | nil hv hx => subst hv; exact ⟨hx, rfl⟩
  | some hv hn hl =>
    subst hv
    obtain ⟨T, cs, h1, h2⟩ := hl
    exact ⟨hn, fun j x hj => by rw [Addr.add_lit]; exact h1.cell hs (h2 _ _ hj)⟩
/-- writing an element of one cell of a slice of one's own. -/
theorem Own.st {T : TypeId} {Hv : List Blk} {x : Value} {i : Nat} {j : IntKind} (ho : Own T 1 v xs Hv) (hs : Sat G w H) (hsel : Sel Hv H R) (hi : i < xs.length) (h1 : x.oneCell' = true)
    (hk : ∀ Hv' w', Own T 1 v (xs.set i x) Hv' → Sat G w' (Hv' ++ R) → k undef w') : W.idx w 1 v (.int j i) fun t w => W.st w 1 t x k := by
  cases ho with
  | nil => simp at hi
  | @some b n c xs sp hn hc =>
    have hs := hs.sel hsel
    refine idx_r (by omega) (by omega) ?_
    refine st_r hs .head (by simp; omega) h1 fun w' hs' => ?_
    simp only [Int.toNat_natCast, Nat.zero_add, Nat.mul_one] at hs'
    rw [List.set_append_left _ _ hi] at hs'
    exact hk _ _ (.some (by simpa using hn) (by simpa using hc)) hs'
theorem Sat.freeze {X : List Blk} (hs : Sat G w (X ++ H)) : Sat (X ++ G) w H := by
  have hp : (G ++ (X ++ H)).Perm (X ++ G ++ H) := by
    rw [← List.append_assoc]
    exact List.perm_append_comm.append_right _
  exact ⟨(hp.map Prod.fst).nodup_iff.1 hs.nodup, fun p hm => hs.here p (hp.mem_iff.2 hm), hs.kept⟩
theorem Sat.whole (hs : Sat G w H) : Sat [] w (G ++ H) := ⟨by simpa using hs.nodup, fun p hp => hs.here p (by simpa using hp), hs.kept⟩
theorem Rd.left (h : Rd size v xs G) : Rd size v xs (G ++ H) := h.mono fun _ hp => List.mem_append_left _ hp
theorem Rd.right (h : Rd size v xs H) : Rd size v xs (G ++ H) := h.mono fun _ hp => List.mem_append_right _ hp
theorem Rd.more {x : Blk} (h : Rd size v xs (G ++ H)) : Rd size v xs (G ++ (x :: H)) := h.mono fun p hp => by
  rcases List.mem_append.1 hp with hp | hp
  · exact List.mem_append_left _ hp
  · exact List.mem_append_right _ (.tail _ hp)
theorem Rd.sub (h : Rd size v xs (G ++ H)) (hm : ∀ p ∈ H, p ∈ H') : Rd size v xs (G ++ H') := h.mono fun p hp => by
  rcases List.mem_append.1 hp with hp | hp
  · exact List.mem_append_left _ hp
  · exact List.mem_append_right _ (hm p hp)
theorem Lies.ldG {b o i : Nat} {x : Value} (h : Lies G b o xs) (hs : Sat G w H) (hx : xs[i]? = some x) (hk : k x w) : W.ld w (at_ b (o + i)) k :=
  (h.mono (H' := G ++ H) fun _ hp => List.mem_append_left _ hp).ld hs.whole hx hk
theorem Lies.heldG {b o i : Nat} {x : Value} (h : Lies G b o xs) (hs : Sat G w H) (hx : xs[i]? = some x) (hk : k x w) : held (fun w => Sat G w H) w (fun w k => W.ld w (at_ b (o + i)) k) k :=
  ⟨hs, x, fun _ hs' => h.ldG hs' hx ⟨rfl, rfl⟩, hk⟩
theorem Lies.held1 {b o i : Nat} {x : Value} (h : Lies H b o xs) (hs : Sat G w H) (hx : xs[i]? = some x) (hk : k x w) : held (fun w => Sat G w H) w (fun w k => W.ld w (at_ b (o + i)) k) k :=
  ⟨hs, x, fun _ hs' => h.ld hs' hx ⟨rfl, rfl⟩, hk⟩
end
/-! ### how often a block is in a list -/
open Classical in
noncomputable def cnt (a : Blk) (l : List Blk) : Nat := l.count a
open Classical in
noncomputable def one (a x : Blk) : Nat := if x = a then 1 else 0
theorem cnt_nil (a : Blk) : cnt a [] = 0 := rfl
theorem cnt_cons (a x : Blk) (l : List Blk) : cnt a (x :: l) = one a x + cnt a l := by
  classical
  unfold cnt one
  rw [List.count_cons, Nat.add_comm]
  congr 1
  by_cases h : x = a <;> simp [h]
theorem cnt_app (a : Blk) (l m : List Blk) : cnt a (l ++ m) = cnt a l + cnt a m := by
  classical
  exact List.count_append
theorem cnt_perm {l m : List Blk} (h : l.Perm m) (a : Blk) : cnt a l = cnt a m := by
  classical
  exact h.count_eq a
theorem perm_of_cnt {l m : List Blk} (h : ∀ a, cnt a l = cnt a m) : l.Perm m := by
  classical
  exact List.perm_iff_count.2 h
end Go.W
end
section
namespace Go.W
open Go Go.Wx
/-- objects at these places, each with blocks of its own. -/
inductive Objs {α : Type} (Rep : Nat → α → List Blk → Prop) : List Nat → List α → List Blk → Prop
  | nil : Objs Rep [] [] []
  | cons {b : Nat} {bs : List Nat} {d : α} {ds : List α} {Hd Hs : List Blk} (h : Rep b d Hd) (t : Objs Rep bs ds Hs) : Objs Rep (b :: bs) (d :: ds) (Hd ++ Hs)
section
variable {α : Type} {Rep : Nat → α → List Blk → Prop}
theorem Objs.length {bs : List Nat} {ds : List α} {Hs : List Blk} (h : Objs Rep bs ds Hs) : bs.length = ds.length := by
  induction h with
  | nil => rfl
  | cons _ _ ih => simp [ih]
theorem Objs.at {bs : List Nat} {ds : List α} {Hs : List Blk} (h : Objs Rep bs ds Hs) : ∀ (i : Nat) (hi : i < ds.length) (hb : i < bs.length), ∃ Hd Hr, Rep bs[i] ds[i] Hd ∧ Hs.Perm (Hd ++ Hr) ∧
    ∀ d' Hd', Rep bs[i] d' Hd' → ∃ Hs', Objs Rep bs (ds.set i d') Hs' ∧ (Hd' ++ Hr).Perm Hs' := by
  induction h with
  | nil => intro i hi; simp at hi
  | @cons b bs d ds Hd Hs h t ih =>
    intro i hi hb
    cases i with
    | zero => exact ⟨Hd, Hs, h, .refl _, fun d' Hd' h' => ⟨_, .cons h' t, .refl _⟩⟩
    | succ i =>
      obtain ⟨Hd2, Hr, h1, h2, h3⟩ := ih i (by simpa using hi) (by simpa using hb)
      refine ⟨Hd2, Hd ++ Hr, h1, (by refine perm_of_cnt fun a => ?_; have q0 := cnt_perm h2 a; simp only [cnt_app, cnt_cons, cnt_nil] at *; omega), fun d' Hd' h' => ?_⟩
      obtain ⟨Hs', h4, h5⟩ := h3 d' Hd' h'
      exact ⟨_, .cons h h4, (by refine perm_of_cnt fun a => ?_; have q0 := cnt_perm h5 a; simp only [cnt_app, cnt_cons, cnt_nil] at *; omega)⟩
theorem Objs.append {bs : List Nat} {ds : List α} {Hs : List Blk} (h : Objs Rep bs ds Hs) {b : Nat} {d : α} {Hd : List Blk} (h' : Rep b d Hd) : ∃ Hs', Objs Rep (bs ++ [b]) (ds ++ [d]) Hs' ∧ (Hd ++ Hs).Perm Hs' := by
  induction h with
  | nil => exact ⟨_, .cons h' .nil, by simp⟩
  | cons h t ih =>
    obtain ⟨Hs', h1, h2⟩ := ih
    exact ⟨_, .cons h h1, (by refine perm_of_cnt fun a => ?_; have q0 := cnt_perm h2 a; simp only [cnt_app, cnt_cons, cnt_nil] at *; omega)⟩
end
end Go.W
end
section
namespace Go.W
open Go Go.Wx
theorem wr_eq : ∀ (vs cs : List Value) (o : Nat), o + vs.length ≤ cs.length → wr cs o vs = cs.take o ++ vs ++ cs.drop (o + vs.length)
  | [], cs, o, _ => by simp [wr]
  | v :: vs, cs, o, h => by
    simp only [List.length_cons] at h
    have h1 : o < cs.length := by omega
    unfold wr
    rw [wr_eq vs (cs.set o v) (o + 1) (by simp; omega)]
    have e1 : (cs.set o v).take (o + 1) = cs.take o ++ [v] := by
      rw [List.take_add_one, List.getElem?_set_self h1]
      rw [List.take_set_of_le (Nat.le_refl _)]; rfl
    have e2 : (cs.set o v).drop (o + 1 + vs.length) = cs.drop (o + (vs.length + 1)) := by
      rw [List.drop_set_of_lt (by omega)]
      congr 1; omega
    rw [e1, e2, List.length_cons]; simp
section
variable {ω : Go.W.Origin}
variable {G H R : List Blk} {w : World} {k : K} {size : Nat}
theorem cut_lo {b o n c i : Nat} (hi : i ≤ n) (hk : k (.slice (some ⟨b, if c = i then o else o + i * size, none⟩) (n - i) (c - i)) w) : cut w size (.slice (some ⟨b, o, none⟩) n c) (some (int i)) none none k := by
  refine ⟨_, ?_, hk⟩
  have e : bnd (int (i : Int)) n = some i := by simp [bnd]; omega
  simp only [cutV, Option.bind_some, e]
  split <;> simp [Addr.add_lit]
theorem cut_hi {b o n c i : Nat} (hi : i ≤ c) (hk : k (.slice (some ⟨b, o, none⟩) i c) w) : cut w size (.slice (some ⟨b, o, none⟩) n c) none (some (int i)) none k := by
  refine ⟨_, ?_, hk⟩
  have e : bnd (int (i : Int)) c = some i := by simp [bnd]; omega
  simp only [cutV, Option.bind_some, e]
  split <;> simp [Addr.add_lit]
theorem cut_both {b o n c i j : Nat} (hi : i ≤ j) (hj : j ≤ c) (hk : k (.slice (some ⟨b, if c = i then o else o + i * size, none⟩) (j - i) (c - i)) w) : cut w size (.slice (some ⟨b, o, none⟩) n c) (some (int i)) (some (int j)) none k := by
  refine ⟨_, ?_, hk⟩
  have e : bnd (int (j : Int)) c = some j := by simp [bnd]; omega
  have e2 : bnd (int (i : Int)) j = some i := by simp [bnd]; omega
  simp only [cutV, Option.bind_some, e, e2]
  split <;> simp [Addr.add_lit]
theorem cut_three {b o n c i j m : Nat} (hi : i ≤ j) (hj : j ≤ m) (hm : m ≤ c) (hk : k (.slice (some ⟨b, if m = i then o else o + i * size, none⟩) (j - i) (m - i)) w) : cut w size (.slice (some ⟨b, o, none⟩) n c) (some (int i)) (some (int j)) (some (int m)) k := by
  refine ⟨_, ?_, hk⟩
  have e0 : bnd (int (m : Int)) c = some m := by simp [bnd]; omega
  have e : bnd (int (j : Int)) m = some j := by simp [bnd]; omega
  have e2 : bnd (int (i : Int)) j = some i := by simp [bnd]; omega
  simp only [cutV, Option.bind_some, e0, e, e2]
  split <;> simp [Addr.add_lit]
/-- cells of a row, from a place on. -/
theorem row_cells {b o n c : Nat} {T : TypeId} {cs : List Value} (hs : Sat G w H) (hm : (b, row T cs) ∈ H) (hl : o + n * size ≤ cs.length) : Cells w size (.slice (some ⟨b, o, none⟩) n c) ((cs.drop o).take (n * size)) := by
  refine ⟨by simp; omega, fun j v hj => ?_⟩
  rw [Addr.add_lit]
  refine cell_row (hs.get hm) ?_
  rw [List.getElem?_take] at hj
  split at hj
  · rw [List.getElem?_drop] at hj; exact hj
  · cases hj
theorem cpy_r {H' : List Blk} {b o dl dc sl sc : Nat} {sa : Option Addr} {T : TypeId} {cs ys : List Value} (hs : Sat G w H) (hu : Upd b (row T cs) (row T (cs.take o ++ ys ++ cs.drop (o + ys.length))) H H') (hsrc : Cells w size (.slice sa (min sl dl) sc) ys) (hl : o + ys.length ≤ cs.length) (h1 : ∀ y ∈ ys, y.oneCell' = true)
    (hk : ∀ w', Sat G w' H' → k (int (min sl dl : Nat)) w') : cpy w size (.slice (some ⟨b, o, none⟩) dl dc) (.slice sa sl sc) k := by
  rw [← wr_eq ys cs o hl] at hu
  obtain ⟨g1, g2⟩ := putCells_sat hs hu hl h1
  refine ⟨_, _, _, _, _, _, ys, _, rfl, rfl, fun h => ?_, fun h => ?_, g1, hk _ g2⟩
  · subst h; exact hsrc.1
  · cases sa with
    | none => exact absurd rfl h
    | some a => exact ⟨hsrc.1, hsrc.2⟩
theorem clr_r {H' : List Blk} {b o n c : Nat} {T : TypeId} {cs : List Value} {zero : Array Value} (hs : Sat G w H) (hu : Upd b (row T cs) (row T (cs.take o ++ (zeroRow n zero.toList).toList ++ cs.drop (o + (zeroRow n zero.toList).toList.length))) H H') (hl : o + n * zero.size ≤ cs.length) (h1 : ∀ y ∈ zero.toList, y.oneCell' = true)
    (hk : ∀ w', Sat G w' H' → k (.tuple #[]) w') : clr w zero (.slice (some ⟨b, o, none⟩) n c) k := by
  have hlen : (zeroRow n zero.toList).toList.length = n * zero.size := by rw [zeroRow_length]; simp
  rw [← wr_eq _ cs o (by omega)] at hu
  obtain ⟨g1, g2⟩ := putCells_sat hs hu (by omega) (by
    intro y hy
    rw [zeroRow_toList] at hy
    simp only [List.toList_toArray, List.mem_flatten] at hy
    obtain ⟨l, hl, hy⟩ := hy
    rw [(List.mem_replicate.1 hl).2] at hy
    exact h1 y hy)
  exact ⟨_, _, _, _, rfl, g1, hk _ g2⟩
theorem splice {A M B ys : List Value} {o : Nat} (hA : A.length = o) (hM : M.length = ys.length) : (A ++ M ++ B).take o ++ ys ++ (A ++ M ++ B).drop (o + ys.length) = A ++ ys ++ B := by
  subst hA
  have h1 : (A ++ M ++ B).take A.length = A := by rw [List.append_assoc, List.take_left]
  have h2 : (A ++ M ++ B).drop (A.length + ys.length) = B := by rw [← hM, ← List.length_append, List.drop_left]
  rw [h1, h2]
theorem cpy_s {H' : List Blk} {b o dl dc sl sc : Nat} {sa : Option Addr} {T : TypeId} {cs A M B ys : List Value} (hs : Sat G w H) (hcs : cs = A ++ M ++ B) (hA : A.length = o) (hM : M.length = ys.length) (hu : Upd b (row T cs) (row T (A ++ ys ++ B)) H H') (hsrc : Cells w size (.slice sa (min sl dl) sc) ys) (h1 : ∀ y ∈ ys, y.oneCell' = true)
    (hk : ∀ w', Sat G w' H' → k (int (min sl dl : Nat)) w') : cpy w size (.slice (some ⟨b, o, none⟩) dl dc) (.slice sa sl sc) k := by
  rw [← splice (B := B) hA hM, ← hcs] at hu
  exact cpy_r hs hu hsrc (by rw [hcs]; simp only [List.length_append]; omega) h1 hk
theorem clr_s {H' : List Value → List Blk} {b o n c : Nat} {T : TypeId} {cs A M B : List Value} {zero : Array Value} (hs : Sat G w H) (hcs : cs = A ++ M ++ B) (hA : A.length = o) (hM : M.length = n * zero.size) (hu : ∀ ys : List Value, ys.length = M.length → Upd b (row T cs) (row T (A ++ ys ++ B)) H (H' ys)) (h1 : ∀ y ∈ zero.toList, y.oneCell' = true)
    (hk : ∀ ys w', ys.length = M.length → Sat G w' (H' ys) → k (.tuple #[]) w') : clr w zero (.slice (some ⟨b, o, none⟩) n c) k := by
  have hz : (zeroRow n zero.toList).toList.length = n * zero.size := by rw [zeroRow_length]; simp
  have hu := hu (zeroRow n zero.toList).toList (hz.trans hM.symm)
  rw [← splice (B := B) hA (hM.trans hz.symm), ← hcs] at hu
  exact clr_r hs hu (by rw [hcs]; simp only [List.length_append]; omega) h1 fun w' hs' => hk _ w' (hz.trans hM.symm) hs'
/-- room at the end: in place. -/
theorem app_room {H' : List Blk} {T : TypeId} {bytes b o n c m xc : Nat} {T' : TypeId} {zero : Array Value} {xa : Option Addr} {cs ys : List Value} (hs : Sat G w H) (hu : Upd b (row T' cs) (row T' (cs.take (o + n * size) ++ ys ++ cs.drop (o + n * size + ys.length))) H H') (hsrc : Cells w size (.slice xa m xc) ys) (hfit : n + m ≤ c) (hl : o + n * size + ys.length ≤ cs.length) (h1 : ∀ y ∈ ys, y.oneCell' = true)
    (hk : ∀ w', Sat G w' H' → k (.slice (some ⟨b, o, none⟩) (n + m) c) w') : app w T size bytes zero (.slice (some ⟨b, o, none⟩) n c) (.slice xa m xc) k := by
  rw [← wr_eq ys cs _ hl] at hu
  obtain ⟨g1, g2⟩ := putCells_sat hs hu hl h1
  refine ⟨_, _, _, _, _, _, rfl, rfl, .inl ⟨hfit, ys, _, fun h => ?_, fun h => ?_, ?_, hk _ g2⟩⟩
  · subst h; exact hsrc.1
  · cases xa with
    | none => exact absurd rfl h
    | some a => exact ⟨hsrc.1, hsrc.2⟩
  · dsimp only
    rw [Addr.add_lit]
    exact g1
theorem app_s {H' : List Blk} {T : TypeId} {bytes b n c m xc o : Nat} {T' : TypeId} {zero : Array Value} {xa : Option Addr} {cs A M B ys : List Value} (hs : Sat G w H) (hcs : cs = A ++ M ++ B) (hA : A.length = o + n * size) (hM : M.length = ys.length) (hu : Upd b (row T' cs) (row T' (A ++ ys ++ B)) H H') (hsrc : Cells w size (.slice xa m xc) ys) (hfit : n + m ≤ c) (h1 : ∀ y ∈ ys, y.oneCell' = true)
    (hk : ∀ w', Sat G w' H' → k (.slice (some ⟨b, o, none⟩) (n + m) c) w') : app w T size bytes zero (.slice (some ⟨b, o, none⟩) n c) (.slice xa m xc) k := by
  rw [← splice (B := B) hA hM, ← hcs] at hu
  exact app_room hs hu hsrc hfit (by rw [hcs]; simp only [List.length_append]; omega) h1 hk
/-- no room: a new row. -/
theorem appZ_new {T T' : TypeId} {bytes b o n c m : Nat} {zero : Array Value} {cs : List Value} (hs : Sat G w H) (hm : (b, row T' cs) ∈ H) (hl : o + n * size ≤ cs.length) (hfit : c < n + m) (hz : zero.size = size) (hb : bytes ≤ 65536) (hlen : n + m ≤ 1073741824)
    (hk : ∀ b' c' w', n + m ≤ c' → Sat G w' ((b', row T ((cs.drop o).take (n * size) ++ (zeroRow m zero.toList).toList ++ (zeroRow (c' - (n + m)) zero.toList).toList)) :: H) → k (.slice (some ⟨b', 0, none⟩) (n + m) c') w') : appZ w T size bytes zero (.slice (some ⟨b, o, none⟩) n c) (int m) k := by
  have hc := row_cells (c := c) hs hm hl
  refine ⟨_, _, _, _, m, rfl, rfl, by omega, ?_, hz, .inr ⟨hfit, ?_, ?_, (cs.drop o).take (n * size), (fun h => nomatch h), fun _ => ⟨hc.1, hc.2⟩, fun c' hc' => ?_⟩⟩
  · exact Nat.le_trans (Nat.mul_le_mul (show m ≤ 1073741824 by omega) hb) (by decide)
  · simp only [IntKind.max_i64]; omega
  · have hnc := nextslicecap_le (n := n + m) (c := c) (by omega)
    exact Nat.le_trans (Nat.mul_le_mul hnc hb) (by omega)
  · have := Sat.alloc (w := { w with drawn := w.drawn + 1 }) (hs.of_heap rfl) (row T ((cs.drop o).take (n * size) ++ (zeroRow m zero.toList).toList ++ (zeroRow (c' - (n + m)) zero.toList).toList))
    have e : (((cs.drop o).take (n * size)).toArray ++ zeroRow m zero.toList ++ zeroRow (c' - (n + m)) zero.toList) = ((cs.drop o).take (n * size) ++ (zeroRow m zero.toList).toList ++ (zeroRow (c' - (n + m)) zero.toList).toList).toArray := by simp
    rw [e]
    exact hk _ _ _ hc' this
end
end Go.W
end
