/- Plain arithmetic of the field of 256 elements on natural numbers: the product is additive in both operands, commutative, associative, and powers are as powers are. -/
import Derived.Laws.BitsLemmas
import Derived.RowKit
namespace Go.Proofs.Ytgdlpdkkncjbbaa.Gf
open Go Go.RowKit
set_option linter.unusedVariables false

theorem xor_nat (a b : Nat) (ha : a < 2 ^ 62) (hb : b < 2 ^ 62) : bits .xor .i64 (a : Int) (b : Int) = ((a ^^^ b : Nat) : Int) := by
  have hp : 2 ^ 62 ≤ 2 ^ IntKind.i64.bits := Nat.pow_le_pow_right (by decide) (by decide)
  have ha' : a % 2 ^ IntKind.i64.bits = a := Nat.mod_eq_of_lt (Nat.lt_of_lt_of_le ha hp)
  have hb' : b % 2 ^ IntKind.i64.bits = b := Nat.mod_eq_of_lt (Nat.lt_of_lt_of_le hb hp)
  have hx : a ^^^ b < 2 ^ 62 := Nat.xor_lt_two_pow ha hb
  simp only [bits, BitVec.ofInt_natCast, BitVec.toNat_xor, BitVec.toNat_ofNat, ha', hb']
  rw [IntKind.wrap_i64]
  omega

theorem and_one (b : Nat) (hb : b < 2 ^ 62) : bits .and .i64 (b : Int) 1 = ((b % 2 : Nat) : Int) := by
  have h := (bits_nat .i64 62 (by decide) (fun n h0 h1 => by rw [IntKind.wrap_i64]; omega) b 1 hb (by decide)).1
  rw [← Nat.and_one_is_mod]
  exact h

def dbl (x : Nat) : Nat := if 255 < 2 * x then (2 * x) ^^^ 285 else 2 * x
def mulN : Nat → Nat → Nat → Nat → Nat
  | 0, _, _, c => c
  | n + 1, a, b, c => mulN n (dbl a) (b / 2) (if b % 2 = 1 then c ^^^ a else c)
def mul (a b : Nat) : Nat := mulN 8 a b 0

theorem dbl_lt : ∀ x, x < 256 → dbl x < 256 := by decide +kernel
theorem dbl_xor : ∀ a, a < 256 → ∀ b, b < 256 → dbl (a ^^^ b) = dbl a ^^^ dbl b := by decide +kernel
theorem xor_lt {a b : Nat} (ha : a < 256) (hb : b < 256) : a ^^^ b < 256 := Nat.xor_lt_two_pow (n := 8) ha hb

theorem mulN_zero : ∀ n a c, mulN n a 0 c = c
  | 0, _, _ => rfl
  | n + 1, a, c => by simp [mulN, mulN_zero n]

theorem mulN_lt : ∀ n a b c, a < 256 → c < 256 → mulN n a b c < 256
  | 0, _, _, _, _, h => h
  | n + 1, a, b, c, ha, hc => by
    unfold mulN
    refine mulN_lt n _ _ _ (dbl_lt a ha) ?_
    split
    · exact xor_lt hc ha
    · exact hc

theorem mul_lt {a b : Nat} (ha : a < 256) : mul a b < 256 := mulN_lt 8 a b 0 ha (by decide)

/-- More rounds than the second operand has bits change nothing. -/
theorem mulN_more : ∀ n m a b c, b < 2 ^ n → mulN (n + m) a b c = mulN n a b c
  | 0, m, a, b, c, h => by
    have : b = 0 := by simpa using h
    subst this
    rw [Nat.zero_add, mulN_zero]; rfl
  | n + 1, m, a, b, c, h => by
    rw [show n + 1 + m = (n + m) + 1 from by omega]
    unfold mulN
    exact mulN_more n m _ _ _ (by rw [Nat.pow_succ] at h; omega)

theorem mulN_left : ∀ n a a' b c c', a < 256 → a' < 256 → mulN n (a ^^^ a') b (c ^^^ c') = mulN n a b c ^^^ mulN n a' b c'
  | 0, _, _, _, _, _, _, _ => rfl
  | n + 1, a, a', b, c, c', ha, ha' => by
    unfold mulN
    rw [dbl_xor a ha a' ha']
    by_cases h : b % 2 = 1
    · rw [if_pos h, if_pos h, if_pos h]
      rw [show (c ^^^ c') ^^^ (a ^^^ a') = (c ^^^ a) ^^^ (c' ^^^ a') from by ac_rfl]
      exact mulN_left n _ _ _ _ _ (dbl_lt a ha) (dbl_lt a' ha')
    · rw [if_neg h, if_neg h, if_neg h]
      exact mulN_left n _ _ _ _ _ (dbl_lt a ha) (dbl_lt a' ha')

theorem half_xor (b b' : Nat) : (b ^^^ b') / 2 = b / 2 ^^^ b' / 2 := by
  apply Nat.eq_of_testBit_eq
  intro i
  simp [Nat.testBit_div_two]
theorem mod_xor (b b' : Nat) : (b ^^^ b') % 2 = (b % 2 + b' % 2) % 2 := by
  have h := Nat.testBit_xor b b' 0
  simp only [Nat.testBit_zero] at h
  rcases Nat.mod_two_eq_zero_or_one b with h1 | h1 <;> rcases Nat.mod_two_eq_zero_or_one b' with h2 | h2 <;> rcases Nat.mod_two_eq_zero_or_one (b ^^^ b') with h3 | h3 <;> simp [h1, h2, h3] at h ⊢

theorem mulN_right : ∀ n a b b' c c', mulN n a (b ^^^ b') (c ^^^ c') = mulN n a b c ^^^ mulN n a b' c'
  | 0, _, _, _, _, _ => rfl
  | n + 1, a, b, b', c, c' => by
    unfold mulN
    rw [half_xor, mod_xor]
    rcases Nat.mod_two_eq_zero_or_one b with h | h <;> rcases Nat.mod_two_eq_zero_or_one b' with h' | h' <;> rw [h, h'] <;> simp only [Nat.reduceAdd, Nat.reduceMod, Nat.reduceEqDiff, if_true, if_false]
    · exact mulN_right n _ _ _ _ _
    · rw [show (c ^^^ c') ^^^ a = c ^^^ (c' ^^^ a) from by ac_rfl]; exact mulN_right n _ _ _ _ _
    · rw [show (c ^^^ c') ^^^ a = (c ^^^ a) ^^^ c' from by ac_rfl]; exact mulN_right n _ _ _ _ _
    · rw [show c ^^^ c' = (c ^^^ a) ^^^ (c' ^^^ a) from by
        rw [show (c ^^^ a) ^^^ (c' ^^^ a) = (c ^^^ c') ^^^ (a ^^^ a) from by ac_rfl, Nat.xor_self, Nat.xor_zero]]
      exact mulN_right n _ _ _ _ _

theorem mul_left {a a' : Nat} (b : Nat) (ha : a < 256) (ha' : a' < 256) : mul (a ^^^ a') b = mul a b ^^^ mul a' b := mulN_left 8 a a' b 0 0 ha ha'
theorem mul_right (a b b' : Nat) : mul a (b ^^^ b') = mul a b ^^^ mul a b' := mulN_right 8 a b b' 0 0

theorem top : ∀ n, n < 8 → ∀ y, y < 2 ^ n → 2 ^ n ^^^ y = 2 ^ n + y := by decide +kernel
theorem p_lt : ∀ n, n < 8 → 2 ^ n < 256 := by decide

/-- Two additive maps that agree on the powers of 2 agree. -/
theorem basis (f g : Nat → Nat) (hf : ∀ x y, x < 256 → y < 256 → f (x ^^^ y) = f x ^^^ f y) (hg : ∀ x y, x < 256 → y < 256 → g (x ^^^ y) = g x ^^^ g y)
    (h : ∀ i, i < 8 → f (2 ^ i) = g (2 ^ i)) : ∀ x, x < 256 → f x = g x := by
  have f0 : f 0 = 0 := by have := hf 0 0 (by decide) (by decide); rw [Nat.xor_self] at this; rw [this, Nat.xor_self]
  have g0 : g 0 = 0 := by have := hg 0 0 (by decide) (by decide); rw [Nat.xor_self] at this; rw [this, Nat.xor_self]
  have key : ∀ n, n ≤ 8 → ∀ x, x < 2 ^ n → f x = g x := by
    intro n
    induction n with
    | zero => intro _ x hx; have : x = 0 := by simpa using hx
              rw [this, f0, g0]
    | succ n ih =>
      intro hn x hx
      by_cases hlt : x < 2 ^ n
      · exact ih (by omega) x hlt
      · have hy : x - 2 ^ n < 2 ^ n := by rw [Nat.pow_succ] at hx; omega
        have hp := p_lt n (by omega)
        have e : x = 2 ^ n ^^^ (x - 2 ^ n) := by rw [top n (by omega) _ hy]; omega
        rw [e, hf _ _ hp (by omega), hg _ _ hp (by omega), h n (by omega), ih (by omega) _ hy]
  exact key 8 (Nat.le_refl _)

theorem comm_basis : ∀ i, i < 8 → ∀ j, j < 8 → mul (2 ^ i) (2 ^ j) = mul (2 ^ j) (2 ^ i) := by decide +kernel
theorem mul_comm {a b : Nat} (ha : a < 256) (hb : b < 256) : mul a b = mul b a :=
  basis (fun a => mul a b) (fun a => mul b a) (fun x y hx hy => mul_left b hx hy) (fun x y _ _ => mul_right b x y)
    (fun i hi => basis (fun b => mul (2 ^ i) b) (fun b => mul b (2 ^ i)) (fun x y _ _ => mul_right _ x y) (fun x y hx hy => mul_left _ hx hy)
      (fun j hj => comm_basis i hi j hj) b hb) a ha

theorem assoc_basis : ∀ i, i < 8 → ∀ j, j < 8 → ∀ k, k < 8 → mul (mul (2 ^ i) (2 ^ j)) (2 ^ k) = mul (2 ^ i) (mul (2 ^ j) (2 ^ k)) := by decide +kernel
theorem mul_assoc {a b c : Nat} (ha : a < 256) (hb : b < 256) (hc : c < 256) : mul (mul a b) c = mul a (mul b c) :=
  basis (fun a => mul (mul a b) c) (fun a => mul a (mul b c)) (fun x y hx hy => by simp only [mul_left b hx hy, mul_left c (mul_lt hx) (mul_lt hy)]) (fun x y hx hy => mul_left _ hx hy)
    (fun i hi => basis (fun b => mul (mul (2 ^ i) b) c) (fun b => mul (2 ^ i) (mul b c)) (fun x y hx hy => by simp only [mul_right, mul_left c (mul_lt (b := x) (p_lt i hi)) (mul_lt (b := y) (p_lt i hi))])
        (fun x y hx hy => by simp only [mul_left c hx hy, mul_right])
      (fun j hj => basis (fun c => mul (mul (2 ^ i) (2 ^ j)) c) (fun c => mul (2 ^ i) (mul (2 ^ j) c)) (fun x y _ _ => mul_right _ x y) (fun x y _ _ => by simp only [mul_right])
        (fun k hk => assoc_basis i hi j hj k hk) c hc) b hb) a ha

theorem mul_one : ∀ a, a < 256 → mul a 1 = a := by decide +kernel
theorem one_mul {a : Nat} (ha : a < 256) : mul 1 a = a := by rw [mul_comm (by decide) ha, mul_one a ha]
theorem mul_two : ∀ a, a < 256 → mul a 2 = dbl a := by decide +kernel
theorem zero_mul : ∀ b, b < 256 → mul 0 b = 0 := by decide +kernel
theorem mul_zero (a : Nat) : mul a 0 = 0 := mulN_zero 8 a 0

def pow (a : Nat) : Nat → Nat
  | 0 => 1
  | n + 1 => mul (pow a n) a
theorem pow_lt {a : Nat} (ha : a < 256) : ∀ n, pow a n < 256
  | 0 => (by decide : 1 < 256)
  | n + 1 => mul_lt (pow_lt ha n)
theorem pow_add {a : Nat} (ha : a < 256) (m : Nat) : ∀ n, pow a (m + n) = mul (pow a m) (pow a n)
  | 0 => by rw [Nat.add_zero]; exact (mul_one _ (pow_lt ha m)).symm
  | n + 1 => by
    rw [← Nat.add_assoc]
    show mul (pow a (m + n)) a = mul (pow a m) (mul (pow a n) a)
    rw [pow_add ha m n, mul_assoc (pow_lt ha m) (pow_lt ha n) ha]
theorem pow_sq {a : Nat} (ha : a < 256) : ∀ n, pow (mul a a) n = pow a (2 * n)
  | 0 => rfl
  | n + 1 => by
    show mul (pow (mul a a) n) (mul a a) = pow a (2 * n + 2)
    rw [pow_sq ha n, pow_add ha (2 * n) 2]
    show _ = mul _ (mul (mul 1 a) a)
    rw [one_mul ha]
theorem one_pow : ∀ n, pow 1 n = 1
  | 0 => rfl
  | n + 1 => by show mul (pow 1 n) 1 = 1; rw [one_pow n]; rfl
theorem pow_mul {a : Nat} (ha : a < 256) (m : Nat) : ∀ n, pow a (m * n) = pow (pow a m) n
  | 0 => rfl
  | n + 1 => by
    rw [Nat.mul_succ, pow_add ha]
    show _ = mul (pow (pow a m) n) (pow a m)
    rw [pow_mul ha m n]

theorem pow_period {a p : Nat} (ha : a < 256) (hp : pow a p = 1) (n m : Nat) : pow a (n + p * m) = pow a n := by
  rw [pow_add ha, pow_mul ha, hp, one_pow, mul_one _ (pow_lt ha n)]

/-- Powers by squares, so many rounds. -/
def powN : Nat → Nat → Nat → Nat → Nat
  | 0, _, _, c => c
  | k + 1, a, n, c => powN k (mul a a) (n / 2) (if n % 2 = 1 then mul c a else c)
theorem powN_is : ∀ k a n c, a < 256 → c < 256 → n < 2 ^ k → powN k a n c = mul c (pow a n)
  | 0, a, n, c, ha, hc, hn => by
    have : n = 0 := by simpa using hn
    subst this
    exact (mul_one c hc).symm
  | k + 1, a, n, c, ha, hc, hn => by
    have hn2 : n / 2 < 2 ^ k := by rw [Nat.pow_succ] at hn; omega
    unfold powN
    rcases Nat.mod_two_eq_zero_or_one n with h | h
    · rw [if_neg (by omega), powN_is k _ _ _ (mul_lt ha) hc hn2, pow_sq ha]
      rw [show 2 * (n / 2) = n from by omega]
    · rw [if_pos h, powN_is k _ _ _ (mul_lt ha) (mul_lt hc) hn2, pow_sq ha, mul_assoc hc ha (pow_lt ha _)]
      congr 1
      rw [show n = 1 + 2 * (n / 2) from by omega, pow_add ha 1]
      rw [show 2 * ((1 + 2 * (n / 2)) / 2) = 2 * (n / 2) from by omega]
      show _ = mul (mul 1 a) _
      rw [one_mul ha]
theorem powN_lt : ∀ k a n c, a < 256 → c < 256 → powN k a n c < 256
  | 0, _, _, _, _, h => h
  | k + 1, a, n, c, ha, hc => by
    unfold powN
    refine powN_lt k _ _ _ (mul_lt ha) ?_
    split
    · exact mul_lt hc
    · exact hc

theorem pow255_fast : ∀ a, a < 256 → a ≠ 0 → powN 8 a 255 1 = 1 := by decide +kernel
theorem pow255 {a : Nat} (ha : a < 256) (h : a ≠ 0) : pow a 255 = 1 := by
  have := pow255_fast a ha h
  rw [powN_is 8 a 255 1 ha (by decide) (by decide), one_mul (pow_lt ha _)] at this
  exact this
theorem inv_mul {a : Nat} (ha : a < 256) (h : a ≠ 0) : mul a (pow a 254) = 1 := by
  rw [mul_comm ha (pow_lt ha _)]
  exact pow255 ha h

/-- The doubles of a number, so many. -/
def dbls : Nat → Nat → List Nat
  | 0, _ => []
  | n + 1, x => x :: dbls n (dbl x)
theorem all_dbls : ∀ a, a < 256 → a ≠ 0 → (dbls 255 1).elem a = true := by decide +kernel
def dblN : Nat → Nat → Nat
  | 0, x => x
  | n + 1, x => dblN n (dbl x)
theorem dbls_mem : ∀ n x a, a ∈ dbls n x → ∃ i, i < n ∧ dblN i x = a
  | 0, _, _, h => by simp [dbls] at h
  | n + 1, x, a, h => by
    simp only [dbls, List.mem_cons] at h
    rcases h with rfl | h
    · exact ⟨0, by omega, rfl⟩
    · obtain ⟨i, hi, he⟩ := dbls_mem n _ _ h
      exact ⟨i + 1, by omega, he⟩
theorem log_some {a : Nat} (ha : a < 256) (h : a ≠ 0) : ∃ i, i < 255 ∧ dblN i 1 = a := dbls_mem 255 1 a (by simpa using all_dbls a ha h)
theorem dblN_lt : ∀ n x, x < 256 → dblN n x < 256
  | 0, _, h => h
  | n + 1, x, h => dblN_lt n _ (dbl_lt x h)
theorem dblN_pow : ∀ n x, x < 256 → dblN n x = mul x (pow 2 n)
  | 0, x, h => (mul_one x h).symm
  | n + 1, x, h => by
    show dblN n (dbl x) = _
    rw [dblN_pow n _ (dbl_lt x h), ← mul_two x h, mul_assoc h (by decide) (pow_lt (by decide) n)]
    rw [show n + 1 = 1 + n from by omega, pow_add (by decide) 1 n]
    rfl
end Go.Proofs.Ytgdlpdkkncjbbaa.Gf
