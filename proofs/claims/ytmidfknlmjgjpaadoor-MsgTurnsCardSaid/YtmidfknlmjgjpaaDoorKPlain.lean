/- Plain words, no program: little-endian numbers, the sum over a register (crc), the chain. -/
namespace Go.Proofs.YtmidfknlmjgjpaaDoor
namespace Pl

/-- The lowest byte first. -/
def putLE : Nat → Nat → List UInt8
  | _, 0 => []
  | n, k + 1 => UInt8.ofNat (n % 256) :: putLE (n / 256) k

def getLE : List UInt8 → Nat
  | [] => 0
  | c :: l => c.toNat + 256 * getLE l

theorem putLE_length (n k : Nat) : (putLE n k).length = k := by
  induction k generalizing n with
  | zero => rfl
  | succ k ih => simp [putLE, ih]

theorem getLE_putLE (n k : Nat) (h : n < 256 ^ k) : getLE (putLE n k) = n := by
  induction k generalizing n with
  | zero => simp at h; subst h; rfl
  | succ k ih =>
    have h2 : n / 256 < 256 ^ k := by
      rw [Nat.pow_succ] at h
      exact Nat.div_lt_of_lt_mul (by omega)
    simp only [putLE, getLE, ih _ h2]
    have : (UInt8.ofNat (n % 256)).toNat = n % 256 := by
      simp [UInt8.toNat_ofNat']
    rw [this]
    omega

theorem getLE_lt (l : List UInt8) : getLE l < 256 ^ l.length := by
  induction l with
  | nil => simp [getLE]
  | cons c l ih =>
    have hc : c.toNat < 256 := c.toNat_lt
    simp only [getLE, List.length_cons, Nat.pow_succ]
    omega

theorem putLE_getLE (l : List UInt8) : putLE (getLE l) l.length = l := by
  induction l with
  | nil => rfl
  | cons c l ih =>
    have hc : c.toNat < 256 := c.toNat_lt
    simp only [getLE, List.length_cons, putLE]
    have h1 : (c.toNat + 256 * getLE l) % 256 = c.toNat := by omega
    have h2 : (c.toNat + 256 * getLE l) / 256 = getLE l := by omega
    rw [h1, h2, ih]
    simp

theorem putLE_get (n k i : Nat) (h : i < k) : (putLE n k)[i]? = some (UInt8.ofNat (n / 256 ^ i % 256)) := by
  induction k generalizing n i with
  | zero => omega
  | succ k ih =>
    cases i with
    | zero => simp [putLE]
    | succ i =>
      simp only [putLE, List.getElem?_cons_succ]
      rw [ih _ _ (by omega), Nat.div_div_eq_div_mul, Nat.pow_succ, Nat.mul_comm 256]

theorem putLE_inj {a b k : Nat} (ha : a < 256 ^ k) (hb : b < 256 ^ k) (h : putLE a k = putLE b k) : a = b := by
  rw [← getLE_putLE a k ha, ← getLE_putLE b k hb, h]

/-- One step of the register. -/
def crcBit (r : Nat) : Nat := (r / 2) ^^^ (2197175160 * (r % 2))

def crcBits : Nat → Nat → Nat
  | 0, r => r
  | k + 1, r => crcBits k (crcBit r)

theorem crcBits_succ (k r : Nat) : crcBits (k + 1) r = crcBit (crcBits k r) := by
  induction k generalizing r with
  | zero => rfl
  | succ k ih => rw [crcBits, ih]; rfl

def crcByte (r : Nat) : Nat := crcBits 8 r

def crcReg (r : Nat) (l : List UInt8) : Nat := l.foldl (fun r c => crcByte (r ^^^ c.toNat)) r

def crcAdd (s : Nat) (l : List UInt8) : Nat := 4294967295 - crcReg (4294967295 - s) l

def crcSum (l : List UInt8) : Nat := crcAdd 0 l

theorem crcBit_lt {r : Nat} (h : r < 4294967296) : crcBit r < 4294967296 := by
  have h1 : r / 2 < 2 ^ 32 := by omega
  have h2 : 2197175160 * (r % 2) < 2 ^ 32 := by omega
  have := Nat.xor_lt_two_pow h1 h2
  simpa [crcBit] using this

theorem crcBits_lt {r : Nat} (k : Nat) (h : r < 4294967296) : crcBits k r < 4294967296 := by
  induction k generalizing r with
  | zero => exact h
  | succ k ih => exact ih (crcBit_lt h)

theorem crcByte_lt {r : Nat} (h : r < 4294967296) : crcByte r < 4294967296 := crcBits_lt 8 h

theorem xor_byte_lt {r : Nat} (h : r < 4294967296) (c : UInt8) : r ^^^ c.toNat < 4294967296 := by
  have := c.toNat_lt
  exact Nat.xor_lt_two_pow (n := 32) h (by omega)

theorem crcReg_lt {r : Nat} (l : List UInt8) (h : r < 4294967296) : crcReg r l < 4294967296 := by
  induction l generalizing r with
  | nil => exact h
  | cons c l ih => exact ih (crcByte_lt (xor_byte_lt h c))

theorem crcReg_snoc (r : Nat) (l : List UInt8) (c : UInt8) : crcReg r (l ++ [c]) = crcByte (crcReg r l ^^^ c.toNat) := by
  simp [crcReg, List.foldl_append]

theorem crcReg_append (r : Nat) (l m : List UInt8) : crcReg r (l ++ m) = crcReg (crcReg r l) m := by
  simp [crcReg, List.foldl_append]

theorem crcAdd_lt (s : Nat) (l : List UInt8) : crcAdd s l < 4294967296 := by unfold crcAdd; omega
theorem crcSum_lt (l : List UInt8) : crcSum l < 4294967296 := crcAdd_lt 0 l

theorem xor_half (a b : Nat) : (a ^^^ b) / 2 = (a / 2) ^^^ (b / 2) := by
  have := Nat.shiftRight_xor_distrib (a := a) (b := b) (i := 1)
  simpa [Nat.shiftRight_succ] using this

theorem xor_odd (a b : Nat) : (a ^^^ b) % 2 = (a % 2) ^^^ (b % 2) := by
  have := Nat.xor_mod_two_pow (a := a) (b := b) (n := 1)
  simpa using this

theorem crcBit_xor (a b : Nat) : crcBit (a ^^^ b) = crcBit a ^^^ crcBit b := by
  unfold crcBit
  rw [xor_half, xor_odd]
  rcases Nat.mod_two_eq_zero_or_one a with ha | ha <;> rcases Nat.mod_two_eq_zero_or_one b with hb | hb <;> rw [ha, hb]
  · simp
  · simp [Nat.xor_assoc]
  · simp only [Nat.mul_one, Nat.mul_zero, Nat.xor_zero]
    rw [Nat.xor_assoc, Nat.xor_assoc, Nat.xor_comm (b / 2)]
  · have e : ∀ x y p : Nat, x ^^^ p ^^^ (y ^^^ p) = x ^^^ y := fun x y p => by
      rw [Nat.xor_assoc, Nat.xor_comm y p, ← Nat.xor_assoc p p y]; simp
    simp only [Nat.mul_one, Nat.xor_self, Nat.mul_zero, Nat.xor_zero]
    exact (e _ _ _).symm

theorem crcBits_xor (k a b : Nat) : crcBits k (a ^^^ b) = crcBits k a ^^^ crcBits k b := by
  induction k generalizing a b with
  | zero => rfl
  | succ k ih => simp only [crcBits, crcBit_xor, ih]

theorem crcBit_double (x : Nat) : crcBit (2 * x) = x := by
  unfold crcBit
  have h1 : 2 * x / 2 = x := by omega
  have h2 : 2 * x % 2 = 0 := by omega
  rw [h1, h2]; simp

theorem crcByte_high (x : Nat) : crcByte (256 * x) = x := by
  have e : 256 * x = 2 * (2 * (2 * (2 * (2 * (2 * (2 * (2 * x))))))) := by omega
  rw [e]
  simp only [crcByte, crcBits, crcBit_double]

theorem split_xor (r c : Nat) (_hc : c < 256) : r ^^^ c = (256 * (r / 256)) ^^^ ((r % 256) ^^^ c) := by
  have h : r = (256 * (r / 256)) ^^^ (r % 256) := by
    have h1 : r = 2 ^ 8 * (r / 256) + r % 256 := by omega
    have h2 : r % 256 < 2 ^ 8 := by omega
    have h3 := Nat.two_pow_add_eq_or_of_lt h2 (r / 256)
    have h4 : 2 ^ 8 * (r / 256) ||| r % 256 = 2 ^ 8 * (r / 256) ^^^ r % 256 := by
      apply Nat.eq_of_testBit_eq
      intro i
      simp only [Nat.testBit_or, Nat.testBit_xor, Nat.testBit_two_pow_mul]
      by_cases hi : 8 ≤ i
      · have : (r % 256).testBit i = false := Nat.testBit_lt_two_pow (Nat.lt_of_lt_of_le h2 (Nat.pow_le_pow_right (by decide) hi))
        simp [this]
      · simp [hi]
    rw [h4] at h3
    exact h1.trans h3
  conv => lhs; rw [h]
  rw [Nat.xor_assoc]

/-- The table's way. -/
theorem crcByte_table (r c : Nat) (hc : c < 256) : crcByte (r ^^^ c) = (r / 256) ^^^ crcByte ((r % 256) ^^^ c) := by
  rw [split_xor r c hc]
  show crcBits 8 _ = _
  rw [crcBits_xor]
  show crcByte _ ^^^ crcByte _ = _
  rw [crcByte_high]

/-- A step tells registers apart. -/
theorem crcBit_inj {a b : Nat} (ha : a < 4294967296) (hb : b < 4294967296) (h : crcBit a = crcBit b) : a = b := by
  unfold crcBit at h
  have key : ∀ x y : Nat, x < 2147483648 → y < 2147483648 → x ≠ y ^^^ 2197175160 := by
    intro x y hx hy e
    have h1 : (y ^^^ 2197175160).testBit 31 = true := by
      rw [Nat.testBit_xor, Nat.testBit_lt_two_pow (i := 31) (x := y) (by omega)]
      decide
    rw [← e, Nat.testBit_lt_two_pow (i := 31) (x := x) (by omega)] at h1
    cases h1
  rcases Nat.mod_two_eq_zero_or_one a with h1 | h1 <;> rcases Nat.mod_two_eq_zero_or_one b with h2 | h2 <;> rw [h1, h2] at h
  · simp at h; omega
  · simp at h; exact absurd h (key _ _ (by omega) (by omega))
  · simp at h; exact absurd h.symm (key _ _ (by omega) (by omega))
  · have : a / 2 = b / 2 := by
      have e := congrArg (· ^^^ (2197175160 * 1)) h
      simpa [Nat.xor_assoc] using e
    omega

theorem crcBits_inj (k : Nat) {a b : Nat} (ha : a < 4294967296) (hb : b < 4294967296) (h : crcBits k a = crcBits k b) : a = b := by
  induction k generalizing a b with
  | zero => exact h
  | succ k ih => exact crcBit_inj ha hb (ih (crcBit_lt ha) (crcBit_lt hb) h)

theorem crcReg_inj (l : List UInt8) {a b : Nat} (ha : a < 4294967296) (hb : b < 4294967296) (h : crcReg a l = crcReg b l) : a = b := by
  induction l generalizing a b with
  | nil => exact h
  | cons c l ih =>
    have h1 := crcBits_inj 8 (xor_byte_lt ha c) (xor_byte_lt hb c) (ih (crcByte_lt (xor_byte_lt ha c)) (crcByte_lt (xor_byte_lt hb c)) h)
    have e := congrArg (· ^^^ c.toNat) h1
    simpa [Nat.xor_assoc] using e

/-- A turned byte turns the sum. -/
theorem crcSum_turned (l r : List UInt8) (c d : UInt8) (h : crcSum (l ++ c :: r) = crcSum (l ++ d :: r)) : c = d := by
  have hl : crcReg 4294967295 l < 4294967296 := crcReg_lt l (by decide)
  have e : crcReg 4294967295 (l ++ c :: r) = crcReg 4294967295 (l ++ d :: r) := by
    have h1 := crcReg_lt (r := 4294967295) (l ++ c :: r) (by decide)
    have h2 := crcReg_lt (r := 4294967295) (l ++ d :: r) (by decide)
    unfold crcSum crcAdd at h
    simp only [Nat.sub_zero] at h
    omega
  rw [crcReg_append, crcReg_append] at e
  have e1 := crcReg_inj r (crcByte_lt (xor_byte_lt hl c)) (crcByte_lt (xor_byte_lt hl d)) e
  have e2 := crcBits_inj 8 (xor_byte_lt hl c) (xor_byte_lt hl d) e1
  have e3 := congrArg (crcReg 4294967295 l ^^^ ·) e2
  simp only [← Nat.xor_assoc, Nat.xor_self, Nat.zero_xor] at e3
  exact UInt8.toNat_inj.1 e3

def chainStep (h c : Nat) : Nat := ((h ^^^ c) * 1099511628211 % 18446744073709551616) ^^^ ((h ^^^ c) * 1099511628211 % 18446744073709551616 / 536870912)

def chainFold (h : Nat) (l : List UInt8) : Nat := l.foldl (fun h c => chainStep h c.toNat) h

def chain (h : Nat) (l : List UInt8) : Nat := chainFold (h ^^^ 14695981039346656037) (l ++ putLE l.length 8)

theorem xor_lt64 {a b : Nat} (ha : a < 18446744073709551616) (hb : b < 18446744073709551616) : a ^^^ b < 18446744073709551616 :=
  Nat.xor_lt_two_pow (n := 64) ha hb

theorem xor_shift_lt (x : Nat) : (x % 18446744073709551616) ^^^ (x % 18446744073709551616 / 536870912) < 18446744073709551616 := by
  have h1 : x % 18446744073709551616 < 18446744073709551616 := Nat.mod_lt _ (Nat.zero_lt_succ _)
  exact xor_lt64 h1 (Nat.lt_of_le_of_lt (Nat.div_le_self _ _) h1)

theorem chainStep_lt (h c : Nat) : chainStep h c < 18446744073709551616 := by
  unfold chainStep
  exact xor_shift_lt _

theorem chainFold_snoc (h : Nat) (l : List UInt8) (c : UInt8) : chainFold h (l ++ [c]) = chainStep (chainFold h l) c.toNat := by
  unfold chainFold
  rw [List.foldl_append, List.foldl_cons, List.foldl_nil]
theorem chainFold_append (h : Nat) (l m : List UInt8) : chainFold h (l ++ m) = chainFold (chainFold h l) m := by
  unfold chainFold
  rw [List.foldl_append]

theorem chainFold_lt (l : List UInt8) : ∀ {h : Nat}, h < 18446744073709551616 → chainFold h l < 18446744073709551616 := by
  induction l with
  | nil => intro h hh; exact hh
  | cons c l ih =>
    intro h hh
    have h1 : chainStep h c.toNat < 18446744073709551616 := chainStep_lt h c.toNat
    have e : chainFold h (c :: l) = chainFold (chainStep h c.toNat) l := rfl
    rw [e]
    exact ih h1

theorem chain_lt {h : Nat} (l : List UInt8) (hh : h < 18446744073709551616) : chain h l < 18446744073709551616 := by
  have h1 : h ^^^ 14695981039346656037 < 18446744073709551616 := xor_lt64 hh (by omega)
  unfold chain
  exact chainFold_lt _ h1

end Pl
end Go.Proofs.YtmidfknlmjgjpaaDoor
