/- Plain words of the layer of bits: words of n bits, what operations make of them; no program. -/
namespace Go.Proofs.Ytableoihgkmbjaa.B
set_option linter.unusedVariables false
set_option linter.unusedSimpArgs false

/-- 2^n -/
def pw (n : Int) : Int := 2 ^ n.toNat
/-- the signed value of a word -/
def sg (n a : Int) : Int := if pw (n - 1) ≤ a then a - pw n else a
def isWd (n : Int) : Bool := decide (1 ≤ n) && decide (n ≤ 32)
def isW (n a : Int) : Bool := isWd n && decide (a < pw n)

theorem pw_pos (n : Int) : 0 < pw n := Int.pow_pos (by decide)
theorem pw_nat (n : Int) : pw n = ((2 ^ n.toNat : Nat) : Int) := by unfold pw; simp
theorem pw_mono {m n : Int} (h : m ≤ n) : pw m ≤ pw n := by
  rw [pw_nat, pw_nat]
  exact Int.ofNat_le.2 (Nat.pow_le_pow_right (by decide) (by omega))
theorem pw_32 : pw 32 = 4294967296 := by decide
theorem pw_le {n : Int} (h : n ≤ 32) : pw n ≤ 4294967296 := by rw [← pw_32]; exact pw_mono h
theorem pw_le31 {n : Int} (h : n ≤ 31) : pw n ≤ 2147483648 := by
  have := pw_mono h
  have e : pw 31 = 2147483648 := by decide
  omega
theorem pw_succ {n : Int} (h : 1 ≤ n) : pw n = 2 * pw (n - 1) := by
  unfold pw
  have : n.toNat = (n - 1).toNat + 1 := by omega
  rw [this, Int.pow_succ]; omega
theorem pw_add {m n : Int} (h : 0 ≤ m) (h' : 0 ≤ n) : pw (m + n) = pw m * pw n := by
  unfold pw
  rw [show (m + n).toNat = m.toNat + n.toNat by omega, Int.pow_add]
theorem pw_ge1 (n : Int) : 1 ≤ pw n := by have := pw_pos n; omega
theorem pw_ge2 {n : Int} (h : 1 ≤ n) : 2 ≤ pw n := by have := pw_pos (n - 1); rw [pw_succ h]; omega
theorem pw_dvd {m n : Int} (h : m ≤ n) : pw m ∣ pw n := by
  unfold pw
  rw [show n.toNat = m.toNat + (n.toNat - m.toNat) by omega, Int.pow_add]
  exact Int.dvd_mul_right _ _
theorem mod_mod {n : Int} (x : Int) (h : n ≤ 32) : x % 4294967296 % pw n = x % pw n := by
  rw [← pw_32]; exact Int.emod_emod_of_dvd x (pw_dvd h)
theorem isWd_iff {n : Int} : isWd n = true ↔ 1 ≤ n ∧ n ≤ 32 := by unfold isWd; simp
theorem isW_iff {n a : Int} : isW n a = true ↔ 1 ≤ n ∧ n ≤ 32 ∧ a < pw n := by unfold isW; simp [isWd_iff, and_assoc]
theorem sg_lo {n a : Int} (h : 1 ≤ n) (h0 : 0 ≤ a) : -pw (n - 1) ≤ sg n a := by
  have := pw_succ h
  have := pw_pos (n - 1)
  unfold sg; split <;> omega
theorem sg_hi {n a : Int} (h : 1 ≤ n) (h1 : a < pw n) : sg n a < pw (n - 1) := by
  have := pw_succ h
  have := pw_pos (n - 1)
  unfold sg; split <;> omega
theorem sg_mod {n a : Int} : sg n a % pw n = a % pw n := by
  unfold sg; split
  · exact Int.sub_emod_right a (pw n)
  · rfl
theorem sg_zero {n a : Int} (h : 1 ≤ n) (h0 : 0 ≤ a) (h1 : a < pw n) : sg n a = 0 ↔ a = 0 := by
  have := pw_succ h
  have := pw_pos (n - 1)
  unfold sg; split <;> omega

/-- The word that an operation makes, if there is one. -/
def do_ (op n a b : Int) : Option Int :=
  if op = 1 then some ((a + b) % pw n)
  else if op = 2 then some ((a - b) % pw n)
  else if op = 3 then some ((a * b) % pw n)
  else if op = 4 then (if b = 0 then none else some (a / b))
  else if op = 5 then (if b = 0 then none else some (a % b))
  else if op = 6 then (if b = 0 ∨ (sg n a = -pw (n - 1) ∧ sg n b = -1) then none else some ((sg n a).tdiv (sg n b) % pw n))
  else if op = 7 then (if b = 0 ∨ (sg n a = -pw (n - 1) ∧ sg n b = -1) then none else some ((sg n a).tmod (sg n b) % pw n))
  else if op = 8 then some ((a.toNat &&& b.toNat : Nat) : Int)
  else if op = 9 then some ((a.toNat ||| b.toNat : Nat) : Int)
  else if op = 10 then some ((a.toNat ^^^ b.toNat : Nat) : Int)
  else if op = 11 then (if n ≤ b then none else some (a * pw b % pw n))
  else if op = 12 then (if n ≤ b then none else some (a / pw b))
  else (if n ≤ b then none else some (sg n a / pw b % pw n))

/-- What the solver takes where there is none. -/
def els (op n a b : Int) : Int :=
  if op = 4 then pw n - 1
  else if op = 5 then a
  else if op = 6 then (if b ≠ 0 then a else if sg n a < 0 then 1 else pw n - 1)
  else if op = 7 then (if b ≠ 0 then 0 else a)
  else if op = 13 then (if sg n a < 0 then pw n - 1 else 0)
  else 0

def full (op n a b : Int) : Int := (do_ op n a b).getD (els op n a b)
def okOp (op n a b : Int) : Bool := decide (1 ≤ op) && decide (op ≤ 13) && isW n a && isW n b
def total (op n a b : Int) : Int × Int := if okOp op n a b = true then (full op n a b, 0) else (0, 1)

theorem land_lt {n : Int} {a b : Int} (h0 : 0 ≤ a) (h1 : a < pw n) : (a.toNat &&& b.toNat : Nat) < pw n := by
  rw [pw_nat] at *
  exact Int.ofNat_lt.2 (Nat.lt_of_le_of_lt Nat.and_le_left (by omega))
theorem lor_lt {n : Int} {a b : Int} (h1 : a < pw n) (h2 : b < pw n) : (a.toNat ||| b.toNat : Nat) < pw n := by
  rw [pw_nat] at *
  exact Int.ofNat_lt.2 (Nat.or_lt_two_pow (by have := Nat.two_pow_pos n.toNat; omega) (by have := Nat.two_pow_pos n.toNat; omega))
theorem lxor_lt {n : Int} {a b : Int} (h1 : a < pw n) (h2 : b < pw n) : (a.toNat ^^^ b.toNat : Nat) < pw n := by
  rw [pw_nat] at *
  exact Int.ofNat_lt.2 (Nat.xor_lt_two_pow (by have := Nat.two_pow_pos n.toNat; omega) (by have := Nat.two_pow_pos n.toNat; omega))
theorem mod_lo {x n : Int} : 0 ≤ x % pw n := Int.emod_nonneg _ (by have := pw_pos n; omega)
theorem mod_hi {x n : Int} : x % pw n < pw n := Int.emod_lt_of_pos _ (pw_pos n)

section
variable (n a b : Int)
theorem do_1 : do_ 1 n a b = some ((a + b) % pw n) := rfl
theorem do_2 : do_ 2 n a b = some ((a - b) % pw n) := rfl
theorem do_3 : do_ 3 n a b = some ((a * b) % pw n) := rfl
theorem do_4 : do_ 4 n a b = (if b = 0 then none else some (a / b)) := rfl
theorem do_5 : do_ 5 n a b = (if b = 0 then none else some (a % b)) := rfl
theorem do_6 : do_ 6 n a b = (if b = 0 ∨ (sg n a = -pw (n - 1) ∧ sg n b = -1) then none else some ((sg n a).tdiv (sg n b) % pw n)) := rfl
theorem do_7 : do_ 7 n a b = (if b = 0 ∨ (sg n a = -pw (n - 1) ∧ sg n b = -1) then none else some ((sg n a).tmod (sg n b) % pw n)) := rfl
theorem do_8 : do_ 8 n a b = some ((a.toNat &&& b.toNat : Nat) : Int) := rfl
theorem do_9 : do_ 9 n a b = some ((a.toNat ||| b.toNat : Nat) : Int) := rfl
theorem do_10 : do_ 10 n a b = some ((a.toNat ^^^ b.toNat : Nat) : Int) := rfl
theorem do_11 : do_ 11 n a b = (if n ≤ b then none else some (a * pw b % pw n)) := rfl
theorem do_12 : do_ 12 n a b = (if n ≤ b then none else some (a / pw b)) := rfl
theorem do_13 : do_ 13 n a b = (if n ≤ b then none else some (sg n a / pw b % pw n)) := rfl
end
theorem op_cases {op : Int} (h : 1 ≤ op) (h' : op ≤ 13) : op = 1 ∨ op = 2 ∨ op = 3 ∨ op = 4 ∨ op = 5 ∨ op = 6 ∨ op = 7 ∨ op = 8 ∨ op = 9 ∨ op = 10 ∨ op = 11 ∨ op = 12 ∨ op = 13 := by omega

/-- What an operation makes of words is a word. -/
theorem full_word {op n a b : Int} (ho : 1 ≤ op) (ho' : op ≤ 13) (hn : 1 ≤ n) (ha0 : 0 ≤ a) (ha : a < pw n) (hb0 : 0 ≤ b) (hb : b < pw n) : 0 ≤ full op n a b ∧ full op n a b < pw n := by
  have h1 := pw_ge2 hn
  have hand := land_lt (n := n) (b := b) ha0 ha
  have hor := lor_lt (n := n) ha hb
  have hxor := lxor_lt (n := n) ha hb
  have hq : 0 ≤ a / b ∧ a / b ≤ a := ⟨Int.ediv_nonneg ha0 hb0, Int.ediv_le_self b ha0⟩
  have hs : 0 ≤ a / pw b ∧ a / pw b ≤ a := ⟨Int.ediv_nonneg ha0 (by have := pw_pos b; omega), Int.ediv_le_self _ ha0⟩
  have hels : 0 ≤ els op n a b ∧ els op n a b < pw n := by
    unfold els
    repeat' split
    all_goals omega
  have key : ∀ r, do_ op n a b = r → 0 ≤ r.getD (els op n a b) ∧ r.getD (els op n a b) < pw n := by
    intro r hr
    rcases op_cases ho ho' with rfl | rfl | rfl | rfl | rfl | rfl | rfl | rfl | rfl | rfl | rfl | rfl | rfl
    · rw [do_1] at hr; subst hr; exact ⟨mod_lo, mod_hi⟩
    · rw [do_2] at hr; subst hr; exact ⟨mod_lo, mod_hi⟩
    · rw [do_3] at hr; subst hr; exact ⟨mod_lo, mod_hi⟩
    · rw [do_4] at hr; split at hr <;> subst hr
      · exact hels
      · simp only [Option.getD_some]; omega
    · rw [do_5] at hr; split at hr <;> subst hr
      · exact hels
      · simp only [Option.getD_some]
        have := Int.emod_lt_of_pos a (show 0 < b by omega)
        have := Int.emod_nonneg a (show b ≠ 0 by omega)
        omega
    · rw [do_6] at hr; split at hr <;> subst hr
      · exact hels
      · exact ⟨mod_lo, mod_hi⟩
    · rw [do_7] at hr; split at hr <;> subst hr
      · exact hels
      · exact ⟨mod_lo, mod_hi⟩
    · rw [do_8] at hr; subst hr; simp only [Option.getD_some]; omega
    · rw [do_9] at hr; subst hr; simp only [Option.getD_some]; omega
    · rw [do_10] at hr; subst hr; simp only [Option.getD_some]; omega
    · rw [do_11] at hr; split at hr <;> subst hr
      · exact hels
      · exact ⟨mod_lo, mod_hi⟩
    · rw [do_12] at hr; split at hr <;> subst hr
      · exact hels
      · simp only [Option.getD_some]; omega
    · rw [do_13] at hr; split at hr <;> subst hr
      · exact hels
      · exact ⟨mod_lo, mod_hi⟩
  exact key _ rfl

theorem total_word {op n a b : Int} (ha0 : 0 ≤ a) (hb0 : 0 ≤ b) : 0 ≤ (total op n a b).1 ∧ (total op n a b).1 < 4294967296 := by
  unfold total
  split
  · rename_i h
    unfold okOp at h
    simp only [Bool.and_eq_true, isW_iff, decide_eq_true_eq] at h
    obtain ⟨⟨⟨ho, ho'⟩, h1, h2, h3⟩, _, _, h4⟩ := h
    have := full_word ho ho' h1 ha0 h3 hb0 h4
    have := pw_le h2
    show 0 ≤ full op n a b ∧ full op n a b < 4294967296
    omega
  · simp

end Go.Proofs.Ytableoihgkmbjaa.B
