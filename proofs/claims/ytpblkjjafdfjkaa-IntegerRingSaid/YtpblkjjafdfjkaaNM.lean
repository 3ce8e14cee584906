/- Numbers as lists of digits: plain. -/
import Derived.Test.YtpblkjjafdfjkaaV17
namespace Go.Proofs.Ytpblkjjafdfjkaa.V
open Go.RowKit
set_option linter.unusedVariables false
set_option linter.unusedSimpArgs false
/-- The value of a list of digits, the lowest first. -/
def val : List Int → Nat
  | [] => 0
  | x :: l => x.toNat + 4294967296 * val l
def Dig (l : List Int) : Prop := ∀ x ∈ l, 0 ≤ x ∧ x < 4294967296
def dgF : Nat → Nat → List Int
  | 0, _ => []
  | k + 1, n => if n = 0 then [] else ((n % 4294967296 : Nat) : Int) :: dgF k (n / 4294967296)
/-- The digits of a number. -/
def dg (n : Nat) : List Int := dgF n n
def Ok (l : List Int) : Prop := Dig l ∧ l.length ≤ 1000000
def iv (s : Bool) (l : List Int) : Int := if s then -(val l : Int) else val l
def cmpN (a b : Nat) : Int := if a < b then -1 else if a = b then 0 else 1
def cmpZ (a b : Int) : Int := if a < b then -1 else if a = b then 0 else 1
def sgn (a : Int) : Int := if a < 0 then -1 else if a = 0 then 0 else 1
def nrm (l : List Int) : Bool := l.length = 0 || l.getD (l.length - 1) 0 != 0

theorem dgF_enough : ∀ (k n : Nat), n ≤ k → dgF k n = dg n := by
  intro k
  induction k using Nat.strongRecOn with
  | _ k ih =>
    intro n hn
    unfold dg
    cases k with
    | zero => have : n = 0 := by omega
              subst this; rfl
    | succ k =>
      cases n with
      | zero => simp [dgF]
      | succ n =>
        simp only [dgF, Nat.succ_ne_zero, if_false]
        have h1 : (n + 1) / 4294967296 ≤ n := by omega
        rw [ih k (by omega) _ (by omega)]
        by_cases hnk : n < k + 1
        · rw [ih n (by omega) _ h1]
        · omega
theorem dg_zero : dg 0 = [] := rfl
theorem dg_pos {n : Nat} (h : 0 < n) : dg n = ((n % 4294967296 : Nat) : Int) :: dg (n / 4294967296) := by
  cases n with
  | zero => omega
  | succ n =>
    conv => lhs; unfold dg
    simp only [dgF, Nat.succ_ne_zero, if_false]
    rw [dgF_enough n _ (by omega)]
theorem val_dg (n : Nat) : val (dg n) = n := by
  induction n using Nat.strongRecOn with
  | _ n ih =>
    by_cases h : 0 < n
    · rw [dg_pos h, val, ih _ (by omega)]; omega
    · have : n = 0 := by omega
      subst this; rfl
theorem dig_dg (n : Nat) : Dig (dg n) := by
  induction n using Nat.strongRecOn with
  | _ n ih =>
    by_cases h : 0 < n
    · rw [dg_pos h]
      intro x hx
      rcases List.mem_cons.1 hx with rfl | hx
      · omega
      · exact ih _ (by omega) x hx
    · have : n = 0 := by omega
      subst this; intro x hx; cases hx
theorem dg_len (n i : Nat) : (dg n).length ≤ i ↔ n < 4294967296 ^ i := by
  induction i generalizing n with
  | zero =>
    by_cases h : 0 < n
    · rw [dg_pos h]; simp; omega
    · have : n = 0 := by omega
      subst this; simp [dg_zero]
  | succ i ih =>
    by_cases h : 0 < n
    · rw [dg_pos h, List.length_cons, Nat.pow_succ, Nat.succ_le_succ_iff, ih, Nat.div_lt_iff_lt_mul (by omega)]
    · have : n = 0 := by omega
      subst this; simp [dg_zero]
      exact Nat.pow_pos (by omega)
theorem dg_eq_nil {n : Nat} : dg n = [] ↔ n = 0 := by
  by_cases h : 0 < n
  · rw [dg_pos h]; simp; omega
  · have : n = 0 := by omega
    subst this; simp [dg_zero]
theorem dg_length_pos {n : Nat} : 0 < (dg n).length ↔ 0 < n := by
  rw [List.length_pos_iff, Ne, dg_eq_nil]; omega
theorem dg_inj {m n : Nat} : dg m = dg n ↔ m = n := ⟨fun h => by rw [← val_dg m, h, val_dg], fun h => by rw [h]⟩
theorem val_lt {l : List Int} (h : Dig l) : val l < 4294967296 ^ l.length := by
  induction l with
  | nil => simp [val]
  | cons x l ih =>
    have h1 := h x (List.mem_cons_self ..)
    have h2 := ih (fun y hy => h y (List.mem_cons_of_mem _ hy))
    rw [List.length_cons, Nat.pow_succ, val]
    have : val l + 1 ≤ 4294967296 ^ l.length := h2
    have : 4294967296 * (val l + 1) ≤ 4294967296 * 4294967296 ^ l.length := Nat.mul_le_mul_left _ this
    omega
/-- A list of digits without a zero at its end is the digits of its value. -/
theorem dg_val {l : List Int} (h : Dig l) (hn : l = [] ∨ l.getD (l.length - 1) 0 ≠ 0) : dg (val l) = l := by
  induction l with
  | nil => rfl
  | cons x l ih =>
    have h1 := h x (List.mem_cons_self ..)
    have hd : Dig l := fun y hy => h y (List.mem_cons_of_mem _ hy)
    have hn' : l = [] ∨ l.getD (l.length - 1) 0 ≠ 0 := by
      cases l with
      | nil => exact .inl rfl
      | cons y l => exact .inr (by simpa using hn)
    have ih := ih hd hn'
    have hpos : 0 < val (x :: l) := by
      rw [val]
      cases l with
      | nil => simp at hn; simp [val]; omega
      | cons y l =>
        have : val (y :: l) ≠ 0 := by
          intro h0; rw [h0, dg_zero] at ih; cases ih
        omega
    rw [dg_pos hpos, val]
    have e1 : (x.toNat + 4294967296 * val l) % 4294967296 = x.toNat := by omega
    have e2 : (x.toNat + 4294967296 * val l) / 4294967296 = val l := by omega
    rw [e1, e2, ih]
    congr 1
    omega
theorem Ok.dig {l : List Int} (h : Ok l) : Dig l := h.1
theorem ok_dg {n : Nat} : Ok (dg n) ↔ n < 4294967296 ^ 1000000 := by
  unfold Ok
  rw [dg_len]
  exact ⟨fun h => h.2, fun h => ⟨dig_dg n, h⟩⟩
theorem iv_dg (z : Int) : iv (decide (z < 0)) (dg z.natAbs) = z := by
  unfold iv
  rw [val_dg]
  by_cases h : z < 0
  · simp [h]; omega
  · simp [h]; omega
theorem iv_false (l : List Int) : iv false l = val l := rfl
theorem iv_true (l : List Int) : iv true l = -(val l : Int) := rfl
theorem natAbs_iv (s : Bool) (l : List Int) : (iv s l).natAbs = val l := by cases s <;> simp [iv]
theorem iv_neg {s : Bool} {l : List Int} : decide (iv s l < 0) = (s && decide (0 < val l)) := by cases s <;> simp [iv]
theorem uw {n : Int} (h : 0 ≤ n) (h' : n < 18446744073709551616) : IntKind.u64.wrap n = n := by
  simp [IntKind.wrap, IntKind.bits, IntKind.signed]; omega
/-- Digit i. -/
def at_ (l : List Int) (i : Nat) : Int := l.getD i 0
theorem at_dig {l : List Int} (h : Dig l) (i : Nat) : 0 ≤ at_ l i ∧ at_ l i < 4294967296 := by
  unfold at_
  by_cases hi : i < l.length
  · rw [List.getD_eq_getElem?_getD, List.getElem?_eq_getElem hi]; exact h _ (List.getElem_mem hi)
  · rw [List.getD_eq_getElem?_getD, List.getElem?_eq_none (by omega)]; simp
theorem at_ge {l : List Int} {i : Nat} (h : l.length ≤ i) : at_ l i = 0 := by
  unfold at_; rw [List.getD_eq_getElem?_getD, List.getElem?_eq_none h]; rfl
theorem at_set (l : List Int) (i j : Nat) (v : Int) (h : i < l.length) : at_ (l.set i v) j = if j = i then v else at_ l j := by
  unfold at_
  rw [List.getD_eq_getElem?_getD, List.getElem?_set]
  by_cases hji : j = i
  · subst hji; simp [h]
  · have : ¬ i = j := fun e => hji e.symm
    simp [hji, this]
/-- The value of the first i digits, as an integer. -/
def pv (l : List Int) : Nat → Int
  | 0 => 0
  | i + 1 => pv l i + at_ l i * 4294967296 ^ i
theorem pv_cons (x : Int) (l : List Int) (i : Nat) : pv (x :: l) (i + 1) = x + 4294967296 * pv l i := by
  induction i with
  | zero => simp [pv, at_]
  | succ i ih =>
    rw [pv, ih, pv]
    have : at_ (x :: l) (i + 1) = at_ l i := rfl
    rw [this, Int.pow_succ]
    grind
theorem pv_val {l : List Int} (h : Dig l) : pv l l.length = val l := by
  induction l with
  | nil => rfl
  | cons x l ih =>
    rw [List.length_cons, pv_cons, ih (fun y hy => h y (List.mem_cons_of_mem _ hy)), val]
    have := h x (List.mem_cons_self ..)
    omega
theorem pv_ge {l : List Int} {i : Nat} (h : l.length ≤ i) : pv l i = pv l l.length := by
  induction i with
  | zero => have : l.length = 0 := by omega
            rw [this]
  | succ i ih =>
    by_cases h2 : l.length ≤ i
    · rw [pv, ih h2, at_ge h2]; simp
    · have : l.length = i + 1 := by omega
      rw [this]
theorem pv_congr {l m : List Int} {i : Nat} (h : ∀ j, j < i → at_ l j = at_ m j) : pv l i = pv m i := by
  induction i with
  | zero => rfl
  | succ i ih => rw [pv, pv, ih (fun j hj => h j (by omega)), h i (by omega)]
theorem pv_set_ge (l : List Int) (i j : Nat) (v : Int) (h : i < l.length) (hj : j ≤ i) : pv (l.set i v) j = pv l j :=
  pv_congr fun k hk => by rw [at_set l i k v h, if_neg (by omega)]
theorem pv_nonneg {l : List Int} (h : Dig l) (i : Nat) : 0 ≤ pv l i := by
  induction i with
  | zero => simp [pv]
  | succ i ih =>
    rw [pv]
    have h1 := (at_dig h i).1
    have h2 : (0 : Int) ≤ 4294967296 ^ i := Int.pow_nonneg (by omega)
    have := Int.mul_nonneg h1 h2
    omega
theorem pv_lt {l : List Int} (h : Dig l) (i : Nat) : pv l i < 4294967296 ^ i := by
  induction i with
  | zero => simp [pv]
  | succ i ih =>
    rw [pv, Int.pow_succ]
    have h1 := (at_dig h i)
    have h2 : (0 : Int) ≤ 4294967296 ^ i := Int.pow_nonneg (by omega)
    have h3 : at_ l i * 4294967296 ^ i ≤ 4294967295 * 4294967296 ^ i := Int.mul_le_mul_of_nonneg_right (by omega) h2
    omega
theorem dig_set {l : List Int} (h : Dig l) {v : Int} (hv : 0 ≤ v ∧ v < 4294967296) (i : Nat) : Dig (l.set i v) := fun x hx => by
  rcases List.mem_or_eq_of_mem_set hx with hx | rfl
  · exact h x hx
  · exact hv
theorem dig_zeros (n : Nat) : Dig (List.replicate n 0) := fun x hx => by
  have := List.eq_of_mem_replicate hx; subst this; omega
theorem dig_take {l : List Int} (h : Dig l) (i : Nat) : Dig (l.take i) := fun x hx => h x (List.mem_of_mem_take hx)
theorem pv_take (l : List Int) (i j : Nat) (h : j ≤ i) : pv (l.take i) j = pv l j := pv_congr fun k hk => by
  unfold at_; simp only [List.getD_eq_getElem?_getD, List.getElem?_take, if_pos (show k < i by omega)]
theorem val_take {l : List Int} (h : Dig l) {i : Nat} (hi : i ≤ l.length) : (val (l.take i) : Int) = pv l i := by
  rw [← pv_val (dig_take h i)]
  have : (l.take i).length = i := by simp; omega
  rw [this, pv_take l i i (Nat.le_refl _)]
/-- What is zero at its end may be left. -/
theorem dg_take {l : List Int} (h : Dig l) {i : Nat} (hi : i ≤ l.length) (hn : i = 0 ∨ at_ l (i - 1) ≠ 0) : dg (val (l.take i)) = l.take i := by
  refine dg_val (dig_take h i) ?_
  rcases hn with rfl | hn
  · exact .inl (by simp)
  · by_cases h0 : i = 0
    · subst h0; exact .inl (by simp)
    · right
      have hl : (l.take i).length = i := by simp; omega
      rw [hl]
      have : (l.take i).getD (i - 1) 0 = at_ l (i - 1) := by
        unfold at_; simp only [List.getD_eq_getElem?_getD, List.getElem?_take, if_pos (show i - 1 < i by omega)]
      rw [this]; exact hn
theorem val_eq_of_pv {l m : List Int} (h : Dig l) (h' : Dig m) {i j : Nat} (hi : i ≤ l.length) (hj : j ≤ m.length) (e : pv l i = pv m j) : val (l.take i) = val (m.take j) := by
  have h1 := val_take h hi
  have h2 := val_take h' hj
  omega

theorem dg_val_len {x : List Int} (h : Dig x) : (dg (val x)).length ≤ x.length := (dg_len _ _).2 (val_lt h)
theorem um (m : Int) : IntKind.u64.wrap m = m % 18446744073709551616 := by simp [IntKind.wrap, IntKind.bits, IntKind.signed]
/-- A power of the base, its inside out of sight (omega unfolds powers). -/
def pw (i : Nat) : Int := 4294967296 ^ i
theorem pw_zero : pw 0 = 1 := rfl
theorem pw_succ (i : Nat) : pw (i + 1) = pw i * 4294967296 := Int.pow_succ _ _
theorem pw_pos (i : Nat) : 0 < pw i := Int.pow_pos (by omega)
theorem pv_s (l : List Int) (i : Nat) : pv l (i + 1) = pv l i + at_ l i * pw i := rfl
theorem pv_l {l : List Int} (h : Dig l) (i : Nat) : pv l i < pw i := pv_lt h i
theorem pv_set_succ {l : List Int} {i : Nat} (v : Int) (h : i < l.length) : pv (l.set i v) (i + 1) = pv l i + v * pw i := by
  rw [pv_s, pv_set_ge l i i v h (Nat.le_refl _), at_set l i i v h, if_pos rfl]
theorem at_append {l : List Int} {d : Int} (i : Nat) : at_ (l ++ [d]) i = if i = l.length then d else at_ l i := by
  unfold at_
  rw [List.getD_eq_getElem?_getD, List.getElem?_append]
  by_cases h : i < l.length
  · rw [if_pos h, if_neg (by omega)]; rw [List.getD_eq_getElem?_getD]
  · rw [if_neg h]
    by_cases h2 : i = l.length
    · subst h2; simp
    · rw [if_neg h2, List.getD_eq_getElem?_getD, List.getElem?_eq_none (by simp; omega), List.getElem?_eq_none (by omega)]
theorem pv_append {l : List Int} {d : Int} {i : Nat} (h : l.length = i) : pv (l ++ [d]) (i + 1) = pv l i + d * pw i := by
  rw [pv_s, at_append, if_pos h.symm]
  rw [pv_congr (l := l ++ [d]) (m := l) (i := i) fun j hj => by rw [at_append, if_neg (by omega)]]
theorem dig_append {l : List Int} (h : Dig l) {d : Int} (hd : 0 ≤ d ∧ d < 4294967296) : Dig (l ++ [d]) := fun x hx => by
  rcases List.mem_append.1 hx with hx | hx
  · exact h x hx
  · simp at hx; subst hx; exact hd
theorem val_of_pv {l : List Int} (h : Dig l) {n : Nat} {i : Nat} (hi : i = l.length) (e : pv l i = n) : val l = n := by
  subst hi
  rw [pv_val h] at e
  omega
/-- A fact that omega is not to see. -/
structure Hd (p : Prop) : Prop where
  out : p
theorem step_add {S c p X Y PX PY d c' : Int} (inv : S + c * p = PX + PY) (ht : X + c + Y = d + 4294967296 * c') : S + d * p + c' * (p * 4294967296) = PX + X * p + (PY + Y * p) := by
  have h : (X + c + Y) * p = (d + 4294967296 * c') * p := by rw [ht]
  have e : c' * (p * 4294967296) = 4294967296 * c' * p := by rw [Int.mul_comm p, ← Int.mul_assoc, Int.mul_comm c']
  rw [Int.add_mul, Int.add_mul, Int.add_mul] at h
  rw [e]
  generalize 4294967296 * c' * p = A at *
  generalize c * p = C at *
  generalize d * p = E at *
  omega
theorem step_sub {S b p X Y PX PY d c' : Int} (inv : S = PX - PY + b * p) (ht : d - 4294967296 * c' = X - b - Y) : S + d * p = PX + X * p - (PY + Y * p) + c' * (p * 4294967296) := by
  have h : (d - 4294967296 * c') * p = (X - b - Y) * p := by rw [ht]
  have e : c' * (p * 4294967296) = 4294967296 * c' * p := by rw [Int.mul_comm p, ← Int.mul_assoc, Int.mul_comm c']
  rw [Int.sub_mul, Int.sub_mul, Int.sub_mul] at h
  rw [e]
  generalize 4294967296 * c' * p = A at *
  generalize b * p = C at *
  generalize d * p = E at *
  omega
theorem pw_add (i j : Nat) : pw (i + j) = pw i * pw j := Int.pow_add _ _ _
/-- One digit of a product: S the new row's first digits, O the old row's. -/
theorem step_mul {S O c X V y d c' o p q : Int} (inv : S + c * (p * q) = O + X * V * p) (ht : X * y + o + c = d + 4294967296 * c') :
    S + d * (p * q) + c' * (p * q * 4294967296) = O + o * (p * q) + X * (V + y * q) * p := by
  have h : (X * y + o + c) * (p * q) = (d + 4294967296 * c') * (p * q) := by rw [ht]
  have e1 : c' * (p * q * 4294967296) = 4294967296 * c' * (p * q) := by rw [Int.mul_comm (p * q), ← Int.mul_assoc, Int.mul_comm c']
  have e2 : X * (V + y * q) * p = X * V * p + X * y * (p * q) := by
    rw [Int.mul_add, Int.add_mul]
    congr 1
    rw [Int.mul_comm p q, ← Int.mul_assoc, ← Int.mul_assoc]
  rw [Int.add_mul, Int.add_mul, Int.add_mul] at h
  rw [e1, e2]
  generalize 4294967296 * c' * (p * q) = A at *
  generalize c * (p * q) = C at *
  generalize d * (p * q) = E at *
  generalize X * y * (p * q) = G at *
  generalize o * (p * q) = F at *
  generalize X * V * p = K at *
  omega
theorem mul_le (X y : Int) (h : 0 ≤ X ∧ X < 4294967296) (h' : 0 ≤ y ∧ y < 4294967296) : 0 ≤ X * y ∧ X * y ≤ 18446744065119617025 := by
  refine ⟨Int.mul_nonneg h.1 h'.1, ?_⟩
  have := Int.mul_le_mul (a := X) (b := y) (c := 4294967295) (d := 4294967295) (by omega) (by omega) h'.1 (by omega)
  omega
theorem mul_dig {m o c : Int} (hm : 0 ≤ m ∧ m ≤ 18446744065119617025) (ho : 0 ≤ o ∧ o < 4294967296) (hc : 0 ≤ c ∧ c < 4294967296) :
    Hd (IntKind.u64.wrap m = m ∧ IntKind.u64.wrap (m + o) = m + o ∧ IntKind.u64.wrap (m + o + c) = m + o + c ∧ (0 ≤ (m + o + c) % 4294967296 ∧ (m + o + c) % 4294967296 < 4294967296) ∧ (0 ≤ (m + o + c) / 4294967296 ∧ (m + o + c) / 4294967296 < 4294967296) ∧
      m + o + c = (m + o + c) % 4294967296 + 4294967296 * ((m + o + c) / 4294967296)) :=
  ⟨uw (by omega) (by omega), uw (by omega) (by omega), uw (by omega) (by omega), by omega, by omega, by omega⟩
theorem pv_top {x y : List Int} (hx : Dig x) (hy : Dig y) {i : Nat} (h : at_ x i < at_ y i) : pv x (i + 1) < pv y (i + 1) := by
  rw [pv, pv]
  have h1 := pv_lt hx i
  have h2 := pv_nonneg hy i
  have h3 : (0 : Int) ≤ 4294967296 ^ i := Int.pow_nonneg (by omega)
  have h4 : (at_ x i + 1) * 4294967296 ^ i ≤ at_ y i * 4294967296 ^ i := Int.mul_le_mul_of_nonneg_right (by omega) h3
  rw [Int.add_mul, Int.one_mul] at h4
  omega
end Go.Proofs.Ytpblkjjafdfjkaa.V
