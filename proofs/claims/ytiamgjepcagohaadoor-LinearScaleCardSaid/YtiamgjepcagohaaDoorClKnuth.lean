/- Long division, a digit at a time (Knuth's D): plain laws on natural numbers. -/
import Derived.Test.YtiamgjepcagohaaDoorClAri
namespace Go.Proofs.YtiamgjepcagohaaDoor.Ari
open Go Go.RowKit

theorem hi_of {b : Nat} (hb : 0 < b) {m n j v : Nat} (hv : v < b) (hm : m + n / b ^ j % b * b ^ j = n + v * b ^ j) : m / b ^ (j + 1) = n / b ^ (j + 1) := by
  have hn := parts hb n j
  have hlo := Nat.mod_lt n (Nat.pow_pos (n := j) hb)
  have hd : n / b ^ j % b < b := Nat.mod_lt _ hb
  generalize n / b ^ (j + 1) = hi at hn ⊢
  generalize n / b ^ j % b = d at hn hm hd
  generalize n % b ^ j = lo at hn hlo
  have hm' : m = b ^ (j + 1) * hi + (v * b ^ j + lo) := by rw [Nat.mul_comm (b ^ (j + 1))]; omega
  rw [hm', Nat.mul_add_div (Nat.pow_pos hb), Nat.div_eq_of_lt (low_lt hv hlo), Nat.add_zero]
/-- The number with one digit laid anew. -/
theorem put_ex (n j v : Nat) : ∃ m, m + n / B ^ j % B * B ^ j = n + v * B ^ j := by
  have hn := parts B0 n j
  exact ⟨n / B ^ (j + 1) * B ^ (j + 1) + v * B ^ j + n % B ^ j, by omega⟩
theorem lt_of_hi {m j : Nat} (h : m / B ^ j = 0) : m < B ^ j := (Nat.div_eq_zero_iff_lt (B_pos j)).1 h

section
variable {N V o n : Nat}
theorem powadd (a b : Nat) : B ^ (a + b) = B ^ a * B ^ b := Nat.pow_add _ _ _
/-- The greatest digits. -/
theorem top2 (hN : N < B ^ (o + n + 2)) : N / B ^ (o + n + 1) % B * B + N / B ^ (o + n) % B = N / B ^ (o + n) := by
  have h1 : N / B ^ (o + n + 1) = N / B ^ (o + n) / B := by rw [Nat.pow_succ, Nat.div_div_eq_div_mul]
  have h2 : N / B ^ (o + n + 1) < B := by
    rw [Nat.div_lt_iff_lt_mul (B_pos _), Nat.mul_comm, ← Nat.pow_succ]; exact hN
  rw [Nat.mod_eq_of_lt h2, h1, Nat.mul_comm]
  exact Nat.div_add_mod _ _
theorem next (a : Nat) : N / B ^ (a + 1) * B + N / B ^ a % B = N / B ^ a := by
  have h1 : N / B ^ (a + 1) = N / B ^ a / B := by rw [Nat.pow_succ, Nat.div_div_eq_div_mul]
  rw [h1, Nat.mul_comm]
  exact Nat.div_add_mod _ _
/-- The guess is too great. -/
theorem guess_gt {G R : Nat} (hV : 0 < V) (ht : G * (V / B ^ (n + 1)) + R = N / B ^ (o + n + 1)) (h : R * B + N / B ^ (o + n) % B < G * (V / B ^ n % B)) : N / (V * B ^ o) < G := by
  have e1 := next (N := V) n
  have e2 := next (N := N) (o + n)
  have h3 : N / B ^ (o + n) < G * (V / B ^ n) := by
    rw [← e1, ← e2, ← ht]
    generalize V / B ^ (n + 1) = d1 at *
    generalize V / B ^ n % B = d2 at *
    generalize N / B ^ (o + n) % B = u at *
    calc (G * d1 + R) * B + u = G * d1 * B + (R * B + u) := by grind
      _ < G * d1 * B + G * d2 := by omega
      _ = G * (d1 * B + d2) := by grind
  rw [Nat.div_lt_iff_lt_mul (Nat.mul_pos hV (B_pos o))]
  rw [Nat.div_lt_iff_lt_mul (B_pos _)] at h3
  calc N < G * (V / B ^ n) * B ^ (o + n) := h3
    _ = G * (V / B ^ n * B ^ n) * B ^ o := by rw [powadd]; grind
    _ ≤ G * V * B ^ o := Nat.mul_le_mul_right _ (Nat.mul_le_mul_left _ (Nat.div_mul_le_self _ _))
    _ = G * (V * B ^ o) := Nat.mul_assoc _ _ _
/-- The guess is too great by 1 at most. -/
theorem guess_le {G R : Nat} (hG : G < B) (hV1 : B ^ (n + 1) ≤ V) (ht : G * (V / B ^ (n + 1)) + R = N / B ^ (o + n + 1)) (h : G * (V / B ^ n % B) ≤ R * B + N / B ^ (o + n) % B) : G ≤ N / (V * B ^ o) + 1 := by
  have hV : 0 < V := Nat.lt_of_lt_of_le (B_pos _) hV1
  have e1 := next (N := V) n
  have e2 := next (N := N) (o + n)
  have h3 : G * (V / B ^ n) ≤ N / B ^ (o + n) := by
    rw [← e1, ← e2, ← ht]
    generalize V / B ^ (n + 1) = d1 at *
    generalize V / B ^ n % B = d2 at *
    generalize N / B ^ (o + n) % B = u at *
    calc G * (d1 * B + d2) = G * d1 * B + G * d2 := by grind
      _ ≤ G * d1 * B + (R * B + u) := by omega
      _ = (G * d1 + R) * B + u := by grind
  have h4 : G * (V / B ^ n) * B ^ (o + n) ≤ N := (Nat.le_div_iff_mul_le (B_pos _)).1 h3
  have h5 : V < (V / B ^ n + 1) * B ^ n := by
    have := Nat.lt_div_mul_add (a := V) (B_pos n)
    rw [Nat.add_mul, Nat.one_mul]; exact this
  rcases Nat.eq_zero_or_pos G with hz | hz
  · rw [hz]; exact Nat.zero_le _
  have h6 : G * (V * B ^ o) < N + V * B ^ o := by
    calc G * (V * B ^ o) < G * ((V / B ^ n + 1) * B ^ n * B ^ o) := Nat.mul_lt_mul_of_pos_left (Nat.mul_lt_mul_of_pos_right h5 (B_pos o)) hz
      _ = G * (V / B ^ n) * B ^ (o + n) + G * B ^ (o + n) := by rw [powadd]; grind
      _ ≤ N + B * B ^ (o + n) := Nat.add_le_add h4 (Nat.mul_le_mul_right _ (Nat.le_of_lt hG))
      _ = N + B ^ (n + 1) * B ^ o := by rw [powadd o n, Nat.pow_succ]; grind
      _ ≤ N + V * B ^ o := Nat.add_le_add_left (Nat.mul_le_mul_right _ hV1) _
  have h7 : (G - 1) * (V * B ^ o) ≤ N := by
    rw [Nat.sub_mul, Nat.one_mul]; omega
  have := (Nat.le_div_iff_mul_le (Nat.mul_pos hV (B_pos o))).2 h7
  omega
/-- The first guess is not too small. -/
theorem guess_ge (hV : 0 < V / B ^ (n + 1)) : N / (V * B ^ o) ≤ N / B ^ (o + n + 1) / (V / B ^ (n + 1)) := by
  rw [Nat.le_div_iff_mul_le hV, Nat.le_div_iff_mul_le (B_pos _)]
  have hV' : 0 < V := by
    rcases Nat.eq_zero_or_pos V with h | h
    · rw [h, Nat.zero_div] at hV; omega
    · exact h
  calc N / (V * B ^ o) * (V / B ^ (n + 1)) * B ^ (o + n + 1) = N / (V * B ^ o) * (V / B ^ (n + 1) * B ^ (n + 1) * B ^ o) := by
        rw [Nat.add_assoc, powadd]; grind
    _ ≤ N / (V * B ^ o) * (V * B ^ o) := Nat.mul_le_mul_left _ (Nat.mul_le_mul_right _ (Nat.div_mul_le_self _ _))
    _ ≤ N := Nat.div_mul_le_self _ _
/-- A step of the subtraction. -/
theorem sub_step {M M' G k c b x lo y b' c' : Nat} (hM : M + G * (V % B ^ k) * B ^ o = N + (c + b) * B ^ (o + k))
    (hy : y + lo + b = x + b' * B) (ht : G * (V / B ^ k % B) + c = c' * B + lo) (hm : M' + x * B ^ (o + k) = M + y * B ^ (o + k)) :
    M' + G * (V % B ^ (k + 1)) * B ^ o = N + (c' + b') * B ^ (o + (k + 1)) := by
  rw [mod_succ, ← Nat.add_assoc o k 1, Nat.pow_succ B (o + k)]
  have e : G * (V % B ^ k + V / B ^ k % B * B ^ k) * B ^ o = G * (V % B ^ k) * B ^ o + G * (V / B ^ k % B) * B ^ (o + k) := by rw [powadd]; grind
  rw [e]
  generalize G * (V % B ^ k) * B ^ o = X at *
  generalize G * (V / B ^ k % B) = Y at *
  generalize B ^ (o + k) = P at *
  have h1 : y * P + lo * P + b * P = x * P + b' * B * P := by rw [← Nat.add_mul, ← Nat.add_mul, hy, Nat.add_mul]
  have h2 : Y * P + c * P = c' * B * P + lo * P := by rw [← Nat.add_mul, ht, Nat.add_mul]
  have h3 : (c + b) * P = c * P + b * P := Nat.add_mul _ _ _
  have h4 : (c' + b') * (P * B) = c' * B * P + b' * B * P := by grind
  rw [h3] at hM
  rw [h4]
  omega
/-- A step of the addition. -/
theorem add_step {S M M' k c x y c' : Nat} (hM : M + c * B ^ (o + k) = S + V % B ^ k * B ^ o)
    (hy : y + c' * B = x + V / B ^ k % B + c) (hm : M' + x * B ^ (o + k) = M + y * B ^ (o + k)) :
    M' + c' * B ^ (o + (k + 1)) = S + V % B ^ (k + 1) * B ^ o := by
  rw [mod_succ, ← Nat.add_assoc o k 1, Nat.pow_succ B (o + k)]
  have e : (V % B ^ k + V / B ^ k % B * B ^ k) * B ^ o = V % B ^ k * B ^ o + V / B ^ k % B * B ^ (o + k) := by rw [powadd]; grind
  rw [e]
  generalize V % B ^ k * B ^ o = X at *
  generalize V / B ^ k % B = Y at *
  generalize B ^ (o + k) = P at *
  have h1 : y * P + c' * B * P = x * P + Y * P + c * P := by rw [← Nat.add_mul, hy, Nat.add_mul, Nat.add_mul]
  have h2 : c' * (P * B) = c' * B * P := by grind
  rw [h2]
  omega
/-- The last digit of the subtraction: the guess was right. -/
theorem sub_end0 {M M' G c b x y : Nat} (hV : 0 < V) (hM : M + G * V * B ^ o = N + (c + b) * B ^ (o + n))
    (hy : y + c + b = x) (hm : M' + x * B ^ (o + n) = M + y * B ^ (o + n)) (hG : N / (V * B ^ o) ≤ G) : G = N / (V * B ^ o) ∧ M' = N % (V * B ^ o) := by
  have h1 : y * B ^ (o + n) + (c + b) * B ^ (o + n) = x * B ^ (o + n) := by rw [← Nat.add_mul]; congr 1; omega
  have h2 : M' + G * V * B ^ o = N := by omega
  have h3 : G * (V * B ^ o) ≤ N := by rw [← Nat.mul_assoc]; omega
  have h4 := (Nat.le_div_iff_mul_le (Nat.mul_pos hV (B_pos o))).2 h3
  have h5 : G = N / (V * B ^ o) := by omega
  refine ⟨h5, ?_⟩
  have h6 := Nat.div_add_mod N (V * B ^ o)
  rw [← h5, Nat.mul_comm, ← Nat.mul_assoc] at h6
  omega
/-- .. and it was too great. -/
theorem sub_end1 {M M' G c b x y : Nat} (hV : 0 < V) (hM : M + G * V * B ^ o = N + (c + b) * B ^ (o + n))
    (hy : y + c + b = x + B) (hm : M' + x * B ^ (o + n) = M + y * B ^ (o + n)) (hM' : M' < B ^ (o + n + 1)) (hG : G ≤ N / (V * B ^ o) + 1) :
    G = N / (V * B ^ o) + 1 ∧ M' + V * B ^ o = N % (V * B ^ o) + B ^ (o + n + 1) := by
  have h0 : B ^ (o + n + 1) = B * B ^ (o + n) := by rw [Nat.pow_succ, Nat.mul_comm]
  have h1 : y * B ^ (o + n) + (c + b) * B ^ (o + n) = x * B ^ (o + n) + B * B ^ (o + n) := by rw [← Nat.add_mul, ← Nat.add_mul]; congr 1; omega
  have h2 : M' + G * V * B ^ o = N + B ^ (o + n + 1) := by omega
  have h6 := Nat.div_add_mod N (V * B ^ o)
  have h7 : N / (V * B ^ o) < G := by
    rcases Nat.lt_or_ge (N / (V * B ^ o)) G with h | h
    · exact h
    · exfalso
      have : G * V * B ^ o ≤ N := by
        rw [Nat.mul_assoc]
        exact Nat.le_trans (Nat.mul_le_mul_right _ h) (Nat.div_mul_le_self _ _)
      omega
  have h5 : G = N / (V * B ^ o) + 1 := by omega
  refine ⟨h5, ?_⟩
  rw [Nat.mul_assoc, h5, Nat.add_mul, Nat.one_mul, Nat.mul_comm] at h2
  omega
/-- The addition's last digit. -/
theorem add_end {S M M' c x y : Nat} (hM : M + c * B ^ (o + n) = S + V * B ^ o) (hS : S + V * B ^ o = N % (V * B ^ o) + B ^ (o + n + 1)) (hM1 : M < B ^ (o + n + 1)) (hc : c ≤ 1)
    (hx : M / B ^ (o + n) % B = x) (hy : y = (x + c) % B) (hm : M' + x * B ^ (o + n) = M + y * B ^ (o + n)) : M' = N % (V * B ^ o) := by
  have h0 : B ^ (o + n + 1) = B * B ^ (o + n) := by rw [Nat.pow_succ, Nat.mul_comm]
  have h1 : M / B ^ (o + n) < B := by rw [Nat.div_lt_iff_lt_mul (B_pos _), ← h0]; exact hM1
  rw [Nat.mod_eq_of_lt h1] at hx
  have h2 : B ≤ x + c := by
    have : B * B ^ (o + n) ≤ M + c * B ^ (o + n) := by omega
    have h3 := (Nat.le_div_iff_mul_le (B_pos (o + n))).2 this
    rw [Nat.add_mul_div_right _ _ (B_pos _), hx] at h3
    exact h3
  have h3 : x < B := by omega
  have h4 : y = 0 := by rw [hy, show x + c = B by omega, Nat.mod_self]
  have h5 : x * B ^ (o + n) + c * B ^ (o + n) = B * B ^ (o + n) := by rw [← Nat.add_mul]; congr 1; omega
  rw [h4, Nat.zero_mul] at hm
  omega
end
end Go.Proofs.YtiamgjepcagohaaDoor.Ari
