/- Numbers in base 2^32 and 256, as lists of digits: plain laws, no program. -/
import Derived.Test.YtiamgjepcagohaaDoorProg
import Derived.WalkKit
import Derived.Test.YtiamgjepcagohaaDoorClWWords
import Derived.Test.YtiamgjepcagohaaDoorClWMore
namespace Go.Proofs.YtiamgjepcagohaaDoor.Ari
open Go Go.RowKit Go.Proofs.YtiamgjepcagohaaDoorW.PrintWords Go.Proofs.YtiamgjepcagohaaDoorW.PrintLast Go.Proofs.YtiamgjepcagohaaDoorW.PrintMore

theorem i64n {a : Int} (h0 : -9223372036854775808 ≤ a) (h : a < 9223372036854775808) : wrap64 a = a := by
  unfold wrap64; omega
theorem u64n {a : Int} (h0 : 0 ≤ a) (h : a < 18446744073709551616) : IntKind.u64.wrap a = a := by
  have e : IntKind.u64.wrap a = a % 18446744073709551616 := by simp [IntKind.wrap, IntKind.signed, IntKind.bits]
  rw [e]; omega
theorem u32n {a : Int} (h0 : 0 ≤ a) (h : a < 4294967296) : IntKind.u32.wrap a = a := by
  have e : IntKind.u32.wrap a = a % 4294967296 := by simp [IntKind.wrap, IntKind.signed, IntKind.bits]
  rw [e]; omega
theorem u64m (a : Int) : IntKind.u64.wrap a = a % 18446744073709551616 := by simp [IntKind.wrap, IntKind.signed, IntKind.bits]

/-! bits -/
theorem bvn {w : Nat} {a : Int} {n : Nat} (e : a = n) : BitVec.ofInt w a = BitVec.ofNat w n := by subst e; simp
theorem or_u32 {a b : Int} {n m : Nat} (ea : a = n) (eb : b = m) (hn : n < 4294967296) (hm : m < 4294967296) : Go.bits .or .u32 a b = ((n ||| m : Nat) : Int) := by
  show IntKind.u32.wrap ((BitVec.ofInt 32 a ||| BitVec.ofInt 32 b).toNat : Int) = _
  rw [bvn ea, bvn eb, u32n (by omega) (by have := BitVec.isLt (BitVec.ofNat 32 n ||| BitVec.ofNat 32 m); omega)]
  simp [Nat.mod_eq_of_lt (show n < 2 ^ 32 by omega), Nat.mod_eq_of_lt (show m < 2 ^ 32 by omega)]
theorem or_u64 {a b : Int} {n m : Nat} (ea : a = n) (eb : b = m) (hn : n < 18446744073709551616) (hm : m < 18446744073709551616) : Go.bits .or .u64 a b = ((n ||| m : Nat) : Int) := by
  show IntKind.u64.wrap ((BitVec.ofInt 64 a ||| BitVec.ofInt 64 b).toNat : Int) = _
  rw [bvn ea, bvn eb, u64n (by omega) (by have := BitVec.isLt (BitVec.ofNat 64 n ||| BitVec.ofNat 64 m); omega)]
  simp [Nat.mod_eq_of_lt (show n < 2 ^ 64 by omega), Nat.mod_eq_of_lt (show m < 2 ^ 64 by omega)]
theorem or_add {n m i : Nat} (h : n < 2 ^ i) : (m * 2 ^ i) ||| n = m * 2 ^ i + n := by
  rw [Nat.mul_comm, Nat.two_pow_add_eq_or_of_lt h]
theorem or_add' {n m i : Nat} (h : n < 2 ^ i) : n ||| (m * 2 ^ i) = n + m * 2 ^ i := by
  rw [Nat.or_comm, or_add h, Nat.add_comm]

/-- What Sub32 hands on. -/
def sbor (a b c : Int) : Int := if a < b + c then 1 else 0
def bv (a : Int) : BitVec 32 := BitVec.ofInt 32 a
theorem bits_bv (op : BinOp) (x y : Int) (f : BitVec 32 → BitVec 32 → BitVec 32)
    (h : Go.bits op .u32 x y = IntKind.u32.wrap ((f (bv x) (bv y)).toNat : Int)) : Go.bits op .u32 x y = ((f (bv x) (bv y)).toNat : Int) := by
  rw [h, u32n (by omega) (by have := (f (bv x) (bv y)).isLt; omega)]
theorem bv_toNat (v : BitVec 32) : bv (v.toNat : Int) = v := by simp [bv]
theorem bor_eq {a b c : Int} (h0 : 0 ≤ a) (h1 : a < 4294967296) (h2 : 0 ≤ b) (h3 : b < 4294967296) (h4 : 0 ≤ c) (h5 : c ≤ 1) :
    Go.bits .or .u32 (Go.bits .and .u32 (Go.bits .xor .u32 IntKind.u32.max a) b) (Go.bits .and .u32 (Go.bits .xor .u32 IntKind.u32.max (Go.bits .xor .u32 a b)) ((a - b - c) % 4294967296)) / 2147483648 = sbor a b c := by
  have hm : bv IntKind.u32.max = BitVec.allOnes 32 := by decide
  rw [bits_bv .xor IntKind.u32.max a (· ^^^ ·) rfl, bits_bv .xor a b (· ^^^ ·) rfl]
  rw [bits_bv .and _ b (· &&& ·) rfl, bits_bv .xor _ _ (· ^^^ ·) rfl, bits_bv .and _ _ (· &&& ·) rfl, bits_bv .or _ _ (· ||| ·) rfl]
  simp only [bv_toNat, hm]
  have top : ∀ v : BitVec 32, (v.toNat : Int) / 2147483648 = if v.msb then 1 else 0 := by
    intro v
    have := v.isLt
    rw [BitVec.msb_eq_decide]
    by_cases h : 2 ^ (32 - 1) ≤ v.toNat
    · simp only [h]; simp at h ⊢; omega
    · simp only [h]; simp at h ⊢; omega
  have msb : ∀ x : Int, 0 ≤ x → x < 4294967296 → (bv x).msb = decide (2147483648 ≤ x) := by
    intro x h h'
    obtain ⟨n, rfl⟩ : ∃ n : Nat, x = n := ⟨x.toNat, by omega⟩
    rw [BitVec.msb_eq_decide, bv, bvn rfl, BitVec.toNat_ofNat, Nat.mod_eq_of_lt (by omega)]
    apply decide_eq_decide.2; omega
  rw [top]
  simp only [BitVec.msb_or, BitVec.msb_and, BitVec.msb_xor, BitVec.msb_allOnes (show 0 < 32 by decide)]
  rw [msb a h0 h1, msb b h2 h3, msb ((a - b - c) % 4294967296) (by omega) (by omega)]
  unfold sbor
  by_cases ha : 2147483648 ≤ a <;> by_cases hb : 2147483648 ≤ b <;> by_cases hd : 2147483648 ≤ (a - b - c) % 4294967296 <;> by_cases hl : a < b + c <;> simp [ha, hb, hd, hl] <;> omega

/-! digits -/
def B : Nat := 4294967296
theorem B_pos (i : Nat) : 0 < B ^ i := Nat.pow_pos (by decide)
theorem B_eq (i : Nat) : B ^ i = 256 ^ (4 * i) := by rw [Nat.pow_mul]; rfl
theorem P_pos (i : Nat) : 0 < 256 ^ i := Nat.pow_pos (by decide)
def digN (L n : Nat) : List Int := (List.range L).map fun j => ((n / B ^ j % B : Nat) : Int)
@[simp] theorem length_digN (L n : Nat) : (digN L n).length = L := by simp [digN]
theorem get_digN {L n j : Nat} (h : j < L) : (digN L n)[j]? = some ((n / B ^ j % B : Nat) : Int) := by
  simp [digN, h]
theorem rd_digN {L n j : Nat} (h : j < L) : rd (digN L n) (j : Int) = ((n / B ^ j % B : Nat) : Int) := by
  unfold rd
  rw [List.getD_eq_getElem?_getD, Int.toNat_natCast, get_digN h]; rfl
theorem digN_ext {L n : Nat} {l : List Int} (hl : l.length = L) (h : ∀ j, j < L → l[j]? = some ((n / B ^ j % B : Nat) : Int)) : l = digN L n := by
  apply List.ext_getElem?
  intro j
  rcases Nat.lt_or_ge j L with hj | hj
  · rw [h j hj, get_digN hj]
  · rw [List.getElem?_eq_none (by omega), List.getElem?_eq_none (by simpa using hj)]
theorem digN_zero (L : Nat) : List.replicate L (0 : Int) = digN L 0 := by
  apply digN_ext (by simp)
  intro j hj
  simp [hj]
theorem digN_take {L m n : Nat} (h : m ≤ L) : (digN L n).take m = digN m n := by
  apply digN_ext (by simp [h])
  intro j hj
  rw [List.getElem?_take_of_lt hj, get_digN (by omega)]
theorem digN_one (n : Nat) (h : n < B) : digN 1 n = [(n : Int)] := by
  have e : n / B ^ 0 % B = n := by rw [Nat.pow_zero, Nat.div_one, Nat.mod_eq_of_lt h]
  show [((n / B ^ 0 % B : Nat) : Int)] = _
  rw [e]
/-- One digit is laid anew. -/
theorem parts {b : Nat} (hb : 0 < b) (n j : Nat) : n = n / b ^ (j + 1) * b ^ (j + 1) + n / b ^ j % b * b ^ j + n % b ^ j := by
  have h1 := Nat.div_add_mod n (b ^ j)
  have h2 := Nat.div_add_mod (n / b ^ j) b
  rw [Nat.div_div_eq_div_mul, ← Nat.pow_succ] at h2
  have h3 : b ^ (j + 1) = b * b ^ j := by rw [Nat.pow_succ, Nat.mul_comm]
  generalize n / b ^ (j + 1) = q at *
  generalize n / b ^ j % b = r at *
  generalize n / b ^ j = x at *
  generalize n % b ^ j = y at *
  rw [h3]
  rw [← h1, ← h2]
  grind
theorem low_lt {b : Nat} {a j lo : Nat} (ha : a < b) (hlo : lo < b ^ j) : a * b ^ j + lo < b ^ (j + 1) := by
  calc a * b ^ j + lo < a * b ^ j + b ^ j := by omega
    _ = (a + 1) * b ^ j := by rw [Nat.add_mul, Nat.one_mul]
    _ ≤ b * b ^ j := Nat.mul_le_mul_right _ ha
    _ = b ^ (j + 1) := by rw [Nat.pow_succ, Nat.mul_comm]
theorem gdig_far {b : Nat} (hb : 0 < b) {m n j t v : Nat} (hv : v < b) (hm : m + n / b ^ j % b * b ^ j = n + v * b ^ j) (ht : t ≠ j) : m / b ^ t % b = n / b ^ t % b := by
  have hp : ∀ i, 0 < b ^ i := fun i => Nat.pow_pos hb
  have hn := parts hb n j
  have hdB : n / b ^ j % b < b := Nat.mod_lt _ hb
  have hlo := Nat.mod_lt n (hp j)
  generalize n / b ^ (j + 1) = hi at hn
  generalize n / b ^ j % b = d at hn hm hdB
  generalize n % b ^ j = lo at hn hlo
  have hm' : m = hi * b ^ (j + 1) + v * b ^ j + lo := by omega
  rcases Nat.lt_or_gt_of_ne ht with h | h
  · obtain ⟨e, rfl⟩ : ∃ e, j = t + 1 + e := ⟨j - t - 1, by omega⟩
    have e1 : ∀ a, hi * b ^ (t + 1 + e + 1) + a * b ^ (t + 1 + e) + lo = lo + b ^ t * (b * (hi * b ^ (e + 1) + a * b ^ e)) := by
      intro a; simp only [Nat.pow_succ, Nat.pow_add]; grind
    rw [hm', hn, e1, e1, Nat.add_mul_div_left _ _ (hp t), Nat.add_mul_div_left _ _ (hp t), Nat.add_mul_mod_self_left, Nat.add_mul_mod_self_left]
  · obtain ⟨e, rfl⟩ : ∃ e, t = j + 1 + e := ⟨t - j - 1, by omega⟩
    have e2 : ∀ a, a < b → (hi * b ^ (j + 1) + a * b ^ j + lo) / b ^ (j + 1 + e) = hi / b ^ e := by
      intro a ha
      rw [Nat.pow_add b (j + 1) e, ← Nat.div_div_eq_div_mul]
      congr 1
      rw [Nat.add_assoc, Nat.mul_comm, Nat.mul_add_div (hp _), Nat.div_eq_of_lt (low_lt ha hlo), Nat.add_zero]
    rw [hm', hn, e2 v hv, e2 d hdB]
theorem gdig_at {b : Nat} (hb : 0 < b) {m n j v : Nat} (hv : v < b) (hm : m + n / b ^ j % b * b ^ j = n + v * b ^ j) : m / b ^ j % b = v := by
  have hn := parts hb n j
  have hlo := Nat.mod_lt n (Nat.pow_pos (n := j) hb)
  generalize n / b ^ (j + 1) = hi at hn
  generalize n / b ^ j % b = d at hn hm
  generalize n % b ^ j = lo at hn hlo
  have hm' : m = lo + b ^ j * (v + b * hi) := by rw [Nat.pow_succ] at hn; grind
  rw [hm', Nat.add_mul_div_left _ _ (Nat.pow_pos hb), Nat.div_eq_of_lt hlo, Nat.zero_add, Nat.add_mul_mod_self_left, Nat.mod_eq_of_lt hv]
theorem B0 : 0 < B := by decide
theorem dig_far {m n j t v : Nat} (hv : v < B) (hm : m + n / B ^ j % B * B ^ j = n + v * B ^ j) (ht : t ≠ j) : m / B ^ t % B = n / B ^ t % B := gdig_far B0 hv hm ht
theorem dig_at {m n j v : Nat} (hv : v < B) (hm : m + n / B ^ j % B * B ^ j = n + v * B ^ j) : m / B ^ j % B = v := gdig_at B0 hv hm
theorem digN_set {L m n j v : Nat} (hj : j < L) (hv : v < B) (hm : m + n / B ^ j % B * B ^ j = n + v * B ^ j) : (digN L n).set j (v : Int) = digN L m := by
  apply digN_ext (by simp)
  intro t ht
  by_cases e : t = j
  · subst e
    rw [List.getElem?_set_self (by simpa using ht), dig_at hv hm]
  · rw [List.getElem?_set_ne (by omega), get_digN ht, dig_far hv hm e]
/-- The next digit of a number that has none there yet. -/
theorem digN_put {L n j v : Nat} (hj : j < L) (hv : v < B) (hn : n < B ^ j) : (digN L n).set j (v : Int) = digN L (n + v * B ^ j) := by
  apply digN_set hj hv
  rw [Nat.div_eq_of_lt hn]; simp
theorem mod_succ (n i : Nat) : n % B ^ (i + 1) = n % B ^ i + n / B ^ i % B * B ^ i := by
  rw [Nat.pow_succ, Nat.mod_mul, Nat.mul_comm (B ^ i)]
theorem modP_succ (n i : Nat) : n % 256 ^ (i + 1) = n % 256 ^ i + n / 256 ^ i % 256 * 256 ^ i := by
  rw [Nat.pow_succ, Nat.mod_mul, Nat.mul_comm (256 ^ i)]
/-- How many digits. -/
def nl (n : Nat) : Nat := if h : n = 0 then 0 else nl (n / B) + 1
termination_by n
decreasing_by exact Nat.div_lt_self (by omega) (by decide)
theorem nl_zero : nl 0 = 0 := by rw [nl]; simp
theorem nl_pos {n : Nat} (h : n ≠ 0) : nl n = nl (n / B) + 1 := by rw [nl]; simp [h]
theorem nl_lt (n : Nat) : n < B ^ nl n := by
  induction n using Nat.strongRecOn with
  | _ n ih =>
    by_cases h : n = 0
    · subst h; rw [nl_zero]; decide
    · rw [nl_pos h, Nat.pow_succ]
      have := ih (n / B) (Nat.div_lt_self (by omega) (by decide))
      exact (Nat.div_lt_iff_lt_mul (by decide)).1 this
theorem nl_ge {n : Nat} (h : n ≠ 0) : B ^ (nl n - 1) ≤ n := by
  induction n using Nat.strongRecOn with
  | _ n ih =>
    rw [nl_pos h]
    by_cases h0 : n / B = 0
    · rw [h0, nl_zero]; simp; omega
    · have := ih (n / B) (Nat.div_lt_self (by omega) (by decide)) h0
      have e : nl (n / B) + 1 - 1 = (nl (n / B) - 1) + 1 := by rw [nl_pos h0]; omega
      rw [e, Nat.pow_succ]
      exact (Nat.le_div_iff_mul_le (by decide)).1 this
theorem B_lt_pow {a b : Nat} (h : B ^ a < B ^ b) : a < b := (Nat.pow_lt_pow_iff_right (by decide)).1 h
theorem nl_le {n L : Nat} (h : n < B ^ L) : nl n ≤ L := by
  by_cases h0 : n = 0
  · subst h0; rw [nl_zero]; omega
  · have := B_lt_pow (Nat.lt_of_le_of_lt (nl_ge h0) h)
    omega
theorem nl_eq {n j : Nat} (h : n < B ^ (j + 1)) (h' : B ^ j ≤ n) : nl n = j + 1 := by
  have h1 := nl_le h
  have := B_lt_pow (Nat.lt_of_le_of_lt h' (nl_lt n))
  omega
theorem nl_mono {n m : Nat} (h : n ≤ m) : nl n ≤ nl m := nl_le (Nat.lt_of_le_of_lt h (nl_lt m))
theorem lt_of_nl {n m : Nat} (h : nl n < nl m) : n < m := by
  rcases Nat.lt_or_ge n m with h' | h'
  · exact h'
  · have := nl_mono h'; omega
/-- A number's own digits. -/
def dig (n : Nat) : List Int := digN (nl n) n
@[simp] theorem length_dig (n : Nat) : (dig n).length = nl n := length_digN _ _
theorem rd_dig {n j : Nat} (h : j < nl n) : rd (dig n) (j : Int) = ((n / B ^ j % B : Nat) : Int) := rd_digN h
theorem dig_zero : dig 0 = [] := by unfold dig; rw [nl_zero]; rfl
theorem dig_one {n : Nat} (h : n < B) (h0 : n ≠ 0) : dig n = [(n : Int)] := by
  unfold dig
  rw [nl_eq (j := 0) (by simpa using h) (by simp; omega), digN_one n h]
theorem dgt_lt (n j : Nat) : n / B ^ j % B < B := Nat.mod_lt _ (by decide)
theorem dgt_lt' (n j : Nat) : n / B ^ j % B < 4294967296 := dgt_lt n j

/-! strings -/
def sv (s : ByteArray) : Nat := s.data.toList.foldl (fun a b => a * 256 + b.toNat) 0
def fl (l : List UInt8) (a : Nat) : Nat := l.foldl (fun a b => a * 256 + b.toNat) a
theorem fl_cons (x : UInt8) (l : List UInt8) (a : Nat) : fl (x :: l) a = fl l (a * 256 + x.toNat) := rfl
theorem fl_add (l : List UInt8) (a : Nat) : fl l a = a * 256 ^ l.length + fl l 0 := by
  induction l generalizing a with
  | nil => simp [fl]
  | cons x l ih =>
    rw [fl_cons, fl_cons, ih, ih (0 * 256 + x.toNat), List.length_cons, Nat.pow_succ]
    grind
theorem fl_lt (l : List UInt8) : fl l 0 < 256 ^ l.length := by
  induction l with
  | nil => simp [fl]
  | cons x l ih =>
    rw [fl_cons, fl_add, List.length_cons, Nat.pow_succ]
    have := x.toNat_lt
    calc (0 * 256 + x.toNat) * 256 ^ l.length + fl l 0 < x.toNat * 256 ^ l.length + 256 ^ l.length := by simp; exact ih
      _ = (x.toNat + 1) * 256 ^ l.length := by grind
      _ ≤ 256 * 256 ^ l.length := Nat.mul_le_mul_right _ (by omega)
      _ = 256 ^ l.length * 256 := Nat.mul_comm _ _
theorem fl_get (l : List UInt8) (j : Nat) (h : j < l.length) : (l[j]'h).toNat = fl l 0 / 256 ^ (l.length - 1 - j) % 256 := by
  induction l generalizing j with
  | nil => simp at h
  | cons x l ih =>
    have hl := fl_lt l
    have hx := x.toNat_lt
    rw [fl_cons, fl_add]
    cases j with
    | zero =>
      simp only [List.getElem_cons_zero, List.length_cons, Nat.add_sub_cancel, Nat.sub_zero]
      rw [Nat.mul_comm, Nat.mul_add_div (P_pos _), Nat.div_eq_of_lt hl]; omega
    | succ j =>
      simp only [List.length_cons] at h
      simp only [List.getElem_cons_succ, List.length_cons, Nat.add_sub_cancel]
      rw [ih j (by omega), show l.length - (j + 1) = l.length - 1 - j by omega]
      obtain ⟨e, he⟩ : ∃ e, l.length = (l.length - 1 - j) + 1 + e := ⟨j, by omega⟩
      have : (0 * 256 + x.toNat) * 256 ^ l.length + fl l 0 = fl l 0 + 256 ^ (l.length - 1 - j) * (256 * (x.toNat * 256 ^ e)) := by
        have e2 : 256 ^ l.length = 256 ^ (l.length - 1 - j) * 256 * 256 ^ e := by
          rw [← Nat.pow_succ, ← Nat.pow_add]; congr 1
        rw [e2]; grind
      rw [this, Nat.add_mul_div_left _ _ (P_pos _), Nat.add_mul_mod_self_left]
theorem sv_lt (s : ByteArray) : sv s < 256 ^ s.size := by have := fl_lt s.data.toList; simpa [sv, fl] using this
theorem bt_sv {s : ByteArray} {j : Nat} (h : j < s.size) : bt s (j : Int) = ((sv s / 256 ^ (s.size - 1 - j) % 256 : Nat) : Int) := by
  unfold bt
  rw [dif_pos (by simpa using h)]
  have := fl_get s.data.toList j (by simpa using h)
  simp only [Int.toNat_natCast]
  have e : s[j]'h = s.data.toList[j]'(by simpa using h) := rfl
  rw [e, this]; simp [sv, fl]
def beU (W n : Nat) : List UInt8 := (List.range W).map fun j => UInt8.ofNat (n / 256 ^ (W - 1 - j) % 256)
/-- A number as a string of a width. -/
def sN (W n : Nat) : ByteArray := ⟨(beU W n).toArray⟩
@[simp] theorem size_sN (W n : Nat) : (sN W n).size = W := by
  show (beU W n).toArray.size = W
  simp [beU]
theorem sN_sv (s : ByteArray) : s = sN s.size (sv s) := by
  apply ByteArray.ext
  apply Array.toList_inj.1
  show s.data.toList = beU s.size (sv s)
  apply List.ext_getElem
  · simp [beU]
  · intro j h1 h2
    have := fl_get s.data.toList j h1
    have e : (beU s.size (sv s))[j]'h2 = UInt8.ofNat (sv s / 256 ^ (s.size - 1 - j) % 256) := by simp [beU]
    rw [e]
    apply UInt8.toNat_inj.1
    rw [this]
    simp [sv, fl, Nat.mod_mod_of_dvd]
theorem bt_sN {W n j : Nat} (h : j < W) : bt (sN W n) (j : Int) = ((n / 256 ^ (W - 1 - j) % 256 : Nat) : Int) := by
  unfold bt
  rw [dif_pos (by simpa using h)]
  simp only [Int.toNat_natCast]
  have e : (sN W n)[j]'(by simpa using h) = (beU W n)[j]'(by simpa [beU] using h) := rfl
  rw [e]
  simp [beU]
theorem sv_sN {W n : Nat} (h : n < 256 ^ W) : sv (sN W n) = n := by
  have h1 := sN_sv (sN W n)
  have h2 := sv_lt (sN W n)
  rw [size_sN] at h1 h2
  induction W generalizing n with
  | zero => simp at h h2; omega
  | succ W ih => 
    have : ∀ m, m < 256 ^ (W + 1) → m = (List.range (W + 1)).foldr (fun j a => (bt (sN (W + 1) m) ((W - j : Nat) : Int)).toNat * 256 ^ j + a) 0 := by
      intro m hm
      have key : ∀ L, L ≤ W + 1 → (List.range L).foldr (fun j a => (bt (sN (W + 1) m) ((W - j : Nat) : Int)).toNat * 256 ^ j + a) 0 = m % 256 ^ L := by
        intro L
        induction L with
        | zero => intro _; simp [Nat.mod_one]
        | succ L ihL =>
          intro hL
          have gen : ∀ (l : List Nat) (c : Nat) (f : Nat → Nat), l.foldr (fun j a => f j + a) c = l.foldr (fun j a => f j + a) 0 + c := by
            intro l c f
            induction l with
            | nil => simp
            | cons x l ih => simp only [List.foldr_cons]; rw [ih]; omega
          rw [List.range_succ, List.foldr_append, List.foldr_cons, List.foldr_nil, gen, ihL (by omega), modP_succ, bt_sN (by omega)]
          rw [show W + 1 - 1 - (W - L) = L by omega, Int.toNat_natCast]
          omega
      rw [key (W + 1) (by omega), Nat.mod_eq_of_lt hm]
    have e := this _ h2
    rw [← h1, ← this _ h] at e
    exact e
theorem sN_zero (n : Nat) : sN 0 n = ByteArray.empty := rfl
/-- How many bytes. -/
def nb (n : Nat) : Nat := if h : n = 0 then 0 else nb (n / 256) + 1
termination_by n
decreasing_by exact Nat.div_lt_self (by omega) (by decide)
theorem nb_zero : nb 0 = 0 := by rw [nb]; simp
theorem nb_pos {n : Nat} (h : n ≠ 0) : nb n = nb (n / 256) + 1 := by rw [nb]; simp [h]
theorem nb_lt (n : Nat) : n < 256 ^ nb n := by
  induction n using Nat.strongRecOn with
  | _ n ih =>
    by_cases h : n = 0
    · subst h; rw [nb_zero]; decide
    · rw [nb_pos h, Nat.pow_succ]
      have := ih (n / 256) (Nat.div_lt_self (by omega) (by decide))
      exact (Nat.div_lt_iff_lt_mul (by decide)).1 this
theorem nb_ge {n : Nat} (h : n ≠ 0) : 256 ^ (nb n - 1) ≤ n := by
  induction n using Nat.strongRecOn with
  | _ n ih =>
    rw [nb_pos h]
    by_cases h0 : n / 256 = 0
    · rw [h0, nb_zero]; simp; omega
    · have := ih (n / 256) (Nat.div_lt_self (by omega) (by decide)) h0
      have e : nb (n / 256) + 1 - 1 = (nb (n / 256) - 1) + 1 := by rw [nb_pos h0]; omega
      rw [e, Nat.pow_succ]
      exact (Nat.le_div_iff_mul_le (by decide)).1 this
theorem P_lt_pow {a b : Nat} (h : 256 ^ a < 256 ^ b) : a < b := (Nat.pow_lt_pow_iff_right (by decide)).1 h
theorem nb_le {n L : Nat} (h : n < 256 ^ L) : nb n ≤ L := by
  by_cases h0 : n = 0
  · subst h0; rw [nb_zero]; omega
  · have := P_lt_pow (Nat.lt_of_le_of_lt (nb_ge h0) h)
    omega
theorem nb_eq {n j : Nat} (h : n < 256 ^ (j + 1)) (h' : 256 ^ j ≤ n) : nb n = j + 1 := by
  have h1 := nb_le h
  have := P_lt_pow (Nat.lt_of_le_of_lt h' (nb_lt n))
  omega
theorem nb_mono {n m : Nat} (h : n ≤ m) : nb n ≤ nb m := nb_le (Nat.lt_of_le_of_lt h (nb_lt m))
/-- A number's own string. -/
def enc (n : Nat) : ByteArray := sN (nb n) n
@[simp] theorem size_enc (n : Nat) : (enc n).size = nb n := size_sN _ _
theorem sv_enc (n : Nat) : sv (enc n) = n := sv_sN (nb_lt n)
theorem enc_inj {n m : Nat} (h : enc n = enc m) : n = m := by rw [← sv_enc n, h, sv_enc]
theorem enc_zero : enc 0 = ByteArray.empty := by unfold enc; rw [nb_zero]; rfl
theorem enc_one : enc 1 = ⟨#[1]⟩ := by
  unfold enc
  rw [nb_eq (j := 0) (by decide) (by decide)]
  rfl
theorem enc_eq_empty {n : Nat} : enc n = ByteArray.empty ↔ n = 0 := ⟨fun h => by rw [← sv_enc n, h]; rfl, fun h => by rw [h, enc_zero]⟩
theorem nb_le_nl (n : Nat) : nb n ≤ 4 * nl n := nb_le (by rw [← B_eq]; exact nl_lt n)
theorem nl_le_nb (n : Nat) : nl n ≤ (nb n + 3) / 4 := nl_le (by
  rw [B_eq]
  exact Nat.lt_of_lt_of_le (nb_lt n) (Nat.pow_le_pow_right (by decide) (by omega)))
theorem nb_sv (s : ByteArray) : nb (sv s) ≤ s.size := nb_le (sv_lt s)
end Go.Proofs.YtiamgjepcagohaaDoor.Ari
