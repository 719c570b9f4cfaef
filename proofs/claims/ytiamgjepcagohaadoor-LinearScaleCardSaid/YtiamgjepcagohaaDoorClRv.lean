/- ClRv: lemmas of this claim, of 3 texts. -/
import Derived.Test.YtiamgjepcagohaaDoorClStep
import Derived.Test.YtiamgjepcagohaaDoorClNat
import Derived.Outline
import Derived.Test.YtiamgjepcagohaaDoorClAri
section
namespace Go.Proofs.YtiamgjepcagohaaDoor.P
open Go Go.RowKit Go.Proofs.YtiamgjepcagohaaDoorW.PrintWords Go.Proofs.YtiamgjepcagohaaDoorW.PrintLast Go.Proofs.YtiamgjepcagohaaDoorW.PrintMore Go.Proofs.YtiamgjepcagohaaDoor.Ari

/-- A slice that reads as a list of digits. -/
def Rd (w : World) (v : Value) (l : List Int) : Prop := ∃ A c, v = .slice A l.length c ∧ l.length ≤ c ∧ Kd.C (Kd.int .u32) w A l.length l
theorem Rd.below {w w' : World} {v : Value} {l : List Int} (h : Rd w v l) (hb : Below w.heap.size w w') : Rd w' v l := by
  obtain ⟨A, c, rfl, hl, hC⟩ := h
  exact ⟨A, c, rfl, hl, Kd.C_below hC hb⟩
theorem Rd.of_R {w : World} {e base : Nat} {ok : Nat → Prop} {v : Value} {l : List Int} (h : Kd.R (Kd.int .u32) e w base ok v l) : Rd w v l := by
  obtain ⟨A, c, e, hl, hC⟩ := Kd.R_reads h
  exact ⟨A, c, e, hl, hC⟩
theorem C_drawn {w w' : World} {A : Option Addr} {n : Nat} {l : List Int} (h : Kd.C (Kd.int .u32) w A n l) (hd : Drawn0 w w') : Kd.C (Kd.int .u32) w' A n l := Kd.C_below h hd.below

/-! the contracts, on numbers -/
section
variable {w : World} {x y : Nat} {A0 A1 : Option Addr} {c0 c1 : Nat}
theorem compare_calls (hx : Kd.C (Kd.int .u32) w A0 (nl x) (dig x)) (hc0 : nl x ≤ c0) (hy : Kd.C (Kd.int .u32) w A1 (nl y) (dig y)) (hc1 : nl y ≤ c1) (hxs : nl x ≤ 17592186044416) (hys : nl y ≤ 17592186044416) :
    Calls Tryd.prog 67 #[.slice A0 (nl x) c0, .slice A1 (nl y) c1] w fun e w' => e = .returned (.int .i64 (cmp x y)) ∧ Drawn0 w w' := by
  obtain ⟨k, hk⟩ := (compare_ev (a := x) (b := y) (by omega) (by omega)).rounds
  have := natural_compare.calls k A0 c0 (dig x) A1 c1 (dig y) _ w (by rw [length_dig]; exact hx) (by rw [length_dig]; exact hc0) (by rw [length_dig]; exact hy) (by rw [length_dig]; exact hc1) hk
  rwa [length_dig, length_dig] at this
theorem small_calls {d : Nat} (hx : Kd.C (Kd.int .u32) w A0 (nl x) (dig x)) (hc0 : nl x ≤ c0) (hxs : nl x ≤ 17592186044416) (hd : 0 < d) (hdB : d < 4294967296) :
    Calls Tryd.prog 82 #[.slice A0 (nl x) c0, .int .u32 (d : Int)] w fun e w' => ∃ v, e = .returned (.tuple #[v, .int .u32 ((x % d : Nat) : Int)]) ∧ Rd w' v (dig (x / d)) ∧ Below w.heap.size w w' := by
  obtain ⟨k, hk⟩ := (divideSmall_ev (a := x) hd hdB (by omega)).rounds
  have := natural_divideSmall.calls k A0 c0 (dig x) (d : Int) _ _ w (by rw [length_dig]; exact hx) (by rw [length_dig]; exact hc0) hk
  rw [length_dig] at this
  exact this.mono fun e w' ⟨v, he, hR, hb⟩ => ⟨v, he, Rd.of_R hR, hb⟩
theorem shift_calls {by_ n : Nat} (hx : Kd.C (Kd.int .u32) w A0 (nl x) (dig x)) (hc0 : nl x ≤ c0) (hb : by_ < 32) (hn : n ≤ 70368744177664) (hm : nl x ≤ n) (hxn : x * 2 ^ by_ < B ^ n) :
    Calls Tryd.prog 84 #[.slice A0 (nl x) c0, .int .u64 (by_ : Int), .int .i64 (n : Int)] w fun e w' => ∃ v, e = .returned v ∧ Kd.R (Kd.int .u32) 85 w' w.heap.size (fun _ => True) v (digN n (x * 2 ^ by_)) ∧ Below w.heap.size w w' := by
  obtain ⟨k, hk⟩ := (shift_ev hb hn hm hxn).rounds
  have := natural_shift.calls k A0 c0 (dig x) (by_ : Int) (n : Int) _ w (by rw [length_dig]; exact hx) (by rw [length_dig]; exact hc0) hk
  rwa [length_dig] at this
theorem unshift_calls {by_ m : Nat} (hx : Kd.C (Kd.int .u32) w A0 m (digN m x)) (hc0 : m ≤ c0) (hb : by_ < 32) (hm : m ≤ 70368744177664) (hxm : x < B ^ m) :
    Calls Tryd.prog 86 #[.slice A0 m c0, .int .u64 (by_ : Int)] w fun e w' => ∃ v, e = .returned v ∧ Kd.R (Kd.int .u32) 85 w' w.heap.size (fun _ => True) v (dig (x / 2 ^ by_)) ∧ Below w.heap.size w w' := by
  obtain ⟨k, hk⟩ := (unshift_ev hb hm hxm).rounds
  have := natural_unshift.calls k A0 c0 (digN m x) (by_ : Int) _ w (by rw [length_digN]; exact hx) (by rw [length_digN]; exact hc0) hk
  rwa [length_digN] at this
theorem trim_calls {w0 : World} {P0 : Nat → Prop} {u : Value} {L n : Nat} (hB : Below w0.heap.size w0 w) (hR : Kd.R (Kd.int .u32) 85 w w0.heap.size P0 u (digN L n)) (hL : L ≤ 70368744177664) (hn : n < B ^ L) :
    Calls Tryd.prog 71 #[u] w fun e w' => ∃ v, e = .returned v ∧ Rd w' v (dig n) ∧ (∀ k, v.ownBlock = some k → P0 k ∨ w.heap.size ≤ k) ∧ Below w0.heap.size w0 w' ∧ Kept w w' P0 := by
  obtain ⟨k, hk⟩ := (trim_ev hL hn).rounds
  have := natural_limbs_trim.calls k P0 u (digN L n) _ w0 w hB hR hk
  exact this.mono fun e w' ⟨v, he, hR, hb, hk⟩ => ⟨v, he, Rd.of_R hR, hR.1, hb, hk⟩
theorem trimC_calls {w0 : World} {P0 : Nat → Prop} {u : Value} {L n : Nat} (hR : Kd.R (Kd.int .u32) 85 w w0.heap.size P0 u (digN L n)) (hB : Below w0.heap.size w0 w) (hL : L ≤ 70368744177664) (hn : n < B ^ L) :
    Calls Tryd.prog 71 #[u] w fun e w' => ∃ v, e = .returned v ∧ Rd w' v (dig n) ∧ Chg w w' P0 :=
  (trim_calls hB hR hL hn).mono fun e w' ⟨v, he, hR, _, hb, hk⟩ => ⟨v, he, hR, ⟨hb.os.trans hB.os.symm, hb.tape.trans hB.tape.symm, hb.output.trans hB.output.symm, hk.1, hk.2⟩⟩
theorem textR_calls (hx : Kd.C (Kd.int .u32) w A0 (nl x) (dig x)) (hc0 : nl x ≤ c0) (hxs : nl x ≤ 35184372088832) :
    Calls Tryd.prog 53 #[.slice A0 (nl x) c0] w fun e w' => e = .returned (.string (enc x)) ∧ Below w.heap.size w w' := by
  obtain ⟨k, hk⟩ := (text_dig hxs).rounds
  have := natural_limbs_text.calls k A0 c0 (dig x) _ w (by rw [length_dig]; exact hx) (by rw [length_dig]; exact hc0) hk
  rwa [length_dig] at this
theorem parse_calls (s : ByteArray) (hs : s.size ≤ 140737488355328) :
    Calls Tryd.prog 52 #[.string s] w fun e w' => ∃ v, e = .returned v ∧ Rd w' v (dig (sv s)) ∧ Below w.heap.size w w' := by
  obtain ⟨k, hk⟩ := (parse_ev s hs).rounds
  exact (natural_parse.calls k s _ w hk).mono fun e w' ⟨v, he, hR, hb⟩ => ⟨v, he, Rd.of_R hR, hb⟩
theorem lz_calls {d : Nat} (hd : 0 < d) (hdB : d < 4294967296) :
    Calls Tryd.prog 83 #[.int .u32 (d : Int)] w fun e w' => (∃ z : Nat, e = .returned (.int .i64 (z : Int)) ∧ z < 32 ∧ d * 2 ^ z < 4294967296 ∧ 2147483648 ≤ d * 2 ^ z) ∧ Drawn0 w w' := by
  have hl := Lib.bitLen_le d 32 (by omega) hdB
  have h1 : ∀ (b x : Nat), x ≠ 0 → x < 2 ^ 64 → Lib.bitLen x = b → x < 2 ^ b ∧ 2 ^ b ≤ 2 * x ∧ 0 < b := by
    intro b
    induction b with
    | zero =>
      intro x h0 hx hb
      rw [Lib.bitLen_half x h0 hx] at hb
      omega
    | succ b ih =>
      intro x h0 hx hb
      rw [Lib.bitLen_half x h0 hx] at hb
      by_cases h2 : x / 2 = 0
      · rw [h2] at hb
        have : Lib.bitLen 0 = 0 := by decide
        rw [this] at hb
        obtain rfl : b = 0 := by omega
        omega
      · have := ih (x / 2) h2 (by omega) (by omega)
        rw [Nat.pow_succ]
        omega
  obtain ⟨h2, h3, h4⟩ := h1 _ d (by omega) (by omega) rfl
  have hz : (32 : Int) - (Lib.bitLen d : Int) = ((32 - Lib.bitLen d : Nat) : Int) := by omega
  have hf : bits_LeadingZeros32.f (d : Int) = some (((32 - Lib.bitLen d : Nat) : Int)) := by
    unfold bits_LeadingZeros32.f
    rw [if_pos (by omega), Int.toNat_natCast, hz]
  refine (bits_LeadingZeros32.calls _ _ w hf).mono fun e w' ⟨he, hd⟩ => ⟨⟨_, he, by omega, ?_, ?_⟩, hd⟩
  · calc d * 2 ^ (32 - Lib.bitLen d) < 2 ^ Lib.bitLen d * 2 ^ (32 - Lib.bitLen d) := Nat.mul_lt_mul_of_pos_right h2 (Nat.two_pow_pos _)
      _ = 4294967296 := by rw [← Nat.pow_add, show Lib.bitLen d + (32 - Lib.bitLen d) = 32 by omega]
  · have h5 : 2 ^ Lib.bitLen d * 2 ^ (32 - Lib.bitLen d) = 4294967296 := by rw [← Nat.pow_add, show Lib.bitLen d + (32 - Lib.bitLen d) = 32 by omega]
    have h6 := Nat.mul_le_mul_right (2 ^ (32 - Lib.bitLen d)) h3
    rw [h5, Nat.mul_assoc] at h6
    omega
end

set_option maxHeartbeats 8000000 in
set_option maxRecDepth 1000000 in
theorem natural_divide.lt (x y : Nat) (A0 A1 : Option Addr) (c0 c1 : Nat) (w : World) (hx : Kd.C (Kd.int .u32) w A0 (nl x) (dig x)) (hc0 : nl x ≤ c0) (hy : Kd.C (Kd.int .u32) w A1 (nl y) (dig y)) (hc1 : nl y ≤ c1)
    (hxs : nl x ≤ 17592186044416) (hys : nl y ≤ 17592186044416) (hlt : x < y) :
    Calls Tryd.prog 70 #[.slice A0 (nl x) c0, .slice A1 (nl y) c1] w fun e w' => e = .returned (.tuple #[.slice none 0 0, .slice A0 (nl x) c0]) ∧ Drawn0 w w' := by
  have hcmp : cmp x y = -1 := by simp [cmp, hlt]
  have hc := fun W (hd : Drawn0 w W) => compare_calls (C_drawn hx hd) hc0 (C_drawn hy hd) hc1 hxs hys
  rw [hcmp] at hc
  have HC := Aside0.mk hc
  clear hc hx hy hcmp
  go_enter Tryd.func70, Tryd.ntmps70
  go_wp2_with (go_at_call 67; refine (HC.out _ (Drawn0.refl _)).mono ?_; rintro e w' ⟨rfl, ⟨n, rfl⟩⟩)
  go_ret2
  exact ⟨rfl, ⟨⟨_, rfl⟩⟩⟩

theorem R_lit1 (W : World) (r : Int) (e : Nat) : Kd.R (Kd.int .u32) e (W.alloc (.cells #[.int .u32 r] e)) W.heap.size (fun _ => True) (.slice (some ⟨W.heap.size, 0, none⟩) 1 1) [r] := by
  refine ⟨fun _ _ => trivial, [.int .u32 r], ?_, Reps.one (show Kd.M (Kd.int .u32) _ _ _ r [.int .u32 r] from rfl) (Reps.none _ _)⟩
  have h2 := World.ownsRow_lit (base := W.heap.size) (e := e) (size := 1) W #[.int .u32 r] 1 (Nat.le_refl _) (by decide) (by simp)
  show (W.alloc (.cells #[.int .u32 r] e)).ownsRow W.heap.size e 1 (.slice (some ⟨W.heap.size, 0, none⟩) 1 1) 1 [.int .u32 r]
  simpa using h2
theorem trim1_calls (W : World) {r : Nat} (hr : r < 4294967296) :
    Calls Tryd.prog 71 #[.slice (some ⟨W.heap.size, 0, none⟩) 1 1] (W.alloc (.cells #[.int .u32 (r : Int)] 85)) fun e w' => ∃ v, e = .returned v ∧ Rd w' v (dig r) ∧ Below W.heap.size W w' := by
  have h := R_lit1 W (r : Int) 85
  rw [← digN_one r hr] at h
  exact (trim_calls (w0 := W) ((Below.refl _ _).alloc (Nat.le_refl _) _) h (by decide) (by simpa [B] using hr)).mono fun e w' ⟨v, he, hR, _, hb, _⟩ => ⟨v, he, hR, hb⟩
theorem cmp_ge {x y : Nat} (h : y ≤ x) : 0 ≤ cmp x y := by unfold cmp; rw [if_neg (by omega)]; split <;> omega
theorem nl_one {y : Nat} (h0 : 0 < y) (h : y < 4294967296) : nl y = 1 := nl_eq (j := 0) (by unfold B; omega) (by simp; omega)
set_option maxHeartbeats 8000000 in
set_option maxRecDepth 1000000 in
theorem natural_divide.one (x y : Nat) (A0 A1 : Option Addr) (c0 c1 : Nat) (w : World) (hx : Kd.C (Kd.int .u32) w A0 (nl x) (dig x)) (hc0 : nl x ≤ c0) (hy : Kd.C (Kd.int .u32) w A1 1 (dig y)) (hc1 : 1 ≤ c1)
    (hxs : nl x ≤ 17592186044416) (hle : y ≤ x) (h0 : 0 < y) (hyB : y < 4294967296) :
    Calls Tryd.prog 70 #[.slice A0 (nl x) c0, .slice A1 1 c1] w fun e w' => ∃ v0 v1, e = .returned (.tuple #[v0, v1]) ∧ Rd w' v0 (dig (x / y)) ∧ Rd w' v1 (dig (x % y)) ∧ Below w.heap.size w w' := by
  have hny : nl y = 1 := nl_one h0 hyB
  obtain ⟨ad, eA, hcell⟩ := Kd.at_int hy 0 (by omega) (by omega)
  have hq : rd (dig y) 0 = (y : Int) := by rw [dig_one hyB (by omega)]; rfl
  rw [hq] at hcell
  subst eA
  have hcell' : w.cell? ad = some (.int .u32 (y : Int)) := by simpa [Addr.add] using hcell
  obtain ⟨c, hcm⟩ : ∃ c, cmp x y = c := ⟨_, rfl⟩
  have hc := fun W (hd : Drawn0 w W) => compare_calls (c1 := c1) (C_drawn hx hd) hc0 (by rw [hny]; exact C_drawn hy hd) (by rw [hny]; exact hc1) hxs (by omega)
  have hs := fun W (hd : Drawn0 w W) => small_calls (d := y) (C_drawn hx hd) hc0 hxs h0 hyB
  rw [hcm, hny] at hc
  have hcn : decide ((c : Int) < 0) = false := decide_eq_false (by have := cmp_ge hle; omega)
  have HC := Aside0.mk hc
  have HS := Aside0.mk hs
  have hr := Nat.mod_lt x h0
  obtain ⟨r, hr0⟩ : ∃ r, x % y = r := ⟨_, rfl⟩
  rw [hr0] at HS hr
  have Hr := Aside0.mk hr0
  clear hc hs hx hy hcm hcell hq hr0 hny
  go_enter Tryd.func70, Tryd.ntmps70
  go_wp2_with (first | (go_at_call 67; refine (HC.out _ (Drawn0.refl _)).mono ?_; rintro e w' ⟨rfl, ⟨n, rfl⟩⟩) | (go_at_call 82; refine (HS.out _ ⟨⟨_, rfl⟩⟩).mono ?_; rintro e w1 ⟨v1, rfl, hR1, hb1⟩) | (go_at_call 71; refine (trim1_calls w1 (Nat.lt_trans hr hyB)).mono ?_; rintro e w2 ⟨v2, rfl, hR2, hb2⟩))
  go_ret2
  refine ⟨v1, v2, rfl, hR1.below hb2, by rw [Hr.out]; exact hR2, ?_⟩
  exact below_step (w := w) (W := w.drewN n) (pw_below_drewN (Below.refl _ _) _) (below_step hb1 hb2)

theorem shl_lt {y d z n : Nat} (hd : y / B ^ n = d) (hz : z < 32) (h : d * 2 ^ z < 4294967296) : y * 2 ^ z < B ^ (n + 1) := by
  have hp : (4294967296 : Nat) = 2 ^ (32 - z) * 2 ^ z := by rw [← Nat.pow_add, show 32 - z + z = 32 by omega]
  have h1 : d + 1 ≤ 2 ^ (32 - z) := by
    rw [hp] at h
    exact Nat.lt_of_mul_lt_mul_right h
  have h2 : y < (d + 1) * B ^ n := by
    rw [← hd, Nat.add_mul, Nat.one_mul]; exact Nat.lt_div_mul_add (B_pos _)
  calc y * 2 ^ z < (d + 1) * B ^ n * 2 ^ z := Nat.mul_lt_mul_of_pos_right h2 (Nat.two_pow_pos _)
    _ ≤ 2 ^ (32 - z) * B ^ n * 2 ^ z := Nat.mul_le_mul_right _ (Nat.mul_le_mul_right _ h1)
    _ = 2 ^ (32 - z) * 2 ^ z * B ^ n := by grind
    _ = B ^ (n + 1) := by rw [← hp, Nat.pow_succ, Nat.mul_comm]; rfl
theorem shl_ge {y d z n : Nat} (hd : y / B ^ n = d) (h : 2147483648 ≤ d * 2 ^ z) : B ^ (n + 1) ≤ 2 * (y * 2 ^ z) := by
  have h2 : d * B ^ n ≤ y := by rw [← hd]; exact Nat.div_mul_le_self _ _
  calc B ^ (n + 1) = 2 * 2147483648 * B ^ n := by rw [Nat.pow_succ, Nat.mul_comm]; rfl
    _ ≤ 2 * (d * 2 ^ z) * B ^ n := Nat.mul_le_mul_right _ (Nat.mul_le_mul_left _ h)
    _ = 2 * (d * B ^ n * 2 ^ z) := by grind
    _ ≤ 2 * (y * 2 ^ z) := Nat.mul_le_mul_left _ (Nat.mul_le_mul_right _ h2)
theorem below_drawn {w W W' : World} (hd : Drawn0 w W) (hb : Below W.heap.size W W') : Below w.heap.size w W' := below_step hd.below hb
theorem R_drawn {w W W' : World} (hd : Drawn0 w W) {e : Nat} {ok : Nat → Prop} {v : Value} {l : List Int} (h : Kd.R (Kd.int .u32) e W' W.heap.size ok v l) : Kd.R (Kd.int .u32) e W' w.heap.size ok v l := by
  obtain ⟨n, rfl⟩ := hd
  exact h
theorem tight {w : World} {e base : Nat} {ok : Nat → Prop} {g L c : Nat} {xs : List Int} (h : Kd.R (Kd.int .u32) e w base ok (.slice (some ⟨g, 0, none⟩) L c) xs) : Kd.R (Kd.int .u32) e w base (fun k => k = g) (.slice (some ⟨g, 0, none⟩) L c) xs :=
  Kd.R_mono (Kd.R_tight rfl h) (fun k hk => by simpa [Value.ownBlock] using hk)
theorem quo_num {X D : Nat} : X / (D * B) * B + X % (D * B) / D = X / D := by
  rw [Nat.mod_mul_right_div_self, ← Nat.div_div_eq_div_mul, Nat.mul_comm]
  exact Nat.div_add_mod _ _
theorem C_take {w : World} {A : Option Addr} {L n : Nat} {xs : List Int} (h : Kd.C (Kd.int .u32) w A L xs) (hn : n ≤ L) : Kd.C (Kd.int .u32) w A n (xs.take n) := by
  obtain ⟨h1, h2, h3⟩ := h
  refine ⟨by rw [List.length_take]; omega, by omega, fun h0 => ?_⟩
  obtain ⟨ad, e, hc⟩ := h3 (by omega)
  refine ⟨ad, e, fun j p hj => hc j p ?_⟩
  rw [List.getElem?_take] at hj
  split at hj
  · exact hj
  · cases hj
theorem made_of {W w' : World} {ty m : Nat} {v : Value} (hR : Kd.R (Kd.int .u32) ty w' W.heap.size (fun _ => True) v (List.replicate ((m : Int) + 1).toNat 0)) :
    ∃ g cap, v = .slice (some ⟨g, 0, none⟩) (m + 1) cap ∧ W.heap.size ≤ g ∧ g < w'.heap.size ∧ Aside0 (Kd.R (Kd.int .u32) ty w' W.heap.size (fun _ => True) (.slice (some ⟨g, 0, none⟩) (m + 1) cap) (digN (m + 1) 0)) := by
  rw [show ((m : Int) + 1).toNat = m + 1 by omega, digN_zero] at hR
  obtain ⟨g, cap, rfl, h1, h2, _⟩ := Kd.R_form hR (by rw [length_digN]; omega)
  rw [length_digN] at hR ⊢
  exact ⟨g, cap, rfl, h1, h2, ⟨hR⟩⟩
theorem form_of {w w' : World} {e : Ending} {ty L N : Nat} {v : Value} (he : e = .returned v) (hR : Kd.R (Kd.int .u32) ty w' w.heap.size (fun _ => True) v (digN L N)) (hL : 0 < L) (hb : Below w.heap.size w w') :
    ∃ g cap, e = .returned (.slice (some ⟨g, 0, none⟩) L cap) ∧ w.heap.size ≤ g ∧ g < w'.heap.size ∧ Aside0 (Kd.R (Kd.int .u32) ty w' w.heap.size (fun _ => True) (.slice (some ⟨g, 0, none⟩) L cap) (digN L N)) ∧ Aside0 (Below w.heap.size w w') := by
  obtain ⟨g, cap, rfl, h1, h2, _⟩ := Kd.R_form hR (by rw [length_digN]; exact hL)
  rw [length_digN] at hR he
  exact ⟨g, cap, he, h1, h2, ⟨hR⟩, ⟨hb⟩⟩
theorem xs_lt {x z k : Nat} (hx : x < B ^ k) (hz : z < 32) : x * 2 ^ z < B ^ (k + 1) := by
  have h2 := two_le hz
  rw [Nat.pow_succ]
  exact Nat.mul_lt_mul'' hx (by unfold B; omega)
theorem xv_aux {x t P Q U V : Nat} (h2 : t ≤ U) (hU : 0 < U) (hx : x < P * Q) (hV : P ≤ 2 * V) : x * t < V * (Q * (2 * U)) := by
  have h3 : x * t < P * Q * U := Nat.lt_of_le_of_lt (Nat.mul_le_mul_left _ h2) (Nat.mul_lt_mul_of_pos_right hx hU)
  have h4 : P * Q * U ≤ 2 * V * Q * U := Nat.mul_le_mul_right _ (Nat.mul_le_mul_right _ hV)
  have h5 : 2 * V * Q * U = V * (Q * (2 * U)) := by grind
  omega
theorem xv_lt {x z n m V : Nat} (hx : x < B ^ (n + 2 + m)) (hz : z < 32) (hV : B ^ (n + 2) ≤ 2 * V) : x * 2 ^ z < V * B ^ (m + 1) := by
  have e : B ^ (n + 2 + m) = B ^ (n + 2) * B ^ m := Nat.pow_add _ _ _
  rw [e] at hx
  rw [Nat.pow_succ]
  exact xv_aux (two_le hz) (by decide) hx hV
theorem put_u {w : World} {base e : Nat} {ok : Nat → Prop} {v : Value} {L X V i : Nat} (h : Kd.R (Kd.int .u32) e w base ok v (digN L (X % (V * B ^ (i + 1)) % (V * B ^ i)))) : Kd.R (Kd.int .u32) e w base ok v (digN L (X % (V * B ^ i))) := by
  rwa [Nat.mod_mod_of_dvd] at h
  exact Nat.mul_dvd_mul_left _ (Nat.pow_dvd_pow _ (Nat.le_succ _))
theorem put_q {w : World} {base e g cap : Nat} {ok : Nat → Prop} {m X V i : Nat} (h : Kd.R (Kd.int .u32) e w base ok (.slice (some ⟨g, 0, none⟩) (m + 1) cap) (digN (m + 1) (X / (V * B ^ (i + 1)) * B ^ (i + 1)))) (hi : i < m + 1) (hX : X < V * B ^ (m + 1)) (hV : 0 < V) :
    Kd.R (Kd.int .u32) e (w.setCell ⟨g, i, none⟩ (.int .u32 ((X % (V * B ^ (i + 1)) / (V * B ^ i) : Nat) : Int))) base ok (.slice (some ⟨g, 0, none⟩) (m + 1) cap) (digN (m + 1) (X / (V * B ^ i) * B ^ i)) := by
  have h1 := (Kd.R_putg h (i : Int) ((X % (V * B ^ (i + 1)) / (V * B ^ i) : Nat) : Int)).1
  have eD : V * B ^ (i + 1) = V * B ^ i * B := by rw [Nat.pow_succ, Nat.mul_assoc]
  have hD : 0 < V * B ^ i := Nat.mul_pos hV (B_pos i)
  have hq := @quo_num X (V * B ^ i)
  rw [← eD] at hq
  have hy : X % (V * B ^ (i + 1)) / (V * B ^ i) < B := by
    rw [Nat.div_lt_iff_lt_mul hD, Nat.mul_comm B, ← eD]
    exact Nat.mod_lt _ (by rw [eD]; exact Nat.mul_pos hD B0)
  have hM : X / (V * B ^ i) * B ^ i + X / (V * B ^ (i + 1)) * B ^ (i + 1) / B ^ i % B * B ^ i = X / (V * B ^ (i + 1)) * B ^ (i + 1) + X % (V * B ^ (i + 1)) / (V * B ^ i) * B ^ i := by
    have e1 : X / (V * B ^ (i + 1)) * B ^ (i + 1) = X / (V * B ^ (i + 1)) * B * B ^ i := by rw [Nat.pow_succ, Nat.mul_comm (B ^ i), Nat.mul_assoc]
    rw [e1, Nat.mul_div_cancel _ (B_pos i), Nat.mul_mod_left, Nat.zero_mul, Nat.add_zero, ← Nat.add_mul, hq]
  have h2 := digN_set hi hy hM
  rw [← h2]
  exact h1
set_option maxHeartbeats 8000000 in
set_option maxRecDepth 1000000 in
theorem natural_divide.long (x y n m : Nat) (A0 A1 : Option Addr) (c0 c1 : Nat) (w : World) (hx : Kd.C (Kd.int .u32) w A0 (n + 2 + m) (dig x)) (hc0 : n + 2 + m ≤ c0) (hy : Kd.C (Kd.int .u32) w A1 (n + 2) (dig y)) (hc1 : n + 2 ≤ c1)
    (hxs : nl x ≤ 17592186044416) (hle : y ≤ x) (hn : nl y = n + 2) (hm : nl x = n + 2 + m) :
    Calls Tryd.prog 70 #[.slice A0 (n + 2 + m) c0, .slice A1 (n + 2) c1] w fun e w' => ∃ v0 v1, e = .returned (.tuple #[v0, v1]) ∧ Rd w' v0 (dig (x / y)) ∧ Rd w' v1 (dig (x % y)) ∧ Below w.heap.size w w' := by
  obtain ⟨ad, eA, hcell0⟩ := Kd.at_int hy ((n + 1 : Nat) : Int) (by omega) (by omega)
  subst eA
  obtain ⟨d1, hd1⟩ : ∃ d, y / B ^ (n + 1) % B = d := ⟨_, rfl⟩
  have hq : rd (dig y) ((n + 1 : Nat) : Int) = (d1 : Int) := by rw [rd_dig (by omega), hd1]
  rw [hq, Int.toNat_natCast] at hcell0
  have hcell : w.cell? ⟨ad.block, ad.off + (n + 1), none⟩ = some (.int .u32 (d1 : Int)) := by simpa [Addr.add] using hcell0
  have hylt : y < B ^ (n + 2) := by rw [← hn]; exact nl_lt y
  have hyge : B ^ (n + 1) ≤ y := by
    have h0 : y ≠ 0 := by intro h; rw [h, nl_zero] at hn; omega
    have := nl_ge h0
    rwa [hn] at this
  have hd1' : y / B ^ (n + 1) = d1 := by
    rw [← hd1, Nat.mod_eq_of_lt]
    rw [Nat.div_lt_iff_lt_mul (B_pos _), Nat.mul_comm, ← Nat.pow_succ]; exact hylt
  have hd1p : 0 < d1 := by rw [← hd1']; exact Nat.div_pos hyge (B_pos _)
  have hd1B : d1 < 4294967296 := by rw [← hd1]; exact dgt_lt' _ _
  obtain ⟨c, hcm⟩ : ∃ c, cmp x y = c := ⟨_, rfl⟩
  have hc := fun W (hd : Drawn0 w W) => compare_calls (c0 := c0) (c1 := c1) (by rw [hm]; exact C_drawn hx hd) (by rw [hm]; exact hc0) (by rw [hn]; exact C_drawn hy hd) (by rw [hn]; exact hc1) hxs (by omega)
  rw [hcm, hn, hm] at hc
  have hcn : decide ((c : Int) < 0) = false := decide_eq_false (by have := cmp_ge hle; omega)
  have HC := Aside0.mk hc
  have HL := Aside0.mk (fun W => lz_calls (w := W) hd1p hd1B)
  have hs1 : ∀ W, Drawn0 w W → ∀ z : Nat, z < 32 → d1 * 2 ^ z < 4294967296 → Calls Tryd.prog 84 #[.slice (some ad) (n + 2) c1, .int .u64 (z : Int), .int .i64 ((n : Int) + 2)] W fun e w' => ∃ g cap, e = .returned (.slice (some ⟨g, 0, none⟩) (n + 2) cap) ∧ w.heap.size ≤ g ∧ g < w'.heap.size ∧ Aside0 (Kd.R (Kd.int .u32) 85 w' w.heap.size (fun _ => True) (.slice (some ⟨g, 0, none⟩) (n + 2) cap) (digN (n + 2) (y * 2 ^ z))) ∧ Aside0 (Below w.heap.size w w') := by
    intro W hd z hz hz2
    have := shift_calls (w := W) (x := y) (A0 := some ad) (c0 := c1) (by_ := z) (n := n + 2) (by rw [hn]; exact C_drawn hy hd) (by rw [hn]; exact hc1) hz (by omega) (by omega) (shl_lt hd1' hz hz2)
    rw [hn] at this
    exact this.mono fun e w' ⟨v, he, hR, hb⟩ => form_of he (R_drawn hd hR) (by omega) (below_drawn hd hb)
  have hs2 : ∀ W, Below w.heap.size w W → ∀ z : Nat, z < 32 → Calls Tryd.prog 84 #[.slice A0 (n + 2 + m) c0, .int .u64 (z : Int), .int .i64 ((n : Int) + 2 + (m : Int) + 1)] W fun e w' => ∃ g cap, e = .returned (.slice (some ⟨g, 0, none⟩) (n + 2 + m + 1) cap) ∧ W.heap.size ≤ g ∧ g < w'.heap.size ∧ Aside0 (Kd.R (Kd.int .u32) 85 w' W.heap.size (fun _ => True) (.slice (some ⟨g, 0, none⟩) (n + 2 + m + 1) cap) (digN (n + 2 + m + 1) (x * 2 ^ z))) ∧ Aside0 (Below W.heap.size W w') := by
    intro W hb z hz
    have hlt : x * 2 ^ z < B ^ (n + 2 + m + 1) := xs_lt (by have h1 := nl_lt x; rwa [hm] at h1) hz
    have := shift_calls (w := W) (x := x) (A0 := A0) (c0 := c0) (by_ := z) (n := n + 2 + m + 1) (by rw [hm]; exact Kd.C_below hx hb) (by rw [hm]; exact hc0) hz (by omega) (by omega) hlt
    rw [hm] at this
    exact this.mono fun e w' ⟨v, he, hR, hb⟩ => form_of he hR (by omega) hb
  have HS1 := Aside0.mk hs1
  have HS2 := Aside0.mk hs2
  have Hm := Aside0.mk hm
  have Hn := Aside0.mk hn
  have Hd1 := Aside0.mk hd1'
  clear hc hs1 hs2 hx hy hcm hq hd1 hm hn hylt hyge hd1' hcell0
  have hnm : n + 2 + m ≤ 17592186044416 := by have := Hm.out; omega
  have z4 : IntKind.i64.wrap ((n : Int) + 2 - 1) = (n : Int) + 1 := by rw [i64_w, i64n (by omega) (by omega)]; omega
  have z5 : 0 ≤ (n : Int) + 1 := by omega
  have z6 : ((n : Int) + 1).toNat = n + 1 := by omega
  have z7 : (n : Int) + 1 < (n : Int) + 2 := by omega
  go_enter Tryd.func70, Tryd.ntmps70
  go_wp2_with (first | (go_at_call 67; refine (HC.out _ (Drawn0.refl _)).mono ?_; rintro e w' ⟨rfl, ⟨nd, rfl⟩⟩) | (go_at_call 83; refine (HL.out _).mono ?_; rintro e w' ⟨⟨z, rfl, hz1, hz2, hz3⟩, ⟨nd2, rfl⟩⟩))
  go_wp2_with (go_at_call 84; (with_reducible refine (HS1.out _ ⟨⟨_, rfl⟩⟩ z hz1 hz2).mono ?_); rintro e w1 ⟨gd, capd, rfl, hgd1, hgd2, HRd, HB1⟩)
  have zz : (n : Int) + 2 + (m : Int) - ((n : Int) + 2) = (m : Int) := by omega
  go_wp2_with (first | (go_at_call 84; (with_reducible refine (HS2.out _ HB1.out z hz1).mono ?_); rintro e w2 ⟨gu, capu, rfl, hgu1, hgu2, HRu, HB2⟩) | ((with_reducible refine gate_dst (N := 59) rfl ?_); refine Kd.R_make (Kd.int .u32) w2.heap.size 85 rfl (N := 59) rfl 83 _ _ rfl ((m : Int) + 1) rfl rfl Tryd.underlying83 (.int .u32 0) 4 info85 rfl (by decide) (by omega) 0 (ok := fun _ => True) (okp := fun _ => True) rfl (fun _ hk => hk) trivial (by omega) (by omega) (Below.refl _ _) (Nat.le_refl _) ?_; intro vq w3 hRq hb3 _ _; have HB3 := Aside0.mk hb3; obtain ⟨gq, capq, evq, hgq1, hgq2, HRq⟩ := made_of hRq; clear hRq hb3; subst evq))
  have hsz1 : w.heap.size ≤ w1.heap.size := HB1.out.size
  have hsz2 : w1.heap.size ≤ w2.heap.size := HB2.out.size
  have hsz3 : w2.heap.size ≤ w3.heap.size := HB3.out.size
  obtain ⟨V, hV⟩ : ∃ V, y * 2 ^ z = V := ⟨_, rfl⟩
  obtain ⟨X, hX⟩ : ∃ X, x * 2 ^ z = X := ⟨_, rfl⟩
  have HV1 : Aside0 (V < B ^ (n + 2)) := ⟨by rw [← hV]; exact shl_lt Hd1.out hz1 hz2⟩
  have HV2 : Aside0 (B ^ (n + 2) ≤ 2 * V) := ⟨by rw [← hV]; exact shl_ge Hd1.out hz3⟩
  have HXV : Aside0 (X < V * B ^ (m + 1)) := ⟨by rw [← hX]; exact xv_lt (by have h1 := nl_lt x; rwa [Hm.out] at h1) hz1 HV2.out⟩
  have HDc : Aside0 (∀ W, Chg w3 W (fun k => k = gu ∨ k = gq) → ∀ j, j < n + 2 → W.cell? ⟨gd, j, none⟩ = some (.int .u32 ((V / B ^ j % B : Nat) : Int))) := ⟨fun W hk j hj => by
    have h1 := (Kd.R_celln 0 HRd.out (j : Int) (by omega) (by omega)).1
    rw [Int.toNat_natCast] at h1
    have h2 : rdOf 0 (digN (n + 2) (y * 2 ^ z)) (j : Int) = ((V / B ^ j % B : Nat) : Int) := by rw [hV]; exact rd_digN hj
    rw [h2] at h1
    have h3 := (Chg.of_below (below_step HB2.out HB3.out) (fun k => k = gu ∨ k = gq)).then_ hk (fun _ h => .inl h)
    refine chg_cell h1 h3 ?_
    intro h
    have h4 : gd = gu ∨ gd = gq := h
    clear h1 h2 h3
    omega⟩
  rw [hX] at HRu
  have HRu3 : Aside0 (Kd.R (Kd.int .u32) 85 w3 w.heap.size (fun k => k = gu) (.slice (some ⟨gu, 0, none⟩) (n + 2 + m + 1) capu) (digN (n + 2 + m + 1) X)) := ⟨tight (Kd.R_lower (Kd.R_below HRu.out HB3.out) hsz1)⟩
  have HRq3 : Aside0 (Kd.R (Kd.int .u32) 85 w3 w.heap.size (fun k => k = gq) (.slice (some ⟨gq, 0, none⟩) (m + 1) capq) (digN (m + 1) 0)) := ⟨tight (Kd.R_lower HRq.out (by omega))⟩
  have HVX : Aside0 (y * 2 ^ z = V ∧ x * 2 ^ z = X) := ⟨hV, hX⟩
  have HBW : Aside0 (Below w.heap.size w w3) := ⟨below_step HB1.out (below_step HB2.out HB3.out)⟩
  have hcu := (Kd.R_reads' HRu3.out).2.1
  have hug : gu ≠ gq := by omega
  have hdu : gd ≠ gu := by omega
  clear hV hX HRd HRu HRq HS1 HS2 HC HL Hd1 HB1 HB2 HB3 zz z4 z5 z6 z7 hcell hd1p hz2 hz3
  go_loopw [13] (fun v13 wr => ∃ (j : Nat) (t : Int), j ≤ m + 1 ∧ v13 = .int .i64 t ∧ Aside0 (t = (j : Int) - 1) ∧ Aside0 (Kd.R (Kd.int .u32) 85 wr w.heap.size (fun k => k = gu) (.slice (some ⟨gu, 0, none⟩) (n + 2 + m + 1) capu) (digN (n + 2 + m + 1) (X % (V * B ^ j)))) ∧ Aside0 (Kd.R (Kd.int .u32) 85 wr w.heap.size (fun k => k = gq) (.slice (some ⟨gq, 0, none⟩) (m + 1) capq) (digN (m + 1) (X / (V * B ^ j) * B ^ j))) ∧ Aside0 (Chg w3 wr (fun k => k = gu ∨ k = gq))) (fun v13 _ => (intOf v13 + 1).toNat)
  case atStart =>
    refine ⟨m + 1, (m : Int), by omega, rfl, ⟨by omega⟩, ⟨?_⟩, ⟨?_⟩, ⟨Chg.refl _ _⟩⟩
    · rw [Nat.mod_eq_of_lt HXV.out]; exact HRu3.out
    · rw [Nat.div_eq_of_lt HXV.out, Nat.zero_mul]; exact HRq3.out
  case round =>
    clear HRu3 HRq3
    obtain ⟨j, t, hj, rfl, Ht, HRu, HRq, HK⟩ := hrel
    rcases Nat.eq_zero_or_pos j with h0 | h0
    · obtain rfl := h0
      have ht : t = -1 := by have := Ht.out; omega
      subst ht
      have hV0 : 0 < V := by
        have h1 := HV2.out
        have h2 := B_pos (n + 2)
        omega
      have e1 : X % (V * B ^ 0) = x % y * 2 ^ z := by rw [Nat.pow_zero, Nat.mul_one, ← HVX.out.1, ← HVX.out.2, Nat.mul_mod_mul_right]
      have e2 : X / (V * B ^ 0) * B ^ 0 = x / y := by rw [Nat.pow_zero, Nat.mul_one, Nat.mul_one, ← HVX.out.1, ← HVX.out.2, Nat.mul_div_mul_right _ _ (Nat.two_pow_pos z)]
      rw [e1] at HRu
      rw [e2] at HRq
      have hqlt : x / y < B ^ (m + 1) := by
        rw [← e2, Nat.pow_zero, Nat.mul_one, Nat.mul_one, Nat.div_lt_iff_lt_mul hV0, Nat.mul_comm]
        exact HXV.out
      have hult : x % y * 2 ^ z < B ^ (n + 2) := by
        rw [← e1, Nat.pow_zero, Nat.mul_one]
        exact Nat.lt_trans (Nat.mod_lt _ hV0) HV1.out
      have hWr : Below w.heap.size w wr := HK.out.out HBW.out (by rintro k (h | h) <;> omega)
      have ht : ∀ W, Below wr.heap.size wr W → Calls Tryd.prog 71 #[.slice (some ⟨gq, 0, none⟩) (m + 1) capq] W fun e w' => ∃ v, e = .returned v ∧ Aside0 (Rd w' v (dig (x / y)) ∧ Chg W w' (fun k => k = gq)) := fun W hb =>
        (trimC_calls (w0 := w) (Kd.R_below HRq.out hb) (below_step hWr hb) (by omega) hqlt).mono fun e w' ⟨v, he, hR, hk⟩ => ⟨v, he, ⟨hR, hk⟩⟩
      have hCu : ∀ W, Chg wr W (fun k => k = gq) → Kd.C (Kd.int .u32) W (some ⟨gu, 0, none⟩) (n + 2) (digN (n + 2) (x % y * 2 ^ z)) := fun W hk => by
        have h1 := (Kd.R_reads' (R_chg HRu.out hk (fun k h1 h2 => by omega))).2.2
        rw [length_digN] at h1
        have h2 := C_take h1 (show n + 2 ≤ n + 2 + m + 1 by omega)
        rwa [digN_take (by omega)] at h2
      have hu : ∀ W, Chg wr W (fun k => k = gq) → Calls Tryd.prog 86 #[.slice (some ⟨gu, 0, none⟩) (n + 2) capu, .int .u64 (z : Int)] W fun e w' => ∃ v, e = .returned v ∧ Aside0 (Kd.R (Kd.int .u32) 85 w' W.heap.size (fun _ => True) v (dig (x % y)) ∧ Below W.heap.size W w') := fun W hk => by
        have := unshift_calls (w := W) (A0 := some ⟨gu, 0, none⟩) (c0 := capu) (by_ := z) (m := n + 2) (x := x % y * 2 ^ z) (hCu W hk) (by omega) hz1 (by omega) hult
        rw [Nat.mul_div_cancel _ (Nat.two_pow_pos z)] at this
        exact this.mono fun e w' ⟨v, he, hR, hb⟩ => ⟨v, he, ⟨hR, hb⟩⟩
      have HT := Aside0.mk ht
      have HU := Aside0.mk hu
      have hgqr : gq < wr.heap.size := Nat.lt_of_lt_of_le hgq2 HK.out.size
      clear ht hu hCu e1 e2 hqlt hult
      have HWr := Aside0.mk hWr
      clear hWr
      have q1 : (n : Int) + 2 ≤ (capu : Int) := by omega
      have q2 : 0 ≤ (n : Int) + 2 := by omega
      have q3 : n + 2 ≤ capu := by omega
      have q4 : ((n : Int) + 2).toNat = n + 2 := by omega
      go_wp2
      go_region_with (first | (go_at_call 71; (first | ((with_reducible refine (HT.out _ (below_step (below_drew1 (Below.refl _ _)) H1.out.2)).mono ?_); rintro e w5 ⟨v0, rfl, H0⟩) | ((with_reducible refine (HT.out _ (below_drew1 (Below.refl _ _))).mono ?_); rintro e w4 ⟨v0, rfl, H0⟩))) | (go_at_call 86; (first | ((with_reducible refine (HU.out _ ((Chg.refl _ _).drew.trans H0.out.2)).mono ?_); rintro e w5 ⟨v1, rfl, H1⟩) | ((with_reducible refine (HU.out _ (Chg.refl _ _).drew).mono ?_); rintro e w4 ⟨v1, rfl, H1⟩))))
      go_wp2
      go_ret2
      · refine ⟨v0, v1, rfl, H0.out.1.below H1.out.2, Rd.of_R H1.out.1, ?_⟩
        exact below_step (H0.out.2.out (below_drew1 HWr.out) (fun k h => by omega)) H1.out.2
    · obtain ⟨i, rfl⟩ : ∃ i, j = i + 1 := ⟨j - 1, by omega⟩
      have ht : t = (i : Int) := by have := Ht.out; omega
      subst ht
      have q1 : 0 ≤ (i : Int) := by omega
      have q2 : (i : Int) < (m : Int) + 1 := by omega
      have q3 : i + (n + 2) + 1 ≤ capu := by omega
      have q4 : (i : Int) + ((n : Int) + 2) + 1 ≤ (capu : Int) := by omega
      have q5 : (i : Int) ≤ (i : Int) + ((n : Int) + 2) + 1 := by omega
      have hV0 : 0 < V * B ^ i := by
        have h1 := HV2.out
        have h2 := B_pos (n + 2)
        exact Nat.mul_pos (by omega) (B_pos i)
      have hN : X % (V * B ^ (i + 1)) < V * B ^ (i + 1) := Nat.mod_lt _ (by rw [Nat.pow_succ, ← Nat.mul_assoc]; exact Nat.mul_pos hV0 B0)
      have hst := natural_step.calls w wr gu (n + 2 + m + 1) capu i n (X % (V * B ^ (i + 1))) V gd capd HRu.out (fun W hk => HDc.out W (HK.out.then_ hk (fun k h => .inl (.inl h)))) (by omega) (by omega) HV1.out HV2.out hN
      rw [show n + 2 + 1 = i + (n + 2) + 1 - i by omega] at hst
      obtain ⟨qv, hqv⟩ : ∃ qv, X % (V * B ^ (i + 1)) / (V * B ^ i) = qv := ⟨_, rfl⟩
      rw [hqv] at hst
      have Hqv := Aside0.mk hqv
      clear hqv
      have HST := Aside0.mk hst
      have HN := Aside0.mk hN
      clear hst hN
      go_wp2_with (go_at_call 85; (with_reducible refine HST.out.mono ?_); rintro e w4 ⟨rfl, hR4, hK4⟩; have HR4 := Aside0.mk hR4; have HK4 := Aside0.mk hK4; have HRq4 := Aside0.mk (R_chg HRq.out hK4 (fun k h1 h2 => by omega)); have hcx := Kd.R_celln 0 HRq4.out (i : Int) (by omega) (by omega); simp only [Int.toNat_natCast] at hcx; have hcx1 := hcx.1; have hcx2 := hcx.2; clear hR4 hK4 hcx)
      go_roundw
      case rel =>
        refine ⟨i, (i : Int) - 1, by omega, by go_num, ⟨rfl⟩, ⟨?_⟩, ⟨?_⟩, ⟨?_⟩⟩
        · exact R_chg (put_u HR4.out) ((Chg.refl _ (fun k => k = gq)).setCell (.inl rfl) _) (fun k h1 h2 => by omega)
        · rw [← Hqv.out]
          exact put_q HRq4.out (by omega) HXV.out (by have := HV2.out; have h2 := B_pos (n + 2); exact (by omega))
        · exact (HK.out.trans (HK4.out.mono (fun k h => .inl h))).setCell (.inl (.inr rfl)) _
      case measure => simp [intOf]
end Go.Proofs.YtiamgjepcagohaaDoor.P
end
section
/- The reference's functions on digits: contracts on numbers. -/
namespace Go.Proofs.YtiamgjepcagohaaDoor.P
open Go Go.RowKit Go.Proofs.YtiamgjepcagohaaDoorW.PrintWords Go.Proofs.YtiamgjepcagohaaDoorW.PrintLast Go.Proofs.YtiamgjepcagohaaDoorW.PrintMore Go.Proofs.YtiamgjepcagohaaDoor.Ari
section
variable {w : World} {x y : Nat} {A0 A1 : Option Addr} {c0 c1 : Nat}
theorem rorder_calls (hx : Kd.C (Kd.int .u32) w A0 (nl x) (dig x)) (hc0 : nl x ≤ c0) (hy : Kd.C (Kd.int .u32) w A1 (nl y) (dig y)) (hc1 : nl y ≤ c1) (hxs : nl x ≤ 17592186044416) :
    Calls Tryd.prog 100 #[.slice A0 (nl x) c0, .slice A1 (nl y) c1] w fun e w' => e = .returned (.int .i64 (cmp x y)) ∧ Drawn0 w w' := by
  obtain ⟨k, hk⟩ := (order_ev (a := x) (b := y) (by omega)).rounds
  have := insolvencyref1_order.calls k A0 c0 (dig x) A1 c1 (dig y) _ w (by rw [length_dig]; exact hx) (by rw [length_dig]; exact hc0) (by rw [length_dig]; exact hy) (by rw [length_dig]; exact hc1) hk
  rwa [length_dig, length_dig] at this
theorem rshort_calls {d : Nat} (hx : Kd.C (Kd.int .u32) w A0 (nl x) (dig x)) (hc0 : nl x ≤ c0) (hxs : nl x ≤ 17592186044416) (hd : 0 < d) (hdB : d < 4294967296) :
    Calls Tryd.prog 101 #[.slice A0 (nl x) c0, .int .u32 (d : Int)] w fun e w' => ∃ v, e = .returned (.tuple #[v, .int .u32 ((x % d : Nat) : Int)]) ∧ Rd w' v (dig (x / d)) ∧ Below w.heap.size w w' := by
  obtain ⟨k, hk⟩ := (short_ev (a := x) hd hdB (by omega)).rounds
  have := insolvencyref1_short.calls k A0 c0 (dig x) (d : Int) _ _ w (by rw [length_dig]; exact hx) (by rw [length_dig]; exact hc0) hk
  rw [length_dig] at this
  exact this.mono fun e w' ⟨v, he, hR, hb⟩ => ⟨v, he, Rd.of_R hR, hb⟩
theorem rshifted_calls {s : Nat} (hx : Kd.C (Kd.int .u32) w A0 (nl x) (dig x)) (hc0 : nl x ≤ c0) (hb : s < 32) (hxs : nl x ≤ 17592186044416) :
    Calls Tryd.prog 107 #[.slice A0 (nl x) c0, .int .u64 (s : Int)] w fun e w' => ∃ v, e = .returned v ∧ Kd.R (Kd.int .u32) 85 w' w.heap.size (fun _ => True) v (digN (nl x + 1) (x * 2 ^ s)) ∧ Below w.heap.size w w' := by
  obtain ⟨k, hk⟩ := (shifted_ev (a := x) hb (by omega)).rounds
  have := insolvencyref1_shifted.calls k A0 c0 (dig x) (s : Int) _ w (by rw [length_dig]; exact hx) (by rw [length_dig]; exact hc0) hk
  rwa [length_dig] at this
theorem rstrip_calls {w0 : World} {P0 : Nat → Prop} {u : Value} {L n : Nat} (hB : Below w0.heap.size w0 w) (hR : Kd.R (Kd.int .u32) 85 w w0.heap.size P0 u (digN L n)) (hL : L ≤ 70368744177664) (hn : n < B ^ L) :
    Calls Tryd.prog 97 #[u] w fun e w' => ∃ v, e = .returned v ∧ Rd w' v (dig n) ∧ (∀ k, v.ownBlock = some k → P0 k ∨ w.heap.size ≤ k) ∧ Below w0.heap.size w0 w' ∧ Kept w w' P0 := by
  obtain ⟨k, hk⟩ := (strip_ev hL hn).rounds
  have := insolvencyref1_strip.calls k P0 u (digN L n) _ w0 w hB hR hk
  exact this.mono fun e w' ⟨v, he, hR, hb, hk⟩ => ⟨v, he, Rd.of_R hR, hR.1, hb, hk⟩
theorem rstrip1_calls (W : World) {r : Nat} (hr : r < 4294967296) :
    Calls Tryd.prog 97 #[.slice (some ⟨W.heap.size, 0, none⟩) 1 1] (W.alloc (.cells #[.int .u32 (r : Int)] 85)) fun e w' => ∃ v, e = .returned v ∧ Rd w' v (dig r) ∧ Below W.heap.size W w' := by
  have h := R_lit1 W (r : Int) 85
  rw [← digN_one r hr] at h
  exact (rstrip_calls (w0 := W) ((Below.refl _ _).alloc (Nat.le_refl _) _) h (by decide) (by simpa [B] using hr)).mono fun e w' ⟨v, he, hR, _, hb, _⟩ => ⟨v, he, hR, hb⟩
theorem limbs_c (s : ByteArray) (hs : s.size ≤ 140737488355328) :
    Calls Tryd.prog 87 #[.string s] w fun e w' => ∃ v, e = .returned v ∧ Rd w' v (dig (sv s)) ∧ Below w.heap.size w w' := by
  obtain ⟨k, hk⟩ := (limbs_ev s hs).rounds
  exact (insolvencyref1_limbs.calls k s _ w hk).mono fun e w' ⟨v, he, hR, hb⟩ => ⟨v, he, Rd.of_R hR, hb⟩
theorem rnorm_c (s : ByteArray) (hs : s.size ≤ 140737488355328) :
    Calls Tryd.prog 94 #[.string s] w fun e w' => e = .returned (.string (enc (sv s))) ∧ Drawn0 w w' := by
  obtain ⟨k, hk⟩ := (rnorm_ev s (by omega)).rounds
  exact insolvencyref1_Normalize.calls k s _ w hk
end
end Go.Proofs.YtiamgjepcagohaaDoor.P
end
section
/- Rational numbers and their values. -/
namespace Go.Proofs.YtiamgjepcagohaaDoor.Ari
open Go

def sg (b : Bool) (n : Nat) : Int := if b = true then -(n : Int) else n
theorem sg_zero (b : Bool) : sg b 0 = 0 := by cases b <;> rfl
theorem natAbs_sg (b : Bool) (n : Nat) : (sg b n).natAbs = n := by cases b <;> simp [sg]
theorem sg_neg {b : Bool} {n : Nat} (h : n ≠ 0) : decide (sg b n < 0) = b := by
  cases b
  · simp [sg]
  · simp [sg]; omega
theorem sg_num (a : Int) : sg (decide (a < 0)) a.natAbs = a := by
  by_cases h : a < 0
  · simp [sg, h]; omega
  · simp [sg, h]; omega
theorem sg_add (b : Bool) (x y : Nat) : sg b x + sg b y = sg b (x + y) := by cases b <;> simp [sg] <;> omega
theorem sg_sub {b c : Bool} (h : b ≠ c) {x y : Nat} (hy : y ≤ x) : sg b x + sg c y = sg b (x - y) := by
  cases b <;> cases c <;> simp [sg] at * <;> omega
theorem sg_sub' {b c : Bool} (h : b ≠ c) {x y : Nat} (hy : x ≤ y) : sg b x + sg c y = sg c (y - x) := by
  cases b <;> cases c <;> simp [sg] at * <;> omega
theorem sg_mul (b c : Bool) (x y : Nat) : sg b x * sg c y = sg (b != c) (x * y) := by
  cases b <;> cases c <;> simp [sg, Int.mul_neg, Int.neg_mul]
theorem sg_mulNat (b : Bool) (x y : Nat) : sg b x * (y : Int) = sg b (x * y) := by cases b <;> simp [sg, Int.neg_mul]

def qq (b : Bool) (n d : Nat) : Rat := mkRat (sg b n) d
def encD (d : Nat) : ByteArray := if d = 1 then ⟨#[]⟩ else enc d
def ngv (q : Rat) : Bool := decide (q.num < 0)
abbrev rv (q : Rat) : Value := .agg #[.bool (ngv q), .string (enc q.num.natAbs), .string (encD q.den)]
structure Fit (N : Nat) (q : Rat) : Prop where
  num : nb q.num.natAbs ≤ N
  den : nb q.den ≤ N
theorem Fit.mono {N M : Nat} {q : Rat} (h : Fit N q) (hm : N ≤ M) : Fit M q := ⟨Nat.le_trans h.num hm, Nat.le_trans h.den hm⟩

theorem enc_nil : enc 0 = ⟨#[]⟩ := enc_zero
theorem qq_zero (b : Bool) (d : Nat) : qq b 0 d = 0 := by unfold qq; rw [sg_zero, Rat.zero_mkRat]
theorem qq_self (q : Rat) : qq (ngv q) q.num.natAbs q.den = q := by
  unfold qq ngv
  rw [sg_num, Rat.mkRat_self]
theorem num_qq {b : Bool} {n d : Nat} (hd : 0 < d) : (qq b n d).num = sg b (n / Nat.gcd n d) := by
  unfold qq
  rw [Rat.num_mkRat, if_neg (by omega), natAbs_sg, Nat.gcd_comm]
  have h1 : Nat.gcd n d ∣ n := Nat.gcd_dvd_left _ _
  obtain ⟨k, hk⟩ := h1
  generalize Nat.gcd n d = g at *
  subst hk
  rcases Nat.eq_zero_or_pos g with h0 | h0
  · subst h0
    simp [sg]
  · rw [Nat.mul_div_cancel_left _ h0]
    cases b
    · show ((g * k : Nat) : Int) / (g : Int) = (k : Int)
      rw [Int.natCast_mul, Int.mul_ediv_cancel_left _ (by omega)]
    · simp only [sg, if_true]
      rw [show (-((g * k : Nat) : Int)) = (g : Int) * (-(k : Int)) by simp [Int.mul_neg]]
      rw [Int.mul_ediv_cancel_left _ (by omega)]
theorem den_qq {b : Bool} {n d : Nat} (hd : 0 < d) : (qq b n d).den = d / Nat.gcd n d := by
  unfold qq
  rw [Rat.den_mkRat, if_neg (by omega), natAbs_sg, Nat.gcd_comm]
theorem ngv_qq {b : Bool} {n d : Nat} (hd : 0 < d) (hn : n ≠ 0) : ngv (qq b n d) = b := by
  unfold ngv
  rw [num_qq hd]
  refine sg_neg ?_
  have := Nat.div_pos (Nat.gcd_le_left d (by omega)) (Nat.gcd_pos_of_pos_right n hd)
  omega
theorem rv_qq {b : Bool} {n d : Nat} (hd : 0 < d) (hn : n ≠ 0) : rv (qq b n d) = .agg #[.bool b, .string (enc (n / Nat.gcd n d)), .string (encD (d / Nat.gcd n d))] := by
  unfold rv
  rw [ngv_qq hd hn, num_qq hd, natAbs_sg, den_qq hd]
theorem rv_zero : rv 0 = .agg #[.bool false, .string ⟨#[]⟩, .string ⟨#[]⟩] := by
  unfold rv ngv encD
  rw [show (0 : Rat).num = 0 from rfl, show (0 : Rat).den = 1 from rfl, Int.natAbs_zero, enc_nil]
  rfl
theorem Fit.qq {N n d : Nat} {b : Bool} (hd : 0 < d) (h1 : nb n ≤ N) (h2 : nb d ≤ N) : Fit N (qq b n d) := by
  constructor
  · rw [num_qq hd, natAbs_sg]
    exact Nat.le_trans (nb_mono (Nat.div_le_self _ _)) h1
  · rw [den_qq hd]
    exact Nat.le_trans (nb_mono (Nat.div_le_self _ _)) h2
theorem nb_mul_le {x y a b : Nat} (hx : nb x ≤ a) (hy : nb y ≤ b) : nb (x * y) ≤ a + b := by
  apply nb_le
  rw [Nat.pow_add]
  exact Nat.mul_lt_mul'' (Nat.lt_of_lt_of_le (nb_lt x) (Nat.pow_le_pow_right (by decide) hx)) (Nat.lt_of_lt_of_le (nb_lt y) (Nat.pow_le_pow_right (by decide) hy))
theorem nb_add_le {x y a : Nat} (hx : nb x ≤ a) (hy : nb y ≤ a) : nb (x + y) ≤ a + 1 := by
  apply nb_le
  have h1 := Nat.lt_of_lt_of_le (nb_lt x) (Nat.pow_le_pow_right (by decide) hx)
  have h2 := Nat.lt_of_lt_of_le (nb_lt y) (Nat.pow_le_pow_right (by decide) hy)
  rw [Nat.pow_succ]
  omega

/-! the arithmetic, as the program does it -/
theorem add_same {a b : Rat} (h : a.den = b.den) : a + b = mkRat (a.num + b.num) a.den := by
  rw [Rat.add_def', ← h, ← Int.add_mul, Rat.mkRat_mul_right a.den_nz]
/-- a + b, where both are written over one denominator. -/
theorem add_eq {a b : Rat} {x y d : Nat} (h : a + b = mkRat (sg (ngv a) x + sg (ngv b) y) d) :
    (ngv a = ngv b → qq (ngv a) (x + y) d = a + b) ∧ (ngv a ≠ ngv b → (y ≤ x → qq (ngv a) (x - y) d = a + b) ∧ (x ≤ y → qq (ngv b) (y - x) d = a + b)) := by
  rw [h]
  unfold qq
  refine ⟨fun e => ?_, fun e => ⟨fun hl => ?_, fun hl => ?_⟩⟩
  · rw [← e, sg_add]
  · rw [sg_sub e hl]
  · rw [sg_sub' e hl]
theorem add_one_den {a b : Rat} (h : a.den = b.den) : a + b = mkRat (sg (ngv a) a.num.natAbs + sg (ngv b) b.num.natAbs) a.den := by
  unfold ngv
  rw [sg_num, sg_num]
  exact add_same h
theorem add_two_den {a b : Rat} : a + b = mkRat (sg (ngv a) (a.num.natAbs * b.den) + sg (ngv b) (b.num.natAbs * a.den)) (a.den * b.den) := by
  unfold ngv
  rw [← sg_mulNat, ← sg_mulNat, sg_num, sg_num]
  exact Rat.add_def' a b
theorem mul_eq {a b : Rat} : qq (ngv a != ngv b) (a.num.natAbs * b.num.natAbs) (a.den * b.den) = a * b := by
  unfold qq ngv
  rw [← sg_mul, sg_num, sg_num]
  exact (Rat.mul_def' a b).symm
theorem div_eq {a b : Rat} (hb : b ≠ 0) : qq (ngv a != ngv b) (a.num.natAbs * b.den) (a.den * b.num.natAbs) = a / b := by
  have h1 : b.num ≠ 0 := fun h => hb (Rat.num_eq_zero.1 h)
  have h2 : a / b * b = qq (ngv a != ngv b) (a.num.natAbs * b.den) (a.den * b.num.natAbs) * b := by
    rw [Rat.div_mul_cancel hb]
    conv => rhs; rhs; rw [← qq_self b]
    conv => lhs; rw [← qq_self a]
    unfold qq
    rw [Rat.mkRat_mul_mkRat, Rat.mkRat_eq_iff a.den_nz (by
      have := b.den_nz
      have := a.den_nz
      have := Int.natAbs_ne_zero.2 h1
      exact Nat.mul_ne_zero (Nat.mul_ne_zero ‹_› ‹_›) ‹_›)]
    have e1 : sg (ngv a != ngv b) (a.num.natAbs * b.den) * sg (ngv b) b.num.natAbs = sg (ngv a) (a.num.natAbs * b.den * b.num.natAbs) := by
      rw [sg_mul]
      congr 1
      cases ngv a <;> cases ngv b <;> rfl
    rw [e1, sg_mulNat, sg_mulNat]
    congr 1
    grind
  have h3 := congrArg (· * b⁻¹) h2
  simp only [Rat.mul_assoc, Rat.mul_inv_cancel b hb, Rat.mul_one] at h3
  exact h3.symm
theorem ngv_neg {q : Rat} : ngv (-q) = (!ngv q && decide (q.num ≠ 0)) := by
  unfold ngv
  rw [Rat.neg_num]
  by_cases h : q.num < 0
  · simp [h]; omega
  · by_cases h0 : q.num = 0
    · simp [h0]
    · have : 0 < q.num := by omega
      simp [h, h0]
      omega
theorem rv_neg {q : Rat} : rv (-q) = .agg #[.bool (!ngv q && decide (q.num ≠ 0)), .string (enc q.num.natAbs), .string (encD q.den)] := by
  unfold rv
  rw [ngv_neg, Rat.neg_num, Rat.neg_den, Int.natAbs_neg]
theorem Fit.neg {N : Nat} {q : Rat} (h : Fit N q) : Fit N (-q) := ⟨by rw [Rat.neg_num, Int.natAbs_neg]; exact h.num, h.den⟩
theorem Fit.mul {N M : Nat} {a b : Rat} (ha : Fit N a) (hb : Fit M b) : Fit (N + M) (a * b) := by
  rw [← mul_eq]
  exact Fit.qq (Nat.mul_pos a.den_pos b.den_pos) (nb_mul_le ha.num hb.num) (nb_mul_le ha.den hb.den)
theorem Fit.add {N M : Nat} {a b : Rat} (ha : Fit N a) (hb : Fit M b) : Fit (N + M + 1) (a + b) := by
  have h := @add_two_den a b
  have h1 := add_eq h
  have hd := Nat.mul_pos a.den_pos b.den_pos
  have n1 := nb_mul_le ha.num hb.den
  have n2 : nb (b.num.natAbs * a.den) ≤ N + M := by have := nb_mul_le hb.num ha.den; omega
  have n3 : nb (a.den * b.den) ≤ N + M + 1 := by have := nb_mul_le ha.den hb.den; omega
  by_cases e : ngv a = ngv b
  · rw [← h1.1 e]
    exact Fit.qq hd (nb_add_le n1 n2) n3
  · rcases Nat.le_total (b.num.natAbs * a.den) (a.num.natAbs * b.den) with hl | hl
    · rw [← (h1.2 e).1 hl]
      exact Fit.qq hd (Nat.le_trans (nb_mono (Nat.sub_le _ _)) (by omega)) n3
    · rw [← (h1.2 e).2 hl]
      exact Fit.qq hd (Nat.le_trans (nb_mono (Nat.sub_le _ _)) (by omega)) n3
theorem Fit.sub {N M : Nat} {a b : Rat} (ha : Fit N a) (hb : Fit M b) : Fit (N + M + 1) (a - b) := by
  rw [Rat.sub_eq_add_neg]
  exact ha.add hb.neg
theorem natAbs_num_pos {b : Rat} (hb : b ≠ 0) : 0 < b.num.natAbs := Nat.pos_of_ne_zero (Int.natAbs_ne_zero.2 (fun h => hb (Rat.num_eq_zero.1 h)))
theorem Fit.div {N M : Nat} {a b : Rat} (ha : Fit N a) (hb : Fit M b) : Fit (N + M) (a / b) := by
  by_cases h : b = 0
  · subst h
    rw [Rat.div_def, Rat.inv_zero, Rat.mul_zero]
    exact ⟨by rw [show (0 : Rat).num = 0 from rfl, Int.natAbs_zero, nb_zero]; omega, by
      have := hb.den
      rw [show (0 : Rat).den = 1 from rfl] at *
      omega⟩
  · rw [← div_eq h]
    exact Fit.qq (Nat.mul_pos a.den_pos (natAbs_num_pos h)) (nb_mul_le ha.num hb.den) (nb_mul_le ha.den hb.num)
theorem nb_one : nb 1 = 1 := nb_eq (j := 0) (by decide) (by decide)
theorem Fit.zero : Fit 1 0 := ⟨by rw [show (0 : Rat).num = 0 from rfl, Int.natAbs_zero, nb_zero]; omega, by rw [show (0 : Rat).den = 1 from rfl, nb_one]; omega⟩
theorem Fit.one : Fit 1 1 := ⟨by rw [show (1 : Rat).num = 1 from rfl, Int.natAbs_one, nb_one]; omega, by rw [show (1 : Rat).den = 1 from rfl, nb_one]; omega⟩

/-! numbers as they come in -/
def valid (b : Bool) (s t : ByteArray) : Prop := s = enc (sv s) ∧ t = enc (sv t) ∧ (if sv s = 0 then b = false ∧ sv t = 0 else sv t = 0 ∨ (sv t ≠ 1 ∧ Nat.gcd (sv s) (sv t) = 1))
instance (b : Bool) (s t : ByteArray) : Decidable (valid b s t) := by unfold valid; infer_instance
def rval (b : Bool) (s t : ByteArray) : Rat := if valid b s t then qq b (sv s) (if sv t = 0 then 1 else sv t) else 0
theorem encD_sv {t : ByteArray} (h : t = enc (sv t)) (h1 : sv t ≠ 1) : encD (if sv t = 0 then 1 else sv t) = t := by
  unfold encD
  by_cases h0 : sv t = 0
  · rw [if_pos h0, if_pos rfl, h, h0, enc_nil]
  · rw [if_neg h0, if_neg h1, ← h]
theorem rv_rval {b : Bool} {s t : ByteArray} (h : valid b s t) : rv (rval b s t) = .agg #[.bool b, .string s, .string t] := by
  unfold rval
  rw [if_pos h]
  obtain ⟨h1, h2, h3⟩ := h
  by_cases h0 : sv s = 0
  · rw [if_pos h0] at h3
    rw [h0, qq_zero, rv_zero, h3.1, h1, h2, h0, h3.2, enc_nil]
  · rw [if_neg h0] at h3
    have hg : Nat.gcd (sv s) (if sv t = 0 then 1 else sv t) = 1 := by
      rcases h3 with h3 | h3
      · rw [if_pos h3]; exact Nat.gcd_one_right _
      · split
        · exact Nat.gcd_one_right _
        · exact h3.2
    have hd : 0 < (if sv t = 0 then 1 else sv t) := by split <;> omega
    rw [rv_qq hd h0, hg, Nat.div_one, Nat.div_one, encD_sv h2 (by omega), ← h1]
theorem sv_encD (d : Nat) (hd : 0 < d) : (if sv (encD d) = 0 then 1 else sv (encD d)) = d := by
  unfold encD
  by_cases h : d = 1
  · rw [if_pos h, show (⟨#[]⟩ : ByteArray) = enc 0 from enc_nil.symm, sv_enc, if_pos rfl, h]
  · rw [if_neg h, sv_enc, if_neg (by omega)]
theorem valid_rv (q : Rat) : valid (ngv q) (enc q.num.natAbs) (encD q.den) := by
  have hd := q.den_pos
  have hg := q.reduced
  refine ⟨by rw [sv_enc], ?_, ?_⟩
  · unfold encD
    split
    · rw [show (⟨#[]⟩ : ByteArray) = enc 0 from enc_nil.symm, sv_enc]
    · rw [sv_enc]
  · rw [sv_enc]
    by_cases h0 : q.num.natAbs = 0
    · rw [if_pos h0]
      have h1 : q.den = 1 := by
        have : Nat.gcd q.num.natAbs q.den = 1 := hg
        rw [h0, Nat.gcd_zero_left] at this
        exact this
      refine ⟨by unfold ngv; rw [show q.num = 0 by omega]; rfl, ?_⟩
      rw [h1]
      rfl
    · rw [if_neg h0]
      unfold encD
      split
      · exact .inl rfl
      · right
        rw [sv_enc]
        exact ⟨by assumption, hg⟩
theorem rval_rv (q : Rat) : rval (ngv q) (enc q.num.natAbs) (encD q.den) = q := by
  unfold rval
  rw [if_pos (valid_rv q), sv_enc, sv_encD _ q.den_pos, qq_self]
/-- The strings of a number that comes in are not longer than N. -/
structure FitS (N : Nat) (s t : ByteArray) : Prop where
  num : s.size ≤ N
  den : t.size ≤ N
  pos : 1 ≤ N
theorem FitS.val {N : Nat} {b : Bool} {s t : ByteArray} (h : FitS N s t) : Fit N (rval b s t) := by
  unfold rval
  split
  · refine Fit.qq (by split <;> omega) (Nat.le_trans (nb_sv s) h.num) ?_
    split
    · rw [nb_one]; exact h.pos
    · exact Nat.le_trans (nb_sv t) h.den
  · exact Fit.zero.mono h.pos
theorem nb_pos1 {n : Nat} (h : 0 < n) : 1 ≤ nb n := by rw [nb_pos (by omega)]; omega
theorem Fit.raw {N : Nat} {q : Rat} (h : Fit N q) : FitS N (enc q.num.natAbs) (encD q.den) := by
  refine ⟨by rw [size_enc]; exact h.num, ?_, Nat.le_trans (nb_pos1 q.den_pos) h.den⟩
  unfold encD
  split
  · exact Nat.zero_le _
  · rw [size_enc]; exact h.den
/-- The sign of a number. -/
def sgn (q : Rat) : Int := if q.num = 0 then 0 else if ngv q = true then -1 else 1
end Go.Proofs.YtiamgjepcagohaaDoor.Ari
end
