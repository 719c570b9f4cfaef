/- ClPx3: lemmas of this claim. -/
import Derived.Test.YtiamgjepcagohaaDoorClPx0
import Derived.Test.YtiamgjepcagohaaDoorClPx1
-- written by a program of this session out of the translation
namespace Go.Proofs.YtiamgjepcagohaaDoor.P
open Go.RowKit Go.Proofs.YtiamgjepcagohaaDoorW.PrintWords Go.Proofs.YtiamgjepcagohaaDoorW.PrintLast Go.Proofs.YtiamgjepcagohaaDoorW.PrintMore
attribute [local go_sem] max2_int min2_int max_two min_two max_three min_three max_four min_four   -- for this text's walks alone
set_option linter.unusedVariables false
set_option linter.unusedSimpArgs false

/-! ### natural_Multiply: function 27 -/
mutual
def natural_Multiply.l0 : Nat → List Int → List Int → List Int → Int → Int → Option (ByteArray)
  | 0, _, _, _, _, _ => none
  | k + 1, x6, x7, x24, x25, x26 => if x26 < x25 then (if 0 ≤ x26 then (if x26 < (x24.length : Int) then (natural_Multiply.l1 k x6 x7 x26 (rd x24 x26) 0 x24 x25 x26 x6 (x6.length : Int) 0) else (none)) else (none)) else ((natural_limbs_text.f k x7).bind fun t182 => (some t182))
def natural_Multiply.l1 : Nat → List Int → List Int → Int → Int → Int → List Int → Int → Int → List Int → Int → Int → Option (ByteArray)
  | 0, _, _, _, _, _, _, _, _, _, _, _ => none
  | k + 1, x6, x7, x8, x9, x10, x24, x25, x26, x31, x32, x33 => if x33 < x32 then (if 0 ≤ x33 then (if x33 < (x31.length : Int) then (if 0 ≤ (wrap64 (x8 + x33)) then (if (wrap64 (x8 + x33)) < (x7.length : Int) then (natural_Multiply.l1 k x6 (x7.set ((wrap64 (x8 + x33)) : Int).toNat ((IntKind.u64.wrap ((IntKind.u64.wrap ((IntKind.u64.wrap ((IntKind.u64.wrap (x9)) * (IntKind.u64.wrap (rd x31 x33)))) + (IntKind.u64.wrap (rd x7 (wrap64 (x8 + x33)))))) + x10)) % 4294967296)) x8 x9 ((IntKind.u64.wrap ((IntKind.u64.wrap ((IntKind.u64.wrap ((IntKind.u64.wrap (x9)) * (IntKind.u64.wrap (rd x31 x33)))) + (IntKind.u64.wrap (rd x7 (wrap64 (x8 + x33)))))) + x10)) / 4294967296) x24 x25 x26 x31 x32 (wrap64 (x33 + 1))) else (none)) else (none)) else (none)) else (none)) else (if 0 ≤ (wrap64 (x8 + (x6.length : Int))) then (if (wrap64 (x8 + (x6.length : Int))) < (x7.length : Int) then (natural_Multiply.l0 k x6 (x7.set ((wrap64 (x8 + (x6.length : Int))) : Int).toNat ((x10) % 4294967296)) x24 x25 (wrap64 (x26 + 1))) else (none)) else (none))
end
def natural_Multiply.f (k : Nat) (a0 : ByteArray) (a1 : ByteArray) : Option (ByteArray) := (natural_parse.f k a0).bind fun t173 => ((natural_parse.f k a1).bind fun t176 => (if 0 ≤ (wrap64 ((t173.length : Int) + (t176.length : Int))) then (if (wrap64 ((t173.length : Int) + (t176.length : Int)) : Int).toNat ≤ 70368744177664 then (natural_Multiply.l0 k t176 (List.replicate (wrap64 ((t173.length : Int) + (t176.length : Int)) : Int).toNat 0) t173 (t173.length : Int) 0) else (none)) else (none)))
set_option maxHeartbeats 8000000 in
set_option maxRecDepth 100000 in
theorem natural_Multiply.calls (k : Nat) (a0 : ByteArray) (a1 : ByteArray) (r : ByteArray) (w : World) (h : natural_Multiply.f k a0 a1 = some r) :
    Calls Tryd.prog 27 #[.string a0, .string a1] w fun e w' => e = .returned (.string r) ∧ Below w.heap.size w w' := by
  have HB := Aside0.mk (Below.refl w.heap.size w)
  have H : ((natural_parse.f k a0).bind fun t173 => ((natural_parse.f k a1).bind fun t176 => (if 0 ≤ (wrap64 ((t173.length : Int) + (t176.length : Int))) then (if (wrap64 ((t173.length : Int) + (t176.length : Int)) : Int).toNat ≤ 70368744177664 then (natural_Multiply.l0 k t176 (List.replicate (wrap64 ((t173.length : Int) + (t176.length : Int)) : Int).toNat 0) t173 (t173.length : Int) 0) else (none)) else (none)))) = some r := h
  clear h
  replace H := Option.bind_eq_some_iff.mp H
  obtain ⟨t173, A30, H⟩ := H
  replace H : ((natural_parse.f k a1).bind fun t176 => (if 0 ≤ (wrap64 ((t173.length : Int) + (t176.length : Int))) then (if (wrap64 ((t173.length : Int) + (t176.length : Int)) : Int).toNat ≤ 70368744177664 then (natural_Multiply.l0 k t176 (List.replicate (wrap64 ((t173.length : Int) + (t176.length : Int)) : Int).toNat 0) t173 (t173.length : Int) 0) else (none)) else (none))) = some r := H
  have A3 := Aside0.mk A30
  clear A30
  replace H := Option.bind_eq_some_iff.mp H
  obtain ⟨t176, A40, H⟩ := H
  replace H : (if 0 ≤ (wrap64 ((t173.length : Int) + (t176.length : Int))) then (if (wrap64 ((t173.length : Int) + (t176.length : Int)) : Int).toNat ≤ 70368744177664 then (natural_Multiply.l0 k t176 (List.replicate (wrap64 ((t173.length : Int) + (t176.length : Int)) : Int).toNat 0) t173 (t173.length : Int) 0) else (none)) else (none)) = some r := H
  have A4 := Aside0.mk A40
  clear A40
  obtain ⟨ji5, hji5⟩ : ∃ j_ : Int, (wrap64 ((t173.length : Int) + (t176.length : Int))) = j_ := ⟨_, rfl⟩
  replace H : (if 0 ≤ (ji5) then (if (ji5 : Int).toNat ≤ 70368744177664 then (natural_Multiply.l0 k t176 (List.replicate (ji5 : Int).toNat 0) t173 (t173.length : Int) 0) else (none)) else (none)) = some r := by first | (rw [hji5] at H; exact H) | (simp only [hji5] at H ⊢; exact H)
  (try rw [hji5] at A3)
  (try rw [hji5] at A4)
  have hji5w : (IntKind.i64.wrap ((t173.length : Int) + (t176.length : Int))) = ji5 := (i64_w _).trans hji5
  by_cases c6 : 0 ≤ (ji5)
  · rw [if_pos c6] at H
    have c6b0 := eq_true c6
    have c6b1 : decide (0 ≤ (ji5)) = true := decide_eq_true c6
    clear c6
    by_cases c7 : (ji5 : Int).toNat ≤ 70368744177664
    · rw [if_pos c7] at H
      have c7b0 := eq_true c7
      have c7b1 : decide ((ji5 : Int).toNat ≤ 70368744177664) = true := decide_eq_true c7
      clear c7
      obtain ⟨y179, hy179⟩ : ∃ y_ : List Int, y_ = (List.replicate (ji5 : Int).toNat 0) := ⟨_, rfl⟩
      replace H : (natural_Multiply.l0 k t176 y179 t173 (t173.length : Int) 0) = some r := by first | (rw [hy179]; with_reducible exact H) | (have H2_ := (Option.bind_some _ _).symm.trans H; rw [hy179]; with_reducible exact H2_) | (have H2_ := (Option.bind_some _ _).symm.trans H; with_reducible exact H2_) | with_reducible exact H | (rw [hy179]; exact H) | exact H
      have Ny179 := Aside0.mk hy179
      clear hy179
      have H' := Aside0.mk H
      clear H
      go_enter Tryd.func27, Tryd.ntmps27
      go_wp2_with (first | ((with_reducible refine gate_callee (f := 52) rfl ?_); refine goesL_ (some 15) rfl rfl Tryd.func52 (by kernel_rfl) rfl #[.string a0] rfl (by (try simp only [List.map_toArray, List.map_cons, List.map_nil]); first | done | rfl | (simp only [List.length_drop, List.length_take]; rfl)) ?_; (with_reducible refine (natural_parse.calls k a0 t173 _ A3.out).mono ?_); rintro e w8 ⟨v174, rfl, ho0, hb⟩; refine ⟨_, rfl, ?_⟩; have n0_ := Aside0.mk (Kd.R_lower ho0 (below_size (by repeat (first | (with_reducible first | exact HB.out | apply below_alloc | apply pw_below_drewN | apply below_drew1) | exact HB.out)))); have n1_ := Aside0.mk (below_step (by repeat (first | (with_reducible first | exact HB.out | apply below_alloc | apply pw_below_drewN | apply below_drew1) | exact HB.out)) hb); clear HB; have HO175 := n0_; have HB := n1_; clear n0_ n1_; (try clear hb); (try clear hb2); (try clear hk); (try clear hi); (try clear ho0)) | ((with_reducible refine gate_callee (f := 52) rfl ?_); refine goesL_ (some 17) rfl rfl Tryd.func52 (by kernel_rfl) rfl #[.string a1] rfl (by (try simp only [List.map_toArray, List.map_cons, List.map_nil]); first | done | rfl | (simp only [List.length_drop, List.length_take]; rfl)) ?_; (with_reducible refine (natural_parse.calls k a1 t176 _ A4.out).mono ?_); rintro e w9 ⟨v177, rfl, ho0, hb⟩; refine ⟨_, rfl, ?_⟩; have n0_ := Aside0.mk (Kd.R_elder' (by (with_reducible repeat (first | apply Kd.R_alloc | apply Kd.R_drewN | apply Kd.R_drew)); exact HO175.out) (Kd.R_base ho0) hb); have n1_ := Aside0.mk (Kd.R_lower (Kd.R_new' ho0 (Kd.R_lt (by (with_reducible repeat (first | apply Kd.R_alloc | apply Kd.R_drewN | apply Kd.R_drew)); exact HO175.out))) (below_size (by repeat (first | (with_reducible first | exact HB.out | apply below_alloc | apply pw_below_drewN | apply below_drew1) | exact HB.out)))); have n2_ := Aside0.mk (below_step (by repeat (first | (with_reducible first | exact HB.out | apply below_alloc | apply pw_below_drewN | apply below_drew1) | exact HB.out)) hb); clear HO175; clear HB; have HO175 := n0_; have HO178 := n1_; have HB := n2_; clear n0_ n1_ n2_; (try clear hb); (try clear hb2); (try clear hk); (try clear hi); (try clear ho0); obtain ⟨Ao10, co10, eo10⟩ := Kd.R_slice HO175.out; subst eo10; obtain ⟨Ao11, co11, eo11⟩ := Kd.R_slice HO178.out; subst eo11) | ((with_reducible refine gate_dst (N := 23) rfl ?_); refine Kd.R_make (Kd.int .u32) _ 85 rfl (N := 23) rfl 83 _ _ rfl ji5 rfl rfl Tryd.underlying83 (.int .u32 0) 4 info85 rfl (by decide) (by omega) 0 (ok := fun _ => True) (okp := fun _ => True) rfl (fun _ hk => hk) trivial (of_decide_eq_true (by first | (with_reducible assumption) | assumption)) (Nat.le_trans (Nat.mul_le_mul_right _ (of_decide_eq_true (by first | (with_reducible assumption) | assumption) : ji5.toNat ≤ 70368744177664)) (by omega)) (Below.refl _ _) (Nat.le_refl _) ?_; intro v180 w12 ho13 hb hg_ hnew_; clear hg_ hnew_; (first | rw [← Ny179.out] at ho13 | (simp only [Int.reduceToNat] at ho13; rw [← Ny179.out] at ho13)); have n0_ := Aside0.mk (Kd.R_elder' (by (with_reducible repeat (first | apply Kd.R_alloc | apply Kd.R_drewN | apply Kd.R_drew)); exact HO175.out) (Kd.R_base ho13) hb); have n1_ := Aside0.mk (Kd.R_elder' (by (with_reducible repeat (first | apply Kd.R_alloc | apply Kd.R_drewN | apply Kd.R_drew)); exact HO178.out) (Kd.R_base ho13) hb); have n2_ := Aside0.mk (Kd.R_lower (Kd.R_new' (Kd.R_new' ho13 (Kd.R_lt (by (with_reducible repeat (first | apply Kd.R_alloc | apply Kd.R_drewN | apply Kd.R_drew)); exact HO175.out))) (Kd.R_lt (by (with_reducible repeat (first | apply Kd.R_alloc | apply Kd.R_drewN | apply Kd.R_drew)); exact HO178.out))) (below_size (by repeat (first | (with_reducible first | exact HB.out | apply below_alloc | apply pw_below_drewN | apply below_drew1) | exact HB.out)))); have n3_ := Aside0.mk (below_step (by repeat (first | (with_reducible first | exact HB.out | apply below_alloc | apply pw_below_drewN | apply below_drew1) | exact HB.out)) hb); clear HO175; clear HO178; clear HB; have HO175 := n0_; have HO178 := n1_; have HO181 := n2_; have HB := n3_; clear n0_ n1_ n2_ n3_; clear hb ho13))
      go_loopg [26] k (fun kq v26 w' => ∃ (x7_1 : List Int) (x26_1 : Int), v26 = .int .i64 x26_1 ∧ Aside0 (natural_Multiply.l0 kq t176 x7_1 t173 (t173.length : Int) x26_1 = some r) ∧ Aside0 (kq ≤ k) ∧ Aside0 (Kd.R (Kd.int .u32) 85 w' w.heap.size (fun k_ => some k_ ≠ (v180 : Value).ownBlock ∧ some k_ ≠ ((.slice Ao10 t173.length co10) : Value).ownBlock) (.slice Ao11 t176.length co11) t176) ∧ Aside0 (Kd.R (Kd.int .u32) 85 w' w.heap.size (fun k_ => some k_ ≠ ((.slice Ao11 t176.length co11) : Value).ownBlock ∧ some k_ ≠ ((.slice Ao10 t173.length co10) : Value).ownBlock) v180 x7_1) ∧ Aside0 (Kd.R (Kd.int .u32) 85 w' w.heap.size (fun k_ => some k_ ≠ ((.slice Ao11 t176.length co11) : Value).ownBlock ∧ some k_ ≠ (v180 : Value).ownBlock) (.slice Ao10 t173.length co10) t173) ∧ Aside0 (Below w.heap.size w w'))
      case atStart => exact ⟨(y179), (0), (by first | rfl | (simp; done) | (simp [*]; done)), H', ⟨Nat.le_refl _⟩, ⟨by (with_reducible repeat (first | apply Kd.R_alloc | apply Kd.R_drewN | apply Kd.R_drew)); exact Kd.R_mono HO178.out (fun _ hk => ⟨hk.2, hk.1.2⟩)⟩, ⟨by (with_reducible repeat (first | apply Kd.R_alloc | apply Kd.R_drewN | apply Kd.R_drew)); exact Kd.R_mono HO181.out (fun _ hk => ⟨hk.2, hk.1.2⟩)⟩, ⟨by (with_reducible repeat (first | apply Kd.R_alloc | apply Kd.R_drewN | apply Kd.R_drew)); exact Kd.R_mono HO175.out (fun _ hk => ⟨hk.1.2, hk.2⟩)⟩, ⟨by repeat (first | (with_reducible first | exact HB.out | apply below_alloc | apply pw_below_drewN | apply below_drew1) | exact HB.out)⟩⟩
      case round =>
        clear H'
        try clear c2
        try clear p2
        try clear c5
        try clear c6
        try clear c6b0
        try clear c6b1
        try clear p6
        try clear c7
        try clear c7b0
        try clear c7b1
        obtain ⟨x7_1, x26_1, rfl, HA, HK1, HO_6, HO_7, HO_24, HB⟩ := hrel
        cases gk with
        | zero => exact absurd HA.out (by simp [natural_Multiply.l0])
        | succ k1 =>
          have H := HA.out
          clear HA
          simp only [natural_Multiply.l0] at H
          by_cases c14 : x26_1 < (t173.length : Int)
          · rw [if_pos c14] at H
            have c14b0 : decide (x26_1 < (t173.length : Int)) = true := decide_eq_true c14
            clear c14
            by_cases c15 : 0 ≤ x26_1
            · rw [if_pos c15] at H
              have c15b0 : decide (0 ≤ x26_1) = true := decide_eq_true c15
              clear c15
              by_cases c16 : x26_1 < (t173.length : Int)
              · rw [if_pos c16] at H
                have c16b0 : decide (x26_1 < (t173.length : Int)) = true := decide_eq_true c16
                clear c16
                have H' := Aside0.mk H
                clear H
                have p183 : 0 ≤ (x26_1 : Int) := of_decide_eq_true (by first | (with_reducible assumption) | assumption)
                have q183 : x26_1 < (t173.length : Int) := of_decide_eq_true (by first | (with_reducible assumption) | assumption)
                obtain ⟨ad183, e183, hx183_0⟩ := Kd.at_int (Kd.R_reads' HO_24.out).2.2 x26_1 p183 q183
                cases e183
                replace p183 := eq_true p183
                replace q183 := eq_true q183
                go_wp2
                go_loopg [10, 33] k1 (fun kq v10 v33 w' => ∃ (x7_2 : List Int) (x10_2 : Int) (x33_2 : Int), v10 = .int .u64 x10_2 ∧ v33 = .int .i64 x33_2 ∧ Aside0 (natural_Multiply.l1 kq t176 x7_2 x26_1 (rd t173 x26_1) x10_2 t173 (t173.length : Int) x26_1 t176 (t176.length : Int) x33_2 = some r) ∧ Aside0 (kq ≤ k1) ∧ Aside0 (Kd.R (Kd.int .u32) 85 w' w.heap.size (fun k_ => some k_ ≠ (v180 : Value).ownBlock ∧ some k_ ≠ ((.slice (some ad183) t173.length co10) : Value).ownBlock) (.slice Ao11 t176.length co11) t176) ∧ Aside0 (Kd.R (Kd.int .u32) 85 w' w.heap.size (fun k_ => some k_ ≠ ((.slice Ao11 t176.length co11) : Value).ownBlock ∧ some k_ ≠ ((.slice (some ad183) t173.length co10) : Value).ownBlock ∧ some k_ ≠ ((.slice Ao11 t176.length co11) : Value).ownBlock) v180 x7_2) ∧ Aside0 (Kd.R (Kd.int .u32) 85 w' w.heap.size (fun k_ => some k_ ≠ ((.slice Ao11 t176.length co11) : Value).ownBlock ∧ some k_ ≠ (v180 : Value).ownBlock ∧ some k_ ≠ ((.slice Ao11 t176.length co11) : Value).ownBlock) (.slice (some ad183) t173.length co10) t173) ∧ Aside0 (Kd.R (Kd.int .u32) 85 w' w.heap.size (fun k_ => some k_ ≠ (v180 : Value).ownBlock ∧ some k_ ≠ ((.slice (some ad183) t173.length co10) : Value).ownBlock) (.slice Ao11 t176.length co11) t176) ∧ Aside0 (Below w.heap.size w w'))
                case atStart => exact ⟨(x7_1), (0), (0), (by first | rfl | (simp; done) | (simp [*]; done)), (by first | rfl | (simp; done) | (simp [*]; done)), H', ⟨Nat.le_refl _⟩, ⟨by (with_reducible repeat (first | apply Kd.R_alloc | apply Kd.R_drewN | apply Kd.R_drew)); exact HO_6.out⟩, ⟨by (with_reducible repeat (first | apply Kd.R_alloc | apply Kd.R_drewN | apply Kd.R_drew)); exact Kd.R_mono HO_7.out (fun _ hk => ⟨hk.1, ⟨hk.2, hk.1⟩⟩)⟩, ⟨by (with_reducible repeat (first | apply Kd.R_alloc | apply Kd.R_drewN | apply Kd.R_drew)); exact Kd.R_mono HO_24.out (fun _ hk => ⟨hk.1, ⟨hk.2, hk.1⟩⟩)⟩, ⟨by (with_reducible repeat (first | apply Kd.R_alloc | apply Kd.R_drewN | apply Kd.R_drew)); exact HO_6.out⟩, ⟨by repeat (first | (with_reducible first | exact HB.out | apply below_alloc | apply pw_below_drewN | apply below_drew1) | exact HB.out)⟩⟩
                case round =>
                  clear H'
                  try clear c1
                  try clear p1
                  try clear q1
                  try clear hx1
                  try clear c2
                  try clear p2
                  try clear c5
                  try clear c6
                  try clear c6b0
                  try clear c6b1
                  try clear p6
                  try clear c7
                  try clear c7b0
                  try clear c7b1
                  try clear c14
                  try clear c14b0
                  try clear c15
                  try clear c15b0
                  try clear c16
                  try clear c16b0
                  try clear hx183_0
                  try clear p183
                  try clear p2
                  try clear p6
                  try clear q183
                  obtain ⟨x7_2, x10_2, x33_2, rfl, rfl, HA, HK2, HO_6, HO_7, HO_24, HO_31, HB⟩ := hrel
                  cases gk with
                  | zero => exact absurd HA.out (by simp [natural_Multiply.l1])
                  | succ k2 =>
                    have H := HA.out
                    clear HA
                    simp only [natural_Multiply.l1] at H
                    by_cases c17 : x33_2 < (t176.length : Int)
                    · rw [if_pos c17] at H
                      have c17b0 : decide (x33_2 < (t176.length : Int)) = true := decide_eq_true c17
                      clear c17
                      by_cases c18 : 0 ≤ x33_2
                      · rw [if_pos c18] at H
                        have c18b0 : decide (0 ≤ x33_2) = true := decide_eq_true c18
                        clear c18
                        by_cases c19 : x33_2 < (t176.length : Int)
                        · rw [if_pos c19] at H
                          have c19b0 : decide (x33_2 < (t176.length : Int)) = true := decide_eq_true c19
                          clear c19
                          obtain ⟨ji20, hji20⟩ : ∃ j_ : Int, (wrap64 (x26_1 + x33_2)) = j_ := ⟨_, rfl⟩
                          replace H : (if 0 ≤ (ji20) then (if (ji20) < (x7_2.length : Int) then (natural_Multiply.l1 k2 t176 (x7_2.set ((ji20) : Int).toNat ((IntKind.u64.wrap ((IntKind.u64.wrap ((IntKind.u64.wrap ((IntKind.u64.wrap ((rd t173 x26_1))) * (IntKind.u64.wrap (rd t176 x33_2)))) + (IntKind.u64.wrap (rd x7_2 (ji20))))) + x10_2)) % 4294967296)) x26_1 (rd t173 x26_1) ((IntKind.u64.wrap ((IntKind.u64.wrap ((IntKind.u64.wrap ((IntKind.u64.wrap ((rd t173 x26_1))) * (IntKind.u64.wrap (rd t176 x33_2)))) + (IntKind.u64.wrap (rd x7_2 (ji20))))) + x10_2)) / 4294967296) t173 (t173.length : Int) x26_1 t176 (t176.length : Int) (wrap64 (x33_2 + 1))) else (none)) else (none)) = some r := by first | (rw [hji20] at H; exact H) | (simp only [hji20] at H ⊢; exact H)
                          have hji20w : (IntKind.i64.wrap (x26_1 + x33_2)) = ji20 := (i64_w _).trans hji20
                          by_cases c21 : 0 ≤ (ji20)
                          · rw [if_pos c21] at H
                            have c21b0 : decide (0 ≤ (ji20)) = true := decide_eq_true c21
                            clear c21
                            by_cases c22 : (ji20) < (x7_2.length : Int)
                            · rw [if_pos c22] at H
                              have c22b0 : decide ((ji20) < (x7_2.length : Int)) = true := decide_eq_true c22
                              clear c22
                              obtain ⟨y186, hy186⟩ : ∃ y_ : List Int, y_ = (x7_2.set ((ji20) : Int).toNat ((IntKind.u64.wrap ((IntKind.u64.wrap ((IntKind.u64.wrap ((IntKind.u64.wrap ((rd t173 x26_1))) * (IntKind.u64.wrap (rd t176 x33_2)))) + (IntKind.u64.wrap (rd x7_2 (ji20))))) + x10_2)) % 4294967296)) := ⟨_, rfl⟩
                              replace H : (natural_Multiply.l1 k2 t176 y186 x26_1 (rd t173 x26_1) ((IntKind.u64.wrap ((IntKind.u64.wrap ((IntKind.u64.wrap ((IntKind.u64.wrap ((rd t173 x26_1))) * (IntKind.u64.wrap (rd t176 x33_2)))) + (IntKind.u64.wrap (rd x7_2 (ji20))))) + x10_2)) / 4294967296) t173 (t173.length : Int) x26_1 t176 (t176.length : Int) (wrap64 (x33_2 + 1))) = some r := by first | (rw [hy186]; with_reducible exact H) | (have H2_ := (Option.bind_some _ _).symm.trans H; rw [hy186]; with_reducible exact H2_) | (have H2_ := (Option.bind_some _ _).symm.trans H; with_reducible exact H2_) | with_reducible exact H | (rw [hy186]; exact H) | exact H
                              have Ny186 := Aside0.mk hy186
                              clear hy186
                              have H' := Aside0.mk H
                              clear H
                              have p184 : 0 ≤ (x33_2 : Int) := of_decide_eq_true (by first | (with_reducible assumption) | assumption)
                              have q184 : x33_2 < (t176.length : Int) := of_decide_eq_true (by first | (with_reducible assumption) | assumption)
                              obtain ⟨ad184, e184, hx184_0⟩ := Kd.at_int (Kd.R_reads' HO_31.out).2.2 x33_2 p184 q184
                              cases e184
                              replace p184 := eq_true p184
                              replace q184 := eq_true q184
                              obtain ⟨Ao24, co24, eo24⟩ := Kd.R_slice HO_7.out
                              subst eo24
                              have p185 : 0 ≤ ((ji20) : Int) := of_decide_eq_true (by first | (with_reducible assumption) | assumption)
                              have q185 : (ji20) < (x7_2.length : Int) := of_decide_eq_true (by first | (with_reducible assumption) | assumption)
                              obtain ⟨ad185, e185, hx185_0⟩ := Kd.at_int (Kd.R_reads' HO_7.out).2.2 (ji20) p185 q185
                              cases e185
                              replace p185 := eq_true p185
                              replace q185 := eq_true q185
                              have p23 : 0 ≤ ((ji20) : Int) := of_decide_eq_true (by first | (with_reducible assumption) | assumption)
                              have q23 : ((ji20) : Int) < ((x7_2.length : Int) : Int) := of_decide_eq_true (by first | (with_reducible assumption) | assumption)
                              obtain ⟨go23, co23, eo23, gb23, gl23, cl23, HG23⟩ := Kd.R_form HO_7.out (by omega)
                              (first | cases eo23 | (injection eo23 with ea_ en_ ec_; (first | subst ea_ | (injection ea_ with ea_; subst ea_)); subst ec_; clear en_))
                              have GB23 := Aside0.mk gb23
                              have GG23 := Aside0.mk HG23
                              clear gb23 gl23 HG23
                              (first | simp only [add_plain] at hx185_0 | skip)
                              obtain ⟨hx23_0, hf23_0⟩ := Kd.R_celln 0 HO_7.out ((ji20) : Int) p23 q23
                              replace p23 := eq_true p23
                              replace q23 := eq_true q23
                              have HP25 := Kd.R_putg HO_7.out ((ji20) : Int) ((IntKind.u64.wrap ((IntKind.u64.wrap ((IntKind.u64.wrap ((IntKind.u64.wrap ((rd t173 x26_1))) * (IntKind.u64.wrap (rd t176 x33_2)))) + (IntKind.u64.wrap (rd x7_2 (ji20))))) + x10_2)) % 4294967296)
                              go_wp2_with (first | ((with_reducible refine gate_store (t := 85) (p := 59) rfl ?_); refine store_event (t := 85) (p := 59) (v := ?vo_w26) (w1 := (wr.setCell ⟨go23, ((ji20) : Int).toNat, none⟩ (.int .u32 ((IntKind.u64.wrap ((IntKind.u64.wrap ((IntKind.u64.wrap ((IntKind.u64.wrap ((rd t173 x26_1))) * (IntKind.u64.wrap (rd t176 x33_2)))) + (IntKind.u64.wrap (rd x7_2 (ji20))))) + x10_2)) % 4294967296)))) ?hg ?ho ?hn ?hr ?_; (case ho => rfl); (case hg => rfl); (case hn => rfl); (case hr => first | (go_simp; done) | (go_simp; rfl)); intro w26 hw; have hg : wr.grownBy w26 (some go23) := (by rw [hw]; exact HP25.2); have hp_ : Kd.R (Kd.int .u32) 85 w26 w.heap.size (fun k_ => some k_ ≠ (.slice (some ad184) t176.length co11 : Value).ownBlock ∧ some k_ ≠ (.slice (some ad183) t173.length co10 : Value).ownBlock ∧ some k_ ≠ (.slice (some ad184) t176.length co11 : Value).ownBlock) (.slice (some ⟨go23, 0, none⟩) x7_2.length co24) y186 := (by rw [hw, Ny186.out]; exact HP25.1); clear HP25; have n0_ := Aside0.mk (Kd.R_after (v := (.slice (some ⟨go23, 0, none⟩) x7_2.length co24)) (v1 := (.slice (some ⟨go23, 0, none⟩) x7_2.length co24)) (ok := (fun k_ => some k_ ≠ (.slice (some ad183) t173.length co10 : Value).ownBlock)) (by (with_reducible repeat (first | apply Kd.R_alloc | apply Kd.R_drewN | apply Kd.R_drew)); exact Kd.R_mono HO_6.out (fun _ hk => ⟨hk.2, hk.1⟩)) hg (.inl rfl)); have n1_ := Aside0.mk (hp_); have n2_ := Aside0.mk (Kd.R_after (v := (.slice (some ⟨go23, 0, none⟩) x7_2.length co24)) (v1 := (.slice (some ⟨go23, 0, none⟩) x7_2.length co24)) (ok := (fun k_ => some k_ ≠ (.slice (some ad184) t176.length co11 : Value).ownBlock ∧ some k_ ≠ (.slice (some ad184) t176.length co11 : Value).ownBlock)) (by (with_reducible repeat (first | apply Kd.R_alloc | apply Kd.R_drewN | apply Kd.R_drew)); exact Kd.R_mono HO_24.out (fun _ hk => ⟨⟨hk.1, hk.2.2⟩, hk.2.1⟩)) hg (.inl rfl)); have n3_ := Aside0.mk (Kd.R_after (v := (.slice (some ⟨go23, 0, none⟩) x7_2.length co24)) (v1 := (.slice (some ⟨go23, 0, none⟩) x7_2.length co24)) (ok := (fun k_ => some k_ ≠ (.slice (some ad183) t173.length co10 : Value).ownBlock)) (by (with_reducible repeat (first | apply Kd.R_alloc | apply Kd.R_drewN | apply Kd.R_drew)); exact Kd.R_mono HO_31.out (fun _ hk => ⟨hk.2, hk.1⟩)) hg (.inl rfl)); have n4_ := Aside0.mk ((by rw [hw]; exact below_set (HB.out) GB23.out : Below w.heap.size w w26)); clear HO_6; clear HO_7; clear HO_24; clear HO_31; clear HB; have HO_6 := n0_; have HO_7 := n1_; have HO_24 := n2_; have HO_31 := n3_; have HB := n4_; clear n0_ n1_ n2_ n3_ n4_; clear hg hw hp_))
                              go_roundg k2
                              case measure => have := HK1.out; have := HK2.out; omega
                              case rel => exact ⟨(y186), ((IntKind.u64.wrap ((IntKind.u64.wrap ((IntKind.u64.wrap ((IntKind.u64.wrap ((rd t173 x26_1))) * (IntKind.u64.wrap (rd t176 x33_2)))) + (IntKind.u64.wrap (rd x7_2 (ji20))))) + x10_2)) / 4294967296), (wrap64 (x33_2 + 1)), (by first | rfl | (simp; done) | (simp only [← hji20] <;> (first | rfl | simp)) | (simp [*]; done)), (by first | rfl | (simp; done) | (simp [*]; done)), H', ⟨by have := HK1.out; have := HK2.out; omega⟩, ⟨by (with_reducible repeat (first | apply Kd.R_alloc | apply Kd.R_drewN | apply Kd.R_drew)); exact Kd.R_mono HO_6.out (fun _ hk => ⟨hk.2, hk.1⟩)⟩, ⟨by (with_reducible repeat (first | apply Kd.R_alloc | apply Kd.R_drewN | apply Kd.R_drew)); exact HO_7.out⟩, ⟨by (with_reducible repeat (first | apply Kd.R_alloc | apply Kd.R_drewN | apply Kd.R_drew)); exact Kd.R_mono HO_24.out (fun _ hk => ⟨hk.1.1, ⟨hk.2, hk.1.2⟩⟩)⟩, ⟨by (with_reducible repeat (first | apply Kd.R_alloc | apply Kd.R_drewN | apply Kd.R_drew)); exact Kd.R_mono HO_31.out (fun _ hk => ⟨hk.2, hk.1⟩)⟩, ⟨by repeat (first | (with_reducible first | exact HB.out | apply below_alloc | apply pw_below_drewN | apply below_drew1) | exact HB.out)⟩⟩
                            · rw [if_neg c22] at H
                              exact absurd H (by simp)
                          · rw [if_neg c21] at H
                            exact absurd H (by simp)
                        · rw [if_neg c19] at H
                          exact absurd H (by simp)
                      · rw [if_neg c18] at H
                        exact absurd H (by simp)
                    · rw [if_neg c17] at H
                      have c17b0 : decide (x33_2 < (t176.length : Int)) = false := decide_eq_false c17
                      clear c17
                      obtain ⟨ji27, hji27⟩ : ∃ j_ : Int, (wrap64 (x26_1 + (t176.length : Int))) = j_ := ⟨_, rfl⟩
                      replace H : (if 0 ≤ (ji27) then (if (ji27) < (x7_2.length : Int) then (natural_Multiply.l0 k2 t176 (x7_2.set ((ji27) : Int).toNat ((x10_2) % 4294967296)) t173 (t173.length : Int) (wrap64 (x26_1 + 1))) else (none)) else (none)) = some r := by first | (rw [hji27] at H; exact H) | (simp only [hji27] at H ⊢; exact H)
                      have hji27w : (IntKind.i64.wrap (x26_1 + (t176.length : Int))) = ji27 := (i64_w _).trans hji27
                      by_cases c28 : 0 ≤ (ji27)
                      · rw [if_pos c28] at H
                        have c28b0 : decide (0 ≤ (ji27)) = true := decide_eq_true c28
                        clear c28
                        by_cases c29 : (ji27) < (x7_2.length : Int)
                        · rw [if_pos c29] at H
                          have c29b0 : decide ((ji27) < (x7_2.length : Int)) = true := decide_eq_true c29
                          clear c29
                          obtain ⟨y187, hy187⟩ : ∃ y_ : List Int, y_ = (x7_2.set ((ji27) : Int).toNat ((x10_2) % 4294967296)) := ⟨_, rfl⟩
                          replace H : (natural_Multiply.l0 k2 t176 y187 t173 (t173.length : Int) (wrap64 (x26_1 + 1))) = some r := by first | (rw [hy187]; with_reducible exact H) | (have H2_ := (Option.bind_some _ _).symm.trans H; rw [hy187]; with_reducible exact H2_) | (have H2_ := (Option.bind_some _ _).symm.trans H; with_reducible exact H2_) | with_reducible exact H | (rw [hy187]; exact H) | exact H
                          have Ny187 := Aside0.mk hy187
                          clear hy187
                          have H' := Aside0.mk H
                          clear H
                          have p30 : 0 ≤ ((ji27) : Int) := of_decide_eq_true (by first | (with_reducible assumption) | assumption)
                          have q30 : ((ji27) : Int) < ((x7_2.length : Int) : Int) := of_decide_eq_true (by first | (with_reducible assumption) | assumption)
                          obtain ⟨go30, co30, eo30, gb30, gl30, cl30, HG30⟩ := Kd.R_form HO_7.out (by omega)
                          (first | cases eo30 | (injection eo30 with ea_ en_ ec_; (first | subst ea_ | (injection ea_ with ea_; subst ea_)); subst ec_; clear en_))
                          have GB30 := Aside0.mk gb30
                          have GG30 := Aside0.mk HG30
                          clear gb30 gl30 HG30
                          obtain ⟨hx30_0, hf30_0⟩ := Kd.R_celln 0 HO_7.out ((ji27) : Int) p30 q30
                          replace p30 := eq_true p30
                          replace q30 := eq_true q30
                          have HP31 := Kd.R_putg HO_7.out ((ji27) : Int) ((x10_2) % 4294967296)
                          go_wp2_with (first | ((with_reducible refine gate_store (t := 85) (p := 70) rfl ?_); refine store_event (t := 85) (p := 70) (v := ?vo_w32) (w1 := (wr.setCell ⟨go30, ((ji27) : Int).toNat, none⟩ (.int .u32 ((x10_2) % 4294967296)))) ?hg ?ho ?hn ?hr ?_; (case ho => rfl); (case hg => rfl); (case hn => rfl); (case hr => first | (go_simp; done) | (go_simp; rfl)); intro w32 hw; have hg : wr.grownBy w32 (some go30) := (by rw [hw]; exact HP31.2); have hp_ : Kd.R (Kd.int .u32) 85 w32 w.heap.size (fun k_ => some k_ ≠ (.slice Ao11 t176.length co11 : Value).ownBlock ∧ some k_ ≠ (.slice (some ad183) t173.length co10 : Value).ownBlock ∧ some k_ ≠ (.slice Ao11 t176.length co11 : Value).ownBlock) (.slice (some ⟨go30, 0, none⟩) x7_2.length co30) y187 := (by rw [hw, Ny187.out]; exact HP31.1); clear HP31; have n0_ := Aside0.mk (Kd.R_after (v := (.slice (some ⟨go30, 0, none⟩) x7_2.length co30)) (v1 := (.slice (some ⟨go30, 0, none⟩) x7_2.length co30)) (ok := (fun k_ => some k_ ≠ (.slice (some ad183) t173.length co10 : Value).ownBlock)) (by (with_reducible repeat (first | apply Kd.R_alloc | apply Kd.R_drewN | apply Kd.R_drew)); exact Kd.R_mono HO_6.out (fun _ hk => ⟨hk.2, hk.1⟩)) hg (.inl rfl)); have n1_ := Aside0.mk (hp_); have n2_ := Aside0.mk (Kd.R_after (v := (.slice (some ⟨go30, 0, none⟩) x7_2.length co30)) (v1 := (.slice (some ⟨go30, 0, none⟩) x7_2.length co30)) (ok := (fun k_ => some k_ ≠ (.slice Ao11 t176.length co11 : Value).ownBlock ∧ some k_ ≠ (.slice Ao11 t176.length co11 : Value).ownBlock)) (by (with_reducible repeat (first | apply Kd.R_alloc | apply Kd.R_drewN | apply Kd.R_drew)); exact Kd.R_mono HO_24.out (fun _ hk => ⟨⟨hk.1, hk.2.2⟩, hk.2.1⟩)) hg (.inl rfl)); have n3_ := Aside0.mk (Kd.R_after (v := (.slice (some ⟨go30, 0, none⟩) x7_2.length co30)) (v1 := (.slice (some ⟨go30, 0, none⟩) x7_2.length co30)) (ok := (fun k_ => some k_ ≠ (.slice (some ad183) t173.length co10 : Value).ownBlock)) (by (with_reducible repeat (first | apply Kd.R_alloc | apply Kd.R_drewN | apply Kd.R_drew)); exact Kd.R_mono HO_31.out (fun _ hk => ⟨hk.2, hk.1⟩)) hg (.inl rfl)); have n4_ := Aside0.mk ((by rw [hw]; exact below_set (HB.out) GB30.out : Below w.heap.size w w32)); clear HO_6; clear HO_7; clear HO_24; clear HO_31; clear HB; have HO_6 := n0_; have HO_7 := n1_; have HO_24 := n2_; have HO_31 := n3_; have HB := n4_; clear n0_ n1_ n2_ n3_ n4_; clear hg hw hp_))
                          go_roundg k2
                          case measure => have := HK1.out; have := HK2.out; omega
                          case rel => exact ⟨(y187), (wrap64 (x26_1 + 1)), (by first | rfl | (simp; done) | (simp [*]; done)), H', ⟨by have := HK1.out; have := HK2.out; omega⟩, ⟨by (with_reducible repeat (first | apply Kd.R_alloc | apply Kd.R_drewN | apply Kd.R_drew)); exact Kd.R_mono HO_6.out (fun _ hk => ⟨hk.2, hk.1⟩)⟩, ⟨by (with_reducible repeat (first | apply Kd.R_alloc | apply Kd.R_drewN | apply Kd.R_drew)); exact Kd.R_mono HO_7.out (fun _ hk => ⟨hk.1, hk.2.1⟩)⟩, ⟨by (with_reducible repeat (first | apply Kd.R_alloc | apply Kd.R_drewN | apply Kd.R_drew)); exact Kd.R_mono HO_24.out (fun _ hk => ⟨hk.1.1, hk.2⟩)⟩, ⟨by repeat (first | (with_reducible first | exact HB.out | apply below_alloc | apply pw_below_drewN | apply below_drew1) | exact HB.out)⟩⟩
                        · rw [if_neg c29] at H
                          exact absurd H (by simp)
                      · rw [if_neg c28] at H
                        exact absurd H (by simp)
              · rw [if_neg c16] at H
                exact absurd H (by simp)
            · rw [if_neg c15] at H
              exact absurd H (by simp)
          · rw [if_neg c14] at H
            have c14b0 : decide (x26_1 < (t173.length : Int)) = false := decide_eq_false c14
            clear c14
            replace H := Option.bind_eq_some_iff.mp H
            obtain ⟨t182, A330, H⟩ := H
            replace H : (some t182) = some r := H
            have A33 := Aside0.mk A330
            clear A330
            obtain rfl := Option.some.inj H
            obtain ⟨Ao34, co34, eo34⟩ := Kd.R_slice HO_7.out
            subst eo34
            go_wp2_with (first | ((with_reducible refine gate_callee (f := 53) rfl ?_); refine goesL_ (some 73) rfl rfl Tryd.func53 (by kernel_rfl) rfl #[.slice Ao34 x7_1.length co34] rfl (by (try simp only [List.map_toArray, List.map_cons, List.map_nil]); first | done | rfl | (simp only [List.length_drop, List.length_take]; rfl)) ?_; (with_reducible refine (natural_limbs_text.calls k1 _ _ x7_1 t182 _ ?side1 ?side2 A33.out).mono ?_); (case side1 => repeat (first | exact (Kd.R_reads' HO_7.out).2.2 | (with_reducible refine Kd.C_alloc ?_ _) | (with_reducible refine Kd.C_drewN ?_ _) | (with_reducible refine Kd.C_drew ?_))); (case side2 => exact (Kd.R_reads' HO_7.out).2.1); rintro e w35 ⟨rfl, hb⟩; refine ⟨_, rfl, ?_⟩; have n0_ := Aside0.mk (Kd.R_below (by (with_reducible repeat (first | apply Kd.R_alloc | apply Kd.R_drewN | apply Kd.R_drew)); exact HO_6.out) hb); have n1_ := Aside0.mk (Kd.R_below (by (with_reducible repeat (first | apply Kd.R_alloc | apply Kd.R_drewN | apply Kd.R_drew)); exact HO_7.out) hb); have n2_ := Aside0.mk (Kd.R_below (by (with_reducible repeat (first | apply Kd.R_alloc | apply Kd.R_drewN | apply Kd.R_drew)); exact HO_24.out) hb); have n3_ := Aside0.mk (below_step (by repeat (first | (with_reducible first | exact HB.out | apply below_alloc | apply pw_below_drewN | apply below_drew1) | exact HB.out)) hb); clear HO_6; clear HO_7; clear HO_24; clear HB; have HO_6 := n0_; have HO_7 := n1_; have HO_24 := n2_; have HB := n3_; clear n0_ n1_ n2_ n3_; (try clear hb); (try clear hb2); (try clear hk); (try clear hi)))
            go_ret
            exact ⟨by first | rfl | (simp [errW_none, errW_some] <;> rfl) | (simp only [← hji5]; first | rfl | (simp [errW_none, errW_some] <;> rfl)) | (simp [*, errW_none, errW_some] <;> rfl), by repeat (first | (with_reducible first | exact HB.out | apply below_alloc | apply pw_below_drewN | apply below_drew1) | exact HB.out)⟩
    · rw [if_neg c7] at H
      exact absurd H (by simp)
  · rw [if_neg c6] at H
    exact absurd H (by simp)

/-! ### natural_FromUint: function 38 -/
def natural_FromUint.f (k : Nat) (a0 : Int) : Option (ByteArray) := (natural_limbs_text.f k (([(a0) % 4294967296, (a0 / 4294967296) % 4294967296] : List Int))).bind fun t191 => (some t191)
set_option maxHeartbeats 8000000 in
set_option maxRecDepth 100000 in
theorem natural_FromUint.calls (k : Nat) (a0 : Int) (r : ByteArray) (w : World) (h : natural_FromUint.f k a0 = some r) :
    Calls Tryd.prog 38 #[.int .u64 a0] w fun e w' => e = .returned (.string r) ∧ Below w.heap.size w w' := by
  have HB := Aside0.mk (Below.refl w.heap.size w)
  have H : ((natural_limbs_text.f k (([(a0) % 4294967296, (a0 / 4294967296) % 4294967296] : List Int))).bind fun t191 => (some t191)) = some r := h
  clear h
  obtain ⟨y188, hy188⟩ : ∃ y_ : List Int, y_ = (([(a0) % 4294967296, (a0 / 4294967296) % 4294967296] : List Int)) := ⟨_, rfl⟩
  replace H : ((natural_limbs_text.f k y188).bind fun t191 => (some t191)) = some r := by first | (rw [hy188]; with_reducible exact H) | (have H2_ := (Option.bind_some _ _).symm.trans H; rw [hy188]; with_reducible exact H2_) | (have H2_ := (Option.bind_some _ _).symm.trans H; with_reducible exact H2_) | with_reducible exact H | (rw [hy188]; exact H) | exact H
  have Ny188 := Aside0.mk hy188
  clear hy188
  replace H := Option.bind_eq_some_iff.mp H
  obtain ⟨t191, A20, H⟩ := H
  replace H : (some t191) = some r := H
  have A2 := Aside0.mk A20
  clear A20
  obtain rfl := Option.some.inj H
  go_enter Tryd.func38, Tryd.ntmps38
  go_wp2_with (first | ((with_reducible refine gate_dst (N := 8) rfl ?_); refine Kd.R_lit (Kd.int .u32) _ 85 ?hg (N := 8) ?hd (xs := ([(a0) % 4294967296, (a0 / 4294967296) % 4294967296] : List Int)) (inner := [.int .u32 ((a0) % 4294967296), .int .u32 ((a0 / 4294967296) % 4294967296)]) (ok := fun _ => True) (okp := fun _ => True) ?hr ?hp (fun _ hk => hk) trivial (Below.refl _ _) (Nat.le_refl _) (by simp) ?_; (case hd => rfl); (case hg => rfl); (case hr => first | (go_simp; done) | (go_simp; rfl)); (case hp => exact (Reps.one (show Kd.M (Kd.int .u32) _ _ _ ((a0) % 4294967296) [.int .u32 ((a0) % 4294967296)] from rfl) (Reps.one (show Kd.M (Kd.int .u32) _ _ _ ((a0 / 4294967296) % 4294967296) [.int .u32 ((a0 / 4294967296) % 4294967296)] from rfl) (Reps.none _ _)))); intro v189 w3 ho4 hb hg_ hnew_; clear hg_ hnew_; (first | rw [← Ny188.out] at ho4 | (simp only [Int.reduceToNat] at ho4; rw [← Ny188.out] at ho4)); have n0_ := Aside0.mk (Kd.R_lower ho4 (below_size (by repeat (first | (with_reducible first | exact HB.out | apply below_alloc | apply pw_below_drewN | apply below_drew1) | exact HB.out)))); have n1_ := Aside0.mk (below_step (by repeat (first | (with_reducible first | exact HB.out | apply below_alloc | apply pw_below_drewN | apply below_drew1) | exact HB.out)) hb); clear HB; have HO190 := n0_; have HB := n1_; clear n0_ n1_; clear hb ho4; obtain ⟨Ao5, co5, eo5⟩ := Kd.R_slice HO190.out; subst eo5) | ((with_reducible refine gate_callee (f := 53) rfl ?_); refine goesL_ (some 9) rfl rfl Tryd.func53 (by kernel_rfl) rfl #[.slice Ao5 y188.length co5] rfl (by (try simp only [List.map_toArray, List.map_cons, List.map_nil]); first | done | rfl | (simp only [List.length_drop, List.length_take]; rfl)) ?_; (with_reducible refine (natural_limbs_text.calls k _ _ y188 t191 _ ?side1 ?side2 A2.out).mono ?_); (case side1 => repeat (first | exact (Kd.R_reads' HO190.out).2.2 | (with_reducible refine Kd.C_alloc ?_ _) | (with_reducible refine Kd.C_drewN ?_ _) | (with_reducible refine Kd.C_drew ?_))); (case side2 => exact (Kd.R_reads' HO190.out).2.1); rintro e w6 ⟨rfl, hb⟩; refine ⟨_, rfl, ?_⟩; have n0_ := Aside0.mk (Kd.R_below (by (with_reducible repeat (first | apply Kd.R_alloc | apply Kd.R_drewN | apply Kd.R_drew)); exact HO190.out) hb); have n1_ := Aside0.mk (below_step (by repeat (first | (with_reducible first | exact HB.out | apply below_alloc | apply pw_below_drewN | apply below_drew1) | exact HB.out)) hb); clear HO190; clear HB; have HO190 := n0_; have HB := n1_; clear n0_ n1_; (try clear hb); (try clear hb2); (try clear hk); (try clear hi)))
  go_ret
  exact ⟨by first | rfl | (simp [errW_none, errW_some] <;> rfl) | (simp [*, errW_none, errW_some] <;> rfl), by repeat (first | (with_reducible first | exact HB.out | apply below_alloc | apply pw_below_drewN | apply below_drew1) | exact HB.out)⟩

/-! ### natural_divideSmall: function 82 -/
def natural_divideSmall.l0 : Nat → List Int → Int → List Int → Int → Int → Option (List Int × Int)
  | 0, _, _, _, _, _ => none
  | k + 1, x0, x1, x6, x7, x8 => if x8 ≥ 0 then (if 0 ≤ x8 then (if x8 < (x0.length : Int) then (if (IntKind.u64.wrap (x1)) = 0 then (none) else (if x8 < (x6.length : Int) then (natural_divideSmall.l0 k x0 x1 (x6.set (x8 : Int).toNat ((IntKind.u64.wrap (Int.tdiv (Go.bits .or .u64 (IntKind.u64.wrap (x7 * 4294967296)) (IntKind.u64.wrap (rd x0 x8))) (IntKind.u64.wrap (x1)))) % 4294967296)) (Int.tmod (Go.bits .or .u64 (IntKind.u64.wrap (x7 * 4294967296)) (IntKind.u64.wrap (rd x0 x8))) (IntKind.u64.wrap (x1))) (wrap64 (x8 - 1))) else (none))) else (none)) else (none)) else ((natural_limbs_trim.f k x6).bind fun t197 => (some (t197, (x7) % 4294967296)))
def natural_divideSmall.f (k : Nat) (l0 : List Int) (a1 : Int) : Option (List Int × Int) := if 0 ≤ (l0.length : Int) then (if ((l0.length : Int) : Int).toNat ≤ 70368744177664 then (natural_divideSmall.l0 k l0 a1 (List.replicate ((l0.length : Int) : Int).toNat 0) 0 (wrap64 ((l0.length : Int) - 1))) else (none)) else (none)
set_option maxHeartbeats 8000000 in
set_option maxRecDepth 100000 in
theorem natural_divideSmall.calls (k : Nat) (A0 : Option Addr) (c0 : Nat) (l0 : List Int) (a1 : Int) (r1 : List Int) (r2 : Int) (w : World) (hr0 : Kd.C (Kd.int .u32) w A0 l0.length l0) (hc0 : l0.length ≤ c0) (h : natural_divideSmall.f k l0 a1 = some (r1, r2)) :
    Calls Tryd.prog 82 #[.slice A0 l0.length c0, .int .u32 a1] w fun e w' => ∃ v0_ : Value, e = .returned (.tuple #[v0_, .int .u32 r2]) ∧ Kd.R (Kd.int .u32) 85 w' w.heap.size (fun _ => True) v0_ r1 ∧ Below w.heap.size w w' := by
  have HR0 := Aside0.mk hr0
  have HC0 := Aside0.mk hc0
  clear hr0 hc0
  have HB := Aside0.mk (Below.refl w.heap.size w)
  have H : (if 0 ≤ (l0.length : Int) then (if ((l0.length : Int) : Int).toNat ≤ 70368744177664 then (natural_divideSmall.l0 k l0 a1 (List.replicate ((l0.length : Int) : Int).toNat 0) 0 (wrap64 ((l0.length : Int) - 1))) else (none)) else (none)) = some (r1, r2) := h
  clear h
  by_cases c3 : 0 ≤ (l0.length : Int)
  · rw [if_pos c3] at H
    have c3b0 := eq_true c3
    have c3b1 : decide (0 ≤ (l0.length : Int)) = true := decide_eq_true c3
    clear c3
    by_cases c4 : ((l0.length : Int) : Int).toNat ≤ 70368744177664
    · rw [if_pos c4] at H
      have c4b0 := eq_true c4
      have c4b1 : decide (((l0.length : Int) : Int).toNat ≤ 70368744177664) = true := decide_eq_true c4
      clear c4
      obtain ⟨y192, hy192⟩ : ∃ y_ : List Int, y_ = (List.replicate ((l0.length : Int) : Int).toNat 0) := ⟨_, rfl⟩
      replace H : (natural_divideSmall.l0 k l0 a1 y192 0 (wrap64 ((l0.length : Int) - 1))) = some (r1, r2) := by first | (rw [hy192]; with_reducible exact H) | (have H2_ := (Option.bind_some _ _).symm.trans H; rw [hy192]; with_reducible exact H2_) | (have H2_ := (Option.bind_some _ _).symm.trans H; with_reducible exact H2_) | with_reducible exact H | (rw [hy192]; exact H) | exact H
      have Ny192 := Aside0.mk hy192
      clear hy192
      have H' := Aside0.mk H
      clear H
      go_enter Tryd.func82, Tryd.ntmps82
      go_wp2_with (first | ((with_reducible refine gate_dst (N := 12) rfl ?_); refine Kd.R_make (Kd.int .u32) _ 85 rfl (N := 12) rfl 83 _ _ rfl (l0.length : Int) rfl rfl Tryd.underlying83 (.int .u32 0) 4 info85 rfl (by decide) (by omega) 0 (ok := fun _ => True) (okp := fun _ => True) rfl (fun _ hk => hk) trivial (of_decide_eq_true (by first | (with_reducible assumption) | assumption)) (Nat.le_trans (Nat.mul_le_mul_right _ (of_decide_eq_true (by first | (with_reducible assumption) | assumption) : (l0.length : Int).toNat ≤ 70368744177664)) (by omega)) (Below.refl _ _) (Nat.le_refl _) ?_; intro v193 w5 ho6 hb hg_ hnew_; clear hg_ hnew_; (first | rw [← Ny192.out] at ho6 | (simp only [Int.reduceToNat] at ho6; rw [← Ny192.out] at ho6)); have n0_ := Aside0.mk (Kd.R_lower ho6 (below_size (by repeat (first | (with_reducible first | exact HB.out | apply below_alloc | apply pw_below_drewN | apply below_drew1) | exact HB.out)))); have n1_ := Aside0.mk (below_step (by repeat (first | (with_reducible first | exact HB.out | apply below_alloc | apply pw_below_drewN | apply below_drew1) | exact HB.out)) hb); clear HB; have HO194 := n0_; have HB := n1_; clear n0_ n1_; clear hb ho6))
      go_loopg [7, 8] k (fun kq v7 v8 w' => ∃ (x6_1 : List Int) (x7_1 : Int) (x8_1 : Int), v7 = .int .u64 x7_1 ∧ v8 = .int .i64 x8_1 ∧ Aside0 (natural_divideSmall.l0 kq l0 a1 x6_1 x7_1 x8_1 = some (r1, r2)) ∧ Aside0 (kq ≤ k) ∧ Aside0 (Kd.R (Kd.int .u32) 85 w' w.heap.size (fun _ => True) v193 x6_1) ∧ Aside0 (Below w.heap.size w w'))
      case atStart => exact ⟨(y192), (0), (wrap64 ((l0.length : Int) - 1)), (by first | rfl | (simp; done) | (simp [*]; done)), (by first | rfl | (simp; done) | (simp [*]; done)), H', ⟨Nat.le_refl _⟩, ⟨by (with_reducible repeat (first | apply Kd.R_alloc | apply Kd.R_drewN | apply Kd.R_drew)); exact HO194.out⟩, ⟨by repeat (first | (with_reducible first | exact HB.out | apply below_alloc | apply pw_below_drewN | apply below_drew1) | exact HB.out)⟩⟩
      case round =>
        clear H'
        try clear p2
        try clear c3
        try clear c3b0
        try clear c3b1
        try clear c4
        try clear c4b0
        try clear c4b1
        try clear p6
        obtain ⟨x6_1, x7_1, x8_1, rfl, rfl, HA, HK1, HO_6, HB⟩ := hrel
        cases gk with
        | zero => exact absurd HA.out (by simp [natural_divideSmall.l0])
        | succ k1 =>
          have H := HA.out
          clear HA
          simp only [natural_divideSmall.l0] at H
          by_cases c7 : x8_1 ≥ 0
          · rw [if_pos c7] at H
            have c7b0 : decide (0 ≤ x8_1) = true := decide_eq_true c7
            clear c7
            by_cases c8 : 0 ≤ x8_1
            · rw [if_pos c8] at H
              have c8b0 : decide (0 ≤ x8_1) = true := decide_eq_true c8
              clear c8
              by_cases c9 : x8_1 < (l0.length : Int)
              · rw [if_pos c9] at H
                have c9b0 : decide (x8_1 < (l0.length : Int)) = true := decide_eq_true c9
                clear c9
                by_cases c10 : (IntKind.u64.wrap (a1)) = 0
                · rw [if_pos c10] at H
                  exact absurd H (by simp)
                · rw [if_neg c10] at H
                  have c10b0 : ((IntKind.u64.wrap (a1)) == 0) = false := beq_eq_false_iff_ne.mpr c10
                  have c10b1 : ((IntKind.u64.wrap (a1)) != 0) = true := bne_iff_ne.mpr c10
                  by_cases c11 : x8_1 < (x6_1.length : Int)
                  · rw [if_pos c11] at H
                    have c11b0 : decide (x8_1 < (x6_1.length : Int)) = true := decide_eq_true c11
                    clear c11
                    obtain ⟨y196, hy196⟩ : ∃ y_ : List Int, y_ = (x6_1.set (x8_1 : Int).toNat ((IntKind.u64.wrap (Int.tdiv (Go.bits .or .u64 (IntKind.u64.wrap (x7_1 * 4294967296)) (IntKind.u64.wrap (rd l0 x8_1))) (IntKind.u64.wrap (a1)))) % 4294967296)) := ⟨_, rfl⟩
                    replace H : (natural_divideSmall.l0 k1 l0 a1 y196 (Int.tmod (Go.bits .or .u64 (IntKind.u64.wrap (x7_1 * 4294967296)) (IntKind.u64.wrap (rd l0 x8_1))) (IntKind.u64.wrap (a1))) (wrap64 (x8_1 - 1))) = some (r1, r2) := by first | (rw [hy196]; with_reducible exact H) | (have H2_ := (Option.bind_some _ _).symm.trans H; rw [hy196]; with_reducible exact H2_) | (have H2_ := (Option.bind_some _ _).symm.trans H; with_reducible exact H2_) | with_reducible exact H | (rw [hy196]; exact H) | exact H
                    have Ny196 := Aside0.mk hy196
                    clear hy196
                    have H' := Aside0.mk H
                    clear H
                    have p195 : 0 ≤ (x8_1 : Int) := of_decide_eq_true (by first | (with_reducible assumption) | assumption)
                    have q195 : x8_1 < (l0.length : Int) := of_decide_eq_true (by first | (with_reducible assumption) | assumption)
                    obtain ⟨ad195, e195, hx195_0⟩ := Kd.at_int HR0.out x8_1 p195 q195
                    cases e195
                    replace hx195_0 := (HB.out.cell (World.block_lt_of_cell? w _ hx195_0)).trans hx195_0
                    replace p195 := eq_true p195
                    replace q195 := eq_true q195
                    have p12 : 0 ≤ (x8_1 : Int) := of_decide_eq_true (by first | (with_reducible assumption) | assumption)
                    have q12 : (x8_1 : Int) < ((x6_1.length : Int) : Int) := of_decide_eq_true (by first | (with_reducible assumption) | assumption)
                    obtain ⟨go12, co12, eo12, gb12, gl12, cl12, HG12⟩ := Kd.R_form HO_6.out (by omega)
                    (first | cases eo12 | (injection eo12 with ea_ en_ ec_; (first | subst ea_ | (injection ea_ with ea_; subst ea_)); subst ec_; clear en_))
                    have GB12 := Aside0.mk gb12
                    have GG12 := Aside0.mk HG12
                    clear gb12 gl12 HG12
                    obtain ⟨hx12_0, hf12_0⟩ := Kd.R_celln 0 HO_6.out (x8_1 : Int) p12 q12
                    replace p12 := eq_true p12
                    replace q12 := eq_true q12
                    have HP13 := Kd.R_putg HO_6.out (x8_1 : Int) ((IntKind.u64.wrap (Int.tdiv (Go.bits .or .u64 (IntKind.u64.wrap (x7_1 * 4294967296)) (IntKind.u64.wrap (rd l0 x8_1))) (IntKind.u64.wrap (a1)))) % 4294967296)
                    go_wp2_with (first | ((with_reducible refine gate_store (t := 85) (p := 35) rfl ?_); refine store_event (t := 85) (p := 35) (v := ?vo_w14) (w1 := (wr.setCell ⟨go12, (x8_1 : Int).toNat, none⟩ (.int .u32 ((IntKind.u64.wrap (Int.tdiv (Go.bits .or .u64 (IntKind.u64.wrap (x7_1 * 4294967296)) (IntKind.u64.wrap (rd l0 x8_1))) (IntKind.u64.wrap (a1)))) % 4294967296)))) ?hg ?ho ?hn ?hr ?_; (case ho => rfl); (case hg => rfl); (case hn => rfl); (case hr => first | (go_simp; done) | (go_simp; rfl)); intro w14 hw; have hg : wr.grownBy w14 (some go12) := (by rw [hw]; exact HP13.2); have hp_ : Kd.R (Kd.int .u32) 85 w14 w.heap.size (fun _ => True) (.slice (some ⟨go12, 0, none⟩) x6_1.length co12) y196 := (by rw [hw, Ny196.out]; exact HP13.1); clear HP13; have n0_ := Aside0.mk (hp_); have n1_ := Aside0.mk ((by rw [hw]; exact below_set (HB.out) GB12.out : Below w.heap.size w w14)); clear HO_6; clear HB; have HO_6 := n0_; have HB := n1_; clear n0_ n1_; clear hg hw hp_))
                    go_roundg k1
                    case measure => have := HK1.out; omega
                    case rel => exact ⟨(y196), (Int.tmod (Go.bits .or .u64 (IntKind.u64.wrap (x7_1 * 4294967296)) (IntKind.u64.wrap (rd l0 x8_1))) (IntKind.u64.wrap (a1))), (wrap64 (x8_1 - 1)), (by first | rfl | (simp; done) | (simp [*]; done)), (by first | rfl | (simp; done) | (simp [*]; done)), H', ⟨by have := HK1.out; omega⟩, ⟨by (with_reducible repeat (first | apply Kd.R_alloc | apply Kd.R_drewN | apply Kd.R_drew)); exact HO_6.out⟩, ⟨by repeat (first | (with_reducible first | exact HB.out | apply below_alloc | apply pw_below_drewN | apply below_drew1) | exact HB.out)⟩⟩
                  · rw [if_neg c11] at H
                    exact absurd H (by simp)
              · rw [if_neg c9] at H
                exact absurd H (by simp)
            · rw [if_neg c8] at H
              exact absurd H (by simp)
          · rw [if_neg c7] at H
            have c7b0 : decide (0 ≤ x8_1) = false := decide_eq_false c7
            clear c7
            replace H := Option.bind_eq_some_iff.mp H
            obtain ⟨t197, A150, H⟩ := H
            replace H : (some (t197, (x7_1) % 4294967296)) = some (r1, r2) := H
            have A15 := Aside0.mk A150
            clear A150
            simp only [Option.some.injEq, Prod.mk.injEq] at H
            obtain ⟨rfl, rfl⟩ := H
            obtain ⟨Ao16, co16, eo16⟩ := Kd.R_slice HO_6.out
            subst eo16
            go_wp2_with (first | ((with_reducible refine gate_callee (f := 71) rfl ?_); refine goesL_ (some 41) rfl rfl Tryd.func71 (by kernel_rfl) rfl #[.slice Ao16 x6_1.length co16] rfl (by (try simp only [List.map_toArray, List.map_cons, List.map_nil]); first | done | rfl | (simp only [List.length_drop, List.length_take]; rfl)) ?_; (with_reducible refine (natural_limbs_trim.calls k1 (fun k_ => some k_ = (.slice Ao16 x6_1.length co16 : Value).ownBlock) (.slice Ao16 x6_1.length co16) x6_1 t197 w _ ?side1 ?side2 A15.out).mono ?_); (case side1 => repeat (first | (with_reducible first | exact HB.out | apply below_alloc | apply pw_below_drewN | apply below_drew1) | exact HB.out)); (case side2 => exact Kd.R_tight rfl HO_6.out); rintro e w17 ⟨v198, rfl, ho0, hb, hkp⟩; refine ⟨_, rfl, ?_⟩; have n0_ := Aside0.mk (Kd.R_mono (ok' := fun k_ => True) ho0 (fun k_ hk_ => trivial)); have n1_ := Aside0.mk (hb); clear HB; clear HO_6; have HO199 := n0_; have HB := n1_; clear n0_ n1_; (try clear hb); (try clear hkp); (try clear ho0)))
            go_ret2
            exact ⟨_, by first | rfl | (simp [errW_none, errW_some] <;> rfl) | (simp [*, errW_none, errW_some] <;> rfl), by (with_reducible repeat (first | apply Kd.R_alloc | apply Kd.R_drewN | apply Kd.R_drew)); exact HO199.out, by repeat (first | (with_reducible first | exact HB.out | apply below_alloc | apply pw_below_drewN | apply below_drew1) | exact HB.out)⟩
    · rw [if_neg c4] at H
      exact absurd H (by simp)
  · rw [if_neg c3] at H
    exact absurd H (by simp)

/-! ### natural_shift: function 84 -/
def natural_shift.l0 : Nat → Int → Int → List Int → List Int → Int → Int → Option (List Int)
  | 0, _, _, _, _, _, _ => none
  | k + 1, x1, x2, x7, x13, x14, x15 => if x15 < x14 then (if 0 ≤ x15 then (if x15 < (x13.length : Int) then (if 0 ≤ x1 then (if x1 ≤ 64 then (if x15 < (x7.length : Int) then ((some (x7.set (x15 : Int).toNat (Go.bits .or .u32 (rd x7 x15) ((IntKind.u64.wrap ((IntKind.u64.wrap (rd x13 x15)) * 2 ^ x1.toNat)) % 4294967296)) : List Int)).bind fun y205 => (if (wrap64 (x15 + 1)) < x2 then (if 0 ≤ (wrap64 (x15 + 1)) then (if (wrap64 (x15 + 1)) < (x7.length : Int) then (natural_shift.l0 k x1 x2 (y205.set ((wrap64 (x15 + 1)) : Int).toNat (Go.bits .or .u32 (rd y205 (wrap64 (x15 + 1))) (((IntKind.u64.wrap ((IntKind.u64.wrap (rd x13 x15)) * 2 ^ x1.toNat)) / 4294967296) % 4294967296))) x13 x14 (wrap64 (x15 + 1))) else (none)) else (none)) else (natural_shift.l0 k x1 x2 y205 x13 x14 (wrap64 (x15 + 1))))) else (none)) else (none)) else (none)) else (none)) else (none)) else (some x7)
def natural_shift.f (k : Nat) (l0 : List Int) (a1 : Int) (a2 : Int) : Option (List Int) := if 0 ≤ a2 then (if (a2 : Int).toNat ≤ 70368744177664 then (natural_shift.l0 k a1 a2 (List.replicate (a2 : Int).toNat 0) l0 (l0.length : Int) 0) else (none)) else (none)
set_option maxHeartbeats 8000000 in
set_option maxRecDepth 100000 in
theorem natural_shift.calls (k : Nat) (A0 : Option Addr) (c0 : Nat) (l0 : List Int) (a1 : Int) (a2 : Int) (r : List Int) (w : World) (hr0 : Kd.C (Kd.int .u32) w A0 l0.length l0) (hc0 : l0.length ≤ c0) (h : natural_shift.f k l0 a1 a2 = some r) :
    Calls Tryd.prog 84 #[.slice A0 l0.length c0, .int .u64 a1, .int .i64 a2] w fun e w' => ∃ v0_ : Value, e = .returned (v0_) ∧ Kd.R (Kd.int .u32) 85 w' w.heap.size (fun _ => True) v0_ r ∧ Below w.heap.size w w' := by
  have HR0 := Aside0.mk hr0
  have HC0 := Aside0.mk hc0
  clear hr0 hc0
  have HB := Aside0.mk (Below.refl w.heap.size w)
  have H : (if 0 ≤ a2 then (if (a2 : Int).toNat ≤ 70368744177664 then (natural_shift.l0 k a1 a2 (List.replicate (a2 : Int).toNat 0) l0 (l0.length : Int) 0) else (none)) else (none)) = some r := h
  clear h
  by_cases c4 : 0 ≤ a2
  · rw [if_pos c4] at H
    have c4b0 := eq_true c4
    have c4b1 : decide (0 ≤ a2) = true := decide_eq_true c4
    clear c4
    by_cases c5 : (a2 : Int).toNat ≤ 70368744177664
    · rw [if_pos c5] at H
      have c5b0 := eq_true c5
      have c5b1 : decide ((a2 : Int).toNat ≤ 70368744177664) = true := decide_eq_true c5
      clear c5
      obtain ⟨y200, hy200⟩ : ∃ y_ : List Int, y_ = (List.replicate (a2 : Int).toNat 0) := ⟨_, rfl⟩
      replace H : (natural_shift.l0 k a1 a2 y200 l0 (l0.length : Int) 0) = some r := by first | (rw [hy200]; with_reducible exact H) | (have H2_ := (Option.bind_some _ _).symm.trans H; rw [hy200]; with_reducible exact H2_) | (have H2_ := (Option.bind_some _ _).symm.trans H; with_reducible exact H2_) | with_reducible exact H | (rw [hy200]; exact H) | exact H
      have Ny200 := Aside0.mk hy200
      clear hy200
      have H' := Aside0.mk H
      clear H
      go_enter Tryd.func84, Tryd.ntmps84
      go_wp2_with (first | ((with_reducible refine gate_dst (N := 12) rfl ?_); refine Kd.R_make (Kd.int .u32) _ 85 rfl (N := 12) rfl 83 _ _ rfl a2 rfl rfl Tryd.underlying83 (.int .u32 0) 4 info85 rfl (by decide) (by omega) 0 (ok := fun _ => True) (okp := fun _ => True) rfl (fun _ hk => hk) trivial (of_decide_eq_true (by first | (with_reducible assumption) | assumption)) (Nat.le_trans (Nat.mul_le_mul_right _ (of_decide_eq_true (by first | (with_reducible assumption) | assumption) : a2.toNat ≤ 70368744177664)) (by omega)) (Below.refl _ _) (Nat.le_refl _) ?_; intro v201 w6 ho7 hb hg_ hnew_; clear hg_ hnew_; (first | rw [← Ny200.out] at ho7 | (simp only [Int.reduceToNat] at ho7; rw [← Ny200.out] at ho7)); have n0_ := Aside0.mk (Kd.R_lower ho7 (below_size (by repeat (first | (with_reducible first | exact HB.out | apply below_alloc | apply pw_below_drewN | apply below_drew1) | exact HB.out)))); have n1_ := Aside0.mk (below_step (by repeat (first | (with_reducible first | exact HB.out | apply below_alloc | apply pw_below_drewN | apply below_drew1) | exact HB.out)) hb); clear HB; have HO202 := n0_; have HB := n1_; clear n0_ n1_; clear hb ho7))
      go_loopg [15] k (fun kq v15 w' => ∃ (x7_1 : List Int) (x15_1 : Int), v15 = .int .i64 x15_1 ∧ Aside0 (natural_shift.l0 kq a1 a2 x7_1 l0 (l0.length : Int) x15_1 = some r) ∧ Aside0 (kq ≤ k) ∧ Aside0 (Kd.R (Kd.int .u32) 85 w' w.heap.size (fun _ => True) v201 x7_1) ∧ Aside0 (Below w.heap.size w w'))
      case atStart => exact ⟨(y200), (0), (by first | rfl | (simp; done) | (simp [*]; done)), H', ⟨Nat.le_refl _⟩, ⟨by (with_reducible repeat (first | apply Kd.R_alloc | apply Kd.R_drewN | apply Kd.R_drew)); exact HO202.out⟩, ⟨by repeat (first | (with_reducible first | exact HB.out | apply below_alloc | apply pw_below_drewN | apply below_drew1) | exact HB.out)⟩⟩
      case round =>
        clear H'
        try clear p2
        try clear c4
        try clear c4b0
        try clear c4b1
        try clear c5
        try clear c5b0
        try clear c5b1
        obtain ⟨x7_1, x15_1, rfl, HA, HK1, HO_7, HB⟩ := hrel
        cases gk with
        | zero => exact absurd HA.out (by simp [natural_shift.l0])
        | succ k1 =>
          have H := HA.out
          clear HA
          simp only [natural_shift.l0] at H
          by_cases c8 : x15_1 < (l0.length : Int)
          · rw [if_pos c8] at H
            have c8b0 : decide (x15_1 < (l0.length : Int)) = true := decide_eq_true c8
            clear c8
            by_cases c9 : 0 ≤ x15_1
            · rw [if_pos c9] at H
              have c9b0 : decide (0 ≤ x15_1) = true := decide_eq_true c9
              clear c9
              by_cases c10 : x15_1 < (l0.length : Int)
              · rw [if_pos c10] at H
                have c10b0 : decide (x15_1 < (l0.length : Int)) = true := decide_eq_true c10
                clear c10
                by_cases c11 : 0 ≤ a1
                · rw [if_pos c11] at H
                  have c11b0 := eq_true c11
                  have c11b1 : decide (0 ≤ a1) = true := decide_eq_true c11
                  clear c11
                  by_cases c12 : a1 ≤ 64
                  · rw [if_pos c12] at H
                    have c12b0 := eq_true c12
                    have c12b1 : decide (a1 ≤ 64) = true := decide_eq_true c12
                    clear c12
                    by_cases c13 : x15_1 < (x7_1.length : Int)
                    · rw [if_pos c13] at H
                      have c13b0 : decide (x15_1 < (x7_1.length : Int)) = true := decide_eq_true c13
                      clear c13
                      obtain ⟨y205, hy205⟩ : ∃ y_ : List Int, y_ = (x7_1.set (x15_1 : Int).toNat (Go.bits .or .u32 (rd x7_1 x15_1) ((IntKind.u64.wrap ((IntKind.u64.wrap (rd l0 x15_1)) * 2 ^ a1.toNat)) % 4294967296))) := ⟨_, rfl⟩
                      replace H : (if (wrap64 (x15_1 + 1)) < a2 then (if 0 ≤ (wrap64 (x15_1 + 1)) then (if (wrap64 (x15_1 + 1)) < (x7_1.length : Int) then (natural_shift.l0 k1 a1 a2 (y205.set ((wrap64 (x15_1 + 1)) : Int).toNat (Go.bits .or .u32 (rd y205 (wrap64 (x15_1 + 1))) (((IntKind.u64.wrap ((IntKind.u64.wrap (rd l0 x15_1)) * 2 ^ a1.toNat)) / 4294967296) % 4294967296))) l0 (l0.length : Int) (wrap64 (x15_1 + 1))) else (none)) else (none)) else (natural_shift.l0 k1 a1 a2 y205 l0 (l0.length : Int) (wrap64 (x15_1 + 1)))) = some r := by first | (rw [hy205]; with_reducible exact H) | (have H2_ := (Option.bind_some _ _).symm.trans H; rw [hy205]; with_reducible exact H2_) | (have H2_ := (Option.bind_some _ _).symm.trans H; with_reducible exact H2_) | with_reducible exact H | (rw [hy205]; exact H) | exact H
                      have Ny205 := Aside0.mk hy205
                      clear hy205
                      by_cases c15 : (wrap64 (x15_1 + 1)) < a2
                      · rw [if_pos c15] at H
                        have c15b0 : decide ((wrap64 (x15_1 + 1)) < a2) = true := decide_eq_true c15
                        clear c15
                        obtain ⟨ji16, hji16⟩ : ∃ j_ : Int, (wrap64 (x15_1 + 1)) = j_ := ⟨_, rfl⟩
                        replace H : (if 0 ≤ (ji16) then (if (ji16) < (x7_1.length : Int) then (natural_shift.l0 k1 a1 a2 (y205.set ((ji16) : Int).toNat (Go.bits .or .u32 (rd y205 (ji16)) (((IntKind.u64.wrap ((IntKind.u64.wrap (rd l0 x15_1)) * 2 ^ a1.toNat)) / 4294967296) % 4294967296))) l0 (l0.length : Int) ji16) else (none)) else (none)) = some r := by first | (rw [hji16] at H; exact H) | (simp only [hji16] at H ⊢; exact H)
                        (try rw [hji16] at c15b0)
                        have hji16w : (IntKind.i64.wrap (x15_1 + 1)) = ji16 := (i64_w _).trans hji16
                        by_cases c17 : 0 ≤ (ji16)
                        · rw [if_pos c17] at H
                          have c17b0 : decide (0 ≤ (ji16)) = true := decide_eq_true c17
                          clear c17
                          by_cases c18 : (ji16) < (x7_1.length : Int)
                          · rw [if_pos c18] at H
                            have c18b0 : decide ((ji16) < (x7_1.length : Int)) = true := decide_eq_true c18
                            clear c18
                            obtain ⟨y207, hy207⟩ : ∃ y_ : List Int, y_ = (y205.set ((ji16) : Int).toNat (Go.bits .or .u32 (rd y205 (ji16)) (((IntKind.u64.wrap ((IntKind.u64.wrap (rd l0 x15_1)) * 2 ^ a1.toNat)) / 4294967296) % 4294967296))) := ⟨_, rfl⟩
                            replace H : (natural_shift.l0 k1 a1 a2 y207 l0 (l0.length : Int) ji16) = some r := by first | (rw [hy207]; with_reducible exact H) | (have H2_ := (Option.bind_some _ _).symm.trans H; rw [hy207]; with_reducible exact H2_) | (have H2_ := (Option.bind_some _ _).symm.trans H; with_reducible exact H2_) | with_reducible exact H | (rw [hy207]; exact H) | exact H
                            have Ny207 := Aside0.mk hy207
                            clear hy207
                            have H' := Aside0.mk H
                            clear H
                            have p203 : 0 ≤ (x15_1 : Int) := of_decide_eq_true (by first | (with_reducible assumption) | assumption)
                            have q203 : x15_1 < (l0.length : Int) := of_decide_eq_true (by first | (with_reducible assumption) | assumption)
                            obtain ⟨ad203, e203, hx203_0⟩ := Kd.at_int HR0.out x15_1 p203 q203
                            cases e203
                            replace hx203_0 := (HB.out.cell (World.block_lt_of_cell? w _ hx203_0)).trans hx203_0
                            replace p203 := eq_true p203
                            replace q203 := eq_true q203
                            obtain ⟨Ao20, co20, eo20⟩ := Kd.R_slice HO_7.out
                            subst eo20
                            have p204 : 0 ≤ (x15_1 : Int) := of_decide_eq_true (by first | (with_reducible assumption) | assumption)
                            have q204 : x15_1 < (x7_1.length : Int) := of_decide_eq_true (by first | (with_reducible assumption) | assumption)
                            obtain ⟨ad204, e204, hx204_0⟩ := Kd.at_int (Kd.R_reads' HO_7.out).2.2 x15_1 p204 q204
                            cases e204
                            replace p204 := eq_true p204
                            replace q204 := eq_true q204
                            have p14 : 0 ≤ (x15_1 : Int) := of_decide_eq_true (by first | (with_reducible assumption) | assumption)
                            have q14 : (x15_1 : Int) < ((x7_1.length : Int) : Int) := of_decide_eq_true (by first | (with_reducible assumption) | assumption)
                            obtain ⟨go14, co14, eo14, gb14, gl14, cl14, HG14⟩ := Kd.R_form HO_7.out (by omega)
                            (first | cases eo14 | (injection eo14 with ea_ en_ ec_; (first | subst ea_ | (injection ea_ with ea_; subst ea_)); subst ec_; clear en_))
                            have GB14 := Aside0.mk gb14
                            have GG14 := Aside0.mk HG14
                            clear gb14 gl14 HG14
                            (first | simp only [add_plain] at hx204_0 | skip)
                            obtain ⟨hx14_0, hf14_0⟩ := Kd.R_celln 0 HO_7.out (x15_1 : Int) p14 q14
                            replace p14 := eq_true p14
                            replace q14 := eq_true q14
                            have HP21 := Kd.R_putg HO_7.out (x15_1 : Int) (Go.bits .or .u32 (rd x7_1 x15_1) ((IntKind.u64.wrap ((IntKind.u64.wrap (rd l0 x15_1)) * 2 ^ a1.toNat)) % 4294967296))
                            go_wp2_with (first | ((with_reducible refine gate_store (t := 85) (p := 31) rfl ?_); refine store_event (t := 85) (p := 31) (v := ?vo_w22) (w1 := (wr.setCell ⟨go14, (x15_1 : Int).toNat, none⟩ (.int .u32 (Go.bits .or .u32 (rd x7_1 x15_1) ((IntKind.u64.wrap ((IntKind.u64.wrap (rd l0 x15_1)) * 2 ^ a1.toNat)) % 4294967296))))) ?hg ?ho ?hn ?hr ?_; (case ho => rfl); (case hg => rfl); (case hn => rfl); (case hr => first | (go_simp; done) | (go_simp; rfl)); intro w22 hw; have hg : wr.grownBy w22 (some go14) := (by rw [hw]; exact HP21.2); have hp_ : Kd.R (Kd.int .u32) 85 w22 w.heap.size (fun _ => True) (.slice (some ⟨go14, 0, none⟩) x7_1.length co20) y205 := (by rw [hw, Ny205.out]; exact HP21.1); clear HP21; have n0_ := Aside0.mk (hp_); have n1_ := Aside0.mk ((by rw [hw]; exact below_set (HB.out) GB14.out : Below w.heap.size w w22)); clear HO_7; clear HB; have HO_7 := n0_; have HB := n1_; clear n0_ n1_; clear hg hw hp_; have p206 : 0 ≤ ((ji16) : Int) := of_decide_eq_true (by first | (with_reducible assumption) | assumption); have q206 : (ji16) < (y205.length : Int) := (by have h_ : ((ji16) : Int) < ((x7_1.length : Int) : Int) := of_decide_eq_true (by first | (with_reducible assumption) | assumption); first | (have e_ := (Kd.R_reads' HO_7.out).1; omega) | simpa only [Ny205.out, List.length_set] using h_); have ql206 : (((ji16) : Int) < ((x7_1.length : Int) : Int)) = True := eq_true (of_decide_eq_true (by first | (with_reducible assumption) | assumption)); obtain ⟨ad206, e206, hx206_0⟩ := Kd.at_int (Kd.R_reads' HO_7.out).2.2 (ji16) p206 q206; obtain rfl : (⟨go14, 0, none⟩ : Addr) = ad206 := (by injection e206); (first | simp only [add_plain] at hx206_0 | simp only [add_at] at hx206_0 | simp only [Addr.add, Nat.zero_add] at hx206_0 | skip); replace p206 := eq_true p206; replace q206 := eq_true q206; have p19 : 0 ≤ ((ji16) : Int) := of_decide_eq_true (by first | (with_reducible assumption) | assumption); have q19 : ((ji16) : Int) < ((x7_1.length : Int) : Int) := of_decide_eq_true (by first | (with_reducible assumption) | assumption); obtain ⟨hx19_0, hf19_0⟩ := Kd.R_celln 0 HO_7.out ((ji16) : Int) p19 q19; replace p19 := eq_true p19; replace q19 := eq_true q19; obtain ⟨hy23_, hz23_⟩ := Kd.R_celln 0 HO_7.out ((ji16) : Int) (of_decide_eq_true (by first | (with_reducible assumption) | assumption)) (of_decide_eq_true (by first | (with_reducible assumption) | assumption)); have HP23 := Kd.R_putg HO_7.out ((ji16) : Int) (Go.bits .or .u32 (rd y205 (ji16)) (((IntKind.u64.wrap ((IntKind.u64.wrap (rd l0 x15_1)) * 2 ^ a1.toNat)) / 4294967296) % 4294967296))) | ((with_reducible refine gate_store (t := 85) (p := 45) rfl ?_); refine store_event (t := 85) (p := 45) (v := ?vo_w24) (w1 := (w22.setCell ⟨go14, ((ji16) : Int).toNat, none⟩ (.int .u32 (Go.bits .or .u32 (rd y205 (ji16)) (((IntKind.u64.wrap ((IntKind.u64.wrap (rd l0 x15_1)) * 2 ^ a1.toNat)) / 4294967296) % 4294967296))))) ?hg ?ho ?hn ?hr ?_; (case ho => rfl); (case hg => rfl); (case hn => rfl); (case hr => first | (go_simp; done) | (go_simp; rfl)); intro w24 hw; have hg : w22.grownBy w24 (some go14) := (by rw [hw]; exact HP23.2); have hp_ : Kd.R (Kd.int .u32) 85 w24 w.heap.size (fun _ => True) (.slice (some ⟨go14, 0, none⟩) x7_1.length co20) y207 := (by rw [hw, Ny207.out]; exact HP23.1); clear HP23; have n0_ := Aside0.mk (hp_); have n1_ := Aside0.mk ((by rw [hw]; exact below_set (HB.out) GB14.out : Below w.heap.size w w24)); clear HO_7; clear HB; have HO_7 := n0_; have HB := n1_; clear n0_ n1_; clear hg hw hp_))
                            go_roundg k1
                            case measure => have := HK1.out; omega
                            case rel => exact ⟨(y207), (ji16), (by first | rfl | (simp; done) | (simp only [← hji16] <;> (first | rfl | simp)) | (simp [*]; done)), H', ⟨by have := HK1.out; omega⟩, ⟨by (with_reducible repeat (first | apply Kd.R_alloc | apply Kd.R_drewN | apply Kd.R_drew)); exact HO_7.out⟩, ⟨by repeat (first | (with_reducible first | exact HB.out | apply below_alloc | apply pw_below_drewN | apply below_drew1) | exact HB.out)⟩⟩
                          · rw [if_neg c18] at H
                            exact absurd H (by simp)
                        · rw [if_neg c17] at H
                          exact absurd H (by simp)
                      · rw [if_neg c15] at H
                        have c15b0 : decide ((wrap64 (x15_1 + 1)) < a2) = false := decide_eq_false c15
                        clear c15
                        have H' := Aside0.mk H
                        clear H
                        have p203 : 0 ≤ (x15_1 : Int) := of_decide_eq_true (by first | (with_reducible assumption) | assumption)
                        have q203 : x15_1 < (l0.length : Int) := of_decide_eq_true (by first | (with_reducible assumption) | assumption)
                        obtain ⟨ad203, e203, hx203_0⟩ := Kd.at_int HR0.out x15_1 p203 q203
                        cases e203
                        replace hx203_0 := (HB.out.cell (World.block_lt_of_cell? w _ hx203_0)).trans hx203_0
                        replace p203 := eq_true p203
                        replace q203 := eq_true q203
                        obtain ⟨Ao25, co25, eo25⟩ := Kd.R_slice HO_7.out
                        subst eo25
                        have p204 : 0 ≤ (x15_1 : Int) := of_decide_eq_true (by first | (with_reducible assumption) | assumption)
                        have q204 : x15_1 < (x7_1.length : Int) := of_decide_eq_true (by first | (with_reducible assumption) | assumption)
                        obtain ⟨ad204, e204, hx204_0⟩ := Kd.at_int (Kd.R_reads' HO_7.out).2.2 x15_1 p204 q204
                        cases e204
                        replace p204 := eq_true p204
                        replace q204 := eq_true q204
                        have p14 : 0 ≤ (x15_1 : Int) := of_decide_eq_true (by first | (with_reducible assumption) | assumption)
                        have q14 : (x15_1 : Int) < ((x7_1.length : Int) : Int) := of_decide_eq_true (by first | (with_reducible assumption) | assumption)
                        obtain ⟨go14, co14, eo14, gb14, gl14, cl14, HG14⟩ := Kd.R_form HO_7.out (by omega)
                        (first | cases eo14 | (injection eo14 with ea_ en_ ec_; (first | subst ea_ | (injection ea_ with ea_; subst ea_)); subst ec_; clear en_))
                        have GB14 := Aside0.mk gb14
                        have GG14 := Aside0.mk HG14
                        clear gb14 gl14 HG14
                        (first | simp only [add_plain] at hx204_0 | skip)
                        obtain ⟨hx14_0, hf14_0⟩ := Kd.R_celln 0 HO_7.out (x15_1 : Int) p14 q14
                        replace p14 := eq_true p14
                        replace q14 := eq_true q14
                        have HP26 := Kd.R_putg HO_7.out (x15_1 : Int) (Go.bits .or .u32 (rd x7_1 x15_1) ((IntKind.u64.wrap ((IntKind.u64.wrap (rd l0 x15_1)) * 2 ^ a1.toNat)) % 4294967296))
                        go_wp2_with (first | ((with_reducible refine gate_store (t := 85) (p := 31) rfl ?_); refine store_event (t := 85) (p := 31) (v := ?vo_w27) (w1 := (wr.setCell ⟨go14, (x15_1 : Int).toNat, none⟩ (.int .u32 (Go.bits .or .u32 (rd x7_1 x15_1) ((IntKind.u64.wrap ((IntKind.u64.wrap (rd l0 x15_1)) * 2 ^ a1.toNat)) % 4294967296))))) ?hg ?ho ?hn ?hr ?_; (case ho => rfl); (case hg => rfl); (case hn => rfl); (case hr => first | (go_simp; done) | (go_simp; rfl)); intro w27 hw; have hg : wr.grownBy w27 (some go14) := (by rw [hw]; exact HP26.2); have hp_ : Kd.R (Kd.int .u32) 85 w27 w.heap.size (fun _ => True) (.slice (some ⟨go14, 0, none⟩) x7_1.length co25) y205 := (by rw [hw, Ny205.out]; exact HP26.1); clear HP26; have n0_ := Aside0.mk (hp_); have n1_ := Aside0.mk ((by rw [hw]; exact below_set (HB.out) GB14.out : Below w.heap.size w w27)); clear HO_7; clear HB; have HO_7 := n0_; have HB := n1_; clear n0_ n1_; clear hg hw hp_))
                        go_roundg k1
                        case measure => have := HK1.out; omega
                        case rel => exact ⟨(y205), (wrap64 (x15_1 + 1)), (by first | rfl | (simp; done) | (simp [*]; done)), H', ⟨by have := HK1.out; omega⟩, ⟨by (with_reducible repeat (first | apply Kd.R_alloc | apply Kd.R_drewN | apply Kd.R_drew)); exact HO_7.out⟩, ⟨by repeat (first | (with_reducible first | exact HB.out | apply below_alloc | apply pw_below_drewN | apply below_drew1) | exact HB.out)⟩⟩
                    · rw [if_neg c13] at H
                      exact absurd H (by simp)
                  · rw [if_neg c12] at H
                    exact absurd H (by simp)
                · rw [if_neg c11] at H
                  exact absurd H (by simp)
              · rw [if_neg c10] at H
                exact absurd H (by simp)
            · rw [if_neg c9] at H
              exact absurd H (by simp)
          · rw [if_neg c8] at H
            have c8b0 : decide (x15_1 < (l0.length : Int)) = false := decide_eq_false c8
            clear c8
            obtain rfl := Option.some.inj H
            go_wp2
            go_ret
            exact ⟨_, by first | rfl | (simp [errW_none, errW_some] <;> rfl) | (simp [*, errW_none, errW_some] <;> rfl), by (with_reducible repeat (first | apply Kd.R_alloc | apply Kd.R_drewN | apply Kd.R_drew)); exact HO_7.out, by repeat (first | (with_reducible first | exact HB.out | apply below_alloc | apply pw_below_drewN | apply below_drew1) | exact HB.out)⟩
    · rw [if_neg c5] at H
      exact absurd H (by simp)
  · rw [if_neg c4] at H
    exact absurd H (by simp)

end Go.Proofs.YtiamgjepcagohaaDoor.P
