/- ClRws: lemmas of this claim, of 2 texts. -/
import Derived.Test.YtiamgjepcagohaaDoorClZed
import Derived.Test.YtiamgjepcagohaaDoorClNull
section
/- The reference's comparisons of lists: SameRats, SameRows, SameInts, of equal ones and of any. -/
namespace Go.Proofs.YtiamgjepcagohaaDoor.P
open Go Go.RowKit Go.Proofs.YtiamgjepcagohaaDoorW.PrintWords Go.Proofs.YtiamgjepcagohaaDoorW.PrintLast Go.Proofs.YtiamgjepcagohaaDoorW.PrintMore Go.Proofs.YtiamgjepcagohaaDoor.Ari

set_option maxHeartbeats 2000000 in
set_option maxRecDepth 1000000 in
theorem SameRats_c {w0 w : World} {u v : Value} {n : Nat} {X : Nat → Raw} (hB : Below w0.heap.size w0 w) (hu : Vec w u n X) (hv : Vec w v n X) (hn : n ≤ 1000) :
    Calls Tryd.prog 33 #[u, v] w fun e w' => e = .returned (.bool true) ∧ Below w0.heap.size w0 w' := by
  have H0 := Aside0.mk hB
  obtain ⟨ua, uc, rfl, hur⟩ := hu.ex
  obtain ⟨va, vc, rfl, hvr⟩ := hv.ex
  have HU := Aside0.mk hur
  have HV := Aside0.mk hvr
  have HB : Aside0 (Below w.heap.size w w) := ⟨Below.refl _ _⟩
  clear hB hu hv hur hvr
  go_enter Tryd.func33, Tryd.ntmps33
  go_wp2
  go_loopw [5] (fun v5 wr => ∃ i : Nat, i ≤ n ∧ v5 = .int .i64 i ∧ Aside0 (Below w.heap.size w wr)) (fun v5 _ => n - (intOf v5).toNat)
  case atStart => exact ⟨0, by omega, rfl, HB⟩
  case round =>
    clear HB
    obtain ⟨i, hi, rfl, HB⟩ := hrel
    by_cases hin : i < n
    · obtain ⟨ub, uo, rfl, hue⟩ := (HU.out.below HB.out).ex (by omega)
      obtain ⟨vb, vo, rfl, hve⟩ := (HV.out.below HB.out).ex (by omega)
      have E1 := hue.el i hin
      have E2 := hve.el i hin
      obtain ⟨⟨x0, x1, x2⟩, hx⟩ : ∃ x, X i = x := ⟨_, rfl⟩
      rw [hx] at E1 E2
      replace E1 := Aside0.mk E1
      replace E2 := Aside0.mk E2
      clear hx hue hve
      go_upto_region 6 with (fail)
      (refine wp_region_below (by kernel_rfl) (by kernel_rfl) ?_); (repeat (refine wpQuiet_step (fun K hK => ?_); go_simp; first | (refine hK _ ?_; clear hK K) | (apply Exists.intro; refine ⟨fun V hV => ?_, hK _ ?_⟩; (focus ((first | rfl | ((have kx := (E1.out.below hV)); have kc0 := kx.c0; have kc1 := kx.c1; have kc2 := kx.c2; clear kx; go_simp; first | rfl | fail) | ((have kx := (E2.out.below hV)); have kc0 := kx.c0; have kc1 := kx.c1; have kc2 := kx.c2; clear kx; go_simp; first | rfl | fail) | (go_simp; first | rfl | fail)))); clear hK K))); (refine wpQuiet_nil ?_); (intro V hV)
      go_wp2
      refine ⟨⟨i + 1, hin, by go_num, ⟨below_step HB.out hV⟩⟩, ?_⟩
      simp [intOf]; omega
    · obtain rfl : n = i := by omega
      go_wp2
      go_ret
      exact ⟨rfl, below_step H0.out HB.out⟩

set_option maxHeartbeats 2000000 in
set_option maxRecDepth 1000000 in
theorem SameRows_c {w0 w : World} {u v : Value} {n m : Nat} {E : Nat → Nat → Raw} (hB : Below w0.heap.size w0 w) (hu : Mat w u n (fun _ => m) E) (hv : Mat w v n (fun _ => m) E) (hn : n ≤ 1000) (hm : m ≤ 1000) :
    Calls Tryd.prog 13 #[u, v] w fun e w' => e = .returned (.bool true) ∧ Below w0.heap.size w0 w' := by
  have H0 := Aside0.mk hB
  obtain ⟨ua, uc, A1, C1, rfl, hu2, hu3⟩ := hu.ex
  obtain ⟨va, vc, A2, C2, rfl, hv2, hv3⟩ := hv.ex
  have HU := Aside0.mk hu2
  have HV := Aside0.mk hv2
  have HU3 := Aside0.mk hu3
  have HV3 := Aside0.mk hv3
  have HB : Aside0 (Below w.heap.size w w) := ⟨Below.refl _ _⟩
  clear hB hu hv hu2 hu3 hv2 hv3
  go_enter Tryd.func13, Tryd.ntmps13
  go_wp2
  go_loopw [5] (fun v5 wr => ∃ i : Nat, i ≤ n ∧ v5 = .int .i64 i ∧ Aside0 (Below w.heap.size w wr)) (fun v5 _ => n - (intOf v5).toNat)
  case atStart => exact ⟨0, by omega, rfl, HB⟩
  case round =>
    clear HB
    obtain ⟨i, hi, rfl, HB⟩ := hrel
    by_cases hin : i < n
    · obtain ⟨ub, uo, rfl, hue⟩ := HU.out (by omega)
      obtain ⟨vb, vo, rfl, hve⟩ := HV.out (by omega)
      have T1 := Aside0.mk (cell_below HB.out (hue i hin))
      have T2 := Aside0.mk (cell_below HB.out (hve i hin))
      have HS : Aside0 (∀ V : World, Below wr.heap.size wr V → Calls Tryd.prog 33 #[.slice (A1 i) m (C1 i), .slice (A2 i) m (C2 i)] V fun e w' => e = .returned (.bool true) ∧ Below wr.heap.size wr w') := ⟨fun V h => SameRats_c (X := E i) h ⟨⟨_, _, rfl, (HU3.out i hin).below (below_step HB.out h)⟩⟩ ⟨⟨_, _, rfl, (HV3.out i hin).below (below_step HB.out h)⟩⟩ hm⟩
      clear hue hve
      go_upto_region 6 with (fail)
      (refine wp_region_below (by kernel_rfl) (by kernel_rfl) ?_); (repeat (refine wpQuiet_step (fun K hK => ?_); go_simp; first | (refine hK _ ?_; clear hK K) | (apply Exists.intro; refine ⟨fun V hV => ?_, hK _ ?_⟩; (focus ((first | rfl | ((with_reducible exact HS.out _ hV)) | ((have kx := cell_below hV T1.out); go_simp; first | rfl | fail) | ((have kx := cell_below hV T2.out); go_simp; first | rfl | fail)))); clear hK K))); (refine wpQuiet_nil ?_); (intro V hV)
      go_wp2
      refine ⟨⟨i + 1, hin, by go_num, ⟨below_step HB.out hV⟩⟩, ?_⟩
      simp [intOf]; omega
    · obtain rfl : n = i := by omega
      go_wp2
      go_ret
      exact ⟨rfl, below_step H0.out HB.out⟩
set_option maxHeartbeats 2000000 in
set_option maxRecDepth 1000000 in
theorem SameInts_c {w0 w : World} {b b' : Nat} {u v : Value} {l : List Nat} (hB : Below w0.heap.size w0 w) (hu : OwnP w b u l) (hv : OwnP w b' v l) (hn : l.length ≤ 1000) :
    Calls Tryd.prog 14 #[u, v] w fun e w' => e = .returned (.bool true) ∧ Below w0.heap.size w0 w' := by
  have H0 := Aside0.mk hB
  have HU := Aside0.mk hu
  have HV := Aside0.mk hv
  obtain ⟨ua, uc, rfl⟩ := own_slice hu
  obtain ⟨va, vc, rfl⟩ := own_slice hv
  have HB : Aside0 (Below w.heap.size w w) := ⟨Below.refl _ _⟩
  clear hB hu hv
  go_enter Tryd.func14, Tryd.ntmps14
  go_wp2
  go_loopw [5] (fun v5 wr => ∃ i : Nat, i ≤ l.length ∧ v5 = .int .i64 i ∧ Aside0 (Below w.heap.size w wr)) (fun v5 _ => l.length - (intOf v5).toNat)
  case atStart => exact ⟨0, by omega, rfl, HB⟩
  case round =>
    clear HB
    obtain ⟨i, hi, rfl, HB⟩ := hrel
    by_cases hin : i < l.length
    · have hou := pw_own_below HU.out HB.out
      have hov := pw_own_below HV.out HB.out
      obtain ⟨gu, cu, hvu, _, _⟩ := own_shape hou (by omega)
      injection hvu with q1 q2 q3
      subst q1
      subst q3
      clear q2
      obtain ⟨gv, cv, hvv, _, _⟩ := own_shape hov (by omega)
      injection hvv with q1 q2 q3
      subst q1
      subst q3
      clear q2
      have T1 := Aside0.mk (OwnP.cell hou hin)
      have T2 := Aside0.mk (OwnP.cell hov hin)
      obtain ⟨x, hx⟩ : ∃ x, l.getD i 0 = x := ⟨_, rfl⟩
      rw [hx] at T1 T2
      clear hou hov hx
      go_upto_region 6 with (fail)
      (refine wp_region_below (by kernel_rfl) (by kernel_rfl) ?_); (repeat (refine wpQuiet_step (fun K hK => ?_); go_simp; first | (refine hK _ ?_; clear hK K) | (apply Exists.intro; refine ⟨fun V hV => ?_, hK _ ?_⟩; (focus ((first | rfl | ((have kx := cell_below hV T1.out); go_simp; first | rfl | fail) | ((have kx := cell_below hV T2.out); go_simp; first | rfl | fail)))); clear hK K))); (refine wpQuiet_nil ?_); (intro V hV)
      go_wp2
      refine ⟨⟨i + 1, hin, by go_num, ⟨below_step HB.out hV⟩⟩, ?_⟩
      simp [intOf]; omega
    · obtain rfl : l.length = i := by omega
      go_wp2
      go_ret
      exact ⟨rfl, below_step H0.out HB.out⟩
end Go.Proofs.YtiamgjepcagohaaDoor.P
end
section
/- LinearRows. -/
namespace Go.Proofs.YtiamgjepcagohaaDoor.P
open Go Go.RowKit Go.Proofs.YtiamgjepcagohaaDoorW.PrintWords Go.Proofs.YtiamgjepcagohaaDoorW.PrintLast Go.Proofs.YtiamgjepcagohaaDoorW.PrintMore Go.Proofs.YtiamgjepcagohaaDoor.Ari

/-- A multiple of row q added to row p, in the first k columns. -/
def addK (G : Gr) (p q : Nat) (f : Rat) (k : Nat) : Gr := fun i j => if i = p ∧ j < k then G p j + f * G q j else G i j
def addR (G : Gr) (p q : Nat) (f : Rat) : Gr := fun i j => if i = p then G p j + f * G q j else G i j
theorem sp_add {n m p q : Nat} {G : Gr} {f : Rat} (hp : p < n) (hq : q < n) (h : p ≠ q) : SpM n m G (addR G p q f) ∧ SpM n m (addR G p q f) G := by
  have e1 : ∀ k, addR G p q f p k = G p k + f * G q k := fun k => by show (if p = p then _ else _) = _; rw [if_pos rfl]
  have e2 : ∀ i, i ≠ p → ∀ k, addR G p q f i k = G i k := fun i hi k => by show (if i = p then _ else _) = _; rw [if_neg hi]
  constructor
  · intro i hi
    by_cases e : i = p
    · refine Sp.congr (Sp.add (Sp.row hp) (Sp.mul f (Sp.row hq))) (fun k _ => by rw [e, e1])
    · exact Sp.congr (Sp.row hi) (fun k _ => e2 i e k)
  · intro i hi
    by_cases e : i = p
    · refine Sp.congr (Sp.add (Sp.row (i := p) hp) (Sp.mul (-f) (Sp.row (i := q) hq))) (fun k _ => ?_)
      rw [e, e1, e2 q (Ne.symm h)]; grind
    · exact Sp.congr (Sp.row hi) (fun k _ => (e2 i e k).symm)
theorem okay_n {n m N : Nat} {G : Gr} (hn : n ≤ 4) (h1 : 1 ≤ N) (hN : N ≤ 16) (hG : ∀ i k, Fit N (G i k)) : Okay n m N (ech n m 0 ⟨G, [], 1⟩).piv.length m (rwM G) (ech n m 0 ⟨G, [], 1⟩) := by
  refine Okay.mk_ (fun i _ k _ => (hG i k).raw) h1 (Nat.le_refl _) (by rw [vals_rw]) rfl ?_
  have hp := (ech_form n m G).1.ple
  have : 8 ^ (ech n m 0 ⟨G, [], 1⟩).piv.length ≤ 8 ^ 4 := Nat.pow_le_pow_right (by decide) (by omega)
  calc N * 8 ^ (ech n m 0 ⟨G, [], 1⟩).piv.length ≤ 16 * 8 ^ 4 := Nat.mul_le_mul hN this
    _ ≤ 1073741824 := by decide
theorem addR_fit {G : Gr} {p q : Nat} {f : Rat} (hG : ∀ i k, Fit 1 (G i k)) (hf : Fit 1 f) (i k : Nat) : Fit 4 (addR G p q f i k) := by
  unfold addR
  split
  · exact ((hG p k).add (hf.mul (hG q k))).mono (by decide)
  · exact (hG i k).mono (by decide)
theorem swapR_fit {G : Gr} {N a b : Nat} (hG : ∀ i k, Fit N (G i k)) (i k : Nat) : Fit N (swapR G a b i k) := by
  unfold swapR
  split
  · exact hG _ _
  · split
    · exact hG _ _
    · exact hG _ _
theorem Grid.mat' {W : World} {B g n m cap : Nat} {A C : Nat → Nat} {G : Gr} (h : Grid W B g n m A C G) : Mat W (.slice (some ⟨g, 0, none⟩) n cap) n (fun _ => m) (rwM G) := h.mat
/-- b[0], b[q] = b[q], b[0]. -/
theorem tmod_nat {x n p : Nat} (h : x % n = p) : Int.tmod (x : Int) (n : Int) = (p : Int) := by
  rw [Int.tmod_eq_emod_of_nonneg (by omega), ← h]; simp

set_option maxHeartbeats 2000000 in
set_option maxRecDepth 1000000 in
theorem LinearRows_c {w : World} {a0 a1 a3 a4 a5 : Int} {lv : Value} {len : Nat} {l : Nat → Nat} (h0 : 0 ≤ a0) (h01 : a0 < 256) (h1 : 0 ≤ a1) (h11 : a1 < 256) (hL : LU w lv len l) (h3 : 0 ≤ a3) (h31 : a3 < 256) (h4 : 0 ≤ a4) (h41 : a4 < 256) (h5 : 0 ≤ a5) (h51 : a5 < 65536) :
    Calls Tryd.prog 3 #[.int .u8 a0, .int .u8 a1, lv, .int .u8 a3, .int .u8 a4, .int .u16 a5] w fun e w' => e = .returned (.bool true) ∧ Below w.heap.size w w' := by
  obtain ⟨x, rfl⟩ := Int.eq_ofNat_of_zero_le h0
  obtain ⟨y, rfl⟩ := Int.eq_ofNat_of_zero_le h1
  obtain ⟨xi, rfl⟩ := Int.eq_ofNat_of_zero_le h3
  obtain ⟨xj, rfl⟩ := Int.eq_ofNat_of_zero_le h4
  obtain ⟨xb, rfl⟩ := Int.eq_ofNat_of_zero_le h5
  obtain ⟨n0, hn0⟩ : ∃ n, x % 3 = n := ⟨_, rfl⟩
  obtain ⟨m0, hm0⟩ : ∃ m, y % 4 = m := ⟨_, rfl⟩
  obtain ⟨n, hn⟩ : ∃ n, 2 + n0 = n := ⟨_, rfl⟩
  obtain ⟨m, hm⟩ : ∃ m, 1 + m0 = m := ⟨_, rfl⟩
  obtain ⟨p, hp⟩ : ∃ p, xi % n = p := ⟨_, rfl⟩
  obtain ⟨q, hq⟩ : ∃ q, xj % n = q := ⟨_, rfl⟩
  have e1 : ((x : Int)).tmod 3 = (n0 : Int) := by rw [Int.tmod_eq_emod_of_nonneg h0]; omega
  have e2 : ((y : Int)).tmod 4 = (m0 : Int) := by rw [Int.tmod_eq_emod_of_nonneg h1]; omega
  have e3 : (2 : Int) + (n0 : Int) = (n : Int) := by omega
  have e4 : (1 : Int) + (m0 : Int) = (m : Int) := by omega
  have e5 : n0 < 3 := by omega
  have e6 : m0 < 4 := by omega
  have e7 := tmod_nat hp
  have e8 := tmod_nat hq
  have hn4 : n ≤ 4 := by omega
  have hm4 : m ≤ 4 := by omega
  have hn1 : 1 < n := by omega
  have hm1 : 0 < m := by omega
  have hpn : p < n := by rw [← hp]; exact Nat.mod_lt _ (by omega)
  have hqn : q < n := by rw [← hq]; exact Nat.mod_lt _ (by omega)
  have hne : ((n : Int) == 0) = false := by simp; omega
  have e9 : wrap64 (xi : Int) = (xi : Int) := w64s (b := 256) (by omega) (by decide)
  have e10 : wrap64 (xj : Int) = (xj : Int) := w64s (b := 256) (by omega) (by decide)
  obtain ⟨G, hG⟩ : ∃ G, mxG m len l = G := ⟨_, rfl⟩
  have hF1 : ∀ i k, Fit 1 (G i k) := fun i k => hG ▸ mxE_fit _ _ _
  obtain ⟨f, hf⟩ : ∃ f, sgR xb = f := ⟨_, rfl⟩
  have HFF : Aside0 (Fit 1 f) := ⟨hf ▸ sgR_fit _⟩
  have hxb : xb < 65536 := by omega
  have HSG : Aside0 (∀ U V : World, Below U.heap.size U V → Calls Tryd.prog 8 #[.int .u16 (xb : Int)] V fun e w' => e = .returned (rv f) ∧ Below U.heap.size U w') := ⟨fun U V h => hf ▸ Signed_c h hxb⟩
  have HS := Aside0.mk (And.intro hn1 (And.intro hn4 (And.intro hm1 (And.intro hm4 (And.intro hpn hqn)))))
  have HF1 := Aside0.mk hF1
  have HMX : Aside0 (∀ U, Below w.heap.size w U → Calls Tryd.prog 7 #[.int .i64 (n : Int), .int .i64 (m : Int), lv] U fun e w' => ∃ g cap A C, e = .returned (.slice (some ⟨g, 0, none⟩) n cap) ∧ Below U.heap.size U w' ∧ U.heap.size ≤ g ∧ Grid w' U.heap.size g n m A C G) := ⟨fun U h => hG ▸ Matrix_c (Below.refl _ _) (hL.below h) (by omega) (by omega) hm1 (by omega)⟩
  clear h0 h01 h1 h11 h3 h31 h4 h41 h5 h51 hn0 hm0 hn hm hG hF1 hL hp hq hf hxb
  go_enter Tryd.func3, Tryd.ntmps3
  go_upto_region 3 with (go_at_call 7; (with_reducible refine (HMX.out _ (Below.refl _ _)).mono ?_); rintro e w1 ⟨g1, cap1, A1, C1, rfl, hV, hg, hGr⟩; have HM := Aside0.mk (hGr.mat' (cap := cap1)); have HBW := Aside0.mk hV; clear hV hg hGr)
  go_upto_region 4 with (go_at_call 7; (with_reducible refine (HMX.out _ HBW.out).mono ?_); rintro e w2 ⟨g, cap, A, C, rfl, hV, hg, hGr⟩; have HGW := Aside0.mk (And.intro hg (fun i (hi : i < n) => (hGr.ge i hi))); have HB := Aside0.mk hV; have HG := Aside0.mk hGr; clear hV hg hGr)
  go_quiet (fail)
  have hV := pw_below_drewN (Below.refl w2.heap.size w2) nq
  obtain ⟨w4, hw4⟩ : ∃ x, w2.drewN nq = x := ⟨_, rfl⟩
  rw [hw4] at hV ⊢
  (replace HG := Aside0.mk (HG.out.below hV)); (replace HB := Aside0.mk (below_step HB.out hV))
  clear hw4 hV e7 e8 e9 e10 hne e1 e2 e3 e4 e5 e6
  go_upto_region 6 with (go_at_call 8; (with_reducible refine (HSG.out _ _ (Below.refl _ _)).mono ?_); rintro e w3 ⟨rfl, hV⟩; (replace HG := Aside0.mk (HG.out.below hV)); (replace HB := Aside0.mk (below_step HB.out hV)); clear hV)
  obtain ⟨p19, hp19⟩ : ∃ x, w3.heap.size = x := ⟨_, rfl⟩
  obtain ⟨w5, hw5, HX, hV⟩ := box1 w3 (.bool (ngv f)) (.string (enc f.num.natAbs)) (.string (encD f.den)) 27
  rw [hw5]
  have HGP : Aside0 (g < p19 ∧ ∀ i, i < n → A i < p19) := ⟨hp19 ▸ ⟨HG.out.lt, fun i hi => (HG.out.rows i hi).lt⟩⟩
  rw [hp19] at HX ⊢
  (replace HG := Aside0.mk (HG.out.below hV)); (replace HB := Aside0.mk (below_step HB.out hV))
  clear hw5 hp19 hV
  obtain ⟨GB, hGB⟩ : ∃ GB : Gr, (if p = q then G else addR G p q f) = GB := ⟨_, rfl⟩
  have HGB := Aside0.mk hGB
  clear hGB
  go_upto_block 0 with (fail)
  go_cut [16] (fun v16 wc => v16 = .slice (some ⟨g, 0, none⟩) n cap ∧ Aside0 (Grid wc w1.heap.size g n m A C GB) ∧ Aside0 (Below w1.heap.size w1 wc))
  case first =>
    by_cases hpq : p = q
    · subst hpq
      have HGB2 : Aside0 (GB = G) := ⟨by rw [← HGB.out, if_pos rfl]⟩
      go_wp2
      go_loopw [20] (fun v20 wr => v20 = .int .i64 0 ∧ wr = w5) (fun _ _ => 0)
      case atStart => exact ⟨rfl, rfl⟩
      case round =>
        obtain ⟨rfl, rfl⟩ := hrel
        go_wp2
        go_meet
        exact ⟨rfl, ⟨by rw [HGB2.out]; exact HG.out⟩, HB⟩
    · have hb : ((p : Int) != (q : Int)) = true := by simp; omega
      have HGB2 : Aside0 (GB = addR G p q f) := ⟨by rw [← HGB.out, if_neg hpq]⟩
      have HPQ := Aside0.mk hpq
      have HG0 : Aside0 (Grid w5 w1.heap.size g n m A C (addK G p q f 0)) := ⟨HG.out.congr (fun i _ j _ => by unfold addK; rw [if_neg (by omega)])⟩
      clear hpq HG
      go_wp2
      go_loopw [20] (fun v20 wr => ∃ k : Nat, k ≤ m ∧ v20 = .int .i64 k ∧ Aside0 (Grid wr w1.heap.size g n m A C (addK G p q f k)) ∧ Aside0 (Bx wr p19 (.bool (ngv f)) (.string (enc f.num.natAbs)) (.string (encD f.den))) ∧ Aside0 (Below w1.heap.size w1 wr)) (fun v20 _ => m - (intOf v20).toNat)
      case atStart => exact ⟨0, by omega, rfl, HG0, HX, HB⟩
      case round =>
        clear HG0 HX HB
        obtain ⟨k, hk, rfl, HG, HX, HB⟩ := hrel
        by_cases hkm : k < m
        · have E1 := Aside0.mk ((HG.out.rows p hpn).el k hkm)
          have E2 := Aside0.mk ((HG.out.rows q hqn).el k hkm)
          have T1 := Aside0.mk (HG.out.top p hpn)
          have T2 := Aside0.mk (HG.out.top q hqn)
          have d1 : addK G p q f k p k = G p k := by unfold addK; rw [if_neg (by omega)]
          have d2 : addK G p q f k q k = G q k := by unfold addK; rw [if_neg (by have := HPQ.out; omega)]
          rw [d1] at E1
          rw [d2] at E2
          obtain ⟨a, ha⟩ : ∃ a, G p k = a := ⟨_, rfl⟩
          obtain ⟨b, hb2⟩ : ∃ b, G q k = b := ⟨_, rfl⟩
          have F1 : Fit 1 a := ha ▸ HF1.out p k
          have F2 : Fit 1 b := hb2 ▸ HF1.out q k
          rw [ha] at E1
          rw [hb2] at E2
          obtain ⟨c, hc⟩ : ∃ c, f * b = c := ⟨_, rfl⟩
          obtain ⟨s, hs⟩ : ∃ s, a + c = s := ⟨_, rfl⟩
          have F3 : Fit 2 c := hc ▸ HFF.out.mul F2
          have HML : Aside0 (∀ U V : World, Below U.heap.size U V → Calls Tryd.prog 10 #[rv f, rv b] V fun e w' => e = .returned (rv c) ∧ Below U.heap.size U w') := ⟨fun U V h => hc ▸ Multiply_v h HFF.out F2 (by decide)⟩
          have HAD : Aside0 (∀ U V : World, Below U.heap.size U V → Calls Tryd.prog 9 #[rv a, rv c] V fun e w' => e = .returned (rv s) ∧ Below U.heap.size U w') := ⟨fun U V h => hs ▸ Add_v h F1 F3 (by decide)⟩
          have HSS : Aside0 (G p k + f * G q k = s) := ⟨by rw [ha, hb2, hc, hs]⟩
          clear d1 d2 ha hb2 F1 F2 F3 hc hs
          go_upto_region 9 with (fail)
          (refine wp_region_below_tail 23 (by kernel_rfl) (by kernel_rfl) ?_); (simp only [List.take_succ_cons, List.take_zero, List.drop_succ_cons, List.drop_zero]); (repeat (refine wpQuiet_step (fun K hK => ?_); go_simp; first | (refine hK _ ?_; clear hK K) | (apply Exists.intro; refine ⟨fun V hV => ?_, hK _ ?_⟩; (focus ((first | rfl | ((with_reducible exact HML.out _ _ hV)) | ((with_reducible exact HAD.out _ _ hV)) | ((have kx := cell_below hV T1.out); go_simp; first | rfl | fail) | ((have kx := cell_below hV T2.out); go_simp; first | rfl | fail) | ((have kx := (E1.out.below hV)); have kc0 := kx.c0; have kc1 := kx.c1; have kc2 := kx.c2; clear kx; go_simp; first | rfl | fail) | ((have kx := (E2.out.below hV)); have kc0 := kx.c0; have kc1 := kx.c1; have kc2 := kx.c2; clear kx; go_simp; first | rfl | fail) | ((have kx := (HX.out.below hV)); have kc0 := kx.c0; have kc1 := kx.c1; have kc2 := kx.c2; clear kx; go_simp; first | rfl | fail)))); clear hK K))); (refine wpQuiet_nil ?_); (intro V hV)
          replace HG := Aside0.mk (HG.out.below hV)
          replace HB := Aside0.mk (below_step HB.out hV)
          replace HX := Aside0.mk (HX.out.below hV)
          clear hV E1 E2 T1 T2 HML HAD
          have ee := ((HG.out.rows p hpn).el k hkm); have ea0 := ee.c0; have ea1 := ee.c1; have ea2 := ee.c2; clear ee; have eb0 := (HG.out.rows p hpn).fr (k * 3); have eb1 := (HG.out.rows p hpn).fr (k * 3 + 1); have eb2 := (HG.out.rows p hpn).fr (k * 3 + 2)
          go_wp2
          clear ea0 ea1 ea2 eb0 eb1 eb2
          have hc := chg_set3 (S := fun b => b = A p) (b := A p) (o := k * 3) (Chg.refl V _) (.inl rfl) (.bool (ngv s)) (.string (enc s.num.natAbs)) (.string (encD s.den))
          have hg := HG.out.row hpn hc ((HG.out.rows p hpn).set hkm s)
          refine ⟨⟨k + 1, hkm, by go_num, ⟨hg.congr (fun i hi j hj => ?_)⟩, ⟨HX.out.chg hc (fun e => by have := HGP.out.2 p hpn; omega)⟩, ⟨hc.out HB.out (fun y hy => by rw [hy]; have := HGW.out.2 p hpn; omega)⟩⟩, ?_⟩
          · by_cases e : i = p
            · simp only [if_pos e]
              unfold addK
              by_cases e2 : j = k
              · rw [if_pos e2, if_pos ⟨e, by omega⟩, e2, HSS.out]
              · rw [if_neg e2]
                by_cases e3 : j < k
                · rw [if_pos ⟨rfl, e3⟩, if_pos ⟨e, by omega⟩]
                · rw [if_neg (by omega), if_neg (by omega), e]
            · simp only [if_neg e]
              unfold addK
              rw [if_neg (by omega), if_neg (by omega)]
          · simp [intOf]; omega
        · obtain rfl : m = k := by omega
          go_wp2
          go_meet
          refine ⟨rfl, ⟨?_⟩, HB⟩
          rw [HGB2.out]
          refine HG.out.congr (fun i _ j hj => ?_)
          unfold addK addR
          by_cases e : i = p
          · rw [if_pos ⟨e, hj⟩, if_pos e]
          · rw [if_neg (by omega), if_neg e]
  case rest =>
    clear HG HB HX
    obtain ⟨rfl, HG, HB⟩ := hcut
    have HGG : Aside0 (w1.heap.size ≤ g) := ⟨HGW.out.1⟩
    go_upto_region 10 with (fail)
    obtain ⟨G2, hG2⟩ : ∃ G2, swapR GB 0 q = G2 := ⟨_, rfl⟩
    have HG2 := Aside0.mk hG2
    clear hG2
    go_cut [16] (fun v16 wd => v16 = .slice (some ⟨g, 0, none⟩) n cap ∧ ∃ A' C', Aside0 (Grid wd w1.heap.size g n m A' C' G2) ∧ Aside0 (Below w1.heap.size w1 wd))
    case first =>
      have hn0 : 0 < n := by omega
      by_cases hq0 : q = 0
      · subst hq0
        have t1 := HG.out.top 0 hn0
        have t3 := HG.out.ftop 0
        have t7 : ∀ v, (wc.setCell ⟨g, 0, none⟩ v).cell? ⟨g, 0, none⟩ = some v := fun v => cell_setn (by rw [t1]; rfl) v
        go_region
        clear t1 t3 t7
        have hg := (HG.out.swap hn0 hn0).below (below_drew1 (Below.refl _ _))
        have hc : Chg wc ((wc.setCell ⟨g, 0, none⟩ (.slice (some ⟨A 0, 0, none⟩) m (C 0))).setCell ⟨g, 0, none⟩ (.slice (some ⟨A 0, 0, none⟩) m (C 0))).drew (fun b => b = g) := (((Chg.refl wc (fun b => b = g)).setCell (p := ⟨g, 0, none⟩) (.inl rfl) _).setCell (p := ⟨g, 0, none⟩) (.inl rfl) _).drew
        rw [HG2.out] at hg
        go_wp2
        go_meet
        exact ⟨rfl, _, _, ⟨hg⟩, ⟨hc.out HB.out (fun y hy => by rw [hy]; exact HGG.out)⟩⟩
      · have t1 := HG.out.top 0 hn0
        have t2 := HG.out.top q hqn
        have t3 := HG.out.ftop 0
        have t4 := HG.out.ftop q
        have z4 : ¬ (q = 0) := hq0
        have z5 : ¬ (0 = q) := by omega
        have t5 : ∀ v, (wc.setCell ⟨g, 0, none⟩ v).cell? ⟨g, q, none⟩ = some (.slice (some ⟨A q, 0, none⟩) m (C q)) := fun v => (World.cell?_setCell_other _ _ _ _ (fun h => by injection h with _ h; omega)).trans t2
        clear hq0
        go_region
        clear t1 t2 t3 t4 t5 z4 z5
        have hg := (HG.out.swap hn0 hqn).below (below_drew1 (Below.refl _ _))
        have hc : Chg wc ((wc.setCell ⟨g, 0, none⟩ (.slice (some ⟨A q, 0, none⟩) m (C q))).setCell ⟨g, q, none⟩ (.slice (some ⟨A 0, 0, none⟩) m (C 0))).drew (fun b => b = g) := (((Chg.refl wc (fun b => b = g)).setCell (p := ⟨g, 0, none⟩) (.inl rfl) _).setCell (p := ⟨g, q, none⟩) (.inl rfl) _).drew
        rw [HG2.out] at hg
        go_wp2
        go_meet
        exact ⟨rfl, _, _, ⟨hg⟩, ⟨hc.out HB.out (fun y hy => by rw [hy]; exact HGG.out)⟩⟩
    case rest =>
      clear HG HB
      obtain ⟨rfl, A', C', HG, HB⟩ := hcut
      have hspan : SpM n m G G2 ∧ SpM n m G2 G := by
        have h1 : SpM n m G GB ∧ SpM n m GB G := by
          rw [← HGB.out]
          by_cases e : p = q
          · rw [if_pos e]; exact ⟨SpM.refl _ _ _, SpM.refl _ _ _⟩
          · rw [if_neg e]; exact sp_add hpn hqn e
        have h2 := sp_swap (m := m) (G := GB) (a := 0) (r := q) (by omega) hqn
        rw [HG2.out] at h2
        exact ⟨h1.1.trans h2.1, h2.2.trans h1.2⟩
      have hu := ech_unique hspan.1 hspan.2
      have hf2 : ∀ i k, Fit 4 (G2 i k) := by
        rw [← HG2.out]
        refine swapR_fit (fun i k => ?_)
        rw [← HGB.out]
        split
        · exact (HF1.out i k).mono (by decide)
        · exact addR_fit HF1.out HFF.out i k
      have hok1 := small_okay (m := m) hn4 HF1.out
      have hok2 := okay_n (m := m) hn4 (by decide) (by decide) hf2
      have hck := chk_in (show 0 < n by omega) (show n ≤ 16 by omega) hm1 (show m ≤ 16 by omega)
      have hpl := (ech_form n m G).1.ple
      obtain ⟨O1, hO1⟩ : ∃ O, ech n m 0 ⟨G, [], 1⟩ = O := ⟨_, rfl⟩
      obtain ⟨O2, hO2⟩ : ∃ O, ech n m 0 ⟨G2, [], 1⟩ = O := ⟨_, rfl⟩
      rw [hO1] at hok1 hu hpl
      rw [hO2] at hok2 hu
      have HU := Aside0.mk hu
      have HK1 := Aside0.mk hok1
      have HK2 := Aside0.mk hok2
      have HCK := Aside0.mk hck
      have HPL := Aside0.mk hpl
      have HM2 := Aside0.mk (HM.out.below HB.out)
      have HMB := Aside0.mk (HG.out.mat' (cap := cap))
      have HBB := Aside0.mk (below_step HBW.out HB.out)
      clear hspan hu hf2 hok1 hok2 hck hpl hO1 hO2 HM HG HB HBW
      go_upto_region 12 with (go_at_call 11; (with_reducible refine (Reduce_ok (Below.refl _ _) HM2.out HCK.out rfl HK1.out).mono ?_); rintro e w6 ⟨gx, Ax, Cx, bx, px, rfl, hV, _, _, hgx, hox⟩; have HX1 := Aside0.mk (hgx.mat' (cap := n)); have HO1 := Aside0.mk hox; replace HMB := Aside0.mk (HMB.out.below hV); replace HBB := Aside0.mk (below_step HBB.out hV); clear hV hgx hox)
      go_upto_region 13 with (go_at_call 11; (with_reducible refine (Reduce_ok (Below.refl _ _) HMB.out HCK.out rfl HK2.out).mono ?_); rintro e w7 ⟨gy, Ay, Cy, by_, py, rfl, hV, _, _, hgy, hoy⟩; have HY1 := Aside0.mk ((hgy.congr (fun i hi k hk => (HU.out.2 i hi k hk).symm)).mat' (cap := n)); rw [← HU.out.1] at hoy; have HO2 := Aside0.mk hoy; replace HX1 := Aside0.mk (HX1.out.below hV); replace HO1 := Aside0.mk (pw_own_below HO1.out hV); replace HBB := Aside0.mk (below_step HBB.out hV); clear hV hgy hoy)
      go_wp2_with (first
        | (go_at_call 12; (with_reducible refine (awake_c (Below.refl _ _)).mono ?_); rintro e w8 ⟨rfl, hV⟩; replace HX1 := Aside0.mk (HX1.out.below hV); replace HY1 := Aside0.mk (HY1.out.below hV); replace HO1 := Aside0.mk (pw_own_below HO1.out hV); replace HO2 := Aside0.mk (pw_own_below HO2.out hV); replace HBB := Aside0.mk (below_step HBB.out hV); clear hV)
        | (go_at_call 13; (with_reducible refine (SameRows_c (Below.refl _ _) HX1.out HY1.out (by omega) (by omega)).mono ?_); rintro e w9 ⟨rfl, hV⟩; replace HO1 := Aside0.mk (pw_own_below HO1.out hV); replace HO2 := Aside0.mk (pw_own_below HO2.out hV); replace HBB := Aside0.mk (below_step HBB.out hV); clear hV)
        | (go_at_call 14; (with_reducible refine (SameInts_c (Below.refl _ _) HO1.out HO2.out (by have := HPL.out; omega)).mono ?_); rintro e w10 ⟨rfl, hV⟩; replace HBB := Aside0.mk (below_step HBB.out hV); clear hV))
      go_ret
      exact ⟨rfl, HBB.out⟩
end Go.Proofs.YtiamgjepcagohaaDoor.P
end
