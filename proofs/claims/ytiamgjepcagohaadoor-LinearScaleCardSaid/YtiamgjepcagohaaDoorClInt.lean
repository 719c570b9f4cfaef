/- ClInt: lemmas of this claim, of 4 texts. -/
import Derived.Test.YtiamgjepcagohaaDoorClKer
import Derived.Test.YtiamgjepcagohaaDoorClRcon
section
/- Package linear: Kernel. -/
namespace Go.Proofs.YtiamgjepcagohaaDoor.P
open Go Go.RowKit Go.Proofs.YtiamgjepcagohaaDoorW.PrintWords Go.Proofs.YtiamgjepcagohaaDoorW.PrintLast Go.Proofs.YtiamgjepcagohaaDoorW.PrintMore Go.Proofs.YtiamgjepcagohaaDoor.Ari

/-- The vectors found so far: a slice of the call's own, all its blocks below r. -/
structure KG (W : World) (b r : Nat) (v : Value) (m : Nat) (fs : List Nat) (V : Nat → Nat → Rat) : Prop where
  ex : ∃ A : Nat → Nat, W.ownsRow b 30 1 v fs.length ((List.range fs.length).map fun i => .slice (some ⟨A i, 0, none⟩) m m) ∧ (∀ i, i < fs.length → RowV W (A i) m (V (fs.getD i 0))) ∧ (∀ i, i < fs.length → ∀ k, v.ownBlock = some k → k ≠ A i) ∧ (∀ k, v.ownBlock = some k → k < r) ∧ (∀ i, i < fs.length → A i < r)
section
variable {w W : World} {b r m : Nat} {v : Value} {fs : List Nat} {V : Nat → Nat → Rat} {S : Nat → Prop}
theorem KG.nil (W : World) (b r m : Nat) (V : Nat → Nat → Rat) : KG W b r (.slice none 0 0) m [] V :=
  ⟨⟨fun _ => 0, own_nil _ _ _ _, fun i hi => absurd hi (Nat.not_lt_zero _), fun i hi => absurd hi (Nat.not_lt_zero _), fun k hk => by simp [Value.ownBlock] at hk, fun i hi => absurd hi (Nat.not_lt_zero _)⟩⟩
theorem KG.chg (k : KG w b r v m fs V) (h : Chg w W S) (hs : ∀ x, x < r → ¬ S x) : KG W b r v m fs V := by
  obtain ⟨A, h1, h2, h3, h4, h5⟩ := k.ex
  exact ⟨A, own_chg2 h1 h (fun x hx => hs x (h4 x hx)), fun i hi => (h2 i hi).chg h (hs _ (h5 i hi)), h3, h4, h5⟩
theorem KG.below (k : KG w b r v m fs V) (h : Below w.heap.size w W) : KG W b r v m fs V := k.chg (Chg.of_below h (fun _ => False)) (fun _ _ h => h)
theorem KG.mono {r' : Nat} (k : KG w b r v m fs V) (h : r ≤ r') : KG w b r' v m fs V := by
  obtain ⟨A, h1, h2, h3, h4, h5⟩ := k.ex
  exact ⟨A, h1, h2, h3, fun x hx => Nat.lt_of_lt_of_le (h4 x hx) h, fun i hi => Nat.lt_of_lt_of_le (h5 i hi) h⟩
theorem KG.push {w1 : World} {x f : Nat} {v1 : Value} {A : Nat → Nat} (h2 : ∀ i, i < fs.length → RowV W (A i) m (V (fs.getD i 0))) (h3 : ∀ i, i < fs.length → ∀ k, v.ownBlock = some k → k ≠ A i) (h4 : ∀ k, v.ownBlock = some k → k < r)
    (hx : RowV W x m (V f)) (hr : r ≤ x)
    (ho : w1.ownsRow b 30 1 v1 (fs.length + 1) (((List.range fs.length).map fun i => .slice (some ⟨A i, 0, none⟩) m m) ++ [.slice (some ⟨x, 0, none⟩) m m])) (hg : W.grownBy w1 v.ownBlock) (ha : v1.ownBlock = v.ownBlock ∨ ∃ b, v1.ownBlock = some b ∧ W.heap.size ≤ b) :
    KG w1 b w1.heap.size v1 m (fs ++ [f]) V := by
  have hc : Chg W w1 (fun k => v.ownBlock = some k) := (Chg.refl W _).grown hg (fun k hk => .inl hk)
  have hxv : ∀ k, v.ownBlock = some k → k ≠ x := fun k hk e => by have := h4 k hk; omega
  have hrow : ∀ i, i < (fs ++ [f]).length → RowV w1 (if i = fs.length then x else A i) m (V ((fs ++ [f]).getD i 0)) := by
    intro i hi
    rw [List.length_append, List.length_singleton] at hi
    by_cases e : i = fs.length
    · rw [if_pos e, e]
      rw [show (fs ++ [f]).getD fs.length 0 = f by simp [List.getD_eq_getElem?_getD]]
      exact hx.chg hc (fun h => hxv x h rfl)
    · rw [if_neg e]
      rw [show (fs ++ [f]).getD i 0 = fs.getD i 0 by simp [List.getD_eq_getElem?_getD, List.getElem?_append_left (show i < fs.length by omega)]]
      exact (h2 i (by omega)).chg hc (fun h => h3 i (by omega) _ h rfl)
  refine ⟨fun i => if i = fs.length then x else A i, ?_, hrow, fun i hi k hk e => ?_, fun k hk => own_lt ho k hk, fun i hi => (hrow i hi).lt⟩
  · rw [List.length_append, List.length_singleton, List.range_succ, List.map_append]
    have e1 : ((List.range fs.length).map fun i => Value.slice (some ⟨if i = fs.length then x else A i, 0, none⟩) m m) = (List.range fs.length).map fun i => Value.slice (some ⟨A i, 0, none⟩) m m := by
      refine List.map_congr_left (fun i hi => ?_)
      rw [List.mem_range] at hi
      rw [if_neg (by omega)]
    rw [e1]
    simpa using ho
  · rw [List.length_append, List.length_singleton] at hi
    by_cases e2 : i = fs.length
    · simp only [if_pos e2] at e
      rcases ha with ha | ⟨y, hy, hle⟩
      · exact hxv k (ha ▸ hk) e
      · have := hx.lt
        rw [hy] at hk
        injection hk with hk
        omega
    · simp only [if_neg e2] at e
      rcases ha with ha | ⟨y, hy, hle⟩
      · exact h3 i (by omega) k (ha ▸ hk) e
      · have := (h2 i (by omega)).lt
        rw [hy] at hk
        injection hk with hk
        omega
theorem KG.mat (k : KG w b r v m fs V) : Mat w v fs.length (fun _ => m) (fun i k => rw_ (V (fs.getD i 0) k)) := by
  obtain ⟨A, h1, h2, h3, h4, h5⟩ := k.ex
  rcases Nat.eq_zero_or_pos fs.length with h0 | h0
  · obtain ⟨pa, pc, rfl⟩ := own_slice h1
    exact ⟨pa, pc, fun _ => none, fun _ => 0, rfl, fun h => by omega, fun i hi => by omega⟩
  · obtain ⟨g, cap, rfl, hb, hg⟩ := own_shape h1 h0
    refine ⟨some ⟨g, 0, none⟩, cap, fun i => some ⟨A i, 0, none⟩, fun _ => m, rfl, fun _ => ⟨g, 0, rfl, fun i hi => ?_⟩, fun i hi => ⟨fun _ => ⟨A i, 0, rfl, (h2 i hi).row⟩⟩⟩
    rw [Nat.zero_add, h1.cellAt i (by omega)]
    simp [hi]
end

set_option maxHeartbeats 2000000 in
set_option maxRecDepth 1000000 in
theorem Kernel_ok {w0 w : World} {v : Value} {n m N R : Nat} {L : Nat → Nat} {E : Nat → Nat → Raw} {OUT : St} (hB : Below w0.heap.size w0 w) (hM : Mat w v n L E) (hk : chk n L = 0) (hm : L 0 = m) (hO : Okay n m N R m E OUT) :
    Calls Tryd.prog 18 #[v] w fun e w' => ∃ u, e = .returned (.tuple #[u, .int .i64 0]) ∧ Below w0.heap.size w0 w' ∧ Mat w' u (frees OUT.piv m).length (fun _ => m) (fun i k => rw_ (kv OUT.G OUT.piv ((frees OUT.piv m).getD i 0) OUT.piv.length k)) := by
  obtain ⟨h0, h16, hm0, hm16, hall⟩ := chk_ok hk
  have HC := Aside0.mk (Reduce_ok hB hM hk hm hO)
  rw [hm] at hm0 hm16
  obtain ⟨K', hK1, hpn, hent, _⟩ := hO.inv.final (m - 0) 0 N _ rfl
  have HPL : Aside0 (OUT.piv.length ≤ n ∧ ∀ x, x ∈ OUT.piv → x < m) := ⟨hpn, hO.inv.piv_lt⟩
  have HF : Aside0 (∀ i, i < n → ∀ k, k < m → Fit K' (OUT.G i k)) := ⟨hent⟩
  have HK1 := Aside0.mk hK1
  obtain ⟨p, hp⟩ : ∃ p, OUT.piv = p := ⟨_, rfl⟩
  obtain ⟨F, hFF⟩ : ∃ F, OUT.G = F := ⟨_, rfl⟩
  have H0 := Aside0.mk hB
  rw [hp] at HC HPL ⊢
  rw [hFF] at HC HF ⊢
  have hmk := fun W : World => make_rats m (by omega) W
  have HMK := Aside0.mk hmk
  obtain ⟨one, hone⟩ : ∃ q : Rat, ((1 : Int) : Rat) = q := ⟨_, rfl⟩
  have HInt : Aside0 (∀ U V : World, Below U.heap.size U V → Calls Tryd.prog 32 #[.int .i64 1] V fun e w' => e = .returned (rv one) ∧ Below U.heap.size U w') := ⟨fun U V h => hone ▸ Int_c h (by omega) (by omega)⟩
  have HONE : Aside0 (one = 1) := ⟨hone.symm⟩
  clear hB hM hO hall hk hm hp hFF hK1 hpn hent hmk hone
  go_enter Tryd.func18, Tryd.ntmps18
  go_upto_region 4 with (go_at_call 11; (with_reducible refine HC.out.mono ?_); rintro e w1 ⟨g, A, C, b, pv, rfl, hV, hg, hb, hG, hO⟩; have HV := Aside0.mk hV; have HG := Aside0.mk hG; have HO := Aside0.mk hO; obtain ⟨pa, pc, rfl⟩ := own_slice HO.out; clear hV hG hO hg hb)
  have t0 := HG.out.top 0 h0
  go_wp2
  clear t0
  obtain ⟨b1, hb1⟩ : ∃ b, w1.heap.size = b := ⟨_, rfl⟩
  have HB1E := Aside0.mk hb1
  have HBI : Aside0 (Below w1.heap.size w1 w1) := ⟨Below.refl _ _⟩
  have HKI : Aside0 (KG w1 b1 b1 (.slice none 0 0) m (frees p 0) (fun f => kv F p f p.length)) := ⟨KG.nil _ _ _ _ _⟩
  clear hb1
  go_loopw [7, 25] (fun v7 v25 wr => ∃ (f r : Nat), f ≤ m ∧ v25 = .int .i64 f ∧ Aside0 (KG wr b1 r v7 m (frees p f) (fun f => kv F p f p.length)) ∧ Aside0 (r ≤ wr.heap.size) ∧ Aside0 (Below w1.heap.size w1 wr)) (fun _ v25 _ => m - (intOf v25).toNat)
  case atStart => exact ⟨0, b1, by omega, rfl, HKI, ⟨Nat.le_of_eq HB1E.out.symm⟩, HBI⟩
  case round =>
    clear HBI HKI
    obtain ⟨f, r, hf, rfl, HK, HR, HB1⟩ := hrel
    by_cases hfm : f < m
    · obtain ⟨z, hz⟩ : ∃ z, decide (f ∈ p) = z := ⟨_, rfl⟩
      have HZ := Aside0.mk hz
      clear hz
      cases z with
      | true =>
        go_wp2_with (go_at_call 36; (with_reducible refine (Contains_c (Below.refl _ _) (pw_own_below HO.out HB1.out) (by have := HPL.out.1; omega)).mono ?_); rintro e w2 ⟨rfl, hV⟩; rw [HZ.out]; replace HK := Aside0.mk (HK.out.below hV); replace HB1 := Aside0.mk (below_step HB1.out hV); replace HR := Aside0.mk (Nat.le_trans HR.out hV.size); clear hV)
        refine ⟨⟨f + 1, r, hfm, by go_num, ⟨by rw [frees_succ_in (of_decide_eq_true HZ.out)]; exact HK.out⟩, HR, HB1⟩, ?_⟩
        simp [intOf]; omega
      | false =>
        have t0 := fun W (h : Below w1.heap.size w1 W) => cell_below h (HG.out.top 0 h0)
        have T0 := Aside0.mk t0
        clear t0
        go_upto_region 9 with (go_at_call 36; (with_reducible refine (Contains_c (Below.refl _ _) (pw_own_below HO.out HB1.out) (by have := HPL.out.1; omega)).mono ?_); rintro e w2 ⟨rfl, hV⟩; rw [HZ.out]; replace HK := Aside0.mk (HK.out.below hV); replace HB1 := Aside0.mk (below_step HB1.out hV); replace HR := Aside0.mk (Nat.le_trans HR.out hV.size); clear hV)
        have t0 := T0.out _ HB1.out
        have hmk := HMK.out
        go_upto_region 10 with (fail)
        clear t0 hmk
        have HRV := made_rowV w2 m
        have hV := below_alloc (Below.refl w2.heap.size w2) (.cells (madeCells #[.bool false, .string ⟨#[]⟩, .string ⟨#[]⟩] (m * 3)) 27)
        obtain ⟨x, hx⟩ : ∃ x, w2.heap.size = x := ⟨_, rfl⟩
        obtain ⟨w3, hw3⟩ : ∃ w3, w2.alloc (.cells (madeCells #[.bool false, .string ⟨#[]⟩, .string ⟨#[]⟩] (m * 3)) 27) = w3 := ⟨_, rfl⟩
        rw [hw3] at HRV hV ⊢
        have HXB : Aside0 (r ≤ x ∧ w1.heap.size ≤ x) := ⟨hx ▸ ⟨HR.out, HB1.out.size⟩⟩
        replace HK := Aside0.mk (HK.out.below hV); replace HB1 := Aside0.mk (below_step HB1.out hV)
        rw [hx] at HRV ⊢
        replace HRV := Aside0.mk HRV
        replace HK := Aside0.mk (HK.out.mono HXB.out.1)
        clear hx hw3 hV HR
        go_upto_region 11 with (go_at_call 32; (with_reducible refine (HInt.out _ _ (Below.refl _ _)).mono ?_); rintro e w4 ⟨rfl, hV⟩; replace HK := Aside0.mk (HK.out.below hV); replace HB1 := Aside0.mk (below_step HB1.out hV); replace HRV := Aside0.mk (HRV.out.below hV); clear hV; have ee := (HRV.out.el f hfm); have ea0 := ee.c0; have ea1 := ee.c1; have ea2 := ee.c2; clear ee; have eb0 := HRV.out.fr (f * 3); have eb1 := HRV.out.fr (f * 3 + 1); have eb2 := HRV.out.fr (f * 3 + 2))
        clear ea0 ea1 ea2 eb0 eb1 eb2
        have hrv := HRV.out.set hfm one
        have hc := chg_set3 (S := fun b => b = x) (b := x) (o := f * 3) (Chg.refl w4 _) (.inl rfl) (.bool (ngv one)) (.string (enc one.num.natAbs)) (.string (encD one.den))
        obtain ⟨w5, hw5⟩ : ∃ w5, ((w4.setCell ⟨x, f * 3, none⟩ (.bool (ngv one))).setCell ⟨x, f * 3 + 1, none⟩ (.string (enc one.num.natAbs))).setCell ⟨x, f * 3 + 2, none⟩ (.string (encD one.den)) = w5 := ⟨_, rfl⟩
        rw [hw5] at hrv hc ⊢
        clear hw5
        replace HK := Aside0.mk (HK.out.chg hc (fun y hy e => by omega)); replace HB1 := Aside0.mk (hc.out HB1.out (fun k hk => by rw [hk]; exact HXB.out.2))
        replace HRV : Aside0 (RowV w5 x m (kv F p f 0)) := ⟨hrv.congr (fun i hi => by rw [HONE.out]; rfl)⟩
        clear hrv hc
        go_wp2
        go_loopw [42] (fun v42 wr => ∃ t : Nat, t ≤ p.length ∧ v42 = .int .i64 t ∧ Aside0 (RowV wr x m (kv F p f t)) ∧ Aside0 (KG wr b1 x u7 m (frees p f) (fun f => kv F p f p.length)) ∧ Aside0 (Below w1.heap.size w1 wr)) (fun v42 _ => p.length - (intOf v42).toNat)
        case atStart => exact ⟨0, by omega, rfl, HRV, HK, HB1⟩
        case round =>
          clear HRV HK HB1
          obtain ⟨t, ht, rfl, HRV, HK, HB1⟩ := hrel
          by_cases htp : t < p.length
          · have hown := pw_own_below HO.out HB1.out
            obtain ⟨gp, cp, hv, _, _⟩ := own_shape hown (by omega)
            injection hv with q1 q2 q3
            subst q1
            subst q3
            clear q2
            have t1 := OwnP.cell hown htp
            have hcm : p.getD t 0 < m := HPL.out.2 _ (by simp [List.getD_eq_getElem?_getD, htp])
            have htn : t < n := by have := HPL.out.1; omega
            obtain ⟨c, hc⟩ : ∃ c, p.getD t 0 = c := ⟨_, rfl⟩
            rw [hc] at t1 hcm
            have HCC := Aside0.mk hc
            have t2 := (HG.out.below HB1.out).top t htn
            have E1 := Aside0.mk (((HG.out.below HB1.out).rows t htn).el f hfm)
            obtain ⟨y, hy⟩ : ∃ y, F t f = y := ⟨_, rfl⟩
            rw [hy] at E1
            obtain ⟨ny, hny⟩ : ∃ z, -y = z := ⟨_, rfl⟩
            have HN : Aside0 (∀ U V : World, Below U.heap.size U V → Calls Tryd.prog 16 #[rv y] V fun e w' => e = .returned (rv ny) ∧ Below U.heap.size U w') := ⟨fun U V h => hny ▸ Negate_v h (hy ▸ HF.out t htn f hfm) HK1.out⟩
            have HY := Aside0.mk (And.intro hy hny)
            have e0 := E1.out.c0
            have e1 := E1.out.c1
            have e2 := E1.out.c2
            clear hown hc hy hny E1
            go_wp2_with (go_at_call 16; (with_reducible refine (HN.out _ _ (Below.refl _ _)).mono ?_); rintro e w4 ⟨rfl, hV⟩; replace HK := Aside0.mk (HK.out.below hV); replace HB1 := Aside0.mk (below_step HB1.out hV); replace HRV := Aside0.mk (HRV.out.below hV); clear hV t1 t2 e0 e1 e2; have ee := (HRV.out.el c hcm); have ea0 := ee.c0; have ea1 := ee.c1; have ea2 := ee.c2; clear ee; have eb0 := HRV.out.fr (c * 3); have eb1 := HRV.out.fr (c * 3 + 1); have eb2 := HRV.out.fr (c * 3 + 2))
            clear ea0 ea1 ea2 eb0 eb1 eb2
            have hrv := HRV.out.set hcm ny
            have hc := chg_set3 (S := fun b => b = x) (b := x) (o := c * 3) (Chg.refl w4 _) (.inl rfl) (.bool (ngv ny)) (.string (enc ny.num.natAbs)) (.string (encD ny.den))
            obtain ⟨w5, hw5⟩ : ∃ w5, ((w4.setCell ⟨x, c * 3, none⟩ (.bool (ngv ny))).setCell ⟨x, c * 3 + 1, none⟩ (.string (enc ny.num.natAbs))).setCell ⟨x, c * 3 + 2, none⟩ (.string (encD ny.den)) = w5 := ⟨_, rfl⟩
            rw [hw5] at hrv hc ⊢
            replace HK := Aside0.mk (HK.out.chg hc (fun y hy e => by omega)); replace HB1 := Aside0.mk (hc.out HB1.out (fun k hk => by rw [hk]; exact HXB.out.2))
            refine ⟨⟨t + 1, htp, by go_num, ⟨hrv.congr (fun i hi => ?_)⟩, HK, HB1⟩, ?_⟩
            · rw [kv, HCC.out, HY.out.1, HY.out.2]
            · simp [intOf]; omega
          · obtain rfl : t = p.length := by omega
            obtain ⟨A2, k1, k2, k3, k4, k5⟩ := HK.out.ex
            have K1 := Aside0.mk k1
            have K2 := Aside0.mk k2
            have K3 := Aside0.mk k3
            have K4 := Aside0.mk k4
            have HBW : Aside0 (b1 ≤ wr.heap.size) := ⟨by rw [← HB1E.out]; exact HB1.out.size⟩
            clear k1 k2 k3 k4 k5
            go_wp2_with (at_builtin; refine print_append_cells b1 rfl (.tmp 59) (.tmp 61) 24 30 _ 1 24 rfl Tryd.underlying24 infoRow rfl (by decide) (by decide) u7 (frees p f).length ((List.range (frees p f).length).map fun i => .slice (some ⟨A2 i, 0, none⟩) m m) [.slice (some ⟨x, 0, none⟩) m m] rfl rfl rfl ?_ K1.out (Below.refl b1 wr) HBW.out ?_ ?_)
            · intro u hu
              simp only [List.mem_singleton] at hu
              rw [hu]; rfl
            · have := frees_length p f; omega
            intro v1 w6 ho1 hb1 hg1 ha1
            have hkg := KG.push (V := fun f => kv F p f p.length) (f := f) K2.out K3.out K4.out HRV.out (Nat.le_refl x) ho1 hg1 ha1
            rw [← frees_succ_out (of_decide_eq_false HZ.out)] at hkg
            have HKG := Aside0.mk hkg
            have HB6 : Aside0 (Below w1.heap.size w1 w6) := ⟨(chg_of_belowB hb1).out HB1.out (fun k hk => by have := HB1E.out; omega)⟩
            clear hkg ho1 hb1 hg1 ha1
            go_wp2
            refine ⟨⟨f + 1, _, hfm, by go_num, HKG, ⟨Nat.le_refl _⟩, HB6⟩, ?_⟩
            simp [intOf]; omega
    · obtain rfl : m = f := by omega
      go_wp2
      go_ret2
      exact ⟨_, rfl, below_step HV.out HB1.out, HK.out.mat⟩
end Go.Proofs.YtiamgjepcagohaaDoor.P
end
section
/- The matrices that the laws are told. -/
namespace Go.Proofs.YtiamgjepcagohaaDoor.P
open Go Go.RowKit Go.Proofs.YtiamgjepcagohaaDoorW.PrintWords Go.Proofs.YtiamgjepcagohaaDoorW.PrintLast Go.Proofs.YtiamgjepcagohaaDoorW.PrintMore Go.Proofs.YtiamgjepcagohaaDoor.Ari

/-- The rows made so far: a slice of the call's own, all its blocks between b and r. -/
structure MG (W : World) (b r : Nat) (v : Value) (m i : Nat) (A C : Nat → Nat) (G : Nat → Nat → Rat) : Prop where
  own : W.ownsRow b 30 1 v i ((List.range i).map fun j => .slice (some ⟨A j, 0, none⟩) m (C j))
  rows : ∀ j, j < i → RowV W (A j) m (G j)
  ne : ∀ j, j < i → ∀ k, v.ownBlock = some k → k ≠ A j
  vb : ∀ k, v.ownBlock = some k → k < r
  ab : ∀ j, j < i → b ≤ A j ∧ A j < r
  inj : ∀ j k, j < i → k < i → A j = A k → j = k
section
variable {w W : World} {b r m i : Nat} {v : Value} {A C : Nat → Nat} {G : Nat → Nat → Rat} {S : Nat → Prop}
theorem MG.nil (W : World) (b r m : Nat) (A C : Nat → Nat) (G : Nat → Nat → Rat) : MG W b r (.slice none 0 0) m 0 A C G :=
  ⟨own_nil _ _ _ _, fun j hj => absurd hj (Nat.not_lt_zero _), fun j hj => absurd hj (Nat.not_lt_zero _), fun k hk => by simp [Value.ownBlock] at hk, fun j hj => absurd hj (Nat.not_lt_zero _), fun j k hj => absurd hj (Nat.not_lt_zero _)⟩
theorem MG.chg (k : MG w b r v m i A C G) (h : Chg w W S) (hs : ∀ x, x < r → ¬ S x) : MG W b r v m i A C G :=
  ⟨own_chg2 k.own h (fun x hx => hs x (k.vb x hx)), fun j hj => (k.rows j hj).chg h (hs _ (k.ab j hj).2), k.ne, k.vb, k.ab, k.inj⟩
theorem MG.below (k : MG w b r v m i A C G) (h : Below w.heap.size w W) : MG W b r v m i A C G := k.chg (Chg.of_below h (fun _ => False)) (fun _ _ h => h)
theorem MG.push {w1 : World} {x c : Nat} {v1 : Value} (k : MG W b r v m i A C G) (hx : RowV W x m (G i)) (hr : r ≤ x) (hbx : b ≤ x)
    (ho : w1.ownsRow b 30 1 v1 (i + 1) (((List.range i).map fun j => .slice (some ⟨A j, 0, none⟩) m (C j)) ++ [.slice (some ⟨x, 0, none⟩) m c])) (hg : W.grownBy w1 v.ownBlock) (ha : v1.ownBlock = v.ownBlock ∨ ∃ b, v1.ownBlock = some b ∧ W.heap.size ≤ b) :
    MG w1 b w1.heap.size v1 m (i + 1) (fun j => if j = i then x else A j) (fun j => if j = i then c else C j) G := by
  have hc : Chg W w1 (fun k => v.ownBlock = some k) := (Chg.refl W _).grown hg (fun k hk => .inl hk)
  have hxv : ∀ y, v.ownBlock = some y → y ≠ x := fun y hy e => by have := k.vb y hy; omega
  have hrow : ∀ j, j < i + 1 → RowV w1 (if j = i then x else A j) m (G j) := by
    intro j hj
    by_cases e : j = i
    · rw [if_pos e, e]
      exact hx.chg hc (fun h => hxv x h rfl)
    · rw [if_neg e]
      exact (k.rows j (by omega)).chg hc (fun h => k.ne j (by omega) _ h rfl)
  have hal : ∀ j, j < i → A j < r := fun j hj => (k.ab j hj).2
  refine ⟨?_, hrow, fun j hj y hy e => ?_, fun y hy => own_lt ho y hy, fun j hj => ⟨?_, (hrow j hj).lt⟩, fun j l hj hl h => ?_⟩
  · have e1 : ((List.range (i + 1)).map fun j => Value.slice (some ⟨if j = i then x else A j, 0, none⟩) m (if j = i then c else C j)) = ((List.range i).map fun j => Value.slice (some ⟨A j, 0, none⟩) m (C j)) ++ [Value.slice (some ⟨x, 0, none⟩) m c] := by
      rw [List.range_succ, List.map_append]
      congr 1
      · refine List.map_congr_left (fun j hj => ?_)
        rw [List.mem_range] at hj
        rw [if_neg (by omega), if_neg (by omega)]
      · simp
    rw [e1]
    exact ho
  · by_cases e2 : j = i
    · simp only [if_pos e2] at e
      rcases ha with ha | ⟨z, hz, hle⟩
      · exact hxv y (ha ▸ hy) e
      · have := hx.lt
        rw [hz] at hy
        injection hy with hy
        omega
    · simp only [if_neg e2] at e
      rcases ha with ha | ⟨z, hz, hle⟩
      · exact k.ne j (by omega) y (ha ▸ hy) e
      · have := (k.rows j (by omega)).lt
        rw [hz] at hy
        injection hy with hy
        omega
  · by_cases e2 : j = i
    · simp only [if_pos e2]; exact hbx
    · simp only [if_neg e2]; exact (k.ab j (by omega)).1
  · by_cases e1 : j = i
    · by_cases e2 : l = i
      · omega
      · simp only [if_pos e1, if_neg e2] at h
        have := hal l (by omega)
        omega
    · by_cases e2 : l = i
      · simp only [if_neg e1, if_pos e2] at h
        have := hal j (by omega)
        omega
      · simp only [if_neg e1, if_neg e2] at h
        exact k.inj j l (by omega) (by omega) h
theorem MG.grid (k : MG w b r v m i A C G) (h0 : 0 < i) : ∃ g cap, v = .slice (some ⟨g, 0, none⟩) i cap ∧ b ≤ g ∧ Grid w b g i m A C G := by
  obtain ⟨g, cap, rfl, hb, hg⟩ := own_shape k.own h0
  refine ⟨g, cap, rfl, hb, hb, hg, fun j hj => ?_, fun o => ?_, k.rows, fun j hj => (k.ab j hj).1, fun j hj e => k.ne j hj g (by simp [Value.ownBlock]) e.symm, k.inj⟩
  · rw [k.own.cellAt j (by omega)]
    simp [hj]
  · rcases k.own.2 with ⟨h, _⟩ | ⟨g', cap', cur, e, _, hh, _⟩
    · cases h
    · injection e with e1 e2 e3
      injection e1 with e1
      injection e1 with e1
      subst e1
      exact frozen_of_row _ g o _ _ hh
end
/-- A list of numbers below 65536 that can be read. -/
structure LU (W : World) (v : Value) (len : Nat) (l : Nat → Nat) : Prop where
  ex : ∃ (a : Option Addr) (c : Nat), v = .slice a len c ∧ ∀ j, j < len → ∃ ad, a = some ad ∧ W.cell? (ad.add j) = some (.int .u16 (l j : Int))
  lt : ∀ j, j < len → l j < 65536
  len : len ≤ 9223372036854775807
theorem LU.below {w W : World} {v : Value} {len : Nat} {l : Nat → Nat} (h : LU w v len l) (hb : Below w.heap.size w W) : LU W v len l := by
  obtain ⟨a, c, e, hc⟩ := h.ex
  refine ⟨⟨a, c, e, fun j hj => ?_⟩, h.lt, h.len⟩
  obtain ⟨ad, e2, h2⟩ := hc j hj
  exact ⟨ad, e2, (hb.cell (World.block_lt_of_cell? w _ h2)).trans h2⟩
/-- The numbers of a matrix. -/
def mxE (len : Nat) (l : Nat → Nat) (k : Nat) : Rat := if k < len then sgR (l k) else 0
def mxG (m len : Nat) (l : Nat → Nat) : Nat → Nat → Rat := fun i j => mxE len l (i * m + j)
theorem mxE_fit (len : Nat) (l : Nat → Nat) (k : Nat) : Fit 1 (mxE len l k) := by
  unfold mxE
  split
  · exact sgR_fit _
  · exact Fit.zero
set_option maxHeartbeats 2000000 in
set_option maxRecDepth 1000000 in
theorem Matrix_c {w0 w : World} {n m len : Nat} {lv : Value} {l : Nat → Nat} (hB : Below w0.heap.size w0 w) (hL : LU w lv len l) (hn0 : 0 < n) (hn : n ≤ 1000) (hm0 : 0 < m) (hm : m ≤ 1000) :
    Calls Tryd.prog 7 #[.int .i64 (n : Int), .int .i64 (m : Int), lv] w fun e w' => ∃ g cap A C, e = .returned (.slice (some ⟨g, 0, none⟩) n cap) ∧ Below w0.heap.size w0 w' ∧ w.heap.size ≤ g ∧ Grid w' w.heap.size g n m A C (mxG m len l) := by
  have H0 := Aside0.mk hB
  have HL := Aside0.mk hL
  obtain ⟨la, lc, rfl, _⟩ := hL.ex
  have hlen := hL.len
  have HS := Aside0.mk (And.intro hn0 (And.intro hn (And.intro hm0 hm)))
  have HM0 : Aside0 (MG w w.heap.size w.heap.size (.slice none 0 0) m 0 (fun _ => 0) (fun _ => 0) (mxG m len l)) := ⟨MG.nil _ _ _ _ _ _ _⟩
  have HB0 : Aside0 (Below w.heap.size w w) := ⟨Below.refl _ _⟩
  clear hB hL hn0 hm0
  go_enter Tryd.func7, Tryd.ntmps7
  go_wp2
  go_loopw [7, 8, 9] (fun v7 v8 v9 wr => ∃ (i K r : Nat) (A C : Nat → Nat), i ≤ n ∧ v8 = .int .i64 K ∧ v9 = .int .i64 i ∧ Aside0 (K = i * m) ∧ Aside0 (MG wr w.heap.size r v7 m i A C (mxG m len l)) ∧ Aside0 (r ≤ wr.heap.size) ∧ Aside0 (Below w.heap.size w wr)) (fun _ _ v9 _ => n - (intOf v9).toNat)
  case atStart => exact ⟨0, 0, w.heap.size, _, _, by omega, rfl, rfl, ⟨by simp⟩, HM0, ⟨Nat.le_refl _⟩, HB0⟩
  case round =>
    clear HM0 HB0
    obtain ⟨i, K, r, A, C, hi, rfl, rfl, HK0, HMG, HR, HB⟩ := hrel
    by_cases hin : i < n
    · obtain ⟨bi, hbi⟩ : ∃ b, wr.heap.size = b := ⟨_, rfl⟩
      have HBI : Aside0 (w.heap.size ≤ bi) := ⟨hbi ▸ HB.out.size⟩
      have HRB : Aside0 (r ≤ bi) := ⟨hbi ▸ HR.out⟩
      have HBLs : Aside0 (bi ≤ wr.heap.size) := ⟨Nat.le_of_eq hbi.symm⟩
      have HOs : Aside0 (OwnQ wr bi (.slice none 0 0) 0 (fun k => mxE len l (i * m + k))) := ⟨own_nil _ _ _ _⟩
      have HKs : Aside0 (K = i * m + 0 ∧ K ≤ 1000000) := ⟨by rw [HK0.out]; exact ⟨rfl, Nat.mul_le_mul (show i ≤ 1000 by omega) hm⟩⟩
      have HKK : Aside0 (i * m ≤ 1000000) := ⟨by have := HKs.out; omega⟩
      clear hbi HK0 HR
      go_wp2
      go_loopw [8, 10, 11] (fun v8 v10 v11 wr => ∃ (j K : Nat), j ≤ m ∧ v8 = .int .i64 K ∧ v11 = .int .i64 j ∧ Aside0 (K = i * m + j) ∧ Aside0 (OwnQ wr bi v10 j (fun k => mxE len l (i * m + k))) ∧ Aside0 (MG wr w.heap.size r u7 m i A C (mxG m len l)) ∧ Aside0 (bi ≤ wr.heap.size) ∧ Aside0 (Below w.heap.size w wr)) (fun _ _ v11 _ => m - (intOf v11).toNat)
      case atStart => exact ⟨0, K, by omega, rfl, rfl, ⟨HKs.out.1⟩, HOs, HMG, HBLs, HB⟩
      case round =>
        clear HOs HMG HBLs HB HKs
        obtain ⟨j, K, hj, rfl, rfl, HK, HO, HMG, HBL, HB⟩ := hrel
        by_cases hjm : j < m
        · have hKB : K ≤ 1001000 := by have := HK.out; have := HKK.out; omega
          go_upto_region 11 with (fail)
          obtain ⟨p12, hp12⟩ : ∃ x, wr.heap.size = x := ⟨_, rfl⟩
          obtain ⟨w5, hw5, HX, hV⟩ := box1 wr (.bool false) (.string ⟨#[]⟩) (.string ⟨#[]⟩) 27
          rw [hw5]
          have HPB : Aside0 (bi ≤ p12 ∧ (∀ y, u10.ownBlock = some y → y < p12)) := ⟨hp12 ▸ ⟨HBL.out, fun y hy => own_lt HO.out y hy⟩⟩
          rw [hp12] at HX ⊢
          replace HO := Aside0.mk (pw_own_below HO.out hV)
          replace HMG := Aside0.mk (HMG.out.below hV)
          replace HBL := Aside0.mk (Nat.le_trans HBL.out hV.size)
          replace HB := Aside0.mk (below_step HB.out hV)
          clear hw5 hp12 hV
          by_cases hK : K < len
          · obtain ⟨x, hx⟩ : ∃ x, l K = x := ⟨_, rfl⟩
            have hc : ∃ ad, la = some ad ∧ w5.cell? (ad.add K) = some (.int .u16 (x : Int)) := by
              obtain ⟨a', c', e, hc⟩ := (HL.out.below HB.out).ex
              injection e with e1 e2 e3
              subst e1
              rw [← hx]
              exact hc K hK
            obtain ⟨ad, rfl, hcl⟩ := hc
            have hxB : x < 65536 := by rw [← hx]; exact HL.out.lt K hK
            obtain ⟨q, hq⟩ : ∃ q, sgR x = q := ⟨_, rfl⟩
            have HQ : Aside0 (mxE len l (i * m + j) = q) := ⟨by rw [← HK.out]; unfold mxE; rw [if_pos hK, hx, hq]⟩
            have HSG : Aside0 (∀ U V : World, Below U.heap.size U V → Calls Tryd.prog 8 #[.int .u16 (x : Int)] V fun e w' => e = .returned (rv q) ∧ Below U.heap.size U w') := ⟨fun U V h => hq ▸ Signed_c h hxB⟩
            clear hx hq hxB
            go_upto_region 13 with (go_at_call 8; (with_reducible refine (HSG.out _ _ (Below.refl _ _)).mono ?_); rintro e w6 ⟨rfl, hV⟩; replace HO := Aside0.mk (pw_own_below HO.out hV); replace HMG := Aside0.mk (HMG.out.below hV); replace HBL := Aside0.mk (Nat.le_trans HBL.out hV.size); replace HB := Aside0.mk (below_step HB.out hV); replace HX := Aside0.mk (HX.out.below hV); clear hV hcl; have kx := (HX.out); have kx0 := kx.c0; have kx1 := kx.c1; have kx2 := kx.c2; have fx0 := kx.f0; have fx1 := kx.f1; have fx2 := kx.f2; clear kx)
            clear kx0 kx1 kx2 fx0 fx1 fx2
            obtain ⟨w7, hw7, hbx, hc⟩ := box_write HX.out (.bool (ngv q)) (.string (enc q.num.natAbs)) (.string (encD q.den))
            rw [hw7]
            replace HX := Aside0.mk hbx
            replace HO := Aside0.mk (own_chg2 HO.out hc (fun y hy e => by have := HPB.out.2 y hy; omega))
            replace HMG := Aside0.mk (HMG.out.chg hc (fun y hy e => by have := HPB.out.1; have := HRB.out; omega))
            replace HB := Aside0.mk (hc.out HB.out (fun y hy => by have := HPB.out.1; have := HBI.out; omega))
            replace HBL := Aside0.mk (Nat.le_trans HBL.out hc.size)
            clear hw7 hbx hc
            (have hvc : ∀ u ∈ [Value.bool (ngv q), Value.string (enc q.num.natAbs), Value.string (encD q.den)], u.oneCell' = true := by (intro u hu; simp only [List.mem_cons, List.not_mem_nil, or_false] at hu; rcases hu with rfl | rfl | rfl <;> rfl)); (have H1 := Aside0.mk hvc); (clear hvc); (have HL' : Aside0 (bi ≤ w7.heap.size ∧ (j + 1) * 40 ≤ 140737488355328) := ⟨HBL.out, by have := HS.out; omega⟩); (have kx := (HX.out); have kx0 := kx.c0; have kx1 := kx.c1; have kx2 := kx.c2; have fx0 := kx.f0; have fx1 := kx.f1; have fx2 := kx.f2; clear kx); (go_wp2_with (at_builtin; refine print_append_cells bi rfl (.tmp 35) (.tmp 37) 30 27 _ 3 40 rfl Tryd.underlying30 infoRat rfl (by decide) (by decide) u10 j (rcells (fun k => mxE len l (i * m + k)) j) [.bool (ngv q), .string (enc q.num.natAbs), .string (encD q.den)] rfl rfl rfl H1.out HO.out (Below.refl bi w7) HL'.out.1 HL'.out.2 ?_; intro v1 w8 ho1 hb1 hg1 ha1; have HO8 := Aside0.mk ho1; have HC8 := Aside0.mk (chg_of_belowB hb1); clear ho1 hb1 hg1 ha1 kx0 kx1 kx2 fx0 fx1 fx2)); go_roundw
            case rel => (refine ⟨j + 1, K + 1, by omega, by go_num, by go_num, ⟨by have := HK.out; omega⟩, ⟨?_⟩, ⟨HMG.out.chg HC8.out (fun y hy => by have := HRB.out; omega)⟩, ⟨Nat.le_trans HBL.out HC8.out.size⟩, ⟨HC8.out.out HB.out (fun y hy => by have := HBI.out; omega)⟩⟩); (have := HO8.out); (rw [← HQ.out]at this); exact this
            case measure => simp [intOf]; omega
          · have hq0 : mxE len l (i * m + j) = 0 := by rw [← HK.out]; unfold mxE; rw [if_neg hK]
            have hz := rv_zero
            simp only [rv, Value.agg.injEq, Array.mk.injEq, List.cons.injEq, Value.bool.injEq, Value.string.injEq, and_true] at hz
            obtain ⟨q, hq⟩ : ∃ q : Rat, 0 = q := ⟨_, rfl⟩
            rw [hq] at hq0 hz
            obtain ⟨z1, z2, z3⟩ := hz
            have HQ := Aside0.mk hq0
            replace HX : Aside0 (Bx w5 p12 (.bool (ngv q)) (.string (enc q.num.natAbs)) (.string (encD q.den))) := ⟨by rw [z1, z2, z3]; exact HX.out⟩
            have hK2 : ¬ ((K : Int) < (len : Int)) := by omega
            clear z1 z2 z3 hq hq0 hK
            go_upto_region 13 with (fail)
            obtain ⟨w7, rfl⟩ : ∃ w7, w7 = w5 := ⟨_, rfl⟩
            clear hK2
            (have hvc : ∀ u ∈ [Value.bool (ngv q), Value.string (enc q.num.natAbs), Value.string (encD q.den)], u.oneCell' = true := by (intro u hu; simp only [List.mem_cons, List.not_mem_nil, or_false] at hu; rcases hu with rfl | rfl | rfl <;> rfl)); (have H1 := Aside0.mk hvc); (clear hvc); (have HL' : Aside0 (bi ≤ w7.heap.size ∧ (j + 1) * 40 ≤ 140737488355328) := ⟨HBL.out, by have := HS.out; omega⟩); (have kx := (HX.out); have kx0 := kx.c0; have kx1 := kx.c1; have kx2 := kx.c2; have fx0 := kx.f0; have fx1 := kx.f1; have fx2 := kx.f2; clear kx); (go_wp2_with (at_builtin; refine print_append_cells bi rfl (.tmp 35) (.tmp 37) 30 27 _ 3 40 rfl Tryd.underlying30 infoRat rfl (by decide) (by decide) u10 j (rcells (fun k => mxE len l (i * m + k)) j) [.bool (ngv q), .string (enc q.num.natAbs), .string (encD q.den)] rfl rfl rfl H1.out HO.out (Below.refl bi w7) HL'.out.1 HL'.out.2 ?_; intro v1 w8 ho1 hb1 hg1 ha1; have HO8 := Aside0.mk ho1; have HC8 := Aside0.mk (chg_of_belowB hb1); clear ho1 hb1 hg1 ha1 kx0 kx1 kx2 fx0 fx1 fx2)); go_roundw
            case rel => (refine ⟨j + 1, K + 1, by omega, by go_num, by go_num, ⟨by have := HK.out; omega⟩, ⟨?_⟩, ⟨HMG.out.chg HC8.out (fun y hy => by have := HRB.out; omega)⟩, ⟨Nat.le_trans HBL.out HC8.out.size⟩, ⟨HC8.out.out HB.out (fun y hy => by have := HBI.out; omega)⟩⟩); (have := HO8.out); (rw [← HQ.out]at this); exact this
            case measure => simp [intOf]; omega
        · obtain rfl : m = j := by omega
          obtain ⟨g, cap, rfl, hg1, hg2⟩ := own_shape HO.out HS.out.2.2.1
          have HRV := Aside0.mk (own_rowV HO.out)
          have HGB : Aside0 (bi ≤ g ∧ w.heap.size ≤ wr.heap.size) := ⟨hg1, HB.out.size⟩
          have H1 : Aside0 (∀ u ∈ [Value.slice (some ⟨g, 0, none⟩) m cap], u.oneCell' = true) := ⟨fun u hu => by
            simp only [List.mem_singleton] at hu
            rw [hu]; rfl⟩
          have HLL : Aside0 ((i + 1) * 24 ≤ 140737488355328) := ⟨by omega⟩
          have HOW := Aside0.mk HMG.out.own
          have HK2 : Aside0 (K = (i + 1) * m) := ⟨by rw [HK.out, Nat.succ_mul]⟩
          clear hg1 hg2
          go_wp2_with (at_builtin; refine print_append_cells w.heap.size rfl (.tmp 39) (.tmp 41) 24 30 _ 1 24 rfl Tryd.underlying24 infoRow rfl (by decide) (by decide) u7 i ((List.range i).map fun j => .slice (some ⟨A j, 0, none⟩) m (C j)) [.slice (some ⟨g, 0, none⟩) m cap] rfl rfl rfl H1.out HOW.out (Below.refl w.heap.size wr) HGB.out.2 HLL.out ?_; intro v1 w8 ho1 hb1 hg1 ha1; have HP8 := Aside0.mk (HMG.out.push HRV.out (Nat.le_trans HRB.out HGB.out.1) (Nat.le_trans HBI.out HGB.out.1) ho1 hg1 ha1); have HB8 := Aside0.mk ((chg_of_belowB hb1).out HB.out (fun y hy => hy)); clear ho1 hb1 hg1 ha1)
          go_roundw
          case rel => exact ⟨i + 1, K, _, _, _, by omega, rfl, by go_num, HK2, HP8, ⟨Nat.le_refl _⟩, HB8⟩
          case measure => simp [intOf]; omega
    · obtain rfl : n = i := by omega
      obtain ⟨g, cap, rfl, hg, hG⟩ := HMG.out.grid HS.out.1
      go_wp2
      go_ret
      exact ⟨g, cap, A, C, rfl, below_step H0.out HB.out, hg, hG⟩
end Go.Proofs.YtiamgjepcagohaaDoor.P
end
section
/- Package linear: Apply. -/
namespace Go.Proofs.YtiamgjepcagohaaDoor.P
open Go Go.RowKit Go.Proofs.YtiamgjepcagohaaDoorW.PrintWords Go.Proofs.YtiamgjepcagohaaDoorW.PrintLast Go.Proofs.YtiamgjepcagohaaDoorW.PrintMore Go.Proofs.YtiamgjepcagohaaDoor.Ari

/-- A list of numbers that can be read. -/
structure Vec (W : World) (v : Value) (m : Nat) (X : Nat → Raw) : Prop where
  ex : ∃ (a : Option Addr) (c : Nat), v = .slice a m c ∧ RowAt W a m X
/-- Row times vector, as the program adds it up. -/
def dot (e x : Nat → Rat) : Nat → Rat
  | 0 => 0
  | k + 1 => dot e x k + e k * x k

end Go.Proofs.YtiamgjepcagohaaDoor.P
end
section
/- Package linear: integers with a sign. -/
namespace Go.Proofs.YtiamgjepcagohaaDoor.P
open Go Go.RowKit Go.Proofs.YtiamgjepcagohaaDoorW.PrintWords Go.Proofs.YtiamgjepcagohaaDoorW.PrintLast Go.Proofs.YtiamgjepcagohaaDoorW.PrintMore Go.Proofs.YtiamgjepcagohaaDoor.Ari

abbrev Sg := Bool × Nat
abbrev iv (e : Sg) : Value := .agg #[.bool e.1, .string (enc e.2)]
def zt (a b : Sg) : Sg := (a.1 != b.1, a.2 * b.2)
def zm (a b : Sg) : Sg := if a.1 ≠ b.1 then (a.1, a.2 + b.2) else if b.2 ≤ a.2 then (a.1, a.2 - b.2) else (!a.1, b.2 - a.2)
def zo (a b : Sg) : Sg := (a.1 != b.1, a.2 / b.2)
/-- A variable of two cells. -/
structure Bz (W : World) (g : Nat) (a b : Value) : Prop where
  lt : g < W.heap.size
  c0 : W.cell? ⟨g, 0, none⟩ = some a
  c1 : W.cell? ⟨g, 1, none⟩ = some b
  f0 : W.frozen? ⟨g, 0, none⟩ = false
  f1 : W.frozen? ⟨g, 1, none⟩ = false
section
variable {w W : World} {g : Nat} {a b : Value} {S : Nat → Prop}
theorem Bz.chg (h : Bz w g a b) (hb : Chg w W S) (hs : ¬ S g) : Bz W g a b :=
  ⟨Nat.lt_of_lt_of_le h.lt hb.size, (cell_chg hb h.lt hs).trans h.c0, (cell_chg hb h.lt hs).trans h.c1, (frozen_chg hb h.lt hs).trans h.f0, (frozen_chg hb h.lt hs).trans h.f1⟩
theorem Bz.below (h : Bz w g a b) (hb : Below w.heap.size w W) : Bz W g a b := h.chg (Chg.of_below hb (fun _ => False)) (fun h => h)
theorem Bz.alloc (w : World) (a b : Value) (t : TypeId) : Bz (w.alloc (.cells #[a, b] t)) w.heap.size a b := by
  constructor <;> simp
theorem Bz.set (h : Bz W g a b) (a' b' : Value) : Bz ((W.setCell ⟨g, 0, none⟩ a').setCell ⟨g, 1, none⟩ b') g a' b' := by
  obtain ⟨h0, h1, h2, h3, h4⟩ := h
  refine ⟨?_, ?_, ?_, ?_, ?_⟩
  · simp [go_sem, *]
  · simp [go_sem, *]
  · simp [go_sem, *]
  all_goals (rw [World.frozen?_setCell, World.frozen?_setCell]; assumption)
theorem Bz.load (h : Bz W g a b) : (loadVar 68 ⟨g, 0, none⟩).run Tryd.prog W = .ok (.agg #[a, b]) W := by
  obtain ⟨h0, h1, h2, h3, h4⟩ := h
  simp [go_sem, *]
theorem results_bz {fn : Func} {p : Tmp} {tmps : Array Value} (h : fn.results = #[.cell p 68]) (hp : tmps.getD p undef = .pointer (some ⟨g, 0, none⟩)) (hb : Bz W g a b) :
    (results fn tmps).run Tryd.prog W = .ok (.agg #[a, b]) W := by
  have h1 := hb.load
  have h2 : tmps[p]?.getD undef = .pointer (some ⟨g, 0, none⟩) := by simpa using hp
  simp only [results, h]
  simp [Sem.run_bind, Result.andThen, h2, asAddr, h1]
theorem bz3 (w : World) (a b a' b' : Value) (t : TypeId) : ∃ W, ((w.alloc (.cells #[a, b] t)).alloc (.cells #[a', b'] t)).alloc (.cells #[.bool false, .string ⟨#[]⟩] t) = W ∧ Aside0 (Bz W w.heap.size a b) ∧ Aside0 (Bz W (w.heap.size + 1) a' b') ∧ Aside0 (Bz W (w.heap.size + 1 + 1) (.bool false) (.string ⟨#[]⟩)) ∧ Below w.heap.size w W := by
  refine ⟨_, rfl, ⟨(Bz.alloc _ _ _ _).below (below_alloc (below_alloc (Below.refl _ _) _) _)⟩, ⟨?_⟩, ⟨?_⟩, below_alloc (below_alloc (below_alloc (Below.refl _ _) _) _) _⟩
  · have := (Bz.alloc (w.alloc (.cells #[a, b] t)) a' b' t).below (below_alloc (Below.refl _ _) (.cells #[.bool false, .string ⟨#[]⟩] t))
    simpa using this
  · have := Bz.alloc ((w.alloc (.cells #[a, b] t)).alloc (.cells #[a', b'] t)) (.bool false) (.string ⟨#[]⟩) t
    simpa using this
theorem bz1 (w : World) (a b : Value) (t : TypeId) : ∃ W, w.alloc (.cells #[a, b] t) = W ∧ Aside0 (Bz W w.heap.size a b) ∧ Below w.heap.size w W :=
  ⟨_, rfl, ⟨Bz.alloc _ _ _ _⟩, below_alloc (Below.refl _ _) _⟩
theorem below_set2 {w W : World} {g : Nat} {u u' : Value} (h : Below w.heap.size w W) (hg : w.heap.size ≤ g) : Below w.heap.size w ((W.setCell ⟨g, 0, none⟩ u).setCell ⟨g, 1, none⟩ u') := below_set (below_set h hg) hg
end
set_option maxHeartbeats 2000000 in
set_option maxRecDepth 1000000 in
theorem times_c {w0 w : World} {a b : Sg} {N M : Nat} (hB : Below w0.heap.size w0 w) (h1 : nb a.2 ≤ N) (h2 : nb b.2 ≤ M) (hN : N + M ≤ 1073741824) :
    Calls Tryd.prog 61 #[iv a, iv b] w fun e w' => e = .returned (iv (zt a b)) ∧ Below w0.heap.size w0 w' := by
  obtain ⟨b1, x⟩ := a
  obtain ⟨b2, y⟩ := b
  have H0 := Aside0.mk hB; obtain ⟨W, hW, HX, HY, HR, hbW⟩ := bz3 w (.bool b1) (.string (enc x)) (.bool b2) (.string (enc y)) 68; have HW : Aside0 (Below w0.heap.size w0 W) := ⟨below_step hB hbW⟩; have HE := Aside0.mk hW
  have S1 : Sm x := ⟨by simp only at h1; omega⟩
  have S2 : Sm y := ⟨by simp only at h2; omega⟩
  obtain ⟨z, hz⟩ : ∃ z, x * y = z := ⟨_, rfl⟩
  have HM : Aside0 (∀ U V : World, Below U.heap.size U V → Calls Tryd.prog 27 #[.string (enc x), .string (enc y)] V fun e w' => e = .returned (.string (enc z)) ∧ Below U.heap.size U w') := ⟨fun U V h => hz ▸ mul_s h S1 S2⟩
  have HZ : Aside0 (iv (zt (b1, x) (b2, y)) = .agg #[.bool (b1 != b2), .string (enc z)]) := ⟨by rw [← hz]; rfl⟩
  rw [HZ.out]
  clear hB hW hbW h1 h2 hN hz HZ
  go_enter Tryd.func61, Tryd.ntmps61
  go_upto_region 1 with (fail)
  rw [HE.out]
  (refine wp_region_below_tail 11 (by kernel_rfl) (by kernel_rfl) ?_); (simp only [List.take_succ_cons, List.take_zero, List.drop_succ_cons, List.drop_zero]); (repeat (refine wpQuiet_step (fun K hK => ?_); go_simp; first | (refine hK _ ?_; clear hK K) | (apply Exists.intro; refine ⟨fun V hV => ?_, hK _ ?_⟩; (focus ((first | rfl | ((with_reducible exact HM.out _ _ hV)) | ((have kx := (HX.out.below hV)); have kc0 := kx.c0; have kc1 := kx.c1; clear kx; go_simp; first | rfl | fail) | ((have kx := (HY.out.below hV)); have kc0 := kx.c0; have kc1 := kx.c1; clear kx; go_simp; first | rfl | fail)))); clear hK K))); (refine wpQuiet_nil ?_); (intro V hV)
  have kx := (HR.out.below hV); have kr0 := kx.c0; have kr1 := kx.c1; have fr0 := kx.f0; have fr1 := kx.f1; clear kx
  go_wp2
  refine bodyPost_ret (results_bz rfl rfl ((HR.out.below hV).set _ _)) rfl ?_
  exact ⟨rfl, below_set2 (below_step HW.out hV) (by have := H0.out.size; omega)⟩

set_option maxHeartbeats 2000000 in
set_option maxRecDepth 1000000 in
theorem over_c {w0 w : World} {a b : Sg} {N : Nat} (hB : Below w0.heap.size w0 w) (h1 : nb a.2 ≤ N) (h2 : nb b.2 ≤ N) (hN : N ≤ 1073741824) (h0 : 0 < b.2) :
    Calls Tryd.prog 63 #[iv a, iv b] w fun e w' => e = .returned (iv (zo a b)) ∧ Below w0.heap.size w0 w' := by
  obtain ⟨b1, x⟩ := a
  obtain ⟨b2, y⟩ := b
  have H0 := Aside0.mk hB; obtain ⟨W, hW, HX, HY, HR, hbW⟩ := bz3 w (.bool b1) (.string (enc x)) (.bool b2) (.string (enc y)) 68; have HW : Aside0 (Below w0.heap.size w0 W) := ⟨below_step hB hbW⟩; have HE := Aside0.mk hW
  have S1 : Sm x := ⟨by simp only at h1; omega⟩
  have S2 : Sm y := ⟨by simp only at h2; omega⟩
  obtain ⟨z, hz⟩ : ∃ z, x / y = z := ⟨_, rfl⟩
  obtain ⟨r, hr⟩ : ∃ z, x % y = z := ⟨_, rfl⟩
  have HM : Aside0 (∀ U V : World, Below U.heap.size U V → Calls Tryd.prog 51 #[.string (enc x), .string (enc y)] V fun e w' => e = .returned (.tuple #[.string (enc z), .string (enc r), .bool true]) ∧ Below U.heap.size U w') := ⟨fun U V h => hr ▸ hz ▸ div_s h S1 S2 h0⟩
  have HZ : Aside0 (iv (zo (b1, x) (b2, y)) = .agg #[.bool (b1 != b2), .string (enc z)]) := ⟨by rw [← hz]; rfl⟩
  rw [HZ.out]
  clear hB hW hbW h1 h2 hN hz hr HZ h0
  go_enter Tryd.func63, Tryd.ntmps63
  go_upto_region 1 with (fail)
  rw [HE.out]
  have kx := (HX.out); have kx0 := kx.c0; have kx1 := kx.c1; have fx0 := kx.f0; have fx1 := kx.f1; clear kx; have kx := (HY.out); have ky0 := kx.c0; have ky1 := kx.c1; have fy0 := kx.f0; have fy1 := kx.f1; clear kx; have kx := (HR.out); have kr0 := kx.c0; have kr1 := kx.c1; have fr0 := kx.f0; have fr1 := kx.f1; clear kx
  go_wp2_with (go_at_call 51; (with_reducible refine (HM.out _ _ (Below.refl _ _)).mono ?_); rintro e w1 ⟨rfl, hV⟩; replace HX := Aside0.mk (HX.out.below hV); replace HY := Aside0.mk (HY.out.below hV); replace HR := Aside0.mk (HR.out.below hV); replace HW := Aside0.mk (below_step HW.out hV); clear kx0 kx1 fx0 fx1 ky0 ky1 fy0 fy1 kr0 kr1 fr0 fr1; have kx := (HX.out); have kx0 := kx.c0; have kx1 := kx.c1; have fx0 := kx.f0; have fx1 := kx.f1; clear kx; have kx := (HY.out); have ky0 := kx.c0; have ky1 := kx.c1; have fy0 := kx.f0; have fy1 := kx.f1; clear kx; have kx := (HR.out); have kr0 := kx.c0; have kr1 := kx.c1; have fr0 := kx.f0; have fr1 := kx.f1; clear kx; clear hV)
  refine bodyPost_ret (results_bz rfl rfl (HR.out.set _ _)) rfl ?_
  exact ⟨rfl, below_set2 HW.out (by have := H0.out.size; omega)⟩
set_option maxHeartbeats 2000000 in
set_option maxRecDepth 1000000 in
theorem minusZ_c {w0 w : World} {a b : Sg} {N : Nat} (hB : Below w0.heap.size w0 w) (h1 : nb a.2 ≤ N) (h2 : nb b.2 ≤ N) (hN : N + 1 ≤ 1073741824) :
    Calls Tryd.prog 62 #[iv a, iv b] w fun e w' => e = .returned (iv (zm a b)) ∧ Below w0.heap.size w0 w' := by
  obtain ⟨b1, x⟩ := a
  obtain ⟨b2, y⟩ := b
  have H0 := Aside0.mk hB; obtain ⟨W, hW, HX, HY, HR, hbW⟩ := bz3 w (.bool b1) (.string (enc x)) (.bool b2) (.string (enc y)) 68; have HW : Aside0 (Below w0.heap.size w0 W) := ⟨below_step hB hbW⟩; have HE := Aside0.mk hW
  have S1 : Sm x := ⟨by simp only at h1; omega⟩
  have S2 : Sm y := ⟨by simp only at h2; omega⟩
  have SS := Aside0.mk (And.intro S1 S2)
  clear hB hW hbW h1 h2 hN S1 S2
  by_cases hb : b1 = b2
  · subst hb
    rcases Nat.lt_or_ge x y with hl | hl
    · have HL := Aside0.mk hl
      obtain ⟨z, hz⟩ : ∃ z, y - x = z := ⟨_, rfl⟩
      have HZ : Aside0 (iv (zm (b1, x) (b1, y)) = .agg #[.bool !b1, .string (enc z)] ∧ y - x = z) := ⟨by
        refine ⟨?_, hz⟩
        unfold zm
        rw [if_neg (by simp), if_neg (by simp only; omega), ← hz]⟩
      rw [HZ.out.1]
      clear hz hl
      go_enter Tryd.func62, Tryd.ntmps62
      go_upto_region 1 with (fail)
      rw [HE.out]
      have kx := (HX.out); have kx0 := kx.c0; have kx1 := kx.c1; have fx0 := kx.f0; have fx1 := kx.f1; clear kx; have kx := (HY.out); have ky0 := kx.c0; have ky1 := kx.c1; have fy0 := kx.f0; have fy1 := kx.f1; clear kx; have kx := (HR.out); have kr0 := kx.c0; have kr1 := kx.c1; have fr0 := kx.f0; have fr1 := kx.f1; clear kx
      go_wp2_with (first
        | (go_at_call 47; (with_reducible refine (sub_gt_c (Below.refl _ _) SS.out.1 SS.out.2 HL.out).mono ?_); rintro e w1 ⟨rfl, hV⟩; replace HX := Aside0.mk (HX.out.below hV); replace HY := Aside0.mk (HY.out.below hV); replace HR := Aside0.mk (HR.out.below hV); replace HW := Aside0.mk (below_step HW.out hV); clear kx0 kx1 fx0 fx1 ky0 ky1 fy0 fy1 kr0 kr1 fr0 fr1; have kx := (HX.out); have kx0 := kx.c0; have kx1 := kx.c1; have fx0 := kx.f0; have fx1 := kx.f1; clear kx; have kx := (HY.out); have ky0 := kx.c0; have ky1 := kx.c1; have fy0 := kx.f0; have fy1 := kx.f1; clear kx; have kx := (HR.out); have kr0 := kx.c0; have kr1 := kx.c1; have fr0 := kx.f0; have fr1 := kx.f1; clear kx; clear hV)
        | (go_at_call 47; (with_reducible refine (sub_le_c (Below.refl _ _) SS.out.2 SS.out.1 (Nat.le_of_lt HL.out) HZ.out.2).mono ?_); rintro e w1 ⟨rfl, hV⟩; replace HX := Aside0.mk (HX.out.below hV); replace HY := Aside0.mk (HY.out.below hV); replace HR := Aside0.mk (HR.out.below hV); replace HW := Aside0.mk (below_step HW.out hV); clear kx0 kx1 fx0 fx1 ky0 ky1 fy0 fy1 kr0 kr1 fr0 fr1; have kx := (HX.out); have kx0 := kx.c0; have kx1 := kx.c1; have fx0 := kx.f0; have fx1 := kx.f1; clear kx; have kx := (HY.out); have ky0 := kx.c0; have ky1 := kx.c1; have fy0 := kx.f0; have fy1 := kx.f1; clear kx; have kx := (HR.out); have kr0 := kx.c0; have kr1 := kx.c1; have fr0 := kx.f0; have fr1 := kx.f1; clear kx; clear hV))
      refine bodyPost_ret (results_bz rfl rfl (HR.out.set _ _)) rfl ?_
      exact ⟨rfl, below_set2 HW.out (by have := H0.out.size; omega)⟩
    · have HL := Aside0.mk hl
      obtain ⟨z, hz⟩ : ∃ z, x - y = z := ⟨_, rfl⟩
      have HZ : Aside0 (iv (zm (b1, x) (b1, y)) = .agg #[.bool b1, .string (enc z)] ∧ x - y = z) := ⟨by
        refine ⟨?_, hz⟩
        unfold zm
        rw [if_neg (by simp), if_pos (by simpa using hl), ← hz]⟩
      rw [HZ.out.1]
      clear hz hl
      go_enter Tryd.func62, Tryd.ntmps62
      go_upto_region 1 with (fail)
      rw [HE.out]
      have kx := (HX.out); have kx0 := kx.c0; have kx1 := kx.c1; have fx0 := kx.f0; have fx1 := kx.f1; clear kx; have kx := (HY.out); have ky0 := kx.c0; have ky1 := kx.c1; have fy0 := kx.f0; have fy1 := kx.f1; clear kx; have kx := (HR.out); have kr0 := kx.c0; have kr1 := kx.c1; have fr0 := kx.f0; have fr1 := kx.f1; clear kx
      go_wp2_with (go_at_call 47; (with_reducible refine (sub_le_c (Below.refl _ _) SS.out.1 SS.out.2 HL.out HZ.out.2).mono ?_); rintro e w1 ⟨rfl, hV⟩; replace HX := Aside0.mk (HX.out.below hV); replace HY := Aside0.mk (HY.out.below hV); replace HR := Aside0.mk (HR.out.below hV); replace HW := Aside0.mk (below_step HW.out hV); clear kx0 kx1 fx0 fx1 ky0 ky1 fy0 fy1 kr0 kr1 fr0 fr1; have kx := (HX.out); have kx0 := kx.c0; have kx1 := kx.c1; have fx0 := kx.f0; have fx1 := kx.f1; clear kx; have kx := (HY.out); have ky0 := kx.c0; have ky1 := kx.c1; have fy0 := kx.f0; have fy1 := kx.f1; clear kx; have kx := (HR.out); have kr0 := kx.c0; have kr1 := kx.c1; have fr0 := kx.f0; have fr1 := kx.f1; clear kx; clear hV)
      refine bodyPost_ret (results_bz rfl rfl (HR.out.set _ _)) rfl ?_
      exact ⟨rfl, below_set2 HW.out (by have := H0.out.size; omega)⟩
  · obtain ⟨z, hz⟩ : ∃ z, x + y = z := ⟨_, rfl⟩
    have HM : Aside0 (∀ U V : World, Below U.heap.size U V → Calls Tryd.prog 46 #[.string (enc x), .string (enc y)] V fun e w' => e = .returned (.string (enc z)) ∧ Below U.heap.size U w') := ⟨fun U V h => hz ▸ add_s h SS.out.1 SS.out.2⟩
    have HZ : Aside0 (iv (zm (b1, x) (b2, y)) = .agg #[.bool b1, .string (enc z)]) := ⟨by
      unfold zm
      rw [if_pos (by simpa using hb), ← hz]⟩
    rw [HZ.out]
    have hne : (b1 == b2) = false := beq_bool_ne hb
    clear hz HZ hb
    go_enter Tryd.func62, Tryd.ntmps62
    go_upto_region 1 with (fail)
    rw [HE.out]
    have kx := (HX.out); have kx0 := kx.c0; have kx1 := kx.c1; have fx0 := kx.f0; have fx1 := kx.f1; clear kx; have kx := (HY.out); have ky0 := kx.c0; have ky1 := kx.c1; have fy0 := kx.f0; have fy1 := kx.f1; clear kx; have kx := (HR.out); have kr0 := kx.c0; have kr1 := kx.c1; have fr0 := kx.f0; have fr1 := kx.f1; clear kx
    go_upto_region 2 with (fail)
    clear kx0 kx1 fx0 fx1 ky0 ky1 fy0 fy1 kr0 kr1 fr0 fr1
    (refine wp_region_below_tail 8 (by kernel_rfl) (by kernel_rfl) ?_); (simp only [List.take_succ_cons, List.take_zero, List.drop_succ_cons, List.drop_zero]); (repeat (refine wpQuiet_step (fun K hK => ?_); go_simp; first | (refine hK _ ?_; clear hK K) | (apply Exists.intro; refine ⟨fun V hV => ?_, hK _ ?_⟩; (focus ((first | rfl | ((with_reducible exact HM.out _ _ hV)) | ((have kx := (HX.out.below hV)); have kc0 := kx.c0; have kc1 := kx.c1; clear kx; go_simp; first | rfl | fail) | ((have kx := (HY.out.below hV)); have kc0 := kx.c0; have kc1 := kx.c1; clear kx; go_simp; first | rfl | fail)))); clear hK K))); (refine wpQuiet_nil ?_); (intro V hV)
    have kx := (HR.out.below hV); have kr0 := kx.c0; have kr1 := kx.c1; have fr0 := kx.f0; have fr1 := kx.f1; clear kx
    go_wp2
    refine bodyPost_ret (results_bz rfl rfl ((HR.out.below hV).set _ _)) rfl ?_
    exact ⟨rfl, below_set2 (below_step HW.out hV) (by have := H0.out.size; omega)⟩
end Go.Proofs.YtiamgjepcagohaaDoor.P
end
