/- ClPa: lemmas of this claim, of 4 texts. -/
import Derived.Test.YtiamgjepcagohaaDoorClBar
import Derived.BigRegion
import Derived.Test.YtiamgjepcagohaaDoorClAri
section
/- The example that the laws try, and matrices of noughts: plain laws. -/
namespace Go.Proofs.YtiamgjepcagohaaDoor.P
open Go Go.RowKit Go.Proofs.YtiamgjepcagohaaDoorW.PrintWords Go.Proofs.YtiamgjepcagohaaDoorW.PrintLast Go.Proofs.YtiamgjepcagohaaDoorW.PrintMore Go.Proofs.YtiamgjepcagohaaDoor.Ari

/-! integers among the rational numbers -/
theorem comm_int (M : Nat → Int) : ∀ k, comm (fun k => (M k : Rat)) k = 1
  | 0 => rfl
  | k + 1 => by
    rw [comm, comm_int M k, Rat.den_intCast]; rfl
theorem intz_int (M : Nat → Int) (m k : Nat) : intz (fun k => (M k : Rat)) m k = (decide (M k < 0), (M k).natAbs) := by
  unfold intz ngv
  rw [comm_int, Rat.den_intCast, Rat.num_intCast]
  simp
def exM (i k : Nat) : Int := if i = 0 then (if k = 0 then 1 else if k = 1 then 2 else 0) else (if k = 0 then 2 else if k = 1 then 4 else 0)
def exE : Nat → Nat → Raw := fun i k => rw_ ((exM i k : Int) : Rat)
def exX : Nat → Raw := fun _ => (false, ⟨#[]⟩, ⟨#[]⟩)
theorem raw_zero : rw_ 0 = (false, ⟨#[]⟩, ⟨#[]⟩) := by
  have := rv_zero
  simp only [rv, Value.agg.injEq, Array.mk.injEq, List.cons.injEq, Value.bool.injEq, Value.string.injEq, and_true] at this
  unfold rw_
  rw [this.1, this.2.1, this.2.2]
theorem val_rw_ (q : Rat) : val (rw_ q) = q := rval_rv q
theorem val_zero : val (false, ⟨#[]⟩, ⟨#[]⟩) = 0 := by rw [← raw_zero]; exact val_rw_ 0
theorem ex_zrow (i : Nat) (hi : i < 2) : zrows exE exX 2 i = fun k => (decide ((if k < 2 then exM i k else 0) < 0), (if k < 2 then exM i k else 0).natAbs) := by
  have e : qrow exE exX 2 i = fun k => ((if k < 2 then exM i k else 0 : Int) : Rat) := by
    funext k
    unfold qrow exE exX
    split
    · exact val_rw_ _
    · rw [val_zero]; rfl
  unfold zrows
  rw [e]
  funext k
  exact intz_int _ _ _
theorem ex_bar : bar 2 2 0 (false, 1) (zrows exE exX 2) = none := by
  have h : ∀ G : Gz, G 0 = (fun k => (decide ((if k < 2 then exM 0 k else 0) < 0), (if k < 2 then exM 0 k else 0).natAbs)) → G 1 = (fun k => (decide ((if k < 2 then exM 1 k else 0) < 0), (if k < 2 then exM 1 k else 0).natAbs)) → bar 2 2 0 (false, 1) G = none := by
    intro G h0 h1
    have p : pvz G 0 2 0 = some 0 := by
      simp only [pvz, h0]; rw [if_neg (by decide)]
    have q : ∀ j, elimZ (swapZ G 0 0) 0 (false, 1) 1 j = if j = 0 then (false, 0) else zo (zm (zt (G 0 0) (G 1 j)) (zt (G 1 0) (G 0 j))) (false, 1) := by
      intro j
      unfold elimZ elimE swapZ
      simp
    have r : pvz (elimZ (swapZ G 0 0) 0 (false, 1)) 1 1 1 = none := by
      simp only [pvz, q, h0, h1]; decide
    rw [bar]
    simp only [Nat.sub_zero, p]
    rw [bar]
    simp only [Nat.zero_add, show 2 - 1 = 1 from rfl, r]
  exact h _ (ex_zrow 0 (by omega)) (ex_zrow 1 (by omega))
theorem ex_vals : vals exE = fun i k => ((exM i k : Int) : Rat) := by
  funext i k; exact val_rw_ _
def exOut : St := ech 2 2 0 ⟨fun i k => ((exM i k : Int) : Rat), [], 1⟩
theorem ex_piv : exOut.piv = [0] := by decide +kernel
theorem ex_k0 : kv exOut.G exOut.piv 1 exOut.piv.length 0 = ((-2 : Int) : Rat) := by decide +kernel
theorem ex_k1 : kv exOut.G exOut.piv 1 exOut.piv.length 1 = ((1 : Int) : Rat) := by decide +kernel
theorem fit_int {z : Int} (h : z.natAbs < 256) : Fit 1 (z : Rat) := ⟨by rw [Rat.num_intCast]; exact nb_le (by simpa using h), by rw [Rat.den_intCast, nb_one]; omega⟩
theorem ex_fit (i k : Nat) : FitS 1 (exE i k).2.1 (exE i k).2.2 := by
  refine (fit_int ?_).raw
  unfold exM
  repeat' split
  all_goals decide
theorem ex_okay : Okay 2 2 1 1 2 exE exOut :=
  Okay.mk_ (fun i _ k _ => ex_fit i k) (Nat.le_refl _) (Nat.le_refl _) (by rw [ex_vals]; rfl) (by rw [ex_piv]; rfl) (by decide)
theorem ex_fitX (i : Nat) : FitS 1 (exX i).2.1 (exX i).2.2 := ⟨by show (0 : Nat) ≤ 1; omega, by show (0 : Nat) ≤ 1; omega, Nat.le_refl _⟩

/-! a matrix of noughts -/
def zeE : Nat → Nat → Raw := fun _ _ => (false, ⟨#[]⟩, ⟨#[]⟩)
end Go.Proofs.YtiamgjepcagohaaDoor.P
end
section
/- Package linear: Solve. -/
namespace Go.Proofs.YtiamgjepcagohaaDoor.P
open Go Go.RowKit Go.Proofs.YtiamgjepcagohaaDoorW.PrintWords Go.Proofs.YtiamgjepcagohaaDoorW.PrintLast Go.Proofs.YtiamgjepcagohaaDoorW.PrintMore Go.Proofs.YtiamgjepcagohaaDoor.Ari

set_option maxHeartbeats 2000000 in
set_option maxRecDepth 1000000 in
theorem Solve_bad {w0 w : World} {v xv : Value} {n y : Nat} {L : Nat → Nat} {E : Nat → Nat → Raw} (hB : Below w0.heap.size w0 w) (hM : Mat w v n L E) (hn : n ≤ 1000) (hx : sqr n L = y) (h0 : y ≠ 0) :
    Calls Tryd.prog 19 #[v, xv] w fun e w' => e = .returned (.tuple #[.slice none 0 0, .int .i64 y]) ∧ Below w0.heap.size w0 w' := by
  have HC := Aside0.mk (hx ▸ square_c hB hM hn)
  have hx2 : ((y : Int) == 0) = false := by simp; omega
  clear hB hM hx h0
  go_enter Tryd.func19, Tryd.ntmps19
  go_wp2_with (go_at_call 34; (with_reducible refine HC.out.mono ?_); rintro e w1 ⟨rfl, hV⟩; have HV := Aside0.mk hV; clear hV)
  go_ret2
  exact ⟨rfl, HV.out⟩

theorem val_rw (q : Rat) : val (rw_ q) = q := rval_rv q
theorem own_raw {W : World} {b g cap n : Nat} {q : Nat → Rat} {e : Raw} (h : W.ownsRow b 27 3 (.slice (some ⟨g, 0, none⟩) (n + 1) cap) (n + 1) (rcells q n ++ [.bool e.1, .string e.2.1, .string e.2.2])) : Row W g 0 (n + 1) (fun k => if k < n then rw_ (q k) else e) := by
  refine ⟨fun k hk => ?_⟩
  rw [Nat.zero_add]
  have hl := rcells_length q n
  by_cases hkn : k < n
  · rw [if_pos hkn]
    obtain ⟨h1, h2, h3⟩ := rcells_get q n hkn
    refine ⟨(h.cellAt (k * 3) (by omega)).trans ?_, (h.cellAt (k * 3 + 1) (by omega)).trans ?_, (h.cellAt (k * 3 + 2) (by omega)).trans ?_⟩
    · rw [List.getElem?_append_left (show k * 3 < (rcells q n).length by omega)]; exact h1
    · rw [List.getElem?_append_left (show k * 3 + 1 < (rcells q n).length by omega)]; exact h2
    · rw [List.getElem?_append_left (show k * 3 + 2 < (rcells q n).length by omega)]; exact h3
  · obtain rfl : n = k := by omega
    rw [if_neg hkn]
    refine ⟨(h.cellAt (n * 3) (by omega)).trans ?_, (h.cellAt (n * 3 + 1) (by omega)).trans ?_, (h.cellAt (n * 3 + 2) (by omega)).trans ?_⟩
    · rw [List.getElem?_append_right (show (rcells q n).length ≤ n * 3 by omega), hl, Nat.sub_self]; rfl
    · rw [List.getElem?_append_right (show (rcells q n).length ≤ n * 3 + 1 by omega), hl, show n * 3 + 1 - n * 3 = 1 by omega]; rfl
    · rw [List.getElem?_append_right (show (rcells q n).length ≤ n * 3 + 2 by omega), hl, show n * 3 + 2 - n * 3 = 2 by omega]; rfl
theorem mat_one {W : World} {b m c : Nat} {E : Nat → Raw} {t : TypeId} (h : Row W b 0 m E) : Mat (W.alloc (.cells #[.slice (some ⟨b, 0, none⟩) m c] t)) (.slice (some ⟨W.heap.size, 0, none⟩) 1 1) 1 (fun _ => m) (fun _ => E) := by
  have hb := below_alloc (Below.refl W.heap.size W) (.cells #[.slice (some ⟨b, 0, none⟩) m c] t)
  refine ⟨some ⟨W.heap.size, 0, none⟩, 1, fun _ => some ⟨b, 0, none⟩, fun _ => c, rfl, fun _ => ⟨W.heap.size, 0, rfl, fun i hi => ?_⟩, fun i hi => ⟨fun _ => ⟨b, 0, rfl, h.below hb⟩⟩⟩
  obtain rfl : i = 0 := by omega
  simp
theorem qrow_eq (E : Nat → Nat → Raw) {X : Nat → Raw} {n i : Nat} {e : Raw} (h : X i = e) (k : Nat) : qrow E X n i k = val (if k < n then rw_ (val (E i k)) else e) := by
  unfold qrow
  split
  · exact (val_rw _).symm
  · rw [h]
theorem PZ.cell {W : World} {B g n m i : Nat} {v : Value} {A C : Nat → Nat} {G : Gz} (h : PZ W B g n m i v A C G) (hi : i < n) : W.cell? ⟨g, i, none⟩ = some v := by
  rw [h.top i hi]; simp
set_option maxHeartbeats 2000000 in
set_option maxRecDepth 1000000 in
theorem Solve_sing {w0 w : World} {v xv : Value} {n N : Nat} {L : Nat → Nat} {E : Nat → Nat → Raw} {X : Nat → Raw} (hB : Below w0.heap.size w0 w) (hM : Mat w v n L E) (hk : chk n L = 0) (hm : L 0 = n) (hX : Vec w xv n X)
    (hE : ∀ i, i < n → ∀ k, k < n → FitS N (E i k).2.1 (E i k).2.2) (hFX : ∀ i, i < n → FitS N (X i).2.1 (X i).2.2) (hN : (1 + (n + 2) * N) * 3 ^ n ≤ 1073741824) (ho : bar n n 0 (false, 1) (zrows E X n) = none) :
    Calls Tryd.prog 19 #[v, xv] w fun e w' => e = .returned (.tuple #[.slice none 0 0, .int .i64 5]) ∧ Below w0.heap.size w0 w' := by
  obtain ⟨h0, h16, hm0, hm16, hall⟩ := chk_ok hk
  have hsq : sqr n L = 0 := by unfold sqr; rw [if_pos hk, hm, if_pos rfl]
  have HINV := Aside0.mk (zrows_inv hE hFX hN ho)
  have HSM : Aside0 (1 + (n + 1) * N + N + N ≤ 1073741824) := ⟨by
    have h1 := HINV.out.small
    have h2 := HINV.out.room
    have h3 : 3 ≤ 3 ^ (n - 0) := by
      rw [show n - 0 = (n - 1) + 1 by omega, Nat.pow_succ]
      have := Nat.pow_pos (n := n - 1) (show 0 < 3 by decide)
      omega
    have h4 : (1 + (n + 2) * N) * 3 ≤ (1 + (n + 2) * N) * 3 ^ (n - 0) := Nat.mul_le_mul_left _ h3
    have h5 : (n + 2) * N = (n + 1) * N + N := Nat.succ_mul (n + 1) N
    omega⟩
  have HNS : Aside0 (N ≤ 1073741824) := ⟨by
    have h2 : (n + 2) * N = (n + 1) * N + N := Nat.succ_mul (n + 1) N
    have := HSM.out; omega⟩
  have H0 := Aside0.mk hB
  have HC := Aside0.mk (hsq ▸ square_c (Below.refl _ _) hM (by omega))
  have HM := Aside0.mk hM
  have HEE := Aside0.mk hE
  have HFX := Aside0.mk hFX
  have HL : Aside0 (∀ i, i < n → L i = n) := ⟨fun i hi => (hall i hi).trans hm⟩
  obtain ⟨ga, gc, A, C, rfl, _, _⟩ := hM.ex
  obtain ⟨xa, xc, rfl, hxr⟩ := hX.ex
  obtain ⟨xb, xo, rfl, hxrow⟩ := hxr.ex h0
  have HXR := Aside0.mk hxrow
  have HMK : Aside0 (∀ W : World, (Instr.makeSlice 62 (.int .i64 (n : Int)) (.int .i64 (n : Int))).run Tryd.prog W = .ok (.slice (some ⟨W.heap.size, 0, none⟩) n n) (W.alloc (.cells (madeCells #[.slice none 0 0] n) 63))) := ⟨fun W => run_make_row' (P := Tryd.prog) 62 63 (.slice none 0 0) 24 Tryd.underlying62 infoRowZ rfl .i64 .i64 n (by omega) (by omega) W⟩
  clear hB hM hE hFX hN hall hm hk hX hxr hxrow hsq ho hm0 hm16
  go_enter Tryd.func19, Tryd.ntmps19
  go_upto_region 7 with (go_at_call 34; (with_reducible refine HC.out.mono ?_); rintro e w1 ⟨rfl, hV⟩; have HV := Aside0.mk hV; clear hV)
  have hmk := HMK.out
  go_upto_region 8 with (fail)
  clear hmk
  have hpz := PZ.start w1 n (n + 1) (fun _ => 0) (fun _ => 0) (zrows E X n) w.heap.size HV.out.size
  have hV := below_alloc (Below.refl w1.heap.size w1) (.cells (madeCells #[.slice none 0 0] n) 63)
  obtain ⟨gw, hgw⟩ : ∃ x, w1.heap.size = x := ⟨_, rfl⟩
  obtain ⟨w2, hw2⟩ : ∃ w3, w1.alloc (.cells (madeCells #[.slice none 0 0] n) 63) = w3 := ⟨_, rfl⟩
  rw [hw2] at hpz hV ⊢
  replace HV := Aside0.mk (below_step HV.out hV)
  rw [hgw] at hpz ⊢
  replace HPZ := Aside0.mk hpz
  clear hgw hw2 hV hpz
  go_upto_block 0 with (go_at_call 30; (with_reducible refine (cleanM_o (Below.refl _ _) (HM.out.below HV.out) (by omega) (by omega) h0 h0 HL.out HEE.out HNS.out).mono ?_); rintro e w3 ⟨gcl, A2, C2, rfl, hV, hg, hG, hOW⟩; have HG := Aside0.mk hG; have HOW := Aside0.mk hOW; have HPZ0 := HPZ; replace HPZ := Aside0.mk (HPZ.out.below hV); replace HV := Aside0.mk (below_step HV.out hV); have HGG := Aside0.mk hg; clear hV hG hOW hg)
  have HGW : Aside0 (gw < w2.heap.size) := ⟨HPZ0.out.lt⟩
  obtain ⟨b2, hb2⟩ : ∃ x, w2.heap.size = x := ⟨_, rfl⟩
  rw [hb2] at HG HOW HGW HGG
  obtain ⟨bc, hbc⟩ : ∃ x, w3.heap.size = x := ⟨_, rfl⟩
  have HWW : Aside0 (w.heap.size ≤ gw ∧ w.heap.size ≤ b2) := ⟨HPZ.out.base, Nat.le_trans HPZ.out.base (Nat.le_of_lt HGW.out)⟩
  have HAB : Aside0 (gcl < bc ∧ ∀ j, j < n → b2 ≤ A2 j ∧ A2 j < bc ∧ gcl ≠ A2 j) := ⟨hbc ▸ HG.out.lt, fun j hj => ⟨HG.out.ge j hj, hbc ▸ (HG.out.rows j hj).lt, fun e => HG.out.ne j hj e.symm⟩⟩
  have HINJ := Aside0.mk HG.out.inj
  have HCL : Aside0 (∀ j, 0 ≤ j → j < n → w3.cell? ⟨gcl, j, none⟩ = some (.slice (some ⟨A2 j, 0, none⟩) n (C2 j)) ∧ OwnQ w3 b2 (.slice (some ⟨A2 j, 0, none⟩) n (C2 j)) n (fun k => val (E j k))) := ⟨fun j _ hj => ⟨HG.out.top j hj, HOW.out j hj⟩⟩
  have HBC : Aside0 (bc ≤ w3.heap.size ∧ b2 ≤ bc) := ⟨Nat.le_of_eq hbc.symm, by have := HAB.out.2 0 h0; omega⟩
  clear hb2 hbc HPZ0 HG HOW
  go_cut [] (fun wc => ∃ Aw Cw, Aside0 (GridZ wc w.heap.size gw n (n + 1) Aw Cw (zrows E X n)) ∧ Aside0 (Below w.heap.size w wc))
  case first =>
    go_wp2
    go_loopw [33] (fun v33 wr => ∃ (i : Nat) (Aw Cw : Nat → Nat), i ≤ n ∧ v33 = .int .i64 i ∧ Aside0 (PZ wr w.heap.size gw n (n + 1) i (.slice none 0 0) Aw Cw (zrows E X n)) ∧ Aside0 (∀ j, j < i → bc ≤ Aw j ∧ Aw j < wr.heap.size) ∧ Aside0 (∀ j, i ≤ j → j < n → wr.cell? ⟨gcl, j, none⟩ = some (.slice (some ⟨A2 j, 0, none⟩) n (C2 j)) ∧ OwnQ wr b2 (.slice (some ⟨A2 j, 0, none⟩) n (C2 j)) n (fun k => val (E j k))) ∧ Aside0 (bc ≤ wr.heap.size ∧ b2 ≤ bc) ∧ Aside0 (Below w.heap.size w wr)) (fun v33 _ => n - (intOf v33).toNat)
    case atStart => exact ⟨0, _, _, by omega, rfl, HPZ, ⟨fun j hj => by omega⟩, HCL, HBC, HV⟩
    case round =>
      clear HPZ HCL HBC HV
      obtain ⟨i, Aw, Cw, hi, rfl, HPZ, HAW, HCL, HBC, HV⟩ := hrel
      by_cases hin : i < n
      · have t1 := (HCL.out i (Nat.le_refl _) hin).1
        have HOi := Aside0.mk (HCL.out i (Nat.le_refl _) hin).2
        have E1 := Aside0.mk ((HXR.out.el i hin).below HV.out)
        have FX := HFX.out i hin
        obtain ⟨⟨x0, x1, x2⟩, hex⟩ : ∃ e, X i = e := ⟨_, rfl⟩
        rw [hex] at E1 FX
        have HEX := Aside0.mk hex
        have FXX := Aside0.mk FX
        have e0 := E1.out.c0
        have e1 := E1.out.c1
        have e2 := E1.out.c2
        simp only at e0 e1 e2
        have h1 : ∀ u ∈ [Value.bool x0, Value.string x1, Value.string x2], u.oneCell' = true := by
          intro u hu
          simp only [List.mem_cons, List.not_mem_nil, or_false] at hu
          rcases hu with rfl | rfl | rfl <;> rfl
        have H1 := Aside0.mk h1
        have HL' : Aside0 (b2 ≤ wr.heap.size ∧ (n + 1) * 40 ≤ 140737488355328) := ⟨Nat.le_trans HBC.out.2 HBC.out.1, by omega⟩
        have HFE : Aside0 (∀ i', i' < 1 → ∀ k, k < n + 1 → FitS N (if k < n then rw_ (val (E i k)) else (x0, x1, x2)).2.1 (if k < n then rw_ (val (E i k)) else (x0, x1, x2)).2.2) := ⟨fun _ _ k hk => by
          by_cases hkn : k < n
          · rw [if_pos hkn]; exact ((HEE.out i hin k hkn).val (b := (E i k).1)).raw
          · rw [if_neg hkn]; exact FXX.out⟩
        have HNE : Aside0 (gw ≠ A2 i ∧ ∀ j, j < i → Aw j ≠ A2 i) := ⟨by have := HAB.out.2 i hin; have := HGW.out; omega, fun j hj => by have := HAB.out.2 i hin; have := HAW.out j hj; omega⟩
        clear hex FX h1
        go_wp2_with (first
          | (at_builtin; refine print_append_cells b2 rfl (.tmp 40) (.tmp 45) 30 27 _ 3 40 rfl Tryd.underlying30 infoRat rfl (by decide) (by decide) (.slice (some ⟨A2 i, 0, none⟩) n (C2 i)) n (rcells (fun k => val (E i k)) n) [.bool x0, .string x1, .string x2] rfl rfl rfl H1.out HOi.out (Below.refl b2 wr) HL'.out.1 HL'.out.2 ?_; intro v1 w4 ho1 hb1 hg1 ha1; obtain ⟨b4, c4, rfl, hb4, hl4⟩ := own_shape ho1 (Nat.succ_pos _); have HR4 := Aside0.mk (own_raw (e := (x0, x1, x2)) ho1); have HG4 := Aside0.mk hg1; clear ho1 hb1 hg1 ha1 hb4 hl4 t1 e0 e1 e2)
          | (go_at_call 30; (with_reducible refine (cleanM_c (w0 := w4) (below_alloc (Below.refl _ _) _) (mat_one HR4.out) (by omega) (by omega) (by omega) (by omega) (fun _ _ => rfl) HFE.out HNS.out).mono ?_); rintro e w6 ⟨g6, A6, C6, rfl, hV, hg6, hG6⟩; have HB6 := Aside0.mk hV; have HG6 := Aside0.mk hG6; have t6 := hG6.top 0 (by omega); clear hV hg6 hG6)
          | (go_at_call 37; (with_reducible refine (integers_c (w0 := w4) HB6.out ((HG6.out.rows 0 (by omega)).congr (q' := qrow E X n i) (fun k hk => by rw [← qrow_eq E HEX.out k])) (by omega) (qrow_fit (fun k hk => HEE.out i hin k hk) (HEX.out.symm ▸ FXX.out)) HSM.out).mono ?_); rintro e w7 ⟨g7, rfl, hV, hg7, hz7⟩; have HB7 := Aside0.mk hV; have HZ7 := Aside0.mk hz7; have HG7 := Aside0.mk hg7; clear hV hg7 hz7 t6; (have hc4 : Chg wr w4 (fun b => b = A2 i) := (Chg.refl wr _).grown HG4.out (fun k hk => by simp only [Value.ownBlock, Option.some.injEq] at hk; exact .inl hk.symm)); (replace HPZ := Aside0.mk ((HPZ.out.chg hc4 HNE.out.1 HNE.out.2).below HB7.out)); (have t7 := HPZ.out.cell hin); (have t8 := HPZ.out.ftop i)))
        clear t7 t8
        have hc7 := hc4.below HB7.out
        have hcs : Chg w7 (w7.setCell ⟨gw, i, none⟩ (.slice (some ⟨g7, 0, none⟩) (n + 1) (n + 1))) (fun b => b = gw) := (Chg.refl w7 (fun b => b = gw)).setCell (p := ⟨gw, i, none⟩) (.inl rfl) _
        have hs1 : wr.heap.size ≤ g7 := Nat.le_trans hc4.size (Nat.le_trans HB6.out.size HG7.out)
        have hps := HPZ.out.store hin (.slice (some ⟨g7, 0, none⟩) (n + 1) (n + 1))
        have hz8 : RowZ (w7.setCell ⟨gw, i, none⟩ (.slice (some ⟨g7, 0, none⟩) (n + 1) (n + 1))) g7 (n + 1) (zrows E X n i) := HZ7.out.chg hcs (fun e => by have := HGW.out; have := HBC.out; omega)
        have hnx := hps.next hz8 hs1 (Nat.le_trans HWW.out.2 HL'.out.1) (by have := HGW.out; have := HL'.out.1; omega) (fun j hj => (HAW.out j hj).2)
        obtain ⟨w8, hw8⟩ : ∃ w8, w7.setCell ⟨gw, i, none⟩ (.slice (some ⟨g7, 0, none⟩) (n + 1) (n + 1)) = w8 := ⟨_, rfl⟩
        rw [hw8] at hcs hnx hz8 ⊢
        refine ⟨⟨i + 1, _, _, hin, by go_num, ⟨hnx⟩, ⟨fun j hj => ?_⟩, ⟨fun j hj hjn => ?_⟩, ⟨Nat.le_trans HBC.out.1 (Nat.le_trans hc7.size hcs.size), HBC.out.2⟩, ⟨hcs.out (hc7.out HV.out (fun k hk => by rw [hk]; have := HAB.out.2 i hin; have := HWW.out; omega)) (fun k hk => by rw [hk]; exact HWW.out.1)⟩⟩, ?_⟩
        · by_cases e : j = i
          · simp only [if_pos e]
            exact ⟨by have := HBC.out; omega, hz8.lt⟩
          · simp only [if_neg e]
            have := HAW.out j (by omega)
            have h1 := hc7.size
            have h2 := hcs.size
            omega
        · obtain ⟨q1, q2⟩ := HCL.out j (by omega) hjn
          have hab := HAB.out.2 j hjn
          have hgw := HGW.out
          have hgg := HGG.out
          refine ⟨?_, own_chg2 (own_chg2 q2 hc7 (fun x hx e => ?_)) hcs (fun x hx e => ?_)⟩
          · exact ((cell_chg hcs (Nat.lt_of_lt_of_le (World.block_lt_of_cell? _ _ q1) hc7.size) (show ¬ gcl = gw by omega)).trans (cell_chg hc7 (World.block_lt_of_cell? _ _ q1) (fun e => (HAB.out.2 i hin).2.2 e))).trans q1
          · simp only [Value.ownBlock, Option.some.injEq] at hx
            have := HINJ.out j i hjn hin (hx.trans e)
            omega
          · simp only [Value.ownBlock, Option.some.injEq] at hx
            omega
        · simp [intOf]; omega
      · obtain rfl : n = i := by omega
        go_wp2
        go_meet
        exact ⟨Aw, Cw, ⟨HPZ.out.grid⟩, HV⟩
  case rest =>
    clear HPZ HCL HBC HV
    obtain ⟨Aw, Cw, HG, HV⟩ := hcut
    have HOne : Aside0 (∀ U V : World, Below U.heap.size U V → Calls Tryd.prog 38 #[.int .u64 1] V fun e w' => e = .returned (.string (enc 1)) ∧ Below U.heap.size U w') := ⟨fun U V h => fromUint_s (u := 1) h (by decide)⟩
    go_upto_region 14 with (go_at_call 38; (with_reducible refine (HOne.out _ _ (Below.refl _ _)).mono ?_); rintro e w4 ⟨rfl, hV⟩; replace HG := Aside0.mk (HG.out.below hV); replace HV := Aside0.mk (below_step HV.out hV); clear hV)
    obtain ⟨p11, hp11⟩ : ∃ x, w4.heap.size = x := ⟨_, rfl⟩
    obtain ⟨w5, hw5, HLB, hV⟩ := bz1 w4 (.bool false) (.string (enc 1)) 68
    have HGL : Aside0 (gw < p11 ∧ ∀ i, i < n → Aw i < p11) := ⟨hp11 ▸ ⟨HG.out.lt, fun i hi => (HG.out.rows i hi).lt⟩⟩
    have HWP : Aside0 (w.heap.size ≤ p11) := ⟨hp11 ▸ HV.out.size⟩
    rw [hw5]
    rw [hp11] at HLB ⊢
    replace HG := Aside0.mk (HG.out.below hV)
    replace HV := Aside0.mk (below_step HV.out hV)
    clear hw5 hp11 hV HOne
    go_wp2
    go_loopw [57] (fun v57 wr => ∃ (k K : Nat) (l : Sg) (G : Gz) (A' C' : Nat → Nat), k ≤ n ∧ v57 = .int .i64 k ∧ Aside0 (BInv n k K l G none) ∧ Aside0 (GridZ wr w.heap.size gw n (n + 1) A' C' G) ∧ Aside0 (gw < p11 ∧ ∀ i, i < n → A' i < p11) ∧ Aside0 (Bz wr p11 (.bool l.1) (.string (enc l.2))) ∧ Aside0 (Below w.heap.size w wr)) (fun v57 _ => n - (intOf v57).toNat)
    case atStart => exact ⟨0, _, (false, 1), _, Aw, Cw, by omega, rfl, HINV, HG, HGL, HLB, HV⟩
    case round =>
      clear HG HGL HLB HV
      obtain ⟨k, K, l, G, A', C', hk, rfl, HI, HG, HGL, HLB, HV⟩ := hrel
      by_cases hkn : k < n
      · go_upto_region 17 with (fail)
        obtain ⟨p12, hp12⟩ : ∃ x, wr.heap.size = x := ⟨_, rfl⟩
        have hV := below_alloc (Below.refl wr.heap.size wr) (.cells #[.int .i64 (k : Int)] 3)
        have tk : (wr.alloc (.cells #[.int .i64 (k : Int)] 3)).cell? ⟨wr.heap.size, 0, none⟩ = some (.int .i64 (k : Int)) := by simp
        obtain ⟨w6, hw6⟩ : ∃ x, wr.alloc (.cells #[.int .i64 (k : Int)] 3) = x := ⟨_, rfl⟩
        rw [hw6] at tk hV ⊢
        have HPP : Aside0 (p11 < p12) := ⟨hp12 ▸ HLB.out.lt⟩
        replace HG := Aside0.mk (HG.out.below hV)
        replace HLB := Aside0.mk (HLB.out.below hV)
        replace HV := Aside0.mk (below_step HV.out hV)
        rw [hp12] at tk ⊢
        have HTK := Aside0.mk tk
        clear hw6 hp12 hV
        obtain ⟨out, hout⟩ : ∃ o, pvz G k (n - k) k = o := ⟨_, rfl⟩
        have HOUT := Aside0.mk hout
        clear hout
        go_upto_region 18 with (go_at_call 39; (with_reducible refine (IndexFunc_c (Below.refl _ _) HG.out HTK.out (Nat.le_of_lt hkn) (by omega) (by omega)).mono ?_); rintro e w7 ⟨rfl, hV⟩; replace HG := Aside0.mk (HG.out.below hV); replace HLB := Aside0.mk (HLB.out.below hV); replace HV := Aside0.mk (below_step HV.out hV); replace tk := cell_below hV HTK.out; replace HTK := Aside0.mk tk; clear hV; rw [HOUT.out])
        cases out with
        | none =>
          simp only [pvR]
          go_wp2
          go_ret2
          exact ⟨rfl, below_step H0.out HV.out⟩
        | some a =>
          have hpa := pvz_some HOUT.out
          obtain ⟨d, hd⟩ : ∃ d, a = k + d := ⟨a - k, by omega⟩
          subst hd
          have hkd : k + d < n := by omega
          have hR : pvR k (some (k + d)) = (d : Int) := by simp [pvR]; omega
          rw [hR]
          have HST := Aside0.mk (HI.out.step hkn HOUT.out)
          have HLN : Aside0 (0 < l.2 ∧ nb l.2 ≤ K ∧ (∀ i, i < n → ∀ j, j < n + 1 → nb (G i j).2 ≤ K)) := ⟨HI.out.l0, HI.out.lf, HI.out.ent⟩
          have HK1 : Aside0 (K + K + 1 + 1 ≤ 1073741824) := ⟨by have := HST.out.2; have := HI.out.one; omega⟩
          clear hpa hR
          go_upto_region 20 with (fail)
          go_cut [13] (fun v13 wc => v13 = .int .i64 d ∧ ∃ A1 C1, Aside0 (GridZ wc w.heap.size gw n (n + 1) A1 C1 (swapZ G k (k + d))) ∧ Aside0 (gw < p11 ∧ ∀ i, i < n → A1 i < p11) ∧ Aside0 (Bz wc p11 (.bool l.1) (.string (enc l.2))) ∧ Aside0 (wc.cell? ⟨p12, 0, none⟩ = some (.int .i64 (k : Int))) ∧ Aside0 (Below w.heap.size w wc))
          case first =>
            have HPN : Aside0 (gw ≠ p11 ∧ gw ≠ p12 ∧ w.heap.size ≤ gw) := ⟨by have := HGL.out.1; omega, by have := HGL.out.1; have := HPP.out; omega, HWW.out.1⟩
            by_cases hd : d = 0
            · subst hd
              simp only [Nat.add_zero] at hkd ⊢
              have t1 := HG.out.top k hkn
              have t3 := HG.out.ftop k
              have t6 : ∀ v, (w7.setCell ⟨gw, k, none⟩ v).cell? ⟨p12, 0, none⟩ = some (.int .i64 (k : Int)) := fun v => (World.cell?_setCell_other _ _ _ _ (fun h => HPN.out.2.1 (by injection h))).trans HTK.out
              have t7 : ∀ v, (w7.setCell ⟨gw, k, none⟩ v).cell? ⟨gw, k, none⟩ = some v := fun v => cell_setn (by rw [t1]; rfl) v
              go_region
              clear t1 t3 t6 t7
              have hg := (HG.out.swap hkn hkn).below (below_drew1 (Below.refl _ _))
              have hc : Chg w7 ((w7.setCell ⟨gw, k, none⟩ (.slice (some ⟨A' k, 0, none⟩) (n + 1) (C' k))).setCell ⟨gw, k, none⟩ (.slice (some ⟨A' k, 0, none⟩) (n + 1) (C' k))).drew (fun b => b = gw) := (((Chg.refl w7 (fun b => b = gw)).setCell (p := ⟨gw, k, none⟩) (.inl rfl) _).setCell (p := ⟨gw, k, none⟩) (.inl rfl) _).drew
              go_wp2
              go_meet
              exact ⟨rfl, _, _, ⟨hg⟩, ⟨HGL.out.1, sw_lt HGL.out.2 hkn hkn⟩, ⟨HLB.out.chg hc (fun e => HPN.out.1 e.symm)⟩, ⟨(cell_chg hc (World.block_lt_of_cell? _ _ HTK.out) (fun e => HPN.out.2.1 e.symm)).trans HTK.out⟩, ⟨hc.out HV.out (fun x hx => by rw [hx]; exact HPN.out.2.2)⟩⟩
            · have t1 := HG.out.top k hkn
              have t2 := HG.out.top (k + d) hkd
              have t3 := HG.out.ftop k
              have t4 := HG.out.ftop (k + d)
              have z1 : (0 : Int) ≤ (k : Int) + (d : Int) := by omega
              have z2 : (k : Int) + (d : Int) < (n : Int) := by omega
              have z3 : ((k : Int) + (d : Int)).toNat = k + d := by omega
              have z4 : ¬ (k + d = k) := by omega
              have z5 : ¬ (k = k + d) := by omega
              have z6 : ¬ (d = 0) := by omega
              have t5 : ∀ v, (w7.setCell ⟨gw, k, none⟩ v).cell? ⟨gw, k + d, none⟩ = some (.slice (some ⟨A' (k + d), 0, none⟩) (n + 1) (C' (k + d))) := fun v => (World.cell?_setCell_other _ _ _ _ (fun h => by injection h with _ h; omega)).trans t2
              have t6 : ∀ v, (w7.setCell ⟨gw, k, none⟩ v).cell? ⟨p12, 0, none⟩ = some (.int .i64 (k : Int)) := fun v => (World.cell?_setCell_other _ _ _ _ (fun h => HPN.out.2.1 (by injection h))).trans HTK.out
              go_region
              clear t1 t2 t3 t4 t5 t6 z1 z2 z3 z4 z5 z6
              have hg := (HG.out.swap hkn hkd).below (below_drew1 (Below.refl _ _))
              have hc : Chg w7 ((w7.setCell ⟨gw, k, none⟩ (.slice (some ⟨A' (k + d), 0, none⟩) (n + 1) (C' (k + d)))).setCell ⟨gw, k + d, none⟩ (.slice (some ⟨A' k, 0, none⟩) (n + 1) (C' k))).drew (fun b => b = gw) := (((Chg.refl w7 (fun b => b = gw)).setCell (p := ⟨gw, k, none⟩) (.inl rfl) _).setCell (p := ⟨gw, k + d, none⟩) (.inl rfl) _).drew
              go_wp2
              go_meet
              exact ⟨rfl, _, _, ⟨hg⟩, ⟨HGL.out.1, sw_lt HGL.out.2 hkn hkd⟩, ⟨HLB.out.chg hc (fun e => HPN.out.1 e.symm)⟩, ⟨(cell_chg hc (World.block_lt_of_cell? _ _ HTK.out) (fun e => HPN.out.2.1 e.symm)).trans HTK.out⟩, ⟨hc.out HV.out (fun x hx => by rw [hx]; exact HPN.out.2.2)⟩⟩
          case rest =>
            clear HG HGL HLB HV HTK tk
            obtain ⟨rfl, A1, C1, HG, HGL, HLB, HTK, HV⟩ := hcut
            obtain ⟨G1, hG1⟩ : ∃ G1, swapZ G k (k + d) = G1 := ⟨_, rfl⟩
            rw [hG1] at HG
            have HG1 := Aside0.mk hG1
            have hG1F : Aside0 (∀ i, i < n → ∀ j, j < n + 1 → nb (G1 i j).2 ≤ K) := ⟨fun i hi j hj => by
              rw [← hG1]; unfold swapZ
              split
              · exact HLN.out.2.2 _ hkd j hj
              · split
                · exact HLN.out.2.2 _ hkn j hj
                · exact HLN.out.2.2 _ hi j hj⟩
            have tk := HTK.out
            have hk1 : k < n + 1 := by omega
            have hk2 : (k : Int) < (n : Int) + 1 := by omega
            have kx := (HLB.out); have kl0 := kx.c0; have kl1 := kx.c1; have fl0 := kx.f0; have fl1 := kx.f1; clear kx
            clear hG1
            go_upto_region 22 with (go_at_call 41; (with_reducible refine (eliminate_c (w0 := w) HV.out HG.out hkn (by omega) (by omega) (by omega) hG1F.out HLN.out.2.1 HLN.out.1 HK1.out).mono ?_); rintro e w8 ⟨rfl, hV, hG, hc⟩; replace HLB := Aside0.mk (HLB.out.chg hc (by rintro ⟨i, hi, e⟩; have := HGL.out.2 i hi; omega)); replace HTK := Aside0.mk ((cell_chg hc (World.block_lt_of_cell? _ _ HTK.out) (by rintro ⟨i, hi, e⟩; have := HGL.out.2 i hi; have := HPP.out; simp only at e; omega)).trans HTK.out); replace HG := Aside0.mk hG; replace HV := Aside0.mk hV; clear hV hG hc tk kl0 kl1 fl0 fl1)
            obtain ⟨G2, hG2⟩ : ∃ G2, elimZ G1 k l = G2 := ⟨_, rfl⟩
            rw [hG2] at HG
            have HG2 := Aside0.mk hG2
            clear hG2
            obtain ⟨⟨z1, z2⟩, hz⟩ : ∃ e, G2 k k = e := ⟨_, rfl⟩
            have E1 := Aside0.mk ((HG.out.rows k hkn).el k (by omega))
            rw [hz] at E1
            have HZ := Aside0.mk hz
            clear hz
            (refine wp_region_below_tail 7 (by kernel_rfl) (by kernel_rfl) ?_); (simp only [List.take_succ_cons, List.take_zero, List.drop_succ_cons, List.drop_zero]); (repeat (refine wpQuiet_step (fun K hK => ?_); go_simp; first | (refine hK _ ?_; clear hK K) | (apply Exists.intro; refine ⟨fun V hV => ?_, hK _ ?_⟩; (focus ((first | rfl | ((have kx := cell_below hV HTK.out); go_simp; first | rfl | fail) | ((have kx := (HG.out.below hV).top k hkn); go_simp; first | rfl | fail) | ((have kx := (E1.out.below hV)); have kc0 := kx.c0; have kc1 := kx.c1; clear kx; go_simp; first | rfl | fail)))); clear hK K))); (refine wpQuiet_nil ?_); (intro V hV)
            replace HG := Aside0.mk (HG.out.below hV)
            replace HLB := Aside0.mk (HLB.out.below hV)
            replace HV := Aside0.mk (below_step HV.out hV)
            clear hV E1
            have kx := (HLB.out); have kl0 := kx.c0; have kl1 := kx.c1; have fl0 := kx.f0; have fl1 := kx.f1; clear kx
            go_wp2
            clear kl0 kl1 fl0 fl1
            have hc : Chg V ((V.setCell ⟨p11, 0, none⟩ (.bool z1)).setCell ⟨p11, 1, none⟩ (.string (enc z2))) (fun b => b = p11) := chg_set2 (S := fun b => b = p11) (o := 0) (Chg.refl _ _) (.inl rfl) _ _
            have hlz : G2 k k = G (k + d) k := by
              rw [← HG2.out]; unfold elimZ; rw [if_pos rfl, ← HG1.out, swapZ_left]
            refine ⟨⟨k + 1, 3 * K, (z1, z2), G2, A1, C1, hkn, by go_num, ⟨?_⟩, ⟨HG.out.chg2 hc (fun e => by have := HGL.out.1; omega) (fun i hi e => by have := HGL.out.2 i hi; omega)⟩, HGL, ⟨HLB.out.set _ _⟩, ⟨hc.out HV.out (fun x hx => by rw [hx]; exact HWP.out)⟩⟩, ?_⟩
            · rw [← HZ.out, hlz, ← HG2.out, ← HG1.out]
              exact HST.out.1
            · simp [intOf]; omega
      · obtain rfl : n = k := by omega
        exact absurd HI.out.end_ (by simp)
end Go.Proofs.YtiamgjepcagohaaDoor.P
end
section
/- The example that the laws try. -/
namespace Go.Proofs.YtiamgjepcagohaaDoor.P
open Go Go.RowKit Go.Proofs.YtiamgjepcagohaaDoorW.PrintWords Go.Proofs.YtiamgjepcagohaaDoorW.PrintLast Go.Proofs.YtiamgjepcagohaaDoorW.PrintMore Go.Proofs.YtiamgjepcagohaaDoor.Ari

theorem lit2 (W : World) (a b : Rat) (t : TypeId) {E : Nat → Raw} (h0 : E 0 = rw_ a) (h1 : E 1 = rw_ b) :
    Row (W.alloc (.cells #[.bool (ngv a), .string (enc a.num.natAbs), .string (encD a.den), .bool (ngv b), .string (enc b.num.natAbs), .string (encD b.den)] t)) W.heap.size 0 2 E := by
  refine ⟨fun k hk => ?_⟩
  rcases (by omega : k = 0 ∨ k = 1) with rfl | rfl
  · rw [h0]; constructor <;> simp
  · rw [h1]; constructor <;> simp
theorem lit2z (W : World) (t : TypeId) : Row (W.alloc (.cells #[.bool false, .string ⟨#[]⟩, .string ⟨#[]⟩, .bool false, .string ⟨#[]⟩, .string ⟨#[]⟩] t)) W.heap.size 0 2 exX := by
  refine ⟨fun k hk => ?_⟩
  rcases (by omega : k = 0 ∨ k = 1) with rfl | rfl
  · constructor <;> simp [exX]
  · constructor <;> simp [exX]
theorem mat2 {W : World} {b0 b1 c0 c1 m : Nat} {E : Nat → Nat → Raw} {t : TypeId} (h0 : Row W b0 0 m (E 0)) (h1 : Row W b1 0 m (E 1)) :
    Mat (W.alloc (.cells #[.slice (some ⟨b0, 0, none⟩) m c0, .slice (some ⟨b1, 0, none⟩) m c1] t)) (.slice (some ⟨W.heap.size, 0, none⟩) 2 2) 2 (fun _ => m) E := by
  have hb := below_alloc (Below.refl W.heap.size W) (.cells #[.slice (some ⟨b0, 0, none⟩) m c0, .slice (some ⟨b1, 0, none⟩) m c1] t)
  refine ⟨some ⟨W.heap.size, 0, none⟩, 2, fun i => if i = 0 then some ⟨b0, 0, none⟩ else some ⟨b1, 0, none⟩, fun i => if i = 0 then c0 else c1, rfl, fun _ => ⟨W.heap.size, 0, rfl, fun i hi => ?_⟩, fun i hi => ⟨fun _ => ?_⟩⟩
  · rcases (by omega : i = 0 ∨ i = 1) with rfl | rfl
    · simp
    · simp
  · rcases (by omega : i = 0 ∨ i = 1) with rfl | rfl
    · exact ⟨b0, 0, rfl, h0.below hb⟩
    · exact ⟨b1, 0, rfl, h1.below hb⟩
theorem ex_chk : chk 2 (fun _ => 2) = 0 := by decide
set_option maxHeartbeats 2000000 in
set_option maxRecDepth 1000000 in
theorem awake_c {w0 w : World} (hB : Below w0.heap.size w0 w) :
    Calls Tryd.prog 12 #[] w fun e w' => e = .returned (.bool true) ∧ Below w0.heap.size w0 w' := by
  have H0 := Aside0.mk hB
  obtain ⟨c1, hc1⟩ : ∃ q : Rat, ((1 : Int) : Rat) = q := ⟨_, rfl⟩
  obtain ⟨c2, hc2⟩ : ∃ q : Rat, ((2 : Int) : Rat) = q := ⟨_, rfl⟩
  obtain ⟨c4, hc4⟩ : ∃ q : Rat, ((4 : Int) : Rat) = q := ⟨_, rfl⟩
  obtain ⟨cm, hcm⟩ : ∃ q : Rat, ((-2 : Int) : Rat) = q := ⟨_, rfl⟩
  have HI1 : Aside0 (∀ U V : World, Below U.heap.size U V → Calls Tryd.prog 32 #[.int .i64 1] V fun e w' => e = .returned (rv c1) ∧ Below U.heap.size U w') := ⟨fun U V h => hc1 ▸ Int_c h (by omega) (by omega)⟩
  have HI2 : Aside0 (∀ U V : World, Below U.heap.size U V → Calls Tryd.prog 32 #[.int .i64 2] V fun e w' => e = .returned (rv c2) ∧ Below U.heap.size U w') := ⟨fun U V h => hc2 ▸ Int_c h (by omega) (by omega)⟩
  have HI4 : Aside0 (∀ U V : World, Below U.heap.size U V → Calls Tryd.prog 32 #[.int .i64 4] V fun e w' => e = .returned (rv c4) ∧ Below U.heap.size U w') := ⟨fun U V h => hc4 ▸ Int_c h (by omega) (by omega)⟩
  have HIm : Aside0 (∀ U V : World, Below U.heap.size U V → Calls Tryd.prog 32 #[.int .i64 (-2)] V fun e w' => e = .returned (rv cm) ∧ Below U.heap.size U w') := ⟨fun U V h => hcm ▸ Int_c h (by omega) (by omega)⟩
  have HE0 : Aside0 (exE 0 0 = rw_ c1 ∧ exE 0 1 = rw_ c2 ∧ exE 1 0 = rw_ c2 ∧ exE 1 1 = rw_ c4) := ⟨by rw [← hc1, ← hc2, ← hc4]; exact ⟨rfl, rfl, rfl, rfl⟩⟩
  have HK0 : Aside0 (kv exOut.G exOut.piv 1 exOut.piv.length 0 = cm ∧ kv exOut.G exOut.piv 1 exOut.piv.length 1 = c1) := ⟨by rw [← hcm, ← hc1]; exact ⟨ex_k0, ex_k1⟩⟩
  have HB : Aside0 (Below w.heap.size w w) := ⟨Below.refl _ _⟩
  clear hB hc1 hc2 hc4 hcm
  go_enter Tryd.func12, Tryd.ntmps12
  go_upto_region 2 with (first
    | (go_at_call 32; (with_reducible refine (HI1.out _ _ (Below.refl _ _)).mono ?_); rintro e w1 ⟨rfl, hV⟩; replace HB := Aside0.mk (below_step HB.out hV); clear hV)
    | (go_at_call 32; (with_reducible refine (HI2.out _ _ (Below.refl _ _)).mono ?_); rintro e w3 ⟨rfl, hV⟩; have HR := Aside0.mk ((lit2 _ c1 c2 _ HE0.out.1 HE0.out.2.1).below hV); replace HB := Aside0.mk (below_step (below_alloc HB.out _) hV); clear hV)
    | (go_at_call 32; (with_reducible refine (HI2.out _ _ (Below.refl _ _)).mono ?_); rintro e w2 ⟨rfl, hV⟩; replace HB := Aside0.mk (below_step HB.out hV); clear hV)
    | (go_at_call 32; (with_reducible refine (HI4.out _ _ (Below.refl _ _)).mono ?_); rintro e w4 ⟨rfl, hV⟩; replace HR := Aside0.mk (HR.out.below hV); replace HB := Aside0.mk (below_step HB.out hV); clear hV))
  have hm1 := mat2 (t := 30) (E := exE) (c0 := 2) (c1 := 2) (HR.out.below (below_alloc (Below.refl _ _) (.cells #[.bool (ngv c2), .string (enc c2.num.natAbs), .string (encD c2.den), .bool (ngv c4), .string (enc c4.num.natAbs), .string (encD c4.den)] 27))) (lit2 w4 c2 c4 27 HE0.out.2.2.1 HE0.out.2.2.2)
  rw [show ∀ o, (w4.alloc o).heap.size = w4.heap.size + 1 from fun o => by simp] at hm1
  replace HB := Aside0.mk (below_alloc (below_alloc HB.out (.cells #[.bool (ngv c2), .string (enc c2.num.natAbs), .string (encD c2.den), .bool (ngv c4), .string (enc c4.num.natAbs), .string (encD c4.den)] 27)) (.cells #[.slice (some ⟨w2.heap.size, 0, none⟩) 2 2, .slice (some ⟨w4.heap.size, 0, none⟩) 2 2] 30))
  obtain ⟨wm, hwm⟩ : ∃ x, (w4.alloc (.cells #[.bool (ngv c2), .string (enc c2.num.natAbs), .string (encD c2.den), .bool (ngv c4), .string (enc c4.num.natAbs), .string (encD c4.den)] 27)).alloc (.cells #[.slice (some ⟨w2.heap.size, 0, none⟩) 2 2, .slice (some ⟨w4.heap.size, 0, none⟩) 2 2] 30) = x := ⟨_, rfl⟩
  rw [hwm] at hm1 HB ⊢
  have HM := Aside0.mk hm1
  clear hm1 hwm HR
  obtain ⟨p2, hp2⟩ : ∃ x, w4.heap.size + 1 = x := ⟨_, rfl⟩
  rw [hp2] at HM ⊢
  clear hp2
  go_upto_region 4 with (first
    | (go_at_call 19; (with_reducible refine (Solve_sing (N := 1) (Below.refl _ _) (HM.out.below (below_alloc (Below.refl _ _) _)) ex_chk rfl ⟨⟨_, _, rfl, ⟨fun _ => ⟨_, _, rfl, lit2z _ _⟩⟩⟩⟩ (fun i _ k _ => ex_fit i k) (fun i _ => ex_fitX i) (by decide) ex_bar).mono ?_); rintro e w5 ⟨rfl, hV⟩; replace HM := Aside0.mk ((HM.out.below (below_alloc (Below.refl _ _) _)).below hV); replace HB := Aside0.mk (below_step (below_alloc HB.out _) hV); clear hV)
    | (go_at_call 18; (with_reducible refine (Kernel_ok (Below.refl _ _) HM.out ex_chk rfl ex_okay).mono ?_); rintro e w6 ⟨u, rfl, hV, hU⟩; replace HB := Aside0.mk (below_step HB.out hV); have HU := Aside0.mk hU; clear hV hU))
  have hu := HU.out
  rw [show (frees exOut.piv 2) = [1] by rw [ex_piv]; decide] at hu
  obtain ⟨ga, gc, A, C, rfl, hg, hr⟩ := hu.ex
  obtain ⟨gb, go, rfl, hc⟩ := hg (by decide)
  have t0 := hc 0 (by decide)
  obtain ⟨rb, ro, hA, hrow⟩ := (hr 0 (by decide)).ex (by decide)
  rw [hA, Nat.add_zero] at t0
  have E0 := hrow.el 0 (by decide)
  have E1 := hrow.el 1 (by decide)
  have hk0 : (kv exOut.G exOut.piv ([1].getD 0 0) exOut.piv.length 0) = cm := HK0.out.1
  have hk1 : (kv exOut.G exOut.piv ([1].getD 0 0) exOut.piv.length 1) = c1 := HK0.out.2
  rw [hk0] at E0
  rw [hk1] at E1
  have HT := Aside0.mk t0
  rw [show ro + 0 * 3 = ro by omega] at E0
  rw [show ro + 1 * 3 = ro + 3 by omega] at E1
  replace E0 := Aside0.mk E0
  replace E1 := Aside0.mk E1
  clear hg hc t0 hr hA hrow hk0 hk1 hu HU
  rw [show ([1] : List Nat).length = 1 from rfl]
  (refine wp_region_below (by kernel_rfl) (by kernel_rfl) ?_); (repeat (refine wpQuiet_step (fun K hK => ?_); go_simp; first | (refine hK _ ?_; clear hK K) | (apply Exists.intro; refine ⟨fun V hV => ?_, hK _ ?_⟩; (focus ((first | rfl | ((with_reducible exact HIm.out _ _ hV)) | ((with_reducible exact HI1.out _ _ hV)) | ((have kx := cell_below hV HT.out); go_simp; first | rfl | fail) | ((have kx := (E0.out.below hV)); have kc0 := kx.c0; have kc1 := kx.c1; have kc2 := kx.c2; clear kx; go_simp; first | rfl | fail) | ((have kx := (E1.out.below hV)); have kc0 := kx.c0; have kc1 := kx.c1; have kc2 := kx.c2; clear kx; go_simp; first | rfl | fail)))); clear hK K))); (refine wpQuiet_nil ?_); (intro V hV)
  go_wp2
  go_ret
  exact ⟨rfl, below_step H0.out (below_step HB.out hV)⟩
end Go.Proofs.YtiamgjepcagohaaDoor.P
end
section
/- Sums, spans and determinants of matrices of rational numbers: plain laws. -/
namespace Go.Proofs.YtiamgjepcagohaaDoor.P
/-! sums -/
def sm (f : Nat → Rat) : Nat → Rat
  | 0 => 0
  | k + 1 => sm f k + f k
theorem sm_congr {f g : Nat → Rat} : ∀ {n : Nat}, (∀ k, k < n → f k = g k) → sm f n = sm g n
  | 0, _ => rfl
  | n + 1, h => by rw [sm, sm, sm_congr (fun k hk => h k (by omega)), h n (by omega)]
theorem sm_zero {f : Nat → Rat} : ∀ {n : Nat}, (∀ k, k < n → f k = 0) → sm f n = 0
  | 0, _ => rfl
  | n + 1, h => by rw [sm, sm_zero (fun k hk => h k (by omega)), h n (by omega), Rat.add_zero]
theorem sm_add (f g : Nat → Rat) : ∀ n : Nat, sm (fun k => f k + g k) n = sm f n + sm g n
  | 0 => (Rat.add_zero 0).symm
  | n + 1 => by simp only [sm]; rw [sm_add f g n]; grind
theorem sm_mul (c : Rat) (f : Nat → Rat) : ∀ n : Nat, sm (fun k => c * f k) n = c * sm f n
  | 0 => by simp [sm]
  | n + 1 => by simp only [sm]; rw [sm_mul c f n]; grind
theorem sm_one {f : Nat → Rat} {t : Nat} : ∀ {n : Nat}, t < n → (∀ k, k < n → k ≠ t → f k = 0) → sm f n = f t
  | 0, h, _ => by omega
  | n + 1, h, h0 => by
    rw [sm]
    by_cases e : t = n
    · subst e
      rw [sm_zero (fun k hk => h0 k (by omega) (by omega)), Rat.zero_add]
    · rw [sm_one (t := t) (by omega) (fun k hk hn => h0 k (by omega) hn), h0 n (by omega) (by omega), Rat.add_zero]
theorem sm_two {f : Nat → Rat} {s t : Nat} (hs : s < t) : ∀ {n : Nat}, t < n → (∀ k, k < n → k ≠ s → k ≠ t → f k = 0) → sm f n = f s + f t
  | 0, h, _ => by omega
  | n + 1, h, h0 => by
    rw [sm]
    by_cases e : t = n
    · subst e
      rw [sm_one (t := s) hs (fun k hk hn => h0 k (by omega) hn (by omega))]
    · rw [sm_two hs (by omega) (fun k hk hn => h0 k (by omega) hn), h0 n (by omega) (by omega) (by omega), Rat.add_zero]

/-! spans -/
/-- v is a combination of the n rows of A (columns below m). -/
def Sp (n m : Nat) (A : Nat → Nat → Rat) (v : Nat → Rat) : Prop := ∃ q : Nat → Rat, ∀ k, k < m → v k = sm (fun t => q t * A t k) n
section
variable {n m : Nat} {A B : Nat → Nat → Rat} {u v : Nat → Rat}
theorem Sp.row {i : Nat} (h : i < n) : Sp n m A (A i) := ⟨fun t => if t = i then 1 else 0, fun k _ => by
  rw [sm_one (t := i) h (fun t _ ht => by simp only [if_neg ht, Rat.zero_mul])]
  simp only [if_true, Rat.one_mul]⟩
theorem Sp.congr (h : Sp n m A u) (e : ∀ k, k < m → v k = u k) : Sp n m A v := by
  obtain ⟨q, hq⟩ := h
  exact ⟨q, fun k hk => (e k hk).trans (hq k hk)⟩
theorem Sp.add (h : Sp n m A u) (g : Sp n m A v) : Sp n m A (fun k => u k + v k) := by
  obtain ⟨q, hq⟩ := h
  obtain ⟨p, hp⟩ := g
  refine ⟨fun t => q t + p t, fun k hk => ?_⟩
  show u k + v k = _
  rw [hq k hk, hp k hk, ← sm_add]
  exact sm_congr (fun t _ => by grind)
theorem Sp.mul (c : Rat) (h : Sp n m A u) : Sp n m A (fun k => c * u k) := by
  obtain ⟨q, hq⟩ := h
  refine ⟨fun t => c * q t, fun k hk => ?_⟩
  show c * u k = _
  rw [hq k hk, ← sm_mul]
  exact sm_congr (fun t _ => by grind)
theorem Sp.trans (h : ∀ i, i < n → Sp n m A (B i)) (g : Sp n m B v) : Sp n m A v := by
  obtain ⟨q, hq⟩ := g
  have hh : ∀ j, j ≤ n → Sp n m A (fun k => sm (fun t => q t * B t k) j) := by
    intro j
    induction j with
    | zero => intro _; exact ⟨fun _ => 0, fun k _ => by rw [sm_zero (fun t _ => Rat.zero_mul _)]; rfl⟩
    | succ j ih => intro hj; exact (ih (by omega)).add ((h j (by omega)).mul (q j))
  exact (hh n (Nat.le_refl _)).congr hq
end
def SpM (n m : Nat) (A B : Nat → Nat → Rat) : Prop := ∀ i, i < n → Sp n m A (B i)
theorem SpM.refl (n m : Nat) (A : Nat → Nat → Rat) : SpM n m A A := fun _ h => Sp.row h
theorem SpM.trans {n m : Nat} {A B C : Nat → Nat → Rat} (h : SpM n m A B) (g : SpM n m B C) : SpM n m A C := fun i hi => Sp.trans h (g i hi)

/-! determinants: along the first column -/
def sgn_ (i : Nat) : Rat := if i % 2 = 0 then 1 else -1
theorem sgn_succ (i : Nat) : sgn_ (i + 1) = -sgn_ i := by
  unfold sgn_
  by_cases h : i % 2 = 0
  · rw [if_pos h, if_neg (by omega)]
  · rw [if_neg h, if_pos (by omega)]; rfl
def skp (i a : Nat) : Nat := if a < i then a else a + 1
def minr (M : Nat → Nat → Rat) (i : Nat) : Nat → Nat → Rat := fun a b => M (skp i a) (b + 1)
def dt : Nat → (Nat → Nat → Rat) → Rat
  | 0, _ => 1
  | n + 1, M => sm (fun i => sgn_ i * M i 0 * dt n (minr M i)) (n + 1)
theorem skp_lt {i a n : Nat} (h : a < n) : skp i a < n + 1 := by unfold skp; split <;> omega
theorem dt_congr : ∀ {n : Nat} {M N : Nat → Nat → Rat}, (∀ i, i < n → ∀ k, k < n → M i k = N i k) → dt n M = dt n N
  | 0, _, _, _ => rfl
  | n + 1, M, N, h => by
    refine sm_congr (fun i hi => ?_)
    have := dt_congr (M := minr M i) (N := minr N i) (fun a ha b hb => h _ (skp_lt ha) _ (by omega))
    rw [h i hi 0 (by omega), this]
def setR (M : Nat → Nat → Rat) (r : Nat) (u : Nat → Rat) : Nat → Nat → Rat := fun i => if i = r then u else M i
theorem setR_at (M : Nat → Nat → Rat) (r : Nat) (u : Nat → Rat) : setR M r u r = u := if_pos rfl
theorem setR_ne {M : Nat → Nat → Rat} {r i : Nat} {u : Nat → Rat} (h : i ≠ r) : setR M r u i = M i := if_neg h
theorem setR_self (M : Nat → Nat → Rat) (r : Nat) : setR M r (M r) = M := by
  funext i
  unfold setR
  split
  · rename_i h; rw [h]
  · rfl
def low (i r : Nat) : Nat := if r < i then r else r - 1
theorem skp_low {i r a : Nat} (h : i ≠ r) : (skp i a = r) ↔ a = low i r := by
  unfold skp low
  split <;> split <;> omega
theorem minr_set {M : Nat → Nat → Rat} {i r : Nat} (u : Nat → Rat) (h : i ≠ r) : minr (setR M r u) i = setR (minr M i) (low i r) (fun b => u (b + 1)) := by
  funext a b
  unfold minr setR
  by_cases e : a = low i r
  · rw [if_pos ((skp_low h).2 e), if_pos e]
  · rw [if_neg (fun h2 => e ((skp_low h).1 h2)), if_neg e]
theorem minr_same {M : Nat → Nat → Rat} {r : Nat} (u : Nat → Rat) : minr (setR M r u) r = minr M r := by
  funext a b
  unfold minr setR
  rw [if_neg (by unfold skp; split <;> omega)]
theorem dt_lin (x y : Rat) : ∀ {n : Nat} {M : Nat → Nat → Rat} {r : Nat} (u v : Nat → Rat), r < n → dt n (setR M r (fun k => x * u k + y * v k)) = x * dt n (setR M r u) + y * dt n (setR M r v)
  | 0, _, _, _, _, h => by omega
  | n + 1, M, r, u, v, h => by
    simp only [dt]
    rw [← sm_mul, ← sm_mul, ← sm_add]
    refine sm_congr (fun i hi => ?_)
    by_cases e : i = r
    · subst e
      rw [setR_at, setR_at, setR_at, minr_same, minr_same, minr_same]
      grind
    · rw [setR_ne e, setR_ne e, setR_ne e, minr_set _ e, minr_set _ e, minr_set _ e, dt_lin x y (fun b => u (b + 1)) (fun b => v (b + 1)) (by unfold low; split <;> omega)]
      grind
theorem dt_adj : ∀ {n : Nat} {M : Nat → Nat → Rat} {p : Nat}, p + 1 < n → (∀ k, M p k = M (p + 1) k) → dt n M = 0
  | 0, _, _, h, _ => by omega
  | n + 1, M, p, h, e => by
    rw [dt, sm_two (s := p) (t := p + 1) (by omega) h]
    · have hm : minr M p = minr M (p + 1) := by
        funext a b
        unfold minr skp
        by_cases h1 : a < p
        · rw [if_pos h1, if_pos (by omega)]
        · by_cases h2 : a = p
          · rw [if_neg h1, if_pos (by omega), h2, e]
          · rw [if_neg h1, if_neg (by omega)]
      rw [hm, e 0, sgn_succ]
      grind
    · intro i hi h1 h2
      rw [dt_adj (p := if p < i then p else p - 1) (by split <;> omega), Rat.mul_zero]
      intro b
      unfold minr skp
      by_cases h3 : p < i
      · rw [if_pos h3, if_pos h3, if_pos (by omega)]; exact e _
      · rw [if_neg h3, if_neg (by omega), if_neg (by omega), show p - 1 + 1 = p by omega]; exact e _
/-- Two rows put in. -/
theorem setR_comm {M : Nat → Nat → Rat} {p q : Nat} {u v : Nat → Rat} (h : p ≠ q) : setR (setR M p u) q v = setR (setR M q v) p u := by
  funext i
  unfold setR
  split
  · rename_i e; rw [if_neg (by omega)]
  · rfl
theorem dt_add {n : Nat} {M : Nat → Nat → Rat} {r : Nat} (u v : Nat → Rat) (h : r < n) : dt n (setR M r (fun k => u k + v k)) = dt n (setR M r u) + dt n (setR M r v) := by
  have := dt_lin 1 1 (M := M) u v h
  simp only [Rat.one_mul] at this
  exact this
/-- If equal rows at p and q give nought, rows there can be exchanged for a sign. -/
theorem dt_exch {n p q : Nat} (hp : p < n) (hq : q < n) (h : p ≠ q) (h0 : ∀ M : Nat → Nat → Rat, (∀ k, M p k = M q k) → dt n M = 0) (M : Nat → Nat → Rat) (u v : Nat → Rat) :
    dt n (setR (setR M p u) q v) = -dt n (setR (setR M p v) q u) := by
  have e1 := h0 (setR (setR M p (fun k => u k + v k)) q (fun k => u k + v k)) (fun k => by rw [setR_ne h, setR_at, setR_at])
  have e2 := h0 (setR (setR M p u) q u) (fun k => by rw [setR_ne h, setR_at, setR_at])
  have e3 := h0 (setR (setR M p v) q v) (fun k => by rw [setR_ne h, setR_at, setR_at])
  rw [dt_add u v hq, setR_comm h, setR_comm h, dt_add u v hp, dt_add u v hp, ← setR_comm h, ← setR_comm h, ← setR_comm h, ← setR_comm h, e2, e3] at e1
  grind
theorem dt_two : ∀ (d : Nat) {n p : Nat} {M : Nat → Nat → Rat}, p + 1 + d < n → (∀ k, M p k = M (p + 1 + d) k) → dt n M = 0
  | 0, n, p, M, h, e => dt_adj h e
  | d + 1, n, p, M, h, e => by
    have h1 := dt_exch (n := n) (p := p + 1 + d) (q := p + 1 + (d + 1)) (by omega) h (by omega) (fun M h2 => dt_adj (p := p + 1 + d) (by omega) h2) M (M (p + 1 + d)) (M (p + 1 + (d + 1)))
    rw [setR_self, setR_self] at h1
    rw [h1, dt_two d (p := p) (by omega)]
    · rfl
    · intro k
      rw [setR_ne (by omega), setR_ne (by omega), setR_ne (by omega), setR_at, e]
theorem dt_eq {n p q : Nat} {M : Nat → Nat → Rat} (hp : p < n) (hq : q < n) (h : p ≠ q) (e : ∀ k, M p k = M q k) : dt n M = 0 := by
  rcases Nat.lt_or_gt_of_ne h with hl | hl
  · obtain ⟨d, rfl⟩ : ∃ d, q = p + 1 + d := ⟨q - p - 1, by omega⟩
    exact dt_two d hq e
  · obtain ⟨d, rfl⟩ : ∃ d, p = q + 1 + d := ⟨p - q - 1, by omega⟩
    exact dt_two d hp (fun k => (e k).symm)
theorem dt_swap {n p q : Nat} {M : Nat → Nat → Rat} (hp : p < n) (hq : q < n) (h : p ≠ q) : dt n (setR (setR M p (M q)) q (M p)) = -dt n M := by
  have := dt_exch hp hq h (fun M h2 => dt_eq hp hq h h2) M (M q) (M p)
  rw [setR_self, setR_self] at this
  exact this
theorem dt_scale {n r : Nat} {M : Nat → Nat → Rat} (c : Rat) (u : Nat → Rat) (hr : r < n) : dt n (setR M r (fun k => c * u k)) = c * dt n (setR M r u) := by
  have := dt_lin c 0 (M := M) u u hr
  simp only [Rat.zero_mul, Rat.add_zero] at this
  exact this
theorem dt_row0 {n r : Nat} {M : Nat → Nat → Rat} (hr : r < n) (h : ∀ k, k < n → M r k = 0) : dt n M = 0 := by
  have := dt_scale (M := M) 0 (M r) hr
  rw [setR_self, Rat.zero_mul] at this
  rw [← this]
  refine dt_congr (fun i _ k hk => ?_)
  by_cases e : i = r
  · subst e; rw [setR_at, h k hk, Rat.zero_mul]
  · rw [setR_ne e]
/-- A multiple of a row taken from another one. -/
theorem dt_sub {n r j : Nat} {M : Nat → Nat → Rat} (f : Rat) (hr : r < n) (hj : j < n) (h : j ≠ r) : dt n (setR M j (fun k => M j k - f * M r k)) = dt n M := by
  have h1 := dt_lin 1 (-f) (M := M) (M j) (M r) hj
  rw [setR_self, dt_eq (M := setR M j (M r)) hj hr h (fun k => by rw [setR_at, setR_ne (Ne.symm h)])] at h1
  rw [show (fun k => M j k - f * M r k) = (fun k => 1 * M j k + -f * M r k) from funext fun k => by grind, h1]
  grind
theorem dt_id : ∀ {n : Nat} {M : Nat → Nat → Rat}, (∀ i, i < n → ∀ k, k < n → M i k = if i = k then 1 else 0) → dt n M = 1
  | 0, _, _ => rfl
  | n + 1, M, h => by
    rw [dt, sm_one (t := 0) (by omega) (fun i hi h0 => by rw [h i hi 0 (by omega), if_neg h0, Rat.mul_zero, Rat.zero_mul]), h 0 (by omega) 0 (by omega), if_pos rfl,
      dt_id (fun a ha b hb => by
        show M (skp 0 a) (b + 1) = _
        rw [show skp 0 a = a + 1 by unfold skp; rw [if_neg (by omega)], h _ (by omega) _ (by omega)]
        by_cases e : a = b
        · rw [if_pos (by omega), if_pos e]
        · rw [if_neg (by omega), if_neg e])]
    show (1 : Rat) * 1 * 1 = 1
    rw [Rat.mul_one, Rat.mul_one]
end Go.Proofs.YtiamgjepcagohaaDoor.P
end
