/- ClNull: lemmas of this claim, of 6 texts. -/
import Derived.Test.YtiamgjepcagohaaDoorClAwk0
import Derived.BigRegion
import Derived.Test.YtiamgjepcagohaaDoorClAri
import Derived.Test.YtiamgjepcagohaaDoorClEch
import Derived.Test.YtiamgjepcagohaaDoorClZed
section
/- Package linear: Solve. -/
namespace Go.Proofs.YtiamgjepcagohaaDoor.P
open Go Go.RowKit Go.Proofs.YtiamgjepcagohaaDoorW.PrintWords Go.Proofs.YtiamgjepcagohaaDoorW.PrintLast Go.Proofs.YtiamgjepcagohaaDoorW.PrintMore Go.Proofs.YtiamgjepcagohaaDoor.Ari

set_option maxHeartbeats 2000000 in
set_option maxRecDepth 1000000 in
theorem Solve_bad {w0 w : World} {v xv : Value} {n y : Nat} {L : Nat → Nat} {E : Nat → Nat → Raw} (hB : Below w0.heap.size w0 w) (hM : Mat w v n L E) (hn : n ≤ 1000) (hx : sqr n L = y) (h0 : y ≠ 0) :
    Calls Tryd.prog 19 #[v, xv] w fun e w' => e = .returned (.tuple #[.slice none 0 0, .int .i64 y]) ∧ Below w0.heap.size w0 w' := by
  have HC := Aside0.mk (hx ▸ square_c hB hM hn)
  have hx2 : ((y : Int) == 0) = false := by simp; omega
  clear hB hM hx h0
  go_enter Tryd.func19, Tryd.ntmps19
  go_wp2_with (go_at_call 34; (with_reducible refine HC.out.mono ?_); rintro e w1 ⟨rfl, hV⟩; have HV := Aside0.mk hV; clear hV)
  go_ret2
  exact ⟨rfl, HV.out⟩

theorem val_rw (q : Rat) : val (rw_ q) = q := rval_rv q
theorem own_raw {W : World} {b g cap n : Nat} {q : Nat → Rat} {e : Raw} (h : W.ownsRow b 27 3 (.slice (some ⟨g, 0, none⟩) (n + 1) cap) (n + 1) (rcells q n ++ [.bool e.1, .string e.2.1, .string e.2.2])) : Row W g 0 (n + 1) (fun k => if k < n then rw_ (q k) else e) := by
  refine ⟨fun k hk => ?_⟩
  rw [Nat.zero_add]
  have hl := rcells_length q n
  by_cases hkn : k < n
  · rw [if_pos hkn]
    obtain ⟨h1, h2, h3⟩ := rcells_get q n hkn
    refine ⟨(h.cellAt (k * 3) (by omega)).trans ?_, (h.cellAt (k * 3 + 1) (by omega)).trans ?_, (h.cellAt (k * 3 + 2) (by omega)).trans ?_⟩
    · rw [List.getElem?_append_left (show k * 3 < (rcells q n).length by omega)]; exact h1
    · rw [List.getElem?_append_left (show k * 3 + 1 < (rcells q n).length by omega)]; exact h2
    · rw [List.getElem?_append_left (show k * 3 + 2 < (rcells q n).length by omega)]; exact h3
  · obtain rfl : n = k := by omega
    rw [if_neg hkn]
    refine ⟨(h.cellAt (n * 3) (by omega)).trans ?_, (h.cellAt (n * 3 + 1) (by omega)).trans ?_, (h.cellAt (n * 3 + 2) (by omega)).trans ?_⟩
    · rw [List.getElem?_append_right (show (rcells q n).length ≤ n * 3 by omega), hl, Nat.sub_self]; rfl
    · rw [List.getElem?_append_right (show (rcells q n).length ≤ n * 3 + 1 by omega), hl, show n * 3 + 1 - n * 3 = 1 by omega]; rfl
    · rw [List.getElem?_append_right (show (rcells q n).length ≤ n * 3 + 2 by omega), hl, show n * 3 + 2 - n * 3 = 2 by omega]; rfl
theorem mat_one {W : World} {b m c : Nat} {E : Nat → Raw} {t : TypeId} (h : Row W b 0 m E) : Mat (W.alloc (.cells #[.slice (some ⟨b, 0, none⟩) m c] t)) (.slice (some ⟨W.heap.size, 0, none⟩) 1 1) 1 (fun _ => m) (fun _ => E) := by
  have hb := below_alloc (Below.refl W.heap.size W) (.cells #[.slice (some ⟨b, 0, none⟩) m c] t)
  refine ⟨some ⟨W.heap.size, 0, none⟩, 1, fun _ => some ⟨b, 0, none⟩, fun _ => c, rfl, fun _ => ⟨W.heap.size, 0, rfl, fun i hi => ?_⟩, fun i hi => ⟨fun _ => ⟨b, 0, rfl, h.below hb⟩⟩⟩
  obtain rfl : i = 0 := by omega
  simp
theorem qrow_eq (E : Nat → Nat → Raw) {X : Nat → Raw} {n i : Nat} {e : Raw} (h : X i = e) (k : Nat) : qrow E X n i k = val (if k < n then rw_ (val (E i k)) else e) := by
  unfold qrow
  split
  · exact (val_rw _).symm
  · rw [h]
theorem PZ.cell {W : World} {B g n m i : Nat} {v : Value} {A C : Nat → Nat} {G : Gz} (h : PZ W B g n m i v A C G) (hi : i < n) : W.cell? ⟨g, i, none⟩ = some v := by
  rw [h.top i hi]; simp
set_option maxHeartbeats 2000000 in
set_option maxRecDepth 1000000 in
theorem Solve_sing {w0 w : World} {v xv : Value} {n N : Nat} {L : Nat → Nat} {E : Nat → Nat → Raw} {X : Nat → Raw} (hB : Below w0.heap.size w0 w) (hM : Mat w v n L E) (hk : chk n L = 0) (hm : L 0 = n) (hX : Vec w xv n X)
    (hE : ∀ i, i < n → ∀ k, k < n → FitS N (E i k).2.1 (E i k).2.2) (hFX : ∀ i, i < n → FitS N (X i).2.1 (X i).2.2) (hN : (1 + (n + 2) * N) * 3 ^ n ≤ 1073741824) (ho : bar n n 0 (false, 1) (zrows E X n) = none) :
    Calls Tryd.prog 19 #[v, xv] w fun e w' => e = .returned (.tuple #[.slice none 0 0, .int .i64 5]) ∧ Below w0.heap.size w0 w' := by
  obtain ⟨h0, h16, hm0, hm16, hall⟩ := chk_ok hk
  have hsq : sqr n L = 0 := by unfold sqr; rw [if_pos hk, hm, if_pos rfl]
  have HINV := Aside0.mk (zrows_inv hE hFX hN ho)
  have HSM : Aside0 (1 + (n + 1) * N + N + N ≤ 1073741824) := ⟨by
    have h1 := HINV.out.small
    have h2 := HINV.out.room
    have h3 : 3 ≤ 3 ^ (n - 0) := by
      rw [show n - 0 = (n - 1) + 1 by omega, Nat.pow_succ]
      have := Nat.pow_pos (n := n - 1) (show 0 < 3 by decide)
      omega
    have h4 : (1 + (n + 2) * N) * 3 ≤ (1 + (n + 2) * N) * 3 ^ (n - 0) := Nat.mul_le_mul_left _ h3
    have h5 : (n + 2) * N = (n + 1) * N + N := Nat.succ_mul (n + 1) N
    omega⟩
  have HNS : Aside0 (N ≤ 1073741824) := ⟨by
    have h2 : (n + 2) * N = (n + 1) * N + N := Nat.succ_mul (n + 1) N
    have := HSM.out; omega⟩
  have H0 := Aside0.mk hB
  have HC := Aside0.mk (hsq ▸ square_c (Below.refl _ _) hM (by omega))
  have HM := Aside0.mk hM
  have HEE := Aside0.mk hE
  have HFX := Aside0.mk hFX
  have HL : Aside0 (∀ i, i < n → L i = n) := ⟨fun i hi => (hall i hi).trans hm⟩
  obtain ⟨ga, gc, A, C, rfl, _, _⟩ := hM.ex
  obtain ⟨xa, xc, rfl, hxr⟩ := hX.ex
  obtain ⟨xb, xo, rfl, hxrow⟩ := hxr.ex h0
  have HXR := Aside0.mk hxrow
  have HMK : Aside0 (∀ W : World, (Instr.makeSlice 62 (.int .i64 (n : Int)) (.int .i64 (n : Int))).run Tryd.prog W = .ok (.slice (some ⟨W.heap.size, 0, none⟩) n n) (W.alloc (.cells (madeCells #[.slice none 0 0] n) 63))) := ⟨fun W => run_make_row' (P := Tryd.prog) 62 63 (.slice none 0 0) 24 Tryd.underlying62 infoRowZ rfl .i64 .i64 n (by omega) (by omega) W⟩
  clear hB hM hE hFX hN hall hm hk hX hxr hxrow hsq ho hm0 hm16
  go_enter Tryd.func19, Tryd.ntmps19
  go_upto_region 7 with (go_at_call 34; (with_reducible refine HC.out.mono ?_); rintro e w1 ⟨rfl, hV⟩; have HV := Aside0.mk hV; clear hV)
  have hmk := HMK.out
  go_upto_region 8 with (fail)
  clear hmk
  have hpz := PZ.start w1 n (n + 1) (fun _ => 0) (fun _ => 0) (zrows E X n) w.heap.size HV.out.size
  have hV := below_alloc (Below.refl w1.heap.size w1) (.cells (madeCells #[.slice none 0 0] n) 63)
  obtain ⟨gw, hgw⟩ : ∃ x, w1.heap.size = x := ⟨_, rfl⟩
  obtain ⟨w2, hw2⟩ : ∃ w3, w1.alloc (.cells (madeCells #[.slice none 0 0] n) 63) = w3 := ⟨_, rfl⟩
  rw [hw2] at hpz hV ⊢
  replace HV := Aside0.mk (below_step HV.out hV)
  rw [hgw] at hpz ⊢
  replace HPZ := Aside0.mk hpz
  clear hgw hw2 hV hpz
  go_upto_block 0 with (go_at_call 30; (with_reducible refine (cleanM_o (Below.refl _ _) (HM.out.below HV.out) (by omega) (by omega) h0 h0 HL.out HEE.out HNS.out).mono ?_); rintro e w3 ⟨gcl, A2, C2, rfl, hV, hg, hG, hOW⟩; have HG := Aside0.mk hG; have HOW := Aside0.mk hOW; have HPZ0 := HPZ; replace HPZ := Aside0.mk (HPZ.out.below hV); replace HV := Aside0.mk (below_step HV.out hV); have HGG := Aside0.mk hg; clear hV hG hOW hg)
  have HGW : Aside0 (gw < w2.heap.size) := ⟨HPZ0.out.lt⟩
  obtain ⟨b2, hb2⟩ : ∃ x, w2.heap.size = x := ⟨_, rfl⟩
  rw [hb2] at HG HOW HGW HGG
  obtain ⟨bc, hbc⟩ : ∃ x, w3.heap.size = x := ⟨_, rfl⟩
  have HWW : Aside0 (w.heap.size ≤ gw ∧ w.heap.size ≤ b2) := ⟨HPZ.out.base, Nat.le_trans HPZ.out.base (Nat.le_of_lt HGW.out)⟩
  have HAB : Aside0 (gcl < bc ∧ ∀ j, j < n → b2 ≤ A2 j ∧ A2 j < bc ∧ gcl ≠ A2 j) := ⟨hbc ▸ HG.out.lt, fun j hj => ⟨HG.out.ge j hj, hbc ▸ (HG.out.rows j hj).lt, fun e => HG.out.ne j hj e.symm⟩⟩
  have HINJ := Aside0.mk HG.out.inj
  have HCL : Aside0 (∀ j, 0 ≤ j → j < n → w3.cell? ⟨gcl, j, none⟩ = some (.slice (some ⟨A2 j, 0, none⟩) n (C2 j)) ∧ OwnQ w3 b2 (.slice (some ⟨A2 j, 0, none⟩) n (C2 j)) n (fun k => val (E j k))) := ⟨fun j _ hj => ⟨HG.out.top j hj, HOW.out j hj⟩⟩
  have HBC : Aside0 (bc ≤ w3.heap.size ∧ b2 ≤ bc) := ⟨Nat.le_of_eq hbc.symm, by have := HAB.out.2 0 h0; omega⟩
  clear hb2 hbc HPZ0 HG HOW
  go_cut [] (fun wc => ∃ Aw Cw, Aside0 (GridZ wc w.heap.size gw n (n + 1) Aw Cw (zrows E X n)) ∧ Aside0 (Below w.heap.size w wc))
  case first =>
    go_wp2
    go_loopw [33] (fun v33 wr => ∃ (i : Nat) (Aw Cw : Nat → Nat), i ≤ n ∧ v33 = .int .i64 i ∧ Aside0 (PZ wr w.heap.size gw n (n + 1) i (.slice none 0 0) Aw Cw (zrows E X n)) ∧ Aside0 (∀ j, j < i → bc ≤ Aw j ∧ Aw j < wr.heap.size) ∧ Aside0 (∀ j, i ≤ j → j < n → wr.cell? ⟨gcl, j, none⟩ = some (.slice (some ⟨A2 j, 0, none⟩) n (C2 j)) ∧ OwnQ wr b2 (.slice (some ⟨A2 j, 0, none⟩) n (C2 j)) n (fun k => val (E j k))) ∧ Aside0 (bc ≤ wr.heap.size ∧ b2 ≤ bc) ∧ Aside0 (Below w.heap.size w wr)) (fun v33 _ => n - (intOf v33).toNat)
    case atStart => exact ⟨0, _, _, by omega, rfl, HPZ, ⟨fun j hj => by omega⟩, HCL, HBC, HV⟩
    case round =>
      clear HPZ HCL HBC HV
      obtain ⟨i, Aw, Cw, hi, rfl, HPZ, HAW, HCL, HBC, HV⟩ := hrel
      by_cases hin : i < n
      · have t1 := (HCL.out i (Nat.le_refl _) hin).1
        have HOi := Aside0.mk (HCL.out i (Nat.le_refl _) hin).2
        have E1 := Aside0.mk ((HXR.out.el i hin).below HV.out)
        have FX := HFX.out i hin
        obtain ⟨⟨x0, x1, x2⟩, hex⟩ : ∃ e, X i = e := ⟨_, rfl⟩
        rw [hex] at E1 FX
        have HEX := Aside0.mk hex
        have FXX := Aside0.mk FX
        have e0 := E1.out.c0
        have e1 := E1.out.c1
        have e2 := E1.out.c2
        simp only at e0 e1 e2
        have h1 : ∀ u ∈ [Value.bool x0, Value.string x1, Value.string x2], u.oneCell' = true := by
          intro u hu
          simp only [List.mem_cons, List.not_mem_nil, or_false] at hu
          rcases hu with rfl | rfl | rfl <;> rfl
        have H1 := Aside0.mk h1
        have HL' : Aside0 (b2 ≤ wr.heap.size ∧ (n + 1) * 40 ≤ 140737488355328) := ⟨Nat.le_trans HBC.out.2 HBC.out.1, by omega⟩
        have HFE : Aside0 (∀ i', i' < 1 → ∀ k, k < n + 1 → FitS N (if k < n then rw_ (val (E i k)) else (x0, x1, x2)).2.1 (if k < n then rw_ (val (E i k)) else (x0, x1, x2)).2.2) := ⟨fun _ _ k hk => by
          by_cases hkn : k < n
          · rw [if_pos hkn]; exact ((HEE.out i hin k hkn).val (b := (E i k).1)).raw
          · rw [if_neg hkn]; exact FXX.out⟩
        have HNE : Aside0 (gw ≠ A2 i ∧ ∀ j, j < i → Aw j ≠ A2 i) := ⟨by have := HAB.out.2 i hin; have := HGW.out; omega, fun j hj => by have := HAB.out.2 i hin; have := HAW.out j hj; omega⟩
        clear hex FX h1
        go_wp2_with (first
          | (at_builtin; refine print_append_cells b2 rfl (.tmp 40) (.tmp 45) 30 27 _ 3 40 rfl Tryd.underlying30 infoRat rfl (by decide) (by decide) (.slice (some ⟨A2 i, 0, none⟩) n (C2 i)) n (rcells (fun k => val (E i k)) n) [.bool x0, .string x1, .string x2] rfl rfl rfl H1.out HOi.out (Below.refl b2 wr) HL'.out.1 HL'.out.2 ?_; intro v1 w4 ho1 hb1 hg1 ha1; obtain ⟨b4, c4, rfl, hb4, hl4⟩ := own_shape ho1 (Nat.succ_pos _); have HR4 := Aside0.mk (own_raw (e := (x0, x1, x2)) ho1); have HG4 := Aside0.mk hg1; clear ho1 hb1 hg1 ha1 hb4 hl4 t1 e0 e1 e2)
          | (go_at_call 30; (with_reducible refine (cleanM_c (w0 := w4) (below_alloc (Below.refl _ _) _) (mat_one HR4.out) (by omega) (by omega) (by omega) (by omega) (fun _ _ => rfl) HFE.out HNS.out).mono ?_); rintro e w6 ⟨g6, A6, C6, rfl, hV, hg6, hG6⟩; have HB6 := Aside0.mk hV; have HG6 := Aside0.mk hG6; have t6 := hG6.top 0 (by omega); clear hV hg6 hG6)
          | (go_at_call 37; (with_reducible refine (integers_c (w0 := w4) HB6.out ((HG6.out.rows 0 (by omega)).congr (q' := qrow E X n i) (fun k hk => by rw [← qrow_eq E HEX.out k])) (by omega) (qrow_fit (fun k hk => HEE.out i hin k hk) (HEX.out.symm ▸ FXX.out)) HSM.out).mono ?_); rintro e w7 ⟨g7, rfl, hV, hg7, hz7⟩; have HB7 := Aside0.mk hV; have HZ7 := Aside0.mk hz7; have HG7 := Aside0.mk hg7; clear hV hg7 hz7 t6; (have hc4 : Chg wr w4 (fun b => b = A2 i) := (Chg.refl wr _).grown HG4.out (fun k hk => by simp only [Value.ownBlock, Option.some.injEq] at hk; exact .inl hk.symm)); (replace HPZ := Aside0.mk ((HPZ.out.chg hc4 HNE.out.1 HNE.out.2).below HB7.out)); (have t7 := HPZ.out.cell hin); (have t8 := HPZ.out.ftop i)))
        clear t7 t8
        have hc7 := hc4.below HB7.out
        have hcs : Chg w7 (w7.setCell ⟨gw, i, none⟩ (.slice (some ⟨g7, 0, none⟩) (n + 1) (n + 1))) (fun b => b = gw) := (Chg.refl w7 (fun b => b = gw)).setCell (p := ⟨gw, i, none⟩) (.inl rfl) _
        have hs1 : wr.heap.size ≤ g7 := Nat.le_trans hc4.size (Nat.le_trans HB6.out.size HG7.out)
        have hps := HPZ.out.store hin (.slice (some ⟨g7, 0, none⟩) (n + 1) (n + 1))
        have hz8 : RowZ (w7.setCell ⟨gw, i, none⟩ (.slice (some ⟨g7, 0, none⟩) (n + 1) (n + 1))) g7 (n + 1) (zrows E X n i) := HZ7.out.chg hcs (fun e => by have := HGW.out; have := HBC.out; omega)
        have hnx := hps.next hz8 hs1 (Nat.le_trans HWW.out.2 HL'.out.1) (by have := HGW.out; have := HL'.out.1; omega) (fun j hj => (HAW.out j hj).2)
        obtain ⟨w8, hw8⟩ : ∃ w8, w7.setCell ⟨gw, i, none⟩ (.slice (some ⟨g7, 0, none⟩) (n + 1) (n + 1)) = w8 := ⟨_, rfl⟩
        rw [hw8] at hcs hnx hz8 ⊢
        refine ⟨⟨i + 1, _, _, hin, by go_num, ⟨hnx⟩, ⟨fun j hj => ?_⟩, ⟨fun j hj hjn => ?_⟩, ⟨Nat.le_trans HBC.out.1 (Nat.le_trans hc7.size hcs.size), HBC.out.2⟩, ⟨hcs.out (hc7.out HV.out (fun k hk => by rw [hk]; have := HAB.out.2 i hin; have := HWW.out; omega)) (fun k hk => by rw [hk]; exact HWW.out.1)⟩⟩, ?_⟩
        · by_cases e : j = i
          · simp only [if_pos e]
            exact ⟨by have := HBC.out; omega, hz8.lt⟩
          · simp only [if_neg e]
            have := HAW.out j (by omega)
            have h1 := hc7.size
            have h2 := hcs.size
            omega
        · obtain ⟨q1, q2⟩ := HCL.out j (by omega) hjn
          have hab := HAB.out.2 j hjn
          have hgw := HGW.out
          have hgg := HGG.out
          refine ⟨?_, own_chg2 (own_chg2 q2 hc7 (fun x hx e => ?_)) hcs (fun x hx e => ?_)⟩
          · exact ((cell_chg hcs (Nat.lt_of_lt_of_le (World.block_lt_of_cell? _ _ q1) hc7.size) (show ¬ gcl = gw by omega)).trans (cell_chg hc7 (World.block_lt_of_cell? _ _ q1) (fun e => (HAB.out.2 i hin).2.2 e))).trans q1
          · simp only [Value.ownBlock, Option.some.injEq] at hx
            have := HINJ.out j i hjn hin (hx.trans e)
            omega
          · simp only [Value.ownBlock, Option.some.injEq] at hx
            omega
        · simp [intOf]; omega
      · obtain rfl : n = i := by omega
        go_wp2
        go_meet
        exact ⟨Aw, Cw, ⟨HPZ.out.grid⟩, HV⟩
  case rest =>
    clear HPZ HCL HBC HV
    obtain ⟨Aw, Cw, HG, HV⟩ := hcut
    have HOne : Aside0 (∀ U V : World, Below U.heap.size U V → Calls Tryd.prog 38 #[.int .u64 1] V fun e w' => e = .returned (.string (enc 1)) ∧ Below U.heap.size U w') := ⟨fun U V h => fromUint_s (u := 1) h (by decide)⟩
    go_upto_region 14 with (go_at_call 38; (with_reducible refine (HOne.out _ _ (Below.refl _ _)).mono ?_); rintro e w4 ⟨rfl, hV⟩; replace HG := Aside0.mk (HG.out.below hV); replace HV := Aside0.mk (below_step HV.out hV); clear hV)
    obtain ⟨p11, hp11⟩ : ∃ x, w4.heap.size = x := ⟨_, rfl⟩
    obtain ⟨w5, hw5, HLB, hV⟩ := bz1 w4 (.bool false) (.string (enc 1)) 68
    have HGL : Aside0 (gw < p11 ∧ ∀ i, i < n → Aw i < p11) := ⟨hp11 ▸ ⟨HG.out.lt, fun i hi => (HG.out.rows i hi).lt⟩⟩
    have HWP : Aside0 (w.heap.size ≤ p11) := ⟨hp11 ▸ HV.out.size⟩
    rw [hw5]
    rw [hp11] at HLB ⊢
    replace HG := Aside0.mk (HG.out.below hV)
    replace HV := Aside0.mk (below_step HV.out hV)
    clear hw5 hp11 hV HOne
    go_wp2
    go_loopw [57] (fun v57 wr => ∃ (k K : Nat) (l : Sg) (G : Gz) (A' C' : Nat → Nat), k ≤ n ∧ v57 = .int .i64 k ∧ Aside0 (BInv n k K l G none) ∧ Aside0 (GridZ wr w.heap.size gw n (n + 1) A' C' G) ∧ Aside0 (gw < p11 ∧ ∀ i, i < n → A' i < p11) ∧ Aside0 (Bz wr p11 (.bool l.1) (.string (enc l.2))) ∧ Aside0 (Below w.heap.size w wr)) (fun v57 _ => n - (intOf v57).toNat)
    case atStart => exact ⟨0, _, (false, 1), _, Aw, Cw, by omega, rfl, HINV, HG, HGL, HLB, HV⟩
    case round =>
      clear HG HGL HLB HV
      obtain ⟨k, K, l, G, A', C', hk, rfl, HI, HG, HGL, HLB, HV⟩ := hrel
      by_cases hkn : k < n
      · go_upto_region 17 with (fail)
        obtain ⟨p12, hp12⟩ : ∃ x, wr.heap.size = x := ⟨_, rfl⟩
        have hV := below_alloc (Below.refl wr.heap.size wr) (.cells #[.int .i64 (k : Int)] 3)
        have tk : (wr.alloc (.cells #[.int .i64 (k : Int)] 3)).cell? ⟨wr.heap.size, 0, none⟩ = some (.int .i64 (k : Int)) := by simp
        obtain ⟨w6, hw6⟩ : ∃ x, wr.alloc (.cells #[.int .i64 (k : Int)] 3) = x := ⟨_, rfl⟩
        rw [hw6] at tk hV ⊢
        have HPP : Aside0 (p11 < p12) := ⟨hp12 ▸ HLB.out.lt⟩
        replace HG := Aside0.mk (HG.out.below hV)
        replace HLB := Aside0.mk (HLB.out.below hV)
        replace HV := Aside0.mk (below_step HV.out hV)
        rw [hp12] at tk ⊢
        have HTK := Aside0.mk tk
        clear hw6 hp12 hV
        obtain ⟨out, hout⟩ : ∃ o, pvz G k (n - k) k = o := ⟨_, rfl⟩
        have HOUT := Aside0.mk hout
        clear hout
        go_upto_region 18 with (go_at_call 39; (with_reducible refine (IndexFunc_c (Below.refl _ _) HG.out HTK.out (Nat.le_of_lt hkn) (by omega) (by omega)).mono ?_); rintro e w7 ⟨rfl, hV⟩; replace HG := Aside0.mk (HG.out.below hV); replace HLB := Aside0.mk (HLB.out.below hV); replace HV := Aside0.mk (below_step HV.out hV); replace tk := cell_below hV HTK.out; replace HTK := Aside0.mk tk; clear hV; rw [HOUT.out])
        cases out with
        | none =>
          simp only [pvR]
          go_wp2
          go_ret2
          exact ⟨rfl, below_step H0.out HV.out⟩
        | some a =>
          have hpa := pvz_some HOUT.out
          obtain ⟨d, hd⟩ : ∃ d, a = k + d := ⟨a - k, by omega⟩
          subst hd
          have hkd : k + d < n := by omega
          have hR : pvR k (some (k + d)) = (d : Int) := by simp [pvR]; omega
          rw [hR]
          have HST := Aside0.mk (HI.out.step hkn HOUT.out)
          have HLN : Aside0 (0 < l.2 ∧ nb l.2 ≤ K ∧ (∀ i, i < n → ∀ j, j < n + 1 → nb (G i j).2 ≤ K)) := ⟨HI.out.l0, HI.out.lf, HI.out.ent⟩
          have HK1 : Aside0 (K + K + 1 + 1 ≤ 1073741824) := ⟨by have := HST.out.2; have := HI.out.one; omega⟩
          clear hpa hR
          go_upto_region 20 with (fail)
          go_cut [13] (fun v13 wc => v13 = .int .i64 d ∧ ∃ A1 C1, Aside0 (GridZ wc w.heap.size gw n (n + 1) A1 C1 (swapZ G k (k + d))) ∧ Aside0 (gw < p11 ∧ ∀ i, i < n → A1 i < p11) ∧ Aside0 (Bz wc p11 (.bool l.1) (.string (enc l.2))) ∧ Aside0 (wc.cell? ⟨p12, 0, none⟩ = some (.int .i64 (k : Int))) ∧ Aside0 (Below w.heap.size w wc))
          case first =>
            have HPN : Aside0 (gw ≠ p11 ∧ gw ≠ p12 ∧ w.heap.size ≤ gw) := ⟨by have := HGL.out.1; omega, by have := HGL.out.1; have := HPP.out; omega, HWW.out.1⟩
            by_cases hd : d = 0
            · subst hd
              simp only [Nat.add_zero] at hkd ⊢
              have t1 := HG.out.top k hkn
              have t3 := HG.out.ftop k
              have t6 : ∀ v, (w7.setCell ⟨gw, k, none⟩ v).cell? ⟨p12, 0, none⟩ = some (.int .i64 (k : Int)) := fun v => (World.cell?_setCell_other _ _ _ _ (fun h => HPN.out.2.1 (by injection h))).trans HTK.out
              have t7 : ∀ v, (w7.setCell ⟨gw, k, none⟩ v).cell? ⟨gw, k, none⟩ = some v := fun v => cell_setn (by rw [t1]; rfl) v
              go_region
              clear t1 t3 t6 t7
              have hg := (HG.out.swap hkn hkn).below (below_drew1 (Below.refl _ _))
              have hc : Chg w7 ((w7.setCell ⟨gw, k, none⟩ (.slice (some ⟨A' k, 0, none⟩) (n + 1) (C' k))).setCell ⟨gw, k, none⟩ (.slice (some ⟨A' k, 0, none⟩) (n + 1) (C' k))).drew (fun b => b = gw) := (((Chg.refl w7 (fun b => b = gw)).setCell (p := ⟨gw, k, none⟩) (.inl rfl) _).setCell (p := ⟨gw, k, none⟩) (.inl rfl) _).drew
              go_wp2
              go_meet
              exact ⟨rfl, _, _, ⟨hg⟩, ⟨HGL.out.1, sw_lt HGL.out.2 hkn hkn⟩, ⟨HLB.out.chg hc (fun e => HPN.out.1 e.symm)⟩, ⟨(cell_chg hc (World.block_lt_of_cell? _ _ HTK.out) (fun e => HPN.out.2.1 e.symm)).trans HTK.out⟩, ⟨hc.out HV.out (fun x hx => by rw [hx]; exact HPN.out.2.2)⟩⟩
            · have t1 := HG.out.top k hkn
              have t2 := HG.out.top (k + d) hkd
              have t3 := HG.out.ftop k
              have t4 := HG.out.ftop (k + d)
              have z1 : (0 : Int) ≤ (k : Int) + (d : Int) := by omega
              have z2 : (k : Int) + (d : Int) < (n : Int) := by omega
              have z3 : ((k : Int) + (d : Int)).toNat = k + d := by omega
              have z4 : ¬ (k + d = k) := by omega
              have z5 : ¬ (k = k + d) := by omega
              have z6 : ¬ (d = 0) := by omega
              have t5 : ∀ v, (w7.setCell ⟨gw, k, none⟩ v).cell? ⟨gw, k + d, none⟩ = some (.slice (some ⟨A' (k + d), 0, none⟩) (n + 1) (C' (k + d))) := fun v => (World.cell?_setCell_other _ _ _ _ (fun h => by injection h with _ h; omega)).trans t2
              have t6 : ∀ v, (w7.setCell ⟨gw, k, none⟩ v).cell? ⟨p12, 0, none⟩ = some (.int .i64 (k : Int)) := fun v => (World.cell?_setCell_other _ _ _ _ (fun h => HPN.out.2.1 (by injection h))).trans HTK.out
              go_region
              clear t1 t2 t3 t4 t5 t6 z1 z2 z3 z4 z5 z6
              have hg := (HG.out.swap hkn hkd).below (below_drew1 (Below.refl _ _))
              have hc : Chg w7 ((w7.setCell ⟨gw, k, none⟩ (.slice (some ⟨A' (k + d), 0, none⟩) (n + 1) (C' (k + d)))).setCell ⟨gw, k + d, none⟩ (.slice (some ⟨A' k, 0, none⟩) (n + 1) (C' k))).drew (fun b => b = gw) := (((Chg.refl w7 (fun b => b = gw)).setCell (p := ⟨gw, k, none⟩) (.inl rfl) _).setCell (p := ⟨gw, k + d, none⟩) (.inl rfl) _).drew
              go_wp2
              go_meet
              exact ⟨rfl, _, _, ⟨hg⟩, ⟨HGL.out.1, sw_lt HGL.out.2 hkn hkd⟩, ⟨HLB.out.chg hc (fun e => HPN.out.1 e.symm)⟩, ⟨(cell_chg hc (World.block_lt_of_cell? _ _ HTK.out) (fun e => HPN.out.2.1 e.symm)).trans HTK.out⟩, ⟨hc.out HV.out (fun x hx => by rw [hx]; exact HPN.out.2.2)⟩⟩
          case rest =>
            clear HG HGL HLB HV HTK tk
            obtain ⟨rfl, A1, C1, HG, HGL, HLB, HTK, HV⟩ := hcut
            obtain ⟨G1, hG1⟩ : ∃ G1, swapZ G k (k + d) = G1 := ⟨_, rfl⟩
            rw [hG1] at HG
            have HG1 := Aside0.mk hG1
            have hG1F : Aside0 (∀ i, i < n → ∀ j, j < n + 1 → nb (G1 i j).2 ≤ K) := ⟨fun i hi j hj => by
              rw [← hG1]; unfold swapZ
              split
              · exact HLN.out.2.2 _ hkd j hj
              · split
                · exact HLN.out.2.2 _ hkn j hj
                · exact HLN.out.2.2 _ hi j hj⟩
            have tk := HTK.out
            have hk1 : k < n + 1 := by omega
            have hk2 : (k : Int) < (n : Int) + 1 := by omega
            have kx := (HLB.out); have kl0 := kx.c0; have kl1 := kx.c1; have fl0 := kx.f0; have fl1 := kx.f1; clear kx
            clear hG1
            go_upto_region 22 with (go_at_call 41; (with_reducible refine (eliminate_c (w0 := w) HV.out HG.out hkn (by omega) (by omega) (by omega) hG1F.out HLN.out.2.1 HLN.out.1 HK1.out).mono ?_); rintro e w8 ⟨rfl, hV, hG, hc⟩; replace HLB := Aside0.mk (HLB.out.chg hc (by rintro ⟨i, hi, e⟩; have := HGL.out.2 i hi; omega)); replace HTK := Aside0.mk ((cell_chg hc (World.block_lt_of_cell? _ _ HTK.out) (by rintro ⟨i, hi, e⟩; have := HGL.out.2 i hi; have := HPP.out; simp only at e; omega)).trans HTK.out); replace HG := Aside0.mk hG; replace HV := Aside0.mk hV; clear hV hG hc tk kl0 kl1 fl0 fl1)
            obtain ⟨G2, hG2⟩ : ∃ G2, elimZ G1 k l = G2 := ⟨_, rfl⟩
            rw [hG2] at HG
            have HG2 := Aside0.mk hG2
            clear hG2
            obtain ⟨⟨z1, z2⟩, hz⟩ : ∃ e, G2 k k = e := ⟨_, rfl⟩
            have E1 := Aside0.mk ((HG.out.rows k hkn).el k (by omega))
            rw [hz] at E1
            have HZ := Aside0.mk hz
            clear hz
            (refine wp_region_below_tail 7 (by kernel_rfl) (by kernel_rfl) ?_); (simp only [List.take_succ_cons, List.take_zero, List.drop_succ_cons, List.drop_zero]); (repeat (refine wpQuiet_step (fun K hK => ?_); go_simp; first | (refine hK _ ?_; clear hK K) | (apply Exists.intro; refine ⟨fun V hV => ?_, hK _ ?_⟩; (focus ((first | rfl | ((have kx := cell_below hV HTK.out); go_simp; first | rfl | fail) | ((have kx := (HG.out.below hV).top k hkn); go_simp; first | rfl | fail) | ((have kx := (E1.out.below hV)); have kc0 := kx.c0; have kc1 := kx.c1; clear kx; go_simp; first | rfl | fail)))); clear hK K))); (refine wpQuiet_nil ?_); (intro V hV)
            replace HG := Aside0.mk (HG.out.below hV)
            replace HLB := Aside0.mk (HLB.out.below hV)
            replace HV := Aside0.mk (below_step HV.out hV)
            clear hV E1
            have kx := (HLB.out); have kl0 := kx.c0; have kl1 := kx.c1; have fl0 := kx.f0; have fl1 := kx.f1; clear kx
            go_wp2
            clear kl0 kl1 fl0 fl1
            have hc : Chg V ((V.setCell ⟨p11, 0, none⟩ (.bool z1)).setCell ⟨p11, 1, none⟩ (.string (enc z2))) (fun b => b = p11) := chg_set2 (S := fun b => b = p11) (o := 0) (Chg.refl _ _) (.inl rfl) _ _
            have hlz : G2 k k = G (k + d) k := by
              rw [← HG2.out]; unfold elimZ; rw [if_pos rfl, ← HG1.out, swapZ_left]
            refine ⟨⟨k + 1, 3 * K, (z1, z2), G2, A1, C1, hkn, by go_num, ⟨?_⟩, ⟨HG.out.chg2 hc (fun e => by have := HGL.out.1; omega) (fun i hi e => by have := HGL.out.2 i hi; omega)⟩, HGL, ⟨HLB.out.set _ _⟩, ⟨hc.out HV.out (fun x hx => by rw [hx]; exact HWP.out)⟩⟩, ?_⟩
            · rw [← HZ.out, hlz, ← HG2.out, ← HG1.out]
              exact HST.out.1
            · simp [intOf]; omega
      · obtain rfl : n = k := by omega
        exact absurd HI.out.end_ (by simp)
end Go.Proofs.YtiamgjepcagohaaDoor.P
end
section
/- The example that the laws try. -/
namespace Go.Proofs.YtiamgjepcagohaaDoor.P
open Go Go.RowKit Go.Proofs.YtiamgjepcagohaaDoorW.PrintWords Go.Proofs.YtiamgjepcagohaaDoorW.PrintLast Go.Proofs.YtiamgjepcagohaaDoorW.PrintMore Go.Proofs.YtiamgjepcagohaaDoor.Ari

theorem lit2 (W : World) (a b : Rat) (t : TypeId) {E : Nat → Raw} (h0 : E 0 = rw_ a) (h1 : E 1 = rw_ b) :
    Row (W.alloc (.cells #[.bool (ngv a), .string (enc a.num.natAbs), .string (encD a.den), .bool (ngv b), .string (enc b.num.natAbs), .string (encD b.den)] t)) W.heap.size 0 2 E := by
  refine ⟨fun k hk => ?_⟩
  rcases (by omega : k = 0 ∨ k = 1) with rfl | rfl
  · rw [h0]; constructor <;> simp
  · rw [h1]; constructor <;> simp
theorem lit2z (W : World) (t : TypeId) : Row (W.alloc (.cells #[.bool false, .string ⟨#[]⟩, .string ⟨#[]⟩, .bool false, .string ⟨#[]⟩, .string ⟨#[]⟩] t)) W.heap.size 0 2 exX := by
  refine ⟨fun k hk => ?_⟩
  rcases (by omega : k = 0 ∨ k = 1) with rfl | rfl
  · constructor <;> simp [exX]
  · constructor <;> simp [exX]
theorem mat2 {W : World} {b0 b1 c0 c1 m : Nat} {E : Nat → Nat → Raw} {t : TypeId} (h0 : Row W b0 0 m (E 0)) (h1 : Row W b1 0 m (E 1)) :
    Mat (W.alloc (.cells #[.slice (some ⟨b0, 0, none⟩) m c0, .slice (some ⟨b1, 0, none⟩) m c1] t)) (.slice (some ⟨W.heap.size, 0, none⟩) 2 2) 2 (fun _ => m) E := by
  have hb := below_alloc (Below.refl W.heap.size W) (.cells #[.slice (some ⟨b0, 0, none⟩) m c0, .slice (some ⟨b1, 0, none⟩) m c1] t)
  refine ⟨some ⟨W.heap.size, 0, none⟩, 2, fun i => if i = 0 then some ⟨b0, 0, none⟩ else some ⟨b1, 0, none⟩, fun i => if i = 0 then c0 else c1, rfl, fun _ => ⟨W.heap.size, 0, rfl, fun i hi => ?_⟩, fun i hi => ⟨fun _ => ?_⟩⟩
  · rcases (by omega : i = 0 ∨ i = 1) with rfl | rfl
    · simp
    · simp
  · rcases (by omega : i = 0 ∨ i = 1) with rfl | rfl
    · exact ⟨b0, 0, rfl, h0.below hb⟩
    · exact ⟨b1, 0, rfl, h1.below hb⟩
theorem ex_chk : chk 2 (fun _ => 2) = 0 := by decide
set_option maxHeartbeats 2000000 in
set_option maxRecDepth 1000000 in
theorem awake_c {w0 w : World} (hB : Below w0.heap.size w0 w) :
    Calls Tryd.prog 12 #[] w fun e w' => e = .returned (.bool true) ∧ Below w0.heap.size w0 w' := by
  have H0 := Aside0.mk hB
  obtain ⟨c1, hc1⟩ : ∃ q : Rat, ((1 : Int) : Rat) = q := ⟨_, rfl⟩
  obtain ⟨c2, hc2⟩ : ∃ q : Rat, ((2 : Int) : Rat) = q := ⟨_, rfl⟩
  obtain ⟨c4, hc4⟩ : ∃ q : Rat, ((4 : Int) : Rat) = q := ⟨_, rfl⟩
  obtain ⟨cm, hcm⟩ : ∃ q : Rat, ((-2 : Int) : Rat) = q := ⟨_, rfl⟩
  have HI1 : Aside0 (∀ U V : World, Below U.heap.size U V → Calls Tryd.prog 32 #[.int .i64 1] V fun e w' => e = .returned (rv c1) ∧ Below U.heap.size U w') := ⟨fun U V h => hc1 ▸ Int_c h (by omega) (by omega)⟩
  have HI2 : Aside0 (∀ U V : World, Below U.heap.size U V → Calls Tryd.prog 32 #[.int .i64 2] V fun e w' => e = .returned (rv c2) ∧ Below U.heap.size U w') := ⟨fun U V h => hc2 ▸ Int_c h (by omega) (by omega)⟩
  have HI4 : Aside0 (∀ U V : World, Below U.heap.size U V → Calls Tryd.prog 32 #[.int .i64 4] V fun e w' => e = .returned (rv c4) ∧ Below U.heap.size U w') := ⟨fun U V h => hc4 ▸ Int_c h (by omega) (by omega)⟩
  have HIm : Aside0 (∀ U V : World, Below U.heap.size U V → Calls Tryd.prog 32 #[.int .i64 (-2)] V fun e w' => e = .returned (rv cm) ∧ Below U.heap.size U w') := ⟨fun U V h => hcm ▸ Int_c h (by omega) (by omega)⟩
  have HE0 : Aside0 (exE 0 0 = rw_ c1 ∧ exE 0 1 = rw_ c2 ∧ exE 1 0 = rw_ c2 ∧ exE 1 1 = rw_ c4) := ⟨by rw [← hc1, ← hc2, ← hc4]; exact ⟨rfl, rfl, rfl, rfl⟩⟩
  have HK0 : Aside0 (kv exOut.G exOut.piv 1 exOut.piv.length 0 = cm ∧ kv exOut.G exOut.piv 1 exOut.piv.length 1 = c1) := ⟨by rw [← hcm, ← hc1]; exact ⟨ex_k0, ex_k1⟩⟩
  have HB : Aside0 (Below w.heap.size w w) := ⟨Below.refl _ _⟩
  clear hB hc1 hc2 hc4 hcm
  go_enter Tryd.func12, Tryd.ntmps12
  go_upto_region 2 with (first
    | (go_at_call 32; (with_reducible refine (HI1.out _ _ (Below.refl _ _)).mono ?_); rintro e w1 ⟨rfl, hV⟩; replace HB := Aside0.mk (below_step HB.out hV); clear hV)
    | (go_at_call 32; (with_reducible refine (HI2.out _ _ (Below.refl _ _)).mono ?_); rintro e w3 ⟨rfl, hV⟩; have HR := Aside0.mk ((lit2 _ c1 c2 _ HE0.out.1 HE0.out.2.1).below hV); replace HB := Aside0.mk (below_step (below_alloc HB.out _) hV); clear hV)
    | (go_at_call 32; (with_reducible refine (HI2.out _ _ (Below.refl _ _)).mono ?_); rintro e w2 ⟨rfl, hV⟩; replace HB := Aside0.mk (below_step HB.out hV); clear hV)
    | (go_at_call 32; (with_reducible refine (HI4.out _ _ (Below.refl _ _)).mono ?_); rintro e w4 ⟨rfl, hV⟩; replace HR := Aside0.mk (HR.out.below hV); replace HB := Aside0.mk (below_step HB.out hV); clear hV))
  have hm1 := mat2 (t := 30) (E := exE) (c0 := 2) (c1 := 2) (HR.out.below (below_alloc (Below.refl _ _) (.cells #[.bool (ngv c2), .string (enc c2.num.natAbs), .string (encD c2.den), .bool (ngv c4), .string (enc c4.num.natAbs), .string (encD c4.den)] 27))) (lit2 w4 c2 c4 27 HE0.out.2.2.1 HE0.out.2.2.2)
  rw [show ∀ o, (w4.alloc o).heap.size = w4.heap.size + 1 from fun o => by simp] at hm1
  replace HB := Aside0.mk (below_alloc (below_alloc HB.out (.cells #[.bool (ngv c2), .string (enc c2.num.natAbs), .string (encD c2.den), .bool (ngv c4), .string (enc c4.num.natAbs), .string (encD c4.den)] 27)) (.cells #[.slice (some ⟨w2.heap.size, 0, none⟩) 2 2, .slice (some ⟨w4.heap.size, 0, none⟩) 2 2] 30))
  obtain ⟨wm, hwm⟩ : ∃ x, (w4.alloc (.cells #[.bool (ngv c2), .string (enc c2.num.natAbs), .string (encD c2.den), .bool (ngv c4), .string (enc c4.num.natAbs), .string (encD c4.den)] 27)).alloc (.cells #[.slice (some ⟨w2.heap.size, 0, none⟩) 2 2, .slice (some ⟨w4.heap.size, 0, none⟩) 2 2] 30) = x := ⟨_, rfl⟩
  rw [hwm] at hm1 HB ⊢
  have HM := Aside0.mk hm1
  clear hm1 hwm HR
  obtain ⟨p2, hp2⟩ : ∃ x, w4.heap.size + 1 = x := ⟨_, rfl⟩
  rw [hp2] at HM ⊢
  clear hp2
  go_upto_region 4 with (first
    | (go_at_call 19; (with_reducible refine (Solve_sing (N := 1) (Below.refl _ _) (HM.out.below (below_alloc (Below.refl _ _) _)) ex_chk rfl ⟨⟨_, _, rfl, ⟨fun _ => ⟨_, _, rfl, lit2z _ _⟩⟩⟩⟩ (fun i _ k _ => ex_fit i k) (fun i _ => ex_fitX i) (by decide) ex_bar).mono ?_); rintro e w5 ⟨rfl, hV⟩; replace HM := Aside0.mk ((HM.out.below (below_alloc (Below.refl _ _) _)).below hV); replace HB := Aside0.mk (below_step (below_alloc HB.out _) hV); clear hV)
    | (go_at_call 18; (with_reducible refine (Kernel_ok (Below.refl _ _) HM.out ex_chk rfl ex_okay).mono ?_); rintro e w6 ⟨u, rfl, hV, hU⟩; replace HB := Aside0.mk (below_step HB.out hV); have HU := Aside0.mk hU; clear hV hU))
  have hu := HU.out
  rw [show (frees exOut.piv 2) = [1] by rw [ex_piv]; decide] at hu
  obtain ⟨ga, gc, A, C, rfl, hg, hr⟩ := hu.ex
  obtain ⟨gb, go, rfl, hc⟩ := hg (by decide)
  have t0 := hc 0 (by decide)
  obtain ⟨rb, ro, hA, hrow⟩ := (hr 0 (by decide)).ex (by decide)
  rw [hA, Nat.add_zero] at t0
  have E0 := hrow.el 0 (by decide)
  have E1 := hrow.el 1 (by decide)
  have hk0 : (kv exOut.G exOut.piv ([1].getD 0 0) exOut.piv.length 0) = cm := HK0.out.1
  have hk1 : (kv exOut.G exOut.piv ([1].getD 0 0) exOut.piv.length 1) = c1 := HK0.out.2
  rw [hk0] at E0
  rw [hk1] at E1
  have HT := Aside0.mk t0
  rw [show ro + 0 * 3 = ro by omega] at E0
  rw [show ro + 1 * 3 = ro + 3 by omega] at E1
  replace E0 := Aside0.mk E0
  replace E1 := Aside0.mk E1
  clear hg hc t0 hr hA hrow hk0 hk1 hu HU
  rw [show ([1] : List Nat).length = 1 from rfl]
  (refine wp_region_below (by kernel_rfl) (by kernel_rfl) ?_); (repeat (refine wpQuiet_step (fun K hK => ?_); go_simp; first | (refine hK _ ?_; clear hK K) | (apply Exists.intro; refine ⟨fun V hV => ?_, hK _ ?_⟩; (focus ((first | rfl | ((with_reducible exact HIm.out _ _ hV)) | ((with_reducible exact HI1.out _ _ hV)) | ((have kx := cell_below hV HT.out); go_simp; first | rfl | fail) | ((have kx := (E0.out.below hV)); have kc0 := kx.c0; have kc1 := kx.c1; have kc2 := kx.c2; clear kx; go_simp; first | rfl | fail) | ((have kx := (E1.out.below hV)); have kc0 := kx.c0; have kc1 := kx.c1; have kc2 := kx.c2; clear kx; go_simp; first | rfl | fail)))); clear hK K))); (refine wpQuiet_nil ?_); (intro V hV)
  go_wp2
  go_ret
  exact ⟨rfl, below_step H0.out (below_step HB.out hV)⟩
end Go.Proofs.YtiamgjepcagohaaDoor.P
end
section
/- Sums, spans and determinants of matrices of rational numbers: plain laws. -/
namespace Go.Proofs.YtiamgjepcagohaaDoor.P
/-! sums -/
def sm (f : Nat → Rat) : Nat → Rat
  | 0 => 0
  | k + 1 => sm f k + f k
theorem sm_congr {f g : Nat → Rat} : ∀ {n : Nat}, (∀ k, k < n → f k = g k) → sm f n = sm g n
  | 0, _ => rfl
  | n + 1, h => by rw [sm, sm, sm_congr (fun k hk => h k (by omega)), h n (by omega)]
theorem sm_zero {f : Nat → Rat} : ∀ {n : Nat}, (∀ k, k < n → f k = 0) → sm f n = 0
  | 0, _ => rfl
  | n + 1, h => by rw [sm, sm_zero (fun k hk => h k (by omega)), h n (by omega), Rat.add_zero]
theorem sm_add (f g : Nat → Rat) : ∀ n : Nat, sm (fun k => f k + g k) n = sm f n + sm g n
  | 0 => (Rat.add_zero 0).symm
  | n + 1 => by simp only [sm]; rw [sm_add f g n]; grind
theorem sm_mul (c : Rat) (f : Nat → Rat) : ∀ n : Nat, sm (fun k => c * f k) n = c * sm f n
  | 0 => by simp [sm]
  | n + 1 => by simp only [sm]; rw [sm_mul c f n]; grind
theorem sm_one {f : Nat → Rat} {t : Nat} : ∀ {n : Nat}, t < n → (∀ k, k < n → k ≠ t → f k = 0) → sm f n = f t
  | 0, h, _ => by omega
  | n + 1, h, h0 => by
    rw [sm]
    by_cases e : t = n
    · subst e
      rw [sm_zero (fun k hk => h0 k (by omega) (by omega)), Rat.zero_add]
    · rw [sm_one (t := t) (by omega) (fun k hk hn => h0 k (by omega) hn), h0 n (by omega) (by omega), Rat.add_zero]

/-! spans -/
/-- v is a combination of the n rows of A (columns below m). -/
def Sp (n m : Nat) (A : Nat → Nat → Rat) (v : Nat → Rat) : Prop := ∃ q : Nat → Rat, ∀ k, k < m → v k = sm (fun t => q t * A t k) n
section
variable {n m : Nat} {A B : Nat → Nat → Rat} {u v : Nat → Rat}
theorem Sp.row {i : Nat} (h : i < n) : Sp n m A (A i) := ⟨fun t => if t = i then 1 else 0, fun k _ => by
  rw [sm_one (t := i) h (fun t _ ht => by simp only [if_neg ht, Rat.zero_mul])]
  simp only [if_true, Rat.one_mul]⟩
theorem Sp.congr (h : Sp n m A u) (e : ∀ k, k < m → v k = u k) : Sp n m A v := by
  obtain ⟨q, hq⟩ := h
  exact ⟨q, fun k hk => (e k hk).trans (hq k hk)⟩
theorem Sp.add (h : Sp n m A u) (g : Sp n m A v) : Sp n m A (fun k => u k + v k) := by
  obtain ⟨q, hq⟩ := h
  obtain ⟨p, hp⟩ := g
  refine ⟨fun t => q t + p t, fun k hk => ?_⟩
  show u k + v k = _
  rw [hq k hk, hp k hk, ← sm_add]
  exact sm_congr (fun t _ => by grind)
theorem Sp.mul (c : Rat) (h : Sp n m A u) : Sp n m A (fun k => c * u k) := by
  obtain ⟨q, hq⟩ := h
  refine ⟨fun t => c * q t, fun k hk => ?_⟩
  show c * u k = _
  rw [hq k hk, ← sm_mul]
  exact sm_congr (fun t _ => by grind)
theorem Sp.trans (h : ∀ i, i < n → Sp n m A (B i)) (g : Sp n m B v) : Sp n m A v := by
  obtain ⟨q, hq⟩ := g
  have hh : ∀ j, j ≤ n → Sp n m A (fun k => sm (fun t => q t * B t k) j) := by
    intro j
    induction j with
    | zero => intro _; exact ⟨fun _ => 0, fun k _ => by rw [sm_zero (fun t _ => Rat.zero_mul _)]; rfl⟩
    | succ j ih => intro hj; exact (ih (by omega)).add ((h j (by omega)).mul (q j))
  exact (hh n (Nat.le_refl _)).congr hq
end
def SpM (n m : Nat) (A B : Nat → Nat → Rat) : Prop := ∀ i, i < n → Sp n m A (B i)
theorem SpM.refl (n m : Nat) (A : Nat → Nat → Rat) : SpM n m A A := fun _ h => Sp.row h
theorem SpM.trans {n m : Nat} {A B C : Nat → Nat → Rat} (h : SpM n m A B) (g : SpM n m B C) : SpM n m A C := fun i hi => Sp.trans h (g i hi)

/-! determinants: along the first column -/
def sgn_ (i : Nat) : Rat := if i % 2 = 0 then 1 else -1
def skp (i a : Nat) : Nat := if a < i then a else a + 1
def minr (M : Nat → Nat → Rat) (i : Nat) : Nat → Nat → Rat := fun a b => M (skp i a) (b + 1)
def dt : Nat → (Nat → Nat → Rat) → Rat
  | 0, _ => 1
  | n + 1, M => sm (fun i => sgn_ i * M i 0 * dt n (minr M i)) (n + 1)
def setR (M : Nat → Nat → Rat) (r : Nat) (u : Nat → Rat) : Nat → Nat → Rat := fun i => if i = r then u else M i
def low (i r : Nat) : Nat := if r < i then r else r - 1
end Go.Proofs.YtiamgjepcagohaaDoor.P
end
section
/- The reduced row echelon form and that it is one alone: plain laws. -/
namespace Go.Proofs.YtiamgjepcagohaaDoor.P
open Go Go.Proofs.YtiamgjepcagohaaDoor.Ari
/-! the reduced row echelon form -/
structure Rf (n m c : Nat) (G : Gr) (p : List Nat) : Prop where
  ple : p.length ≤ n
  lt : ∀ t, t < p.length → p.getD t 0 < c
  cm : c ≤ m
  inc : ∀ s t, s < t → t < p.length → p.getD s 0 < p.getD t 0
  one : ∀ t, t < p.length → G t (p.getD t 0) = 1
  zero : ∀ t, t < p.length → ∀ i, i < n → i ≠ t → G i (p.getD t 0) = 0
  lead : ∀ t, t < p.length → ∀ k, k < p.getD t 0 → G t k = 0
  rest : ∀ i, p.length ≤ i → i < n → ∀ k, k < c → G i k = 0
theorem Rf.start (n m : Nat) (G : Gr) : Rf n m 0 G [] := ⟨Nat.zero_le _, fun t h => absurd h (Nat.not_lt_zero _), Nat.zero_le _, fun s t _ h => absurd h (Nat.not_lt_zero _), fun t h => absurd h (Nat.not_lt_zero _), fun t h => absurd h (Nat.not_lt_zero _), fun t h => absurd h (Nat.not_lt_zero _), fun i _ _ k h => absurd h (Nat.not_lt_zero _)⟩
theorem getD_app (p : List Nat) (c t : Nat) : (p ++ [c]).getD t 0 = if t < p.length then p.getD t 0 else if t = p.length then c else 0 := by
  by_cases h : t < p.length
  · rw [if_pos h]
    simp [List.getD_eq_getElem?_getD, List.getElem?_append_left h]
  · rw [if_neg h]
    by_cases e : t = p.length
    · rw [if_pos e, e]; simp [List.getD_eq_getElem?_getD]
    · rw [if_neg e]
      rw [List.getD_eq_getElem?_getD, List.getElem?_eq_none (by simp; omega)]; rfl
theorem swap_other {G : Gr} {i j k : Nat} (h1 : k ≠ i) (h2 : k ≠ j) : swapR G i j k = G k := by
  unfold swapR; rw [if_neg h1, if_neg h2]
theorem Rf.skip {n m c : Nat} {G : Gr} {p : List Nat} (h : Rf n m c G p) (hc : c < m) (h0 : ∀ i, p.length ≤ i → i < n → G i c = 0) : Rf n m (c + 1) G p :=
  ⟨h.ple, fun t ht => Nat.lt_succ_of_lt (h.lt t ht), hc, h.inc, h.one, h.zero, h.lead, fun i h1 h2 k hk => by
    by_cases e : k = c
    · rw [e]; exact h0 i h1 h2
    · exact h.rest i h1 h2 k (by omega)⟩
theorem Rf.step {n m c a : Nat} {S : St} (h : Rf n m c S.G S.piv) (hc : c < m) (h1 : S.piv.length ≤ a) (h2 : a < n) (h3 : S.G a c ≠ 0) : Rf n m (c + 1) (stepAt c a S).G (stepAt c a S).piv := by
  obtain ⟨G, p, pr⟩ := S
  simp only at h h1 h3
  show Rf n m (c + 1) (clearR (scaleR (swapR G a p.length) p.length c) p.length c) (p ++ [c])
  obtain ⟨r, hr⟩ : ∃ r, p.length = r := ⟨_, rfl⟩
  have hpl : (p ++ [c]).length = r + 1 := by rw [List.length_append, hr]; rfl
  have hg := getD_app p c
  rw [hr] at hg h1 ⊢
  have hsr : swapR G a r r = G a := swap_at G a r
  have hlow : ∀ t, t < r → swapR G a r t = G t := fun t ht => swap_other (by omega) (by omega)
  have hhi : ∀ i, r ≤ i → i < n → ∃ i', r ≤ i' ∧ i' < n ∧ swapR G a r i = G i' := by
    intro i hi hn
    unfold swapR
    split
    · exact ⟨r, Nat.le_refl _, by omega, rfl⟩
    · split
      · exact ⟨a, h1, h2, rfl⟩
      · exact ⟨i, hi, hn, rfl⟩
  generalize swapR G a r = G1 at hsr hlow hhi
  have e2r : ∀ k, scaleR G1 r c r k = G a k / G a c := fun k => by show (if r = r then G1 r k / G1 r c else _) = _; rw [if_pos rfl, hsr]
  have e2o : ∀ i, i ≠ r → ∀ k, scaleR G1 r c i k = G1 i k := fun i hi k => by show (if i = r then _ else _) = _; rw [if_neg hi]
  generalize scaleR G1 r c = G2 at e2r e2o
  have e3r : ∀ k, clearR G2 r c r k = G a k / G a c := fun k => by show (if r = r then _ else _) = _; rw [if_pos rfl, e2r]
  have e3o : ∀ i, i ≠ r → ∀ k, clearR G2 r c i k = G1 i k - G1 i c * (G a k / G a c) := fun i hi k => by show (if i = r then _ else _) = _; rw [if_neg hi, e2o i hi, e2o i hi, e2r]
  generalize clearR G2 r c = G3 at e3r e3o
  have ga0 : ∀ k, k < c → G a k = 0 := fun k hk => h.rest a (by omega) h2 k hk
  have gp : ∀ t, t < r → G a (p.getD t 0) = 0 := fun t ht => ga0 _ (h.lt t (by omega))
  have hd1 : G a c / G a c = 1 := by rw [Rat.div_def, Rat.mul_inv_cancel _ h3]
  have hz0 : ∀ x : Rat, (0 : Rat) / x = 0 := fun x => by rw [Rat.div_def, Rat.zero_mul]
  refine ⟨by rw [hpl]; omega, ?_, by omega, ?_, ?_, ?_, ?_, ?_⟩
  · intro t ht
    rw [hg]
    split
    · have := h.lt t (by omega); omega
    · split <;> omega
  · intro s t hs ht
    rw [hpl] at ht
    rw [hg, hg, if_pos (by omega)]
    split
    · exact h.inc s t hs (by omega)
    · rw [if_pos (by omega)]; exact h.lt s (by omega)
  · intro t ht
    rw [hpl] at ht
    rw [hg]
    by_cases e : t = r
    · rw [if_neg (by omega), if_pos e, e, e3r, hd1]
    · have htr : t < r := by omega
      rw [if_pos htr, e3o t e, gp t htr, hz0, Rat.mul_zero, hlow t htr, h.one t (by omega)]
      grind
  · intro t ht i hi hit
    rw [hpl] at ht
    rw [hg]
    by_cases e : t = r
    · rw [if_neg (by omega), if_pos e, e3o i (by omega), hd1]
      grind
    · have htr : t < r := by omega
      rw [if_pos htr]
      by_cases ei : i = r
      · rw [ei, e3r, gp t htr, hz0]
      · rw [e3o i ei, gp t htr, hz0, Rat.mul_zero]
        have : G1 i (p.getD t 0) = 0 := by
          by_cases hl : i < r
          · rw [hlow i hl]; exact h.zero t (by omega) i hi hit
          · obtain ⟨i', h5, h6, h7⟩ := hhi i (by omega) hi
            rw [h7]; exact h.zero t (by omega) i' h6 (by omega)
        rw [this]; grind
  · intro t ht k hk
    rw [hpl] at ht
    rw [hg] at hk
    by_cases e : t = r
    · rw [if_neg (by omega), if_pos e] at hk
      rw [e, e3r, ga0 k hk, hz0]
    · have htr : t < r := by omega
      rw [if_pos htr] at hk
      have := h.lt t (by omega)
      rw [e3o t e, ga0 k (by omega), hz0, Rat.mul_zero, hlow t htr, h.lead t (by omega) k hk]
      grind
  · intro i hi hn k hk
    rw [hpl] at hi
    have e : i ≠ r := by omega
    obtain ⟨i', h5, h6, h7⟩ := hhi i (by omega) hn
    rw [e3o i e, h7]
    by_cases ek : k = c
    · rw [ek, hd1]; grind
    · rw [ga0 k (by omega), hz0, h.rest i' (by omega) h6 k (by omega)]; grind

/-! spans -/
section
variable {n m c a r : Nat} {G : Gr}
theorem sp_swap (ha : a < n) (hr : r < n) : SpM n m G (swapR G a r) ∧ SpM n m (swapR G a r) G := by
  constructor
  · intro i hi
    unfold swapR
    split
    · exact Sp.row hr
    · split
      · exact Sp.row ha
      · exact Sp.row hi
  · intro i hi
    by_cases e : i = a
    · refine Sp.congr (Sp.row hr) (fun k _ => ?_)
      rw [e, swap_at]
    · by_cases e2 : i = r
      · refine Sp.congr (Sp.row (i := a) ha) (fun k _ => ?_)
        rw [e2]; unfold swapR; rw [if_pos rfl]
      · refine Sp.congr (Sp.row hi) (fun k _ => ?_)
        rw [swap_other e e2]
theorem sp_scale (hr : r < n) (h : G r c ≠ 0) : SpM n m G (scaleR G r c) ∧ SpM n m (scaleR G r c) G := by
  have e1 : ∀ k, scaleR G r c r k = G r k / G r c := fun k => by show (if r = r then _ else _) = _; rw [if_pos rfl]
  have e2 : ∀ i, i ≠ r → ∀ k, scaleR G r c i k = G i k := fun i hi k => by show (if i = r then _ else _) = _; rw [if_neg hi]
  constructor
  · intro i hi
    by_cases e : i = r
    · refine Sp.congr (Sp.mul (G r c)⁻¹ (Sp.row hr)) (fun k _ => ?_)
      rw [e, e1, Rat.div_def, Rat.mul_comm]
    · exact Sp.congr (Sp.row hi) (fun k _ => e2 i e k)
  · intro i hi
    by_cases e : i = r
    · refine Sp.congr (Sp.mul (G r c) (Sp.row hr)) (fun k _ => ?_)
      rw [e, e1, Rat.mul_comm, Rat.div_mul_cancel h]
    · exact Sp.congr (Sp.row hi) (fun k _ => (e2 i e k).symm)
theorem sp_clear (hr : r < n) : SpM n m G (clearR G r c) ∧ SpM n m (clearR G r c) G := by
  have e1 : ∀ k, clearR G r c r k = G r k := fun k => by show (if r = r then _ else _) = _; rw [if_pos rfl]
  have e2 : ∀ i, i ≠ r → ∀ k, clearR G r c i k = G i k - G i c * G r k := fun i hi k => by show (if i = r then _ else _) = _; rw [if_neg hi]
  constructor
  · intro i hi
    by_cases e : i = r
    · refine Sp.congr (Sp.row hr) (fun k _ => by rw [e, e1])
    · refine Sp.congr (Sp.add (Sp.row hi) (Sp.mul (-(G i c)) (Sp.row hr))) (fun k _ => ?_)
      rw [e2 i e]; grind
  · intro i hi
    by_cases e : i = r
    · refine Sp.congr (Sp.row hr) (fun k _ => by rw [e, e1])
    · refine Sp.congr (Sp.add (Sp.row hi) (Sp.mul (G i c) (Sp.row hr))) (fun k _ => ?_)
      rw [e2 i e, e1]; grind
end
/-- What the elimination keeps. -/
structure Fm (n m : Nat) (A : Gr) (S : St) : Prop where
  fwd : SpM n m A S.G
  bwd : SpM n m S.G A
theorem Fm.step {n m c a : Nat} {A : Gr} {S : St} (h : Fm n m A S) (hr : S.piv.length < n) (ha : a < n) (hp : S.G a c ≠ 0) : Fm n m A (stepAt c a S) := by
  have h1 := sp_swap (m := m) (G := S.G) ha hr
  have hz : swapR S.G a S.piv.length S.piv.length c ≠ 0 := by rw [swap_at]; exact hp
  have h2 := sp_scale (m := m) hr hz
  have h3 := sp_clear (m := m) (c := c) (G := scaleR (swapR S.G a S.piv.length) S.piv.length c) hr
  exact ⟨((h.fwd.trans h1.1).trans h2.1).trans h3.1, ((h3.2.trans h2.2).trans h1.2).trans h.bwd⟩
theorem Rf.widen {n m c d : Nat} {G : Gr} {p : List Nat} (h : Rf n m c G p) (hl : ¬ p.length < n) (hd : c ≤ d) (hm : d ≤ m) : Rf n m d G p :=
  ⟨h.ple, fun t ht => by have := h.lt t ht; omega, hm, h.inc, h.one, h.zero, h.lead, fun i h1 h2 => by omega⟩
theorem ech_keeps {n m cols : Nat} {A : Gr} (hcm : cols ≤ m) : ∀ (f c : Nat) (S : St), c + f = cols → Rf n m c S.G S.piv → Fm n m A S → Rf n m cols (ech n f c S).G (ech n f c S).piv ∧ Fm n m A (ech n f c S)
  | 0, c, S, hc, h, g => by
    obtain rfl : c = cols := by omega
    exact ⟨h, g⟩
  | f + 1, c, S, hc, h, g => by
    rw [ech]
    by_cases hl : S.piv.length < n
    · rw [if_pos hl]
      refine ech_keeps hcm f (c + 1) _ (by omega) ?_ ?_
      · unfold estep
        split
        · rename_i hp
          exact h.skip (by omega) (fun i h1 h2 => pvf_none hp i h1 (by omega))
        · rename_i a hp
          have := pvf_some hp
          exact h.step (by omega) this.1 (by omega) this.2.2
      · unfold estep
        split
        · exact g
        · rename_i a hp
          have := pvf_some hp
          exact g.step hl (by omega) this.2.2
    · rw [if_neg hl]
      exact ⟨h.widen hl (by omega) hcm, g⟩
theorem ech_form_c (n m cols : Nat) (A : Gr) (h : cols ≤ m) : Rf n m cols (ech n cols 0 ⟨A, [], 1⟩).G (ech n cols 0 ⟨A, [], 1⟩).piv ∧ Fm n m A (ech n cols 0 ⟨A, [], 1⟩) :=
  ech_keeps h cols 0 _ (by omega) (Rf.start n m A) ⟨SpM.refl _ _ _, SpM.refl _ _ _⟩
theorem ech_form (n m : Nat) (A : Gr) : Rf n m m (ech n m 0 ⟨A, [], 1⟩).G (ech n m 0 ⟨A, [], 1⟩).piv ∧ Fm n m A (ech n m 0 ⟨A, [], 1⟩) :=
  ech_form_c n m m A (Nat.le_refl _)

/-! one form alone -/
section
variable {n m : Nat} {F F' : Gr} {p p' : List Nat}
theorem Rf.comb (h : Rf n m m F p) {v : Nat → Rat} (hv : Sp n m F v) : ∀ k, k < m → v k = sm (fun t => v (p.getD t 0) * F t k) p.length := by
  obtain ⟨q, hq⟩ := hv
  have hs : ∀ k, k < m → v k = sm (fun t => q t * F t k) p.length := by
    intro k hk
    rw [hq k hk]
    have : ∀ d, p.length + d ≤ n → sm (fun t => q t * F t k) (p.length + d) = sm (fun t => q t * F t k) p.length := by
      intro d
      induction d with
      | zero => intro _; rfl
      | succ d ih =>
        intro hd
        rw [← Nat.add_assoc, sm, ih (by omega), h.rest _ (by omega) (by omega) k hk, Rat.mul_zero, Rat.add_zero]
    have hh := h.ple
    have := this (n - p.length) (by omega)
    rw [show p.length + (n - p.length) = n by omega] at this
    exact this
  have hqv : ∀ t, t < p.length → q t = v (p.getD t 0) := by
    intro t ht
    rw [hs _ (h.lt t ht), sm_one ht (fun s hs hst => by rw [h.zero t ht s (by have := h.ple; omega) hst, Rat.mul_zero]), h.one t ht, Rat.mul_one]
  intro k hk
  rw [hs k hk]
  exact sm_congr (fun t ht => by rw [hqv t ht])
theorem Rf.mem (h : Rf n m m F p) {v : Nat → Rat} (hv : Sp n m F v) {j : Nat} (hj : j < m) (h1 : v j ≠ 0) (h0 : ∀ k, k < j → v k = 0) : j ∈ p := by
  apply Classical.byContradiction
  intro hn
  apply h1
  rw [h.comb hv j hj]
  refine sm_zero (fun t ht => ?_)
  have hne : p.getD t 0 ≠ j := fun e => hn (by rw [← e]; simp [List.getD_eq_getElem?_getD, ht])
  rcases Nat.lt_or_gt_of_ne hne with hl | hl
  · rw [h0 _ hl, Rat.zero_mul]
  · rw [h.lead t ht j hl, Rat.mul_zero]
theorem Rf.sub (h : Rf n m m F p) (h' : Rf n m m F' p') (hs : SpM n m F F') : ∀ x, x ∈ p' → x ∈ p := by
  intro x hx
  obtain ⟨t, ht, rfl⟩ := List.getElem_of_mem hx
  have e : p'[t] = p'.getD t 0 := by simp [List.getD_eq_getElem?_getD, ht]
  rw [e]
  refine h.mem (hs t (by have := h'.ple; omega)) (h'.lt t ht) (by rw [h'.one t ht]; decide) (h'.lead t ht)
theorem Rf.pw (h : Rf n m m F p) : p.Pairwise (· < ·) := by
  rw [List.pairwise_iff_getElem]
  intro i j hi hj hij
  have := h.inc i j hij hj
  simpa [List.getD_eq_getElem?_getD, hi, hj] using this
theorem pw_nodup {l : List Nat} (h : l.Pairwise (· < ·)) : l.Nodup := h.imp (fun h => Nat.ne_of_lt h)
theorem pw_eq {l l' : List Nat} (h : l.Pairwise (· < ·)) (h' : l'.Pairwise (· < ·)) (e : ∀ x, x ∈ l ↔ x ∈ l') : l = l' :=
  List.Perm.eq_of_pairwise (fun a b _ _ h1 h2 => absurd h1 (Nat.lt_asymm h2)) h h' ((List.perm_ext_iff_of_nodup (pw_nodup h) (pw_nodup h')).2 e)
/-- Two forms of one space are equal. -/
theorem Rf.unique (h : Rf n m m F p) (h' : Rf n m m F' p') (hs : SpM n m F F') (hs' : SpM n m F' F) : p = p' ∧ ∀ i, i < n → ∀ k, k < m → F i k = F' i k := by
  have e : p = p' := pw_eq h.pw h'.pw (fun x => ⟨h'.sub h hs' x, h.sub h' hs x⟩)
  subst e
  refine ⟨rfl, fun i hi k hk => ?_⟩
  by_cases hr : i < p.length
  · rw [h.comb (hs i hi) k hk, sm_one hr (fun s hs hst => by rw [h'.zero s hs i hi (Ne.symm hst), Rat.zero_mul]), h'.one i hr, Rat.one_mul]
  · rw [h.rest i (by omega) hi k hk, h'.rest i (by omega) hi k hk]
end
theorem ech_unique {n m : Nat} {A B : Gr} (h1 : SpM n m A B) (h2 : SpM n m B A) :
    (ech n m 0 ⟨A, [], 1⟩).piv = (ech n m 0 ⟨B, [], 1⟩).piv ∧ ∀ i, i < n → ∀ k, k < m → (ech n m 0 ⟨A, [], 1⟩).G i k = (ech n m 0 ⟨B, [], 1⟩).G i k := by
  obtain ⟨ra, fa⟩ := ech_form n m A
  obtain ⟨rb, fb⟩ := ech_form n m B
  exact ra.unique rb ((fa.bwd.trans h1).trans fb.fwd) ((fb.bwd.trans h2).trans fa.fwd)
end Go.Proofs.YtiamgjepcagohaaDoor.P
end
section
/- The determinant and the kernel, as the elimination finds them: plain laws. -/
namespace Go.Proofs.YtiamgjepcagohaaDoor.P
open Go Go.Proofs.YtiamgjepcagohaaDoor.Ari
/-! the determinant, as the elimination finds it -/
section
variable {n m c a r : Nat} {G : Gr}
/-- The rows below j are cleared. -/
def clearB (G : Gr) (r c j : Nat) : Gr := fun i k => if i < j ∧ i ≠ r then G i k - G i c * G r k else G i k
end

/-! the kernel -/
end Go.Proofs.YtiamgjepcagohaaDoor.P
end
section
/- LinearNull. -/
namespace Go.Proofs.YtiamgjepcagohaaDoor.P
open Go Go.RowKit Go.Proofs.YtiamgjepcagohaaDoorW.PrintWords Go.Proofs.YtiamgjepcagohaaDoorW.PrintLast Go.Proofs.YtiamgjepcagohaaDoorW.PrintMore Go.Proofs.YtiamgjepcagohaaDoor.Ari

/-- A matrix of small numbers as it is told to the program. -/
abbrev rwM (G : Gr) : Nat → Nat → Raw := fun i k => rw_ (G i k)
theorem vals_rw (G : Gr) : vals (rwM G) = G := by
  funext i k; exact val_rw_ _
theorem chk_in {n m : Nat} (h0 : 0 < n) (h1 : n ≤ 16) (h2 : 0 < m) (h3 : m ≤ 16) : chk n (fun _ => m) = 0 := by
  have e1 : ¬ n = 0 := by omega
  have e2 : ¬ m = 0 := by omega
  have e3 : ¬ (16 < n ∨ 16 < m) := by omega
  unfold chk
  simp [e1, e2, e3]
theorem small_okay {n m : Nat} {G : Gr} (hn : n ≤ 4) (hG : ∀ i k, Fit 1 (G i k)) : Okay n m 1 (ech n m 0 ⟨G, [], 1⟩).piv.length m (rwM G) (ech n m 0 ⟨G, [], 1⟩) := by
  refine Okay.mk_ (fun i _ k _ => (hG i k).raw) (Nat.le_refl _) (Nat.le_refl _) (by rw [vals_rw]) rfl ?_
  have hp := (ech_form n m G).1.ple
  have : 8 ^ (ech n m 0 ⟨G, [], 1⟩).piv.length ≤ 8 ^ 4 := Nat.pow_le_pow_right (by decide) (by omega)
  omega
end Go.Proofs.YtiamgjepcagohaaDoor.P
end
