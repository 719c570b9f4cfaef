/- ClLim: lemmas of this claim, of 3 texts. -/
import Derived.Test.YtiamgjepcagohaaDoorClAwk0
import Derived.BigRegion
section
/- Package linear: Solve. -/
namespace Go.Proofs.YtiamgjepcagohaaDoor.P
open Go Go.RowKit Go.Proofs.YtiamgjepcagohaaDoorW.PrintWords Go.Proofs.YtiamgjepcagohaaDoorW.PrintLast Go.Proofs.YtiamgjepcagohaaDoorW.PrintMore Go.Proofs.YtiamgjepcagohaaDoor.Ari

set_option maxHeartbeats 2000000 in
set_option maxRecDepth 1000000 in
theorem Solve_bad {w0 w : World} {v xv : Value} {n y : Nat} {L : Nat → Nat} {E : Nat → Nat → Raw} (hB : Below w0.heap.size w0 w) (hM : Mat w v n L E) (hn : n ≤ 1000) (hx : sqr n L = y) (h0 : y ≠ 0) :
    Calls Tryd.prog 19 #[v, xv] w fun e w' => e = .returned (.tuple #[.slice none 0 0, .int .i64 y]) ∧ Below w0.heap.size w0 w' := by
  have HC := Aside0.mk (hx ▸ square_c hB hM hn)
  have hx2 : ((y : Int) == 0) = false := by simp; omega
  clear hB hM hx h0
  go_enter Tryd.func19, Tryd.ntmps19
  go_wp2_with (go_at_call 34; (with_reducible refine HC.out.mono ?_); rintro e w1 ⟨rfl, hV⟩; have HV := Aside0.mk hV; clear hV)
  go_ret2
  exact ⟨rfl, HV.out⟩
set_option maxHeartbeats 2000000 in
set_option maxRecDepth 1000000 in
theorem Solve_len {w0 w : World} {v xv : Value} {n l : Nat} {L : Nat → Nat} {E : Nat → Nat → Raw} {X : Nat → Raw} (hB : Below w0.heap.size w0 w) (hM : Mat w v n L E) (hn : n ≤ 1000) (hx : sqr n L = 0) (hX : Vec w xv l X) (hl : l ≠ n) :
    Calls Tryd.prog 19 #[v, xv] w fun e w' => e = .returned (.tuple #[.slice none 0 0, .int .i64 4]) ∧ Below w0.heap.size w0 w' := by
  have HC := Aside0.mk (hx ▸ square_c hB hM hn)
  obtain ⟨ga, gc, A, C, rfl, _, _⟩ := hM.ex
  obtain ⟨xa, xc, rfl, _⟩ := hX.ex
  have hl2 : ((l : Int) == (n : Int)) = false := by simp; omega
  clear hB hM hx hX hl
  go_enter Tryd.func19, Tryd.ntmps19
  go_wp2_with (go_at_call 34; (with_reducible refine HC.out.mono ?_); rintro e w1 ⟨rfl, hV⟩; have HV := Aside0.mk hV; clear hV)
  go_ret2
  exact ⟨rfl, HV.out⟩

theorem infoTopZ : (Tryd.prog.info? 63).map (fun i => (i.zero, i.size, i.bytes)) = some (some (.slice none 0 0), 1, 24) := infoRowZ
theorem val_rw (q : Rat) : val (rw_ q) = q := rval_rv q
theorem own_raw {W : World} {b g cap n : Nat} {q : Nat → Rat} {e : Raw} (h : W.ownsRow b 27 3 (.slice (some ⟨g, 0, none⟩) (n + 1) cap) (n + 1) (rcells q n ++ [.bool e.1, .string e.2.1, .string e.2.2])) : Row W g 0 (n + 1) (fun k => if k < n then rw_ (q k) else e) := by
  refine ⟨fun k hk => ?_⟩
  rw [Nat.zero_add]
  have hl := rcells_length q n
  by_cases hkn : k < n
  · rw [if_pos hkn]
    obtain ⟨h1, h2, h3⟩ := rcells_get q n hkn
    refine ⟨(h.cellAt (k * 3) (by omega)).trans ?_, (h.cellAt (k * 3 + 1) (by omega)).trans ?_, (h.cellAt (k * 3 + 2) (by omega)).trans ?_⟩
    · rw [List.getElem?_append_left (show k * 3 < (rcells q n).length by omega)]; exact h1
    · rw [List.getElem?_append_left (show k * 3 + 1 < (rcells q n).length by omega)]; exact h2
    · rw [List.getElem?_append_left (show k * 3 + 2 < (rcells q n).length by omega)]; exact h3
  · obtain rfl : n = k := by omega
    rw [if_neg hkn]
    refine ⟨(h.cellAt (n * 3) (by omega)).trans ?_, (h.cellAt (n * 3 + 1) (by omega)).trans ?_, (h.cellAt (n * 3 + 2) (by omega)).trans ?_⟩
    · rw [List.getElem?_append_right (show (rcells q n).length ≤ n * 3 by omega), hl, Nat.sub_self]; rfl
    · rw [List.getElem?_append_right (show (rcells q n).length ≤ n * 3 + 1 by omega), hl, show n * 3 + 1 - n * 3 = 1 by omega]; rfl
    · rw [List.getElem?_append_right (show (rcells q n).length ≤ n * 3 + 2 by omega), hl, show n * 3 + 2 - n * 3 = 2 by omega]; rfl
theorem mat_one {W : World} {b m c : Nat} {E : Nat → Raw} {t : TypeId} (h : Row W b 0 m E) : Mat (W.alloc (.cells #[.slice (some ⟨b, 0, none⟩) m c] t)) (.slice (some ⟨W.heap.size, 0, none⟩) 1 1) 1 (fun _ => m) (fun _ => E) := by
  have hb := below_alloc (Below.refl W.heap.size W) (.cells #[.slice (some ⟨b, 0, none⟩) m c] t)
  refine ⟨some ⟨W.heap.size, 0, none⟩, 1, fun _ => some ⟨b, 0, none⟩, fun _ => c, rfl, fun _ => ⟨W.heap.size, 0, rfl, fun i hi => ?_⟩, fun i hi => ⟨fun _ => ⟨b, 0, rfl, h.below hb⟩⟩⟩
  obtain rfl : i = 0 := by omega
  simp
theorem qrow_eq (E : Nat → Nat → Raw) {X : Nat → Raw} {n i : Nat} {e : Raw} (h : X i = e) (k : Nat) : qrow E X n i k = val (if k < n then rw_ (val (E i k)) else e) := by
  unfold qrow
  split
  · exact (val_rw _).symm
  · rw [h]
theorem PZ.cell {W : World} {B g n m i : Nat} {v : Value} {A C : Nat → Nat} {G : Gz} (h : PZ W B g n m i v A C G) (hi : i < n) : W.cell? ⟨g, i, none⟩ = some v := by
  rw [h.top i hi]; simp
set_option maxHeartbeats 2000000 in
set_option maxRecDepth 1000000 in
theorem Solve_sing {w0 w : World} {v xv : Value} {n N : Nat} {L : Nat → Nat} {E : Nat → Nat → Raw} {X : Nat → Raw} (hB : Below w0.heap.size w0 w) (hM : Mat w v n L E) (hk : chk n L = 0) (hm : L 0 = n) (hX : Vec w xv n X)
    (hE : ∀ i, i < n → ∀ k, k < n → FitS N (E i k).2.1 (E i k).2.2) (hFX : ∀ i, i < n → FitS N (X i).2.1 (X i).2.2) (hN : (1 + (n + 2) * N) * 3 ^ n ≤ 1073741824) (ho : bar n n 0 (false, 1) (zrows E X n) = none) :
    Calls Tryd.prog 19 #[v, xv] w fun e w' => e = .returned (.tuple #[.slice none 0 0, .int .i64 5]) ∧ Below w0.heap.size w0 w' := by
  obtain ⟨h0, h16, hm0, hm16, hall⟩ := chk_ok hk
  have hsq : sqr n L = 0 := by unfold sqr; rw [if_pos hk, hm, if_pos rfl]
  have HINV := Aside0.mk (zrows_inv hE hFX hN ho)
  have HSM : Aside0 (1 + (n + 1) * N + N + N ≤ 1073741824) := ⟨by
    have h1 := HINV.out.small
    have h2 := HINV.out.room
    have h3 : 3 ≤ 3 ^ (n - 0) := by
      rw [show n - 0 = (n - 1) + 1 by omega, Nat.pow_succ]
      have := Nat.pow_pos (n := n - 1) (show 0 < 3 by decide)
      omega
    have h4 : (1 + (n + 2) * N) * 3 ≤ (1 + (n + 2) * N) * 3 ^ (n - 0) := Nat.mul_le_mul_left _ h3
    have h5 : (n + 2) * N = (n + 1) * N + N := Nat.succ_mul (n + 1) N
    omega⟩
  have HNS : Aside0 (N ≤ 1073741824) := ⟨by
    have h2 : (n + 2) * N = (n + 1) * N + N := Nat.succ_mul (n + 1) N
    have := HSM.out; omega⟩
  have H0 := Aside0.mk hB
  have HC := Aside0.mk (hsq ▸ square_c (Below.refl _ _) hM (by omega))
  have HM := Aside0.mk hM
  have HEE := Aside0.mk hE
  have HFX := Aside0.mk hFX
  have HL : Aside0 (∀ i, i < n → L i = n) := ⟨fun i hi => (hall i hi).trans hm⟩
  obtain ⟨ga, gc, A, C, rfl, _, _⟩ := hM.ex
  obtain ⟨xa, xc, rfl, hxr⟩ := hX.ex
  obtain ⟨xb, xo, rfl, hxrow⟩ := hxr.ex h0
  have HXR := Aside0.mk hxrow
  have HMK : Aside0 (∀ W : World, (Instr.makeSlice 62 (.int .i64 (n : Int)) (.int .i64 (n : Int))).run Tryd.prog W = .ok (.slice (some ⟨W.heap.size, 0, none⟩) n n) (W.alloc (.cells (madeCells #[.slice none 0 0] n) 63))) := ⟨fun W => run_make_row' (P := Tryd.prog) 62 63 (.slice none 0 0) 24 Tryd.underlying62 infoRowZ rfl .i64 .i64 n (by omega) (by omega) W⟩
  clear hB hM hE hFX hN hall hm hk hX hxr hxrow hsq ho hm0 hm16
  go_enter Tryd.func19, Tryd.ntmps19
  go_upto_region 7 with (go_at_call 34; (with_reducible refine HC.out.mono ?_); rintro e w1 ⟨rfl, hV⟩; have HV := Aside0.mk hV; clear hV)
  have hmk := HMK.out
  go_upto_region 8 with (fail)
  clear hmk
  have hpz := PZ.start w1 n (n + 1) (fun _ => 0) (fun _ => 0) (zrows E X n) w.heap.size HV.out.size
  have hV := below_alloc (Below.refl w1.heap.size w1) (.cells (madeCells #[.slice none 0 0] n) 63)
  obtain ⟨gw, hgw⟩ : ∃ x, w1.heap.size = x := ⟨_, rfl⟩
  obtain ⟨w2, hw2⟩ : ∃ w3, w1.alloc (.cells (madeCells #[.slice none 0 0] n) 63) = w3 := ⟨_, rfl⟩
  rw [hw2] at hpz hV ⊢
  replace HV := Aside0.mk (below_step HV.out hV)
  rw [hgw] at hpz ⊢
  replace HPZ := Aside0.mk hpz
  clear hgw hw2 hV hpz
  go_upto_block 0 with (go_at_call 30; (with_reducible refine (cleanM_o (Below.refl _ _) (HM.out.below HV.out) (by omega) (by omega) h0 h0 HL.out HEE.out HNS.out).mono ?_); rintro e w3 ⟨gcl, A2, C2, rfl, hV, hg, hG, hOW⟩; have HG := Aside0.mk hG; have HOW := Aside0.mk hOW; have HPZ0 := HPZ; replace HPZ := Aside0.mk (HPZ.out.below hV); replace HV := Aside0.mk (below_step HV.out hV); have HGG := Aside0.mk hg; clear hV hG hOW hg)
  have HGW : Aside0 (gw < w2.heap.size) := ⟨HPZ0.out.lt⟩
  obtain ⟨b2, hb2⟩ : ∃ x, w2.heap.size = x := ⟨_, rfl⟩
  rw [hb2] at HG HOW HGW HGG
  obtain ⟨bc, hbc⟩ : ∃ x, w3.heap.size = x := ⟨_, rfl⟩
  have HWW : Aside0 (w.heap.size ≤ gw ∧ w.heap.size ≤ b2) := ⟨HPZ.out.base, Nat.le_trans HPZ.out.base (Nat.le_of_lt HGW.out)⟩
  have HAB : Aside0 (gcl < bc ∧ ∀ j, j < n → b2 ≤ A2 j ∧ A2 j < bc ∧ gcl ≠ A2 j) := ⟨hbc ▸ HG.out.lt, fun j hj => ⟨HG.out.ge j hj, hbc ▸ (HG.out.rows j hj).lt, fun e => HG.out.ne j hj e.symm⟩⟩
  have HINJ := Aside0.mk HG.out.inj
  have HCL : Aside0 (∀ j, 0 ≤ j → j < n → w3.cell? ⟨gcl, j, none⟩ = some (.slice (some ⟨A2 j, 0, none⟩) n (C2 j)) ∧ OwnQ w3 b2 (.slice (some ⟨A2 j, 0, none⟩) n (C2 j)) n (fun k => val (E j k))) := ⟨fun j _ hj => ⟨HG.out.top j hj, HOW.out j hj⟩⟩
  have HBC : Aside0 (bc ≤ w3.heap.size ∧ b2 ≤ bc) := ⟨Nat.le_of_eq hbc.symm, by have := HAB.out.2 0 h0; omega⟩
  clear hb2 hbc HPZ0 HG HOW
  go_cut [] (fun wc => ∃ Aw Cw, Aside0 (GridZ wc w.heap.size gw n (n + 1) Aw Cw (zrows E X n)) ∧ Aside0 (Below w.heap.size w wc))
  case first =>
    go_wp2
    go_loopw [33] (fun v33 wr => ∃ (i : Nat) (Aw Cw : Nat → Nat), i ≤ n ∧ v33 = .int .i64 i ∧ Aside0 (PZ wr w.heap.size gw n (n + 1) i (.slice none 0 0) Aw Cw (zrows E X n)) ∧ Aside0 (∀ j, j < i → bc ≤ Aw j ∧ Aw j < wr.heap.size) ∧ Aside0 (∀ j, i ≤ j → j < n → wr.cell? ⟨gcl, j, none⟩ = some (.slice (some ⟨A2 j, 0, none⟩) n (C2 j)) ∧ OwnQ wr b2 (.slice (some ⟨A2 j, 0, none⟩) n (C2 j)) n (fun k => val (E j k))) ∧ Aside0 (bc ≤ wr.heap.size ∧ b2 ≤ bc) ∧ Aside0 (Below w.heap.size w wr)) (fun v33 _ => n - (intOf v33).toNat)
    case atStart => exact ⟨0, _, _, by omega, rfl, HPZ, ⟨fun j hj => by omega⟩, HCL, HBC, HV⟩
    case round =>
      clear HPZ HCL HBC HV
      obtain ⟨i, Aw, Cw, hi, rfl, HPZ, HAW, HCL, HBC, HV⟩ := hrel
      by_cases hin : i < n
      · have t1 := (HCL.out i (Nat.le_refl _) hin).1
        have HOi := Aside0.mk (HCL.out i (Nat.le_refl _) hin).2
        have E1 := Aside0.mk ((HXR.out.el i hin).below HV.out)
        have FX := HFX.out i hin
        obtain ⟨⟨x0, x1, x2⟩, hex⟩ : ∃ e, X i = e := ⟨_, rfl⟩
        rw [hex] at E1 FX
        have HEX := Aside0.mk hex
        have FXX := Aside0.mk FX
        have e0 := E1.out.c0
        have e1 := E1.out.c1
        have e2 := E1.out.c2
        simp only at e0 e1 e2
        have h1 : ∀ u ∈ [Value.bool x0, Value.string x1, Value.string x2], u.oneCell' = true := by
          intro u hu
          simp only [List.mem_cons, List.not_mem_nil, or_false] at hu
          rcases hu with rfl | rfl | rfl <;> rfl
        have H1 := Aside0.mk h1
        have HL' : Aside0 (b2 ≤ wr.heap.size ∧ (n + 1) * 40 ≤ 140737488355328) := ⟨Nat.le_trans HBC.out.2 HBC.out.1, by omega⟩
        have HFE : Aside0 (∀ i', i' < 1 → ∀ k, k < n + 1 → FitS N (if k < n then rw_ (val (E i k)) else (x0, x1, x2)).2.1 (if k < n then rw_ (val (E i k)) else (x0, x1, x2)).2.2) := ⟨fun _ _ k hk => by
          by_cases hkn : k < n
          · rw [if_pos hkn]; exact ((HEE.out i hin k hkn).val (b := (E i k).1)).raw
          · rw [if_neg hkn]; exact FXX.out⟩
        have HNE : Aside0 (gw ≠ A2 i ∧ ∀ j, j < i → Aw j ≠ A2 i) := ⟨by have := HAB.out.2 i hin; have := HGW.out; omega, fun j hj => by have := HAB.out.2 i hin; have := HAW.out j hj; omega⟩
        clear hex FX h1
        go_wp2_with (first
          | (at_builtin; refine print_append_cells b2 rfl (.tmp 40) (.tmp 45) 30 27 _ 3 40 rfl Tryd.underlying30 infoRat rfl (by decide) (by decide) (.slice (some ⟨A2 i, 0, none⟩) n (C2 i)) n (rcells (fun k => val (E i k)) n) [.bool x0, .string x1, .string x2] rfl rfl rfl H1.out HOi.out (Below.refl b2 wr) HL'.out.1 HL'.out.2 ?_; intro v1 w4 ho1 hb1 hg1 ha1; obtain ⟨b4, c4, rfl, hb4, hl4⟩ := own_shape ho1 (Nat.succ_pos _); have HR4 := Aside0.mk (own_raw (e := (x0, x1, x2)) ho1); have HG4 := Aside0.mk hg1; clear ho1 hb1 hg1 ha1 hb4 hl4 t1 e0 e1 e2)
          | (go_at_call 30; (with_reducible refine (cleanM_c (w0 := w4) (below_alloc (Below.refl _ _) _) (mat_one HR4.out) (by omega) (by omega) (by omega) (by omega) (fun _ _ => rfl) HFE.out HNS.out).mono ?_); rintro e w6 ⟨g6, A6, C6, rfl, hV, hg6, hG6⟩; have HB6 := Aside0.mk hV; have HG6 := Aside0.mk hG6; have t6 := hG6.top 0 (by omega); clear hV hg6 hG6)
          | (go_at_call 37; (with_reducible refine (integers_c (w0 := w4) HB6.out ((HG6.out.rows 0 (by omega)).congr (q' := qrow E X n i) (fun k hk => by rw [← qrow_eq E HEX.out k])) (by omega) (qrow_fit (fun k hk => HEE.out i hin k hk) (HEX.out.symm ▸ FXX.out)) HSM.out).mono ?_); rintro e w7 ⟨g7, rfl, hV, hg7, hz7⟩; have HB7 := Aside0.mk hV; have HZ7 := Aside0.mk hz7; have HG7 := Aside0.mk hg7; clear hV hg7 hz7 t6; (have hc4 : Chg wr w4 (fun b => b = A2 i) := (Chg.refl wr _).grown HG4.out (fun k hk => by simp only [Value.ownBlock, Option.some.injEq] at hk; exact .inl hk.symm)); (replace HPZ := Aside0.mk ((HPZ.out.chg hc4 HNE.out.1 HNE.out.2).below HB7.out)); (have t7 := HPZ.out.cell hin); (have t8 := HPZ.out.ftop i)))
        clear t7 t8
        have hc7 := hc4.below HB7.out
        have hcs : Chg w7 (w7.setCell ⟨gw, i, none⟩ (.slice (some ⟨g7, 0, none⟩) (n + 1) (n + 1))) (fun b => b = gw) := (Chg.refl w7 (fun b => b = gw)).setCell (p := ⟨gw, i, none⟩) (.inl rfl) _
        have hs1 : wr.heap.size ≤ g7 := Nat.le_trans hc4.size (Nat.le_trans HB6.out.size HG7.out)
        have hps := HPZ.out.store hin (.slice (some ⟨g7, 0, none⟩) (n + 1) (n + 1))
        have hz8 : RowZ (w7.setCell ⟨gw, i, none⟩ (.slice (some ⟨g7, 0, none⟩) (n + 1) (n + 1))) g7 (n + 1) (zrows E X n i) := HZ7.out.chg hcs (fun e => by have := HGW.out; have := HBC.out; omega)
        have hnx := hps.next hz8 hs1 (Nat.le_trans HWW.out.2 HL'.out.1) (by have := HGW.out; have := HL'.out.1; omega) (fun j hj => (HAW.out j hj).2)
        obtain ⟨w8, hw8⟩ : ∃ w8, w7.setCell ⟨gw, i, none⟩ (.slice (some ⟨g7, 0, none⟩) (n + 1) (n + 1)) = w8 := ⟨_, rfl⟩
        rw [hw8] at hcs hnx hz8 ⊢
        refine ⟨⟨i + 1, _, _, hin, by go_num, ⟨hnx⟩, ⟨fun j hj => ?_⟩, ⟨fun j hj hjn => ?_⟩, ⟨Nat.le_trans HBC.out.1 (Nat.le_trans hc7.size hcs.size), HBC.out.2⟩, ⟨hcs.out (hc7.out HV.out (fun k hk => by rw [hk]; have := HAB.out.2 i hin; have := HWW.out; omega)) (fun k hk => by rw [hk]; exact HWW.out.1)⟩⟩, ?_⟩
        · by_cases e : j = i
          · simp only [if_pos e]
            exact ⟨by have := HBC.out; omega, hz8.lt⟩
          · simp only [if_neg e]
            have := HAW.out j (by omega)
            have h1 := hc7.size
            have h2 := hcs.size
            omega
        · obtain ⟨q1, q2⟩ := HCL.out j (by omega) hjn
          have hab := HAB.out.2 j hjn
          have hgw := HGW.out
          have hgg := HGG.out
          refine ⟨?_, own_chg2 (own_chg2 q2 hc7 (fun x hx e => ?_)) hcs (fun x hx e => ?_)⟩
          · exact ((cell_chg hcs (Nat.lt_of_lt_of_le (World.block_lt_of_cell? _ _ q1) hc7.size) (show ¬ gcl = gw by omega)).trans (cell_chg hc7 (World.block_lt_of_cell? _ _ q1) (fun e => (HAB.out.2 i hin).2.2 e))).trans q1
          · simp only [Value.ownBlock, Option.some.injEq] at hx
            have := HINJ.out j i hjn hin (hx.trans e)
            omega
          · simp only [Value.ownBlock, Option.some.injEq] at hx
            omega
        · simp [intOf]; omega
      · obtain rfl : n = i := by omega
        go_wp2
        go_meet
        exact ⟨Aw, Cw, ⟨HPZ.out.grid⟩, HV⟩
  case rest =>
    clear HPZ HCL HBC HV
    obtain ⟨Aw, Cw, HG, HV⟩ := hcut
    have HOne : Aside0 (∀ U V : World, Below U.heap.size U V → Calls Tryd.prog 38 #[.int .u64 1] V fun e w' => e = .returned (.string (enc 1)) ∧ Below U.heap.size U w') := ⟨fun U V h => fromUint_s (u := 1) h (by decide)⟩
    go_upto_region 14 with (go_at_call 38; (with_reducible refine (HOne.out _ _ (Below.refl _ _)).mono ?_); rintro e w4 ⟨rfl, hV⟩; replace HG := Aside0.mk (HG.out.below hV); replace HV := Aside0.mk (below_step HV.out hV); clear hV)
    obtain ⟨p11, hp11⟩ : ∃ x, w4.heap.size = x := ⟨_, rfl⟩
    obtain ⟨w5, hw5, HLB, hV⟩ := bz1 w4 (.bool false) (.string (enc 1)) 68
    have HGL : Aside0 (gw < p11 ∧ ∀ i, i < n → Aw i < p11) := ⟨hp11 ▸ ⟨HG.out.lt, fun i hi => (HG.out.rows i hi).lt⟩⟩
    have HWP : Aside0 (w.heap.size ≤ p11) := ⟨hp11 ▸ HV.out.size⟩
    rw [hw5]
    rw [hp11] at HLB ⊢
    replace HG := Aside0.mk (HG.out.below hV)
    replace HV := Aside0.mk (below_step HV.out hV)
    clear hw5 hp11 hV HOne
    go_wp2
    go_loopw [57] (fun v57 wr => ∃ (k K : Nat) (l : Sg) (G : Gz) (A' C' : Nat → Nat), k ≤ n ∧ v57 = .int .i64 k ∧ Aside0 (BInv n k K l G none) ∧ Aside0 (GridZ wr w.heap.size gw n (n + 1) A' C' G) ∧ Aside0 (gw < p11 ∧ ∀ i, i < n → A' i < p11) ∧ Aside0 (Bz wr p11 (.bool l.1) (.string (enc l.2))) ∧ Aside0 (Below w.heap.size w wr)) (fun v57 _ => n - (intOf v57).toNat)
    case atStart => exact ⟨0, _, (false, 1), _, Aw, Cw, by omega, rfl, HINV, HG, HGL, HLB, HV⟩
    case round =>
      clear HG HGL HLB HV
      obtain ⟨k, K, l, G, A', C', hk, rfl, HI, HG, HGL, HLB, HV⟩ := hrel
      by_cases hkn : k < n
      · go_upto_region 17 with (fail)
        obtain ⟨p12, hp12⟩ : ∃ x, wr.heap.size = x := ⟨_, rfl⟩
        have hV := below_alloc (Below.refl wr.heap.size wr) (.cells #[.int .i64 (k : Int)] 3)
        have tk : (wr.alloc (.cells #[.int .i64 (k : Int)] 3)).cell? ⟨wr.heap.size, 0, none⟩ = some (.int .i64 (k : Int)) := by simp
        obtain ⟨w6, hw6⟩ : ∃ x, wr.alloc (.cells #[.int .i64 (k : Int)] 3) = x := ⟨_, rfl⟩
        rw [hw6] at tk hV ⊢
        have HPP : Aside0 (p11 < p12) := ⟨hp12 ▸ HLB.out.lt⟩
        replace HG := Aside0.mk (HG.out.below hV)
        replace HLB := Aside0.mk (HLB.out.below hV)
        replace HV := Aside0.mk (below_step HV.out hV)
        rw [hp12] at tk ⊢
        have HTK := Aside0.mk tk
        clear hw6 hp12 hV
        obtain ⟨out, hout⟩ : ∃ o, pvz G k (n - k) k = o := ⟨_, rfl⟩
        have HOUT := Aside0.mk hout
        clear hout
        go_upto_region 18 with (go_at_call 39; (with_reducible refine (IndexFunc_c (Below.refl _ _) HG.out HTK.out (Nat.le_of_lt hkn) (by omega) (by omega)).mono ?_); rintro e w7 ⟨rfl, hV⟩; replace HG := Aside0.mk (HG.out.below hV); replace HLB := Aside0.mk (HLB.out.below hV); replace HV := Aside0.mk (below_step HV.out hV); replace tk := cell_below hV HTK.out; replace HTK := Aside0.mk tk; clear hV; rw [HOUT.out])
        cases out with
        | none =>
          simp only [pvR]
          go_wp2
          go_ret2
          exact ⟨rfl, below_step H0.out HV.out⟩
        | some a =>
          have hpa := pvz_some HOUT.out
          obtain ⟨d, hd⟩ : ∃ d, a = k + d := ⟨a - k, by omega⟩
          subst hd
          have hkd : k + d < n := by omega
          have hR : pvR k (some (k + d)) = (d : Int) := by simp [pvR]; omega
          rw [hR]
          have HST := Aside0.mk (HI.out.step hkn HOUT.out)
          have HLN : Aside0 (0 < l.2 ∧ nb l.2 ≤ K ∧ (∀ i, i < n → ∀ j, j < n + 1 → nb (G i j).2 ≤ K)) := ⟨HI.out.l0, HI.out.lf, HI.out.ent⟩
          have HK1 : Aside0 (K + K + 1 + 1 ≤ 1073741824) := ⟨by have := HST.out.2; have := HI.out.one; omega⟩
          clear hpa hR
          go_upto_region 20 with (fail)
          go_cut [13] (fun v13 wc => v13 = .int .i64 d ∧ ∃ A1 C1, Aside0 (GridZ wc w.heap.size gw n (n + 1) A1 C1 (swapZ G k (k + d))) ∧ Aside0 (gw < p11 ∧ ∀ i, i < n → A1 i < p11) ∧ Aside0 (Bz wc p11 (.bool l.1) (.string (enc l.2))) ∧ Aside0 (wc.cell? ⟨p12, 0, none⟩ = some (.int .i64 (k : Int))) ∧ Aside0 (Below w.heap.size w wc))
          case first =>
            have HPN : Aside0 (gw ≠ p11 ∧ gw ≠ p12 ∧ w.heap.size ≤ gw) := ⟨by have := HGL.out.1; omega, by have := HGL.out.1; have := HPP.out; omega, HWW.out.1⟩
            by_cases hd : d = 0
            · subst hd
              simp only [Nat.add_zero] at hkd ⊢
              have t1 := HG.out.top k hkn
              have t3 := HG.out.ftop k
              have t6 : ∀ v, (w7.setCell ⟨gw, k, none⟩ v).cell? ⟨p12, 0, none⟩ = some (.int .i64 (k : Int)) := fun v => (World.cell?_setCell_other _ _ _ _ (fun h => HPN.out.2.1 (by injection h))).trans HTK.out
              have t7 : ∀ v, (w7.setCell ⟨gw, k, none⟩ v).cell? ⟨gw, k, none⟩ = some v := fun v => cell_setn (by rw [t1]; rfl) v
              go_region
              clear t1 t3 t6 t7
              have hg := (HG.out.swap hkn hkn).below (below_drew1 (Below.refl _ _))
              have hc : Chg w7 ((w7.setCell ⟨gw, k, none⟩ (.slice (some ⟨A' k, 0, none⟩) (n + 1) (C' k))).setCell ⟨gw, k, none⟩ (.slice (some ⟨A' k, 0, none⟩) (n + 1) (C' k))).drew (fun b => b = gw) := (((Chg.refl w7 (fun b => b = gw)).setCell (p := ⟨gw, k, none⟩) (.inl rfl) _).setCell (p := ⟨gw, k, none⟩) (.inl rfl) _).drew
              go_wp2
              go_meet
              exact ⟨rfl, _, _, ⟨hg⟩, ⟨HGL.out.1, sw_lt HGL.out.2 hkn hkn⟩, ⟨HLB.out.chg hc (fun e => HPN.out.1 e.symm)⟩, ⟨(cell_chg hc (World.block_lt_of_cell? _ _ HTK.out) (fun e => HPN.out.2.1 e.symm)).trans HTK.out⟩, ⟨hc.out HV.out (fun x hx => by rw [hx]; exact HPN.out.2.2)⟩⟩
            · have t1 := HG.out.top k hkn
              have t2 := HG.out.top (k + d) hkd
              have t3 := HG.out.ftop k
              have t4 := HG.out.ftop (k + d)
              have z1 : (0 : Int) ≤ (k : Int) + (d : Int) := by omega
              have z2 : (k : Int) + (d : Int) < (n : Int) := by omega
              have z3 : ((k : Int) + (d : Int)).toNat = k + d := by omega
              have z4 : ¬ (k + d = k) := by omega
              have z5 : ¬ (k = k + d) := by omega
              have z6 : ¬ (d = 0) := by omega
              have t5 : ∀ v, (w7.setCell ⟨gw, k, none⟩ v).cell? ⟨gw, k + d, none⟩ = some (.slice (some ⟨A' (k + d), 0, none⟩) (n + 1) (C' (k + d))) := fun v => (World.cell?_setCell_other _ _ _ _ (fun h => by injection h with _ h; omega)).trans t2
              have t6 : ∀ v, (w7.setCell ⟨gw, k, none⟩ v).cell? ⟨p12, 0, none⟩ = some (.int .i64 (k : Int)) := fun v => (World.cell?_setCell_other _ _ _ _ (fun h => HPN.out.2.1 (by injection h))).trans HTK.out
              go_region
              clear t1 t2 t3 t4 t5 t6 z1 z2 z3 z4 z5 z6
              have hg := (HG.out.swap hkn hkd).below (below_drew1 (Below.refl _ _))
              have hc : Chg w7 ((w7.setCell ⟨gw, k, none⟩ (.slice (some ⟨A' (k + d), 0, none⟩) (n + 1) (C' (k + d)))).setCell ⟨gw, k + d, none⟩ (.slice (some ⟨A' k, 0, none⟩) (n + 1) (C' k))).drew (fun b => b = gw) := (((Chg.refl w7 (fun b => b = gw)).setCell (p := ⟨gw, k, none⟩) (.inl rfl) _).setCell (p := ⟨gw, k + d, none⟩) (.inl rfl) _).drew
              go_wp2
              go_meet
              exact ⟨rfl, _, _, ⟨hg⟩, ⟨HGL.out.1, sw_lt HGL.out.2 hkn hkd⟩, ⟨HLB.out.chg hc (fun e => HPN.out.1 e.symm)⟩, ⟨(cell_chg hc (World.block_lt_of_cell? _ _ HTK.out) (fun e => HPN.out.2.1 e.symm)).trans HTK.out⟩, ⟨hc.out HV.out (fun x hx => by rw [hx]; exact HPN.out.2.2)⟩⟩
          case rest =>
            clear HG HGL HLB HV HTK tk
            obtain ⟨rfl, A1, C1, HG, HGL, HLB, HTK, HV⟩ := hcut
            obtain ⟨G1, hG1⟩ : ∃ G1, swapZ G k (k + d) = G1 := ⟨_, rfl⟩
            rw [hG1] at HG
            have HG1 := Aside0.mk hG1
            have hG1F : Aside0 (∀ i, i < n → ∀ j, j < n + 1 → nb (G1 i j).2 ≤ K) := ⟨fun i hi j hj => by
              rw [← hG1]; unfold swapZ
              split
              · exact HLN.out.2.2 _ hkd j hj
              · split
                · exact HLN.out.2.2 _ hkn j hj
                · exact HLN.out.2.2 _ hi j hj⟩
            have tk := HTK.out
            have hk1 : k < n + 1 := by omega
            have hk2 : (k : Int) < (n : Int) + 1 := by omega
            have kx := (HLB.out); have kl0 := kx.c0; have kl1 := kx.c1; have fl0 := kx.f0; have fl1 := kx.f1; clear kx
            clear hG1
            go_upto_region 22 with (go_at_call 41; (with_reducible refine (eliminate_c (w0 := w) HV.out HG.out hkn (by omega) (by omega) (by omega) hG1F.out HLN.out.2.1 HLN.out.1 HK1.out).mono ?_); rintro e w8 ⟨rfl, hV, hG, hc⟩; replace HLB := Aside0.mk (HLB.out.chg hc (by rintro ⟨i, hi, e⟩; have := HGL.out.2 i hi; omega)); replace HTK := Aside0.mk ((cell_chg hc (World.block_lt_of_cell? _ _ HTK.out) (by rintro ⟨i, hi, e⟩; have := HGL.out.2 i hi; have := HPP.out; simp only at e; omega)).trans HTK.out); replace HG := Aside0.mk hG; replace HV := Aside0.mk hV; clear hV hG hc tk kl0 kl1 fl0 fl1)
            obtain ⟨G2, hG2⟩ : ∃ G2, elimZ G1 k l = G2 := ⟨_, rfl⟩
            rw [hG2] at HG
            have HG2 := Aside0.mk hG2
            clear hG2
            obtain ⟨⟨z1, z2⟩, hz⟩ : ∃ e, G2 k k = e := ⟨_, rfl⟩
            have E1 := Aside0.mk ((HG.out.rows k hkn).el k (by omega))
            rw [hz] at E1
            have HZ := Aside0.mk hz
            clear hz
            (refine wp_region_below_tail 7 (by kernel_rfl) (by kernel_rfl) ?_); (simp only [List.take_succ_cons, List.take_zero, List.drop_succ_cons, List.drop_zero]); (repeat (refine wpQuiet_step (fun K hK => ?_); go_simp; first | (refine hK _ ?_; clear hK K) | (apply Exists.intro; refine ⟨fun V hV => ?_, hK _ ?_⟩; (focus ((first | rfl | ((have kx := cell_below hV HTK.out); go_simp; first | rfl | fail) | ((have kx := (HG.out.below hV).top k hkn); go_simp; first | rfl | fail) | ((have kx := (E1.out.below hV)); have kc0 := kx.c0; have kc1 := kx.c1; clear kx; go_simp; first | rfl | fail)))); clear hK K))); (refine wpQuiet_nil ?_); (intro V hV)
            replace HG := Aside0.mk (HG.out.below hV)
            replace HLB := Aside0.mk (HLB.out.below hV)
            replace HV := Aside0.mk (below_step HV.out hV)
            clear hV E1
            have kx := (HLB.out); have kl0 := kx.c0; have kl1 := kx.c1; have fl0 := kx.f0; have fl1 := kx.f1; clear kx
            go_wp2
            clear kl0 kl1 fl0 fl1
            have hc : Chg V ((V.setCell ⟨p11, 0, none⟩ (.bool z1)).setCell ⟨p11, 1, none⟩ (.string (enc z2))) (fun b => b = p11) := chg_set2 (S := fun b => b = p11) (o := 0) (Chg.refl _ _) (.inl rfl) _ _
            have hlz : G2 k k = G (k + d) k := by
              rw [← HG2.out]; unfold elimZ; rw [if_pos rfl, ← HG1.out, swapZ_left]
            refine ⟨⟨k + 1, 3 * K, (z1, z2), G2, A1, C1, hkn, by go_num, ⟨?_⟩, ⟨HG.out.chg2 hc (fun e => by have := HGL.out.1; omega) (fun i hi e => by have := HGL.out.2 i hi; omega)⟩, HGL, ⟨HLB.out.set _ _⟩, ⟨hc.out HV.out (fun x hx => by rw [hx]; exact HWP.out)⟩⟩, ?_⟩
            · rw [← HZ.out, hlz, ← HG2.out, ← HG1.out]
              exact HST.out.1
            · simp [intOf]; omega
      · obtain rfl : n = k := by omega
        exact absurd HI.out.end_ (by simp)
end Go.Proofs.YtiamgjepcagohaaDoor.P
end
section
/- The example that the laws try. -/
namespace Go.Proofs.YtiamgjepcagohaaDoor.P
open Go Go.RowKit Go.Proofs.YtiamgjepcagohaaDoorW.PrintWords Go.Proofs.YtiamgjepcagohaaDoorW.PrintLast Go.Proofs.YtiamgjepcagohaaDoorW.PrintMore Go.Proofs.YtiamgjepcagohaaDoor.Ari

theorem lit2 (W : World) (a b : Rat) (t : TypeId) {E : Nat → Raw} (h0 : E 0 = rw_ a) (h1 : E 1 = rw_ b) :
    Row (W.alloc (.cells #[.bool (ngv a), .string (enc a.num.natAbs), .string (encD a.den), .bool (ngv b), .string (enc b.num.natAbs), .string (encD b.den)] t)) W.heap.size 0 2 E := by
  refine ⟨fun k hk => ?_⟩
  rcases (by omega : k = 0 ∨ k = 1) with rfl | rfl
  · rw [h0]; constructor <;> simp
  · rw [h1]; constructor <;> simp
theorem lit2z (W : World) (t : TypeId) : Row (W.alloc (.cells #[.bool false, .string ⟨#[]⟩, .string ⟨#[]⟩, .bool false, .string ⟨#[]⟩, .string ⟨#[]⟩] t)) W.heap.size 0 2 exX := by
  refine ⟨fun k hk => ?_⟩
  rcases (by omega : k = 0 ∨ k = 1) with rfl | rfl
  · constructor <;> simp [exX]
  · constructor <;> simp [exX]
theorem mat2 {W : World} {b0 b1 c0 c1 m : Nat} {E : Nat → Nat → Raw} {t : TypeId} (h0 : Row W b0 0 m (E 0)) (h1 : Row W b1 0 m (E 1)) :
    Mat (W.alloc (.cells #[.slice (some ⟨b0, 0, none⟩) m c0, .slice (some ⟨b1, 0, none⟩) m c1] t)) (.slice (some ⟨W.heap.size, 0, none⟩) 2 2) 2 (fun _ => m) E := by
  have hb := below_alloc (Below.refl W.heap.size W) (.cells #[.slice (some ⟨b0, 0, none⟩) m c0, .slice (some ⟨b1, 0, none⟩) m c1] t)
  refine ⟨some ⟨W.heap.size, 0, none⟩, 2, fun i => if i = 0 then some ⟨b0, 0, none⟩ else some ⟨b1, 0, none⟩, fun i => if i = 0 then c0 else c1, rfl, fun _ => ⟨W.heap.size, 0, rfl, fun i hi => ?_⟩, fun i hi => ⟨fun _ => ?_⟩⟩
  · rcases (by omega : i = 0 ∨ i = 1) with rfl | rfl
    · simp
    · simp
  · rcases (by omega : i = 0 ∨ i = 1) with rfl | rfl
    · exact ⟨b0, 0, rfl, h0.below hb⟩
    · exact ⟨b1, 0, rfl, h1.below hb⟩
theorem ex_chk : chk 2 (fun _ => 2) = 0 := by decide
set_option maxHeartbeats 2000000 in
set_option maxRecDepth 1000000 in
theorem awake_c {w0 w : World} (hB : Below w0.heap.size w0 w) :
    Calls Tryd.prog 12 #[] w fun e w' => e = .returned (.bool true) ∧ Below w0.heap.size w0 w' := by
  have H0 := Aside0.mk hB
  obtain ⟨c1, hc1⟩ : ∃ q : Rat, ((1 : Int) : Rat) = q := ⟨_, rfl⟩
  obtain ⟨c2, hc2⟩ : ∃ q : Rat, ((2 : Int) : Rat) = q := ⟨_, rfl⟩
  obtain ⟨c4, hc4⟩ : ∃ q : Rat, ((4 : Int) : Rat) = q := ⟨_, rfl⟩
  obtain ⟨cm, hcm⟩ : ∃ q : Rat, ((-2 : Int) : Rat) = q := ⟨_, rfl⟩
  have HI1 : Aside0 (∀ U V : World, Below U.heap.size U V → Calls Tryd.prog 32 #[.int .i64 1] V fun e w' => e = .returned (rv c1) ∧ Below U.heap.size U w') := ⟨fun U V h => hc1 ▸ Int_c h (by omega) (by omega)⟩
  have HI2 : Aside0 (∀ U V : World, Below U.heap.size U V → Calls Tryd.prog 32 #[.int .i64 2] V fun e w' => e = .returned (rv c2) ∧ Below U.heap.size U w') := ⟨fun U V h => hc2 ▸ Int_c h (by omega) (by omega)⟩
  have HI4 : Aside0 (∀ U V : World, Below U.heap.size U V → Calls Tryd.prog 32 #[.int .i64 4] V fun e w' => e = .returned (rv c4) ∧ Below U.heap.size U w') := ⟨fun U V h => hc4 ▸ Int_c h (by omega) (by omega)⟩
  have HIm : Aside0 (∀ U V : World, Below U.heap.size U V → Calls Tryd.prog 32 #[.int .i64 (-2)] V fun e w' => e = .returned (rv cm) ∧ Below U.heap.size U w') := ⟨fun U V h => hcm ▸ Int_c h (by omega) (by omega)⟩
  have HE0 : Aside0 (exE 0 0 = rw_ c1 ∧ exE 0 1 = rw_ c2 ∧ exE 1 0 = rw_ c2 ∧ exE 1 1 = rw_ c4) := ⟨by rw [← hc1, ← hc2, ← hc4]; exact ⟨rfl, rfl, rfl, rfl⟩⟩
  have HK0 : Aside0 (kv exOut.G exOut.piv 1 exOut.piv.length 0 = cm ∧ kv exOut.G exOut.piv 1 exOut.piv.length 1 = c1) := ⟨by rw [← hcm, ← hc1]; exact ⟨ex_k0, ex_k1⟩⟩
  have HB : Aside0 (Below w.heap.size w w) := ⟨Below.refl _ _⟩
  clear hB hc1 hc2 hc4 hcm
  go_enter Tryd.func12, Tryd.ntmps12
  go_upto_region 2 with (first
    | (go_at_call 32; (with_reducible refine (HI1.out _ _ (Below.refl _ _)).mono ?_); rintro e w1 ⟨rfl, hV⟩; replace HB := Aside0.mk (below_step HB.out hV); clear hV)
    | (go_at_call 32; (with_reducible refine (HI2.out _ _ (Below.refl _ _)).mono ?_); rintro e w3 ⟨rfl, hV⟩; have HR := Aside0.mk ((lit2 _ c1 c2 _ HE0.out.1 HE0.out.2.1).below hV); replace HB := Aside0.mk (below_step (below_alloc HB.out _) hV); clear hV)
    | (go_at_call 32; (with_reducible refine (HI2.out _ _ (Below.refl _ _)).mono ?_); rintro e w2 ⟨rfl, hV⟩; replace HB := Aside0.mk (below_step HB.out hV); clear hV)
    | (go_at_call 32; (with_reducible refine (HI4.out _ _ (Below.refl _ _)).mono ?_); rintro e w4 ⟨rfl, hV⟩; replace HR := Aside0.mk (HR.out.below hV); replace HB := Aside0.mk (below_step HB.out hV); clear hV))
  have hm1 := mat2 (t := 30) (E := exE) (c0 := 2) (c1 := 2) (HR.out.below (below_alloc (Below.refl _ _) (.cells #[.bool (ngv c2), .string (enc c2.num.natAbs), .string (encD c2.den), .bool (ngv c4), .string (enc c4.num.natAbs), .string (encD c4.den)] 27))) (lit2 w4 c2 c4 27 HE0.out.2.2.1 HE0.out.2.2.2)
  rw [show ∀ o, (w4.alloc o).heap.size = w4.heap.size + 1 from fun o => by simp] at hm1
  replace HB := Aside0.mk (below_alloc (below_alloc HB.out (.cells #[.bool (ngv c2), .string (enc c2.num.natAbs), .string (encD c2.den), .bool (ngv c4), .string (enc c4.num.natAbs), .string (encD c4.den)] 27)) (.cells #[.slice (some ⟨w2.heap.size, 0, none⟩) 2 2, .slice (some ⟨w4.heap.size, 0, none⟩) 2 2] 30))
  obtain ⟨wm, hwm⟩ : ∃ x, (w4.alloc (.cells #[.bool (ngv c2), .string (enc c2.num.natAbs), .string (encD c2.den), .bool (ngv c4), .string (enc c4.num.natAbs), .string (encD c4.den)] 27)).alloc (.cells #[.slice (some ⟨w2.heap.size, 0, none⟩) 2 2, .slice (some ⟨w4.heap.size, 0, none⟩) 2 2] 30) = x := ⟨_, rfl⟩
  rw [hwm] at hm1 HB ⊢
  have HM := Aside0.mk hm1
  clear hm1 hwm HR
  obtain ⟨p2, hp2⟩ : ∃ x, w4.heap.size + 1 = x := ⟨_, rfl⟩
  rw [hp2] at HM ⊢
  clear hp2
  go_upto_region 4 with (first
    | (go_at_call 19; (with_reducible refine (Solve_sing (N := 1) (Below.refl _ _) (HM.out.below (below_alloc (Below.refl _ _) _)) ex_chk rfl ⟨⟨_, _, rfl, ⟨fun _ => ⟨_, _, rfl, lit2z _ _⟩⟩⟩⟩ (fun i _ k _ => ex_fit i k) (fun i _ => ex_fitX i) (by decide) ex_bar).mono ?_); rintro e w5 ⟨rfl, hV⟩; replace HM := Aside0.mk ((HM.out.below (below_alloc (Below.refl _ _) _)).below hV); replace HB := Aside0.mk (below_step (below_alloc HB.out _) hV); clear hV)
    | (go_at_call 18; (with_reducible refine (Kernel_ok (Below.refl _ _) HM.out ex_chk rfl ex_okay).mono ?_); rintro e w6 ⟨u, rfl, hV, hU⟩; replace HB := Aside0.mk (below_step HB.out hV); have HU := Aside0.mk hU; clear hV hU))
  have hu := HU.out
  rw [show (frees exOut.piv 2) = [1] by rw [ex_piv]; decide] at hu
  obtain ⟨ga, gc, A, C, rfl, hg, hr⟩ := hu.ex
  obtain ⟨gb, go, rfl, hc⟩ := hg (by decide)
  have t0 := hc 0 (by decide)
  obtain ⟨rb, ro, hA, hrow⟩ := (hr 0 (by decide)).ex (by decide)
  rw [hA, Nat.add_zero] at t0
  have E0 := hrow.el 0 (by decide)
  have E1 := hrow.el 1 (by decide)
  have hk0 : (kv exOut.G exOut.piv ([1].getD 0 0) exOut.piv.length 0) = cm := HK0.out.1
  have hk1 : (kv exOut.G exOut.piv ([1].getD 0 0) exOut.piv.length 1) = c1 := HK0.out.2
  rw [hk0] at E0
  rw [hk1] at E1
  have HT := Aside0.mk t0
  rw [show ro + 0 * 3 = ro by omega] at E0
  rw [show ro + 1 * 3 = ro + 3 by omega] at E1
  replace E0 := Aside0.mk E0
  replace E1 := Aside0.mk E1
  clear hg hc t0 hr hA hrow hk0 hk1 hu HU
  rw [show ([1] : List Nat).length = 1 from rfl]
  (refine wp_region_below (by kernel_rfl) (by kernel_rfl) ?_); (repeat (refine wpQuiet_step (fun K hK => ?_); go_simp; first | (refine hK _ ?_; clear hK K) | (apply Exists.intro; refine ⟨fun V hV => ?_, hK _ ?_⟩; (focus ((first | rfl | ((with_reducible exact HIm.out _ _ hV)) | ((with_reducible exact HI1.out _ _ hV)) | ((have kx := cell_below hV HT.out); go_simp; first | rfl | fail) | ((have kx := (E0.out.below hV)); have kc0 := kx.c0; have kc1 := kx.c1; have kc2 := kx.c2; clear kx; go_simp; first | rfl | fail) | ((have kx := (E1.out.below hV)); have kc0 := kx.c0; have kc1 := kx.c1; have kc2 := kx.c2; clear kx; go_simp; first | rfl | fail)))); clear hK K))); (refine wpQuiet_nil ?_); (intro V hV)
  go_wp2
  go_ret
  exact ⟨rfl, below_step H0.out (below_step HB.out hV)⟩
end Go.Proofs.YtiamgjepcagohaaDoor.P
end
section
/- LinearLimits: its walk. -/
namespace Go.Proofs.YtiamgjepcagohaaDoor.P
open Go Go.RowKit Go.Proofs.YtiamgjepcagohaaDoorW.PrintWords Go.Proofs.YtiamgjepcagohaaDoorW.PrintLast Go.Proofs.YtiamgjepcagohaaDoorW.PrintMore Go.Proofs.YtiamgjepcagohaaDoor.Ari

/-- The three answers that the law awaits. -/
def wantL (n m : Nat) : Nat := if n = 0 ∨ m = 0 then 4 else if 16 < n ∨ 16 < m then 2 else 0
def wantS (n m : Nat) : Nat := if wantL n m = 0 ∧ n ≠ m then 4 else wantL n m
def wantZ (n m : Nat) : Nat := if wantL n m = 0 then (if n = m then 5 else 4) else wantL n m
theorem chk_const (n m : Nat) : chk n (fun _ => m) = wantL n m := by
  unfold chk wantL
  by_cases h1 : n = 0
  · rw [if_pos h1, if_pos (.inl h1)]
  · rw [if_neg h1]
    by_cases h2 : m = 0
    · rw [if_pos h2, if_pos (.inr h2)]
    · rw [if_neg h2, if_pos (show ∀ i, i < n → m = m from fun _ _ => rfl), if_neg (show ¬ (n = 0 ∨ m = 0) by omega)]
theorem sqr_const (n m : Nat) : sqr n (fun _ => m) = wantS n m := by
  unfold sqr wantS
  rw [chk_const]
  by_cases h : wantL n m = 0
  · rw [if_pos h]
    by_cases h2 : n = m
    · rw [if_pos h2, if_neg (by omega), h]
    · rw [if_neg h2, if_pos ⟨h, h2⟩]
  · rw [if_neg h, if_neg (fun h2 => h h2.1)]
section
variable {w0 w : World} {v xv : Value} {n m : Nat}
theorem Reduce_z (hB : Below w0.heap.size w0 w) (hM : Mat w v n (fun _ => m) zeE) (hn : n ≤ 19) :
    Calls Tryd.prog 11 #[v] w fun e w' => ∃ u1 u2, e = .returned (.tuple #[u1, u2, .int .i64 (wantL n m)]) ∧ Below w0.heap.size w0 w' := by
  by_cases h : wantL n m = 0
  · rw [h]
    exact (Reduce_ok hB hM ((chk_const n m).trans h) rfl (ze_okay n m m (Nat.le_refl _))).mono fun e w' ⟨_, _, _, _, _, h1, h2, _⟩ => ⟨_, _, h1, h2⟩
  · exact (Reduce_bad hB hM (by omega) (chk_const n m) h).mono fun e w' ⟨h1, h2⟩ => ⟨_, _, h1, h2⟩
theorem Rank_z (hB : Below w0.heap.size w0 w) (hM : Mat w v n (fun _ => m) zeE) (hn : n ≤ 19) :
    Calls Tryd.prog 17 #[v] w fun e w' => e = .returned (.tuple #[.int .i64 0, .int .i64 (wantL n m)]) ∧ Below w0.heap.size w0 w' := by
  by_cases h : wantL n m = 0
  · rw [h]
    exact (Rank_ok hB hM ((chk_const n m).trans h) rfl (ze_okay n m m (Nat.le_refl _))).mono fun e w' ⟨h1, h2⟩ => ⟨h1, h2⟩
  · exact Rank_bad hB hM (by omega) (chk_const n m) h
theorem Kernel_z (hB : Below w0.heap.size w0 w) (hM : Mat w v n (fun _ => m) zeE) (hn : n ≤ 19) :
    Calls Tryd.prog 18 #[v] w fun e w' => ∃ u, e = .returned (.tuple #[u, .int .i64 (wantL n m)]) ∧ Below w0.heap.size w0 w' := by
  by_cases h : wantL n m = 0
  · rw [h]
    exact (Kernel_ok hB hM ((chk_const n m).trans h) rfl (ze_okay n m m (Nat.le_refl _))).mono fun e w' ⟨u, h1, h2, _⟩ => ⟨u, h1, h2⟩
  · exact (Kernel_bad hB hM (by omega) (chk_const n m) h).mono fun e w' ⟨h1, h2⟩ => ⟨_, h1, h2⟩
theorem Determinant_z (hB : Below w0.heap.size w0 w) (hM : Mat w v n (fun _ => m) zeE) (hn : n ≤ 19) :
    Calls Tryd.prog 15 #[v] w fun e w' => ∃ q : Rat, e = .returned (.tuple #[rv q, .int .i64 (wantS n m)]) ∧ Below w0.heap.size w0 w' := by
  by_cases h : wantS n m = 0
  · have h2 : wantL n m = 0 ∧ n = m := by
      unfold wantS at h
      split at h
      · cases h
      · exact ⟨h, by omega⟩
    obtain ⟨h2, rfl⟩ := h2
    rw [h]
    exact (Determinant_ok hB hM ((chk_const n n).trans h2) rfl (ze_okay n n n (Nat.le_refl _))).mono fun e w' ⟨h1, h2⟩ => ⟨_, h1, h2⟩
  · exact (Determinant_bad hB hM (by omega) (sqr_const n m) h).mono fun e w' ⟨h1, h2⟩ => ⟨0, h1, h2⟩
theorem Apply_z (hB : Below w0.heap.size w0 w) (hM : Mat w v n (fun _ => m) zeE) (hX : Vec w xv m (fun _ => (false, ⟨#[]⟩, ⟨#[]⟩))) (hn : n ≤ 19) :
    Calls Tryd.prog 20 #[v, xv] w fun e w' => ∃ u, e = .returned (.tuple #[u, .int .i64 (wantL n m)]) ∧ Below w0.heap.size w0 w' := by
  by_cases h : wantL n m = 0
  · rw [h]
    have hk := (chk_const n m).trans h
    obtain ⟨h0, h16, hm0, hm16, _⟩ := chk_ok hk
    exact (Apply_ok (N := 1) hB hM hk rfl hX (fun i _ k _ => ze_fit) (fun k _ => ze_fit) (by have h1 : m ≤ 16 := hm16; omega)).mono fun e w' ⟨b, h1, h2, _⟩ => ⟨_, h1, h2⟩
  · exact (Apply_bad hB hM (by omega) (chk_const n m) h).mono fun e w' ⟨h1, h2⟩ => ⟨_, h1, h2⟩
theorem Solve_z (hB : Below w0.heap.size w0 w) (hM : Mat w v n (fun _ => m) zeE) (hX : Vec w xv n (fun _ => (false, ⟨#[]⟩, ⟨#[]⟩))) (hn : n ≤ 19) :
    Calls Tryd.prog 19 #[v, xv] w fun e w' => ∃ u, e = .returned (.tuple #[u, .int .i64 (wantZ n m)]) ∧ Below w0.heap.size w0 w' := by
  by_cases h : wantS n m = 0
  · have h2 : wantL n m = 0 ∧ n = m := by
      unfold wantS at h
      split at h
      · cases h
      · exact ⟨h, by omega⟩
    obtain ⟨h2, rfl⟩ := h2
    have hk := (chk_const n n).trans h2
    obtain ⟨h0, h16, _, _, _⟩ := chk_ok hk
    have hz : wantZ n n = 5 := by unfold wantZ; rw [if_pos h2, if_pos rfl]
    rw [hz]
    refine (Solve_sing (N := 1) hB hM hk rfl hX (fun i _ k _ => ze_fit) (fun i _ => ze_fit) ?_ (ze_bar h0)).mono fun e w' ⟨h1, h2⟩ => ⟨_, h1, h2⟩
    have h3 : 3 ^ n ≤ 3 ^ 16 := Nat.pow_le_pow_right (by decide) h16
    calc (1 + (n + 2) * 1) * 3 ^ n ≤ 19 * 3 ^ 16 := Nat.mul_le_mul (by omega) h3
      _ ≤ 1073741824 := by decide
  · have hz : wantZ n m = wantS n m := by
      unfold wantZ wantS at *
      by_cases h2 : wantL n m = 0
      · rw [if_pos h2] at *
        by_cases h3 : n = m
        · rw [if_neg (by omega)] at h; exact absurd h2 h
        · rw [if_neg h3, if_pos ⟨h2, h3⟩]
      · rw [if_neg h2, if_neg (fun h3 => h2 h3.1)]
    rw [hz]
    exact (Solve_bad hB hM (by omega) (sqr_const n m) h).mono fun e w' ⟨h1, h2⟩ => ⟨_, h1, h2⟩
end
theorem zg_mat {W : World} {b r m i : Nat} {v : Value} (h : KG W b r v m (List.range i) (fun _ _ => 0)) : Mat W v i (fun _ => m) zeE := by
  have := h.mat
  rw [List.length_range] at this
  obtain ⟨ga, gc, A, C, h1, h2, h3⟩ := this.ex
  refine ⟨ga, gc, A, C, h1, h2, fun j hj => ⟨fun hm => ?_⟩⟩
  obtain ⟨rb, ro, e, hr⟩ := (h3 j hj).ex hm
  refine ⟨rb, ro, e, ⟨fun k hk => ?_⟩⟩
  have := hr.el k hk
  rw [raw_zero] at this
  exact this
theorem zeVec {W : World} {b m : Nat} (h : RowV W b m (fun _ => 0)) : Vec W (.slice (some ⟨b, 0, none⟩) m m) m (fun _ => (false, ⟨#[]⟩, ⟨#[]⟩)) := by
  have := h.vec (c := m)
  rw [raw_zero] at this
  exact this
theorem made_rowV1 (w : World) (o : Obj) (m : Nat) : RowV ((w.alloc o).alloc (.cells (madeCells #[.bool false, .string ⟨#[]⟩, .string ⟨#[]⟩] (m * 3)) 27)) (w.heap.size + 1) m (fun _ => 0) := by
  have := made_rowV (w.alloc o) m
  rwa [show (w.alloc o).heap.size = w.heap.size + 1 by simp] at this
set_option maxHeartbeats 2000000 in
set_option maxRecDepth 1000000 in
theorem LinearLimits_c {w : World} {a0 a1 : Int} (h0 : 0 ≤ a0) (h01 : a0 < 256) (h1 : 0 ≤ a1) (h11 : a1 < 256) :
    Calls Tryd.prog 5 #[.int .u8 a0, .int .u8 a1] w fun e w' => e = .returned (.bool true) ∧ Below w.heap.size w w' := by
  obtain ⟨x, rfl⟩ := Int.eq_ofNat_of_zero_le h0
  obtain ⟨y, rfl⟩ := Int.eq_ofNat_of_zero_le h1
  obtain ⟨n, hn⟩ : ∃ n, x % 20 = n := ⟨_, rfl⟩
  obtain ⟨m, hm⟩ : ∃ m, y % 20 = m := ⟨_, rfl⟩
  have hn1 : ((x : Int)).tmod 20 = (n : Int) := by rw [Int.tmod_eq_emod_of_nonneg h0]; omega
  have hm1 : ((y : Int)).tmod 20 = (m : Int) := by rw [Int.tmod_eq_emod_of_nonneg h1]; omega
  have hn19 : n ≤ 19 := by omega
  have hm19 : m ≤ 19 := by omega
  have HX := Aside0.mk (And.intro hn hm)
  clear hn hm h0 h01 h1 h11
  go_enter Tryd.func5, Tryd.ntmps5
  go_upto_block 0 with (fail)
  have HMK : Aside0 (∀ k : Nat, k ≤ 19 → ∀ W : World, (Instr.makeSlice 30 (.int .i64 (k : Int)) (.int .i64 (k : Int))).run Tryd.prog W = .ok (.slice (some ⟨W.heap.size, 0, none⟩) k k) (W.alloc (.cells (madeCells #[.bool false, .string ⟨#[]⟩, .string ⟨#[]⟩] (k * 3)) 27))) := ⟨fun k hk W => make_rats k (by omega) W⟩
  have HK : Aside0 (KG w w.heap.size w.heap.size (.slice none 0 0) m (List.range 0) (fun _ _ => 0)) := ⟨KG.nil _ _ _ _ _⟩
  have HB : Aside0 (Below w.heap.size w w) := ⟨Below.refl _ _⟩
  go_cut [7] (fun v7 wc => Aside0 (Mat wc v7 n (fun _ => m) zeE) ∧ Aside0 (Below w.heap.size w wc))
  case first =>
    go_wp2
    go_loopw [7, 8] (fun v7 v8 wr => ∃ i r : Nat, i ≤ n ∧ v8 = .int .i64 i ∧ Aside0 (KG wr w.heap.size r v7 m (List.range i) (fun _ _ => 0)) ∧ Aside0 (r ≤ wr.heap.size) ∧ Aside0 (Below w.heap.size w wr)) (fun _ v8 _ => n - (intOf v8).toNat)
    case atStart => exact ⟨0, _, by omega, rfl, HK, ⟨Nat.le_refl _⟩, HB⟩
    case round =>
      clear HK HB
      obtain ⟨i, r, hi, rfl, HK, HR, HB⟩ := hrel
      by_cases hin : i < n
      · have hb0 := below_alloc (Below.refl wr.heap.size wr) (.cells (madeCells #[.bool false, .string ⟨#[]⟩, .string ⟨#[]⟩] (m * 3)) 27)
        have HKW := Aside0.mk (HK.out.below hb0)
        obtain ⟨A2, k1, k2, k3, k4, k5⟩ := HKW.out.ex
        have K1 := Aside0.mk k1
        have K2 := Aside0.mk k2
        have K3 := Aside0.mk k3
        have K4 := Aside0.mk k4
        have HBW : Aside0 (w.heap.size ≤ (wr.alloc (.cells (madeCells #[.bool false, .string ⟨#[]⟩, .string ⟨#[]⟩] (m * 3)) 27)).heap.size) := ⟨Nat.le_trans HB.out.size hb0.size⟩
        have HB2 := Aside0.mk (below_step HB.out hb0)
        have H1 : Aside0 (∀ u ∈ [Value.slice (some ⟨wr.heap.size, 0, none⟩) m m], u.oneCell' = true) := ⟨fun u hu => by
          simp only [List.mem_singleton] at hu
          rw [hu]; rfl⟩
        have HLL : Aside0 (((List.range i).length + 1) * 24 ≤ 140737488355328) := ⟨by rw [List.length_range]; omega⟩
        have hmk := HMK.out m hm19
        clear k1 k2 k3 k4 k5 hb0
        go_wp2_with (at_builtin; refine print_append_cells (W := wr.alloc (.cells (madeCells #[.bool false, .string ⟨#[]⟩, .string ⟨#[]⟩] (m * 3)) 27)) w.heap.size rfl (.tmp 36) (.tmp 39) 24 30 _ 1 24 rfl Tryd.underlying24 infoRow rfl (by decide) (by decide) u7 (List.range i).length ((List.range (List.range i).length).map fun j => .slice (some ⟨A2 j, 0, none⟩) m m) [.slice (some ⟨wr.heap.size, 0, none⟩) m m] rfl (congrArg (fun z => Value.slice (some ⟨z, 0, none⟩) 1 1) (show wr.heap.size + 1 = (wr.alloc _).heap.size by simp)) rfl H1.out K1.out (Below.refl w.heap.size _) HBW.out HLL.out ?_; intro v1 w6 ho1 hb1 hg1 ha1; have hkg := KG.push (V := fun _ _ => (0 : Rat)) (f := i) K2.out K3.out K4.out (made_rowV wr m) HR.out ho1 hg1 ha1; rw [← List.range_succ] at hkg; have HKG := Aside0.mk hkg; have HB6 := Aside0.mk ((chg_of_belowB hb1).out HB2.out (fun k hk => hk)); clear hkg ho1 hb1 hg1 ha1 hmk)
        refine ⟨⟨i + 1, _, hin, by go_num, HKG, ⟨Nat.le_refl _⟩, HB6⟩, ?_⟩
        simp [intOf]; omega
      · obtain rfl : n = i := by omega
        go_wp2
        go_meet
        exact ⟨⟨zg_mat HK.out⟩, HB⟩
  case rest =>
    clear HK HB
    obtain ⟨HM, HB⟩ := hcut
    obtain ⟨wl, hwl⟩ : ∃ x, wantL n m = x := ⟨_, rfl⟩
    obtain ⟨sq, hsq⟩ : ∃ x, wantS n m = x := ⟨_, rfl⟩
    obtain ⟨sg0, hsg⟩ : ∃ x, wantZ n m = x := ⟨_, rfl⟩
    have HWL := Aside0.mk hwl
    have HSS : Aside0 (sq = (if wl = 0 ∧ n ≠ m then 4 else wl) ∧ sg0 = (if wl = 0 then (if n = m then 5 else 4) else wl)) := ⟨by rw [← hsq, ← hsg]; unfold wantS wantZ; rw [hwl]; exact ⟨rfl, rfl⟩⟩
    have HRed : Aside0 (∀ U, Mat U u7 n (fun _ => m) zeE → Calls Tryd.prog 11 #[u7] U fun e w' => ∃ u1 u2, e = .returned (.tuple #[u1, u2, .int .i64 (wl : Int)]) ∧ Below U.heap.size U w') := ⟨fun U h => hwl ▸ Reduce_z (Below.refl _ _) h hn19⟩
    have HRnk : Aside0 (∀ U, Mat U u7 n (fun _ => m) zeE → Calls Tryd.prog 17 #[u7] U fun e w' => e = .returned (.tuple #[.int .i64 0, .int .i64 (wl : Int)]) ∧ Below U.heap.size U w') := ⟨fun U h => hwl ▸ Rank_z (Below.refl _ _) h hn19⟩
    have HKer : Aside0 (∀ U, Mat U u7 n (fun _ => m) zeE → Calls Tryd.prog 18 #[u7] U fun e w' => ∃ u, e = .returned (.tuple #[u, .int .i64 (wl : Int)]) ∧ Below U.heap.size U w') := ⟨fun U h => hwl ▸ Kernel_z (Below.refl _ _) h hn19⟩
    have HDet : Aside0 (∀ U, Mat U u7 n (fun _ => m) zeE → Calls Tryd.prog 15 #[u7] U fun e w' => ∃ q : Rat, e = .returned (.tuple #[rv q, .int .i64 (sq : Int)]) ∧ Below U.heap.size U w') := ⟨fun U h => hsq ▸ Determinant_z (Below.refl _ _) h hn19⟩
    have HSol : Aside0 (∀ (U : World) (b : Nat), Mat U u7 n (fun _ => m) zeE → RowV U b n (fun _ => 0) → Calls Tryd.prog 19 #[u7, .slice (some ⟨b, 0, none⟩) n n] U fun e w' => ∃ u, e = .returned (.tuple #[u, .int .i64 (sg0 : Int)]) ∧ Below U.heap.size U w') := ⟨fun U b h hr => hsg ▸ Solve_z (Below.refl _ _) h (zeVec hr) hn19⟩
    have HApp : Aside0 (∀ (U : World) (b : Nat), Mat U u7 n (fun _ => m) zeE → RowV U b m (fun _ => 0) → Calls Tryd.prog 20 #[u7, .slice (some ⟨b, 0, none⟩) m m] U fun e w' => ∃ u, e = .returned (.tuple #[u, .int .i64 (wl : Int)]) ∧ Below U.heap.size U w') := ⟨fun U b h hr => hwl ▸ Apply_z (Below.refl _ _) h (zeVec hr) hn19⟩
    have hmk1 := HMK.out n hn19
    have hmk2 := HMK.out m hm19
    clear hwl hsq hsg
    go_upto_block 2 with (fail)
    go_cut [9] (fun v9 wd => v9 = .int .i64 (wl : Int) ∧ wd = wc)
    case first =>
      by_cases c1 : n = 0
      · have : wl = 4 := by rw [← HWL.out]; unfold wantL; rw [if_pos (.inl c1)]
        subst this
        have c1' : ((n : Int) == 0) = true := by simp; omega
        clear c1
        go_wp2
        go_meet
        exact ⟨rfl, rfl⟩
      · have c1' : ((n : Int) == 0) = false := by simp; omega
        by_cases c2 : m = 0
        · have : wl = 4 := by rw [← HWL.out]; unfold wantL; rw [if_pos (.inr c2)]
          subst this
          have c2' : ((m : Int) == 0) = true := by simp; omega
          clear c1 c2
          go_wp2
          go_meet
          exact ⟨rfl, rfl⟩
        · have c2' : ((m : Int) == 0) = false := by simp; omega
          by_cases c3 : 16 < n
          · have : wl = 2 := by rw [← HWL.out]; unfold wantL; rw [if_neg (by omega), if_pos (.inl c3)]
            subst this
            have c3' : decide ((16 : Int) < (n : Int)) = true := decide_eq_true (by omega)
            clear c1 c2
            go_wp2
            go_meet
            exact ⟨rfl, rfl⟩
          · have c3' : decide ((16 : Int) < (n : Int)) = false := decide_eq_false (by omega)
            by_cases c4 : 16 < m
            · have : wl = 2 := by rw [← HWL.out]; unfold wantL; rw [if_neg (by omega), if_pos (.inr c4)]
              subst this
              have c4' : decide ((16 : Int) < (m : Int)) = true := decide_eq_true (by omega)
              clear c1 c2
              go_wp2
              go_meet
              exact ⟨rfl, rfl⟩
            · have : wl = 0 := by rw [← HWL.out]; unfold wantL; rw [if_neg (by omega), if_neg (by omega)]
              subst this
              have c4' : decide ((16 : Int) < (m : Int)) = false := decide_eq_false (by omega)
              clear c1 c2
              go_wp2
              go_meet
              exact ⟨rfl, rfl⟩
    case rest =>
      obtain ⟨rfl, rfl⟩ := hcut
      by_cases d1 : wl = 0
      · by_cases d2 : n = m
        · have e1 : sq = 0 := by rw [HSS.out.1, if_neg (by omega), d1]
          have e2 : sg0 = 5 := by rw [HSS.out.2, if_pos d1, if_pos d2]
          subst e1 e2 d1
          subst d2
          go_wp2_with (first | (go_at_call 11; (with_reducible refine (HRed.out _ HM.out).mono ?_); rintro e w1 ⟨u1, u2, rfl, hV⟩; replace HM := Aside0.mk (HM.out.below hV); replace HB := Aside0.mk (below_step HB.out hV); clear hV) | (go_at_call 17; (with_reducible refine (HRnk.out _ HM.out).mono ?_); rintro e w1 ⟨rfl, hV⟩; replace HM := Aside0.mk (HM.out.below hV); replace HB := Aside0.mk (below_step HB.out hV); clear hV) | (go_at_call 18; (with_reducible refine (HKer.out _ HM.out).mono ?_); rintro e w1 ⟨u3, rfl, hV⟩; replace HM := Aside0.mk (HM.out.below hV); replace HB := Aside0.mk (below_step HB.out hV); clear hV) | (go_at_call 15; (with_reducible refine (HDet.out _ HM.out).mono ?_); rintro e w1 ⟨q, rfl, hV⟩; replace HM := Aside0.mk (HM.out.below hV); replace HB := Aside0.mk (below_step HB.out hV); clear hV) | (go_at_call 19; (with_reducible refine (HSol.out _ _ (HM.out.below (below_alloc (below_alloc (Below.refl _ _) _) _)) (made_rowV1 _ _ _)).mono ?_); rintro e w1 ⟨u4, rfl, hV⟩; replace HM := Aside0.mk ((HM.out.below (below_alloc (below_alloc (Below.refl _ _) _) _)).below hV); replace HB := Aside0.mk (below_step (below_step HB.out (below_alloc (below_alloc (Below.refl _ _) _) _)) hV); clear hV) | (go_at_call 20; (with_reducible refine (HApp.out _ _ (HM.out.below (below_alloc (Below.refl _ _) _)) (made_rowV _ _)).mono ?_); rintro e w1 ⟨u5, rfl, hV⟩; replace HM := Aside0.mk ((HM.out.below (below_alloc (Below.refl _ _) _)).below hV); replace HB := Aside0.mk (below_step (below_step HB.out (below_alloc (Below.refl _ _) _)) hV); clear hV) | (go_at_call 12; (with_reducible refine (awake_c (Below.refl _ _)).mono ?_); rintro e w1 ⟨rfl, hV⟩; replace HM := Aside0.mk (HM.out.below hV); replace HB := Aside0.mk (below_step HB.out hV); clear hV)); go_ret; exact ⟨rfl, HB.out⟩
        · have e1 : sq = 4 := by rw [HSS.out.1, if_pos ⟨d1, d2⟩]
          have e2 : sg0 = 4 := by rw [HSS.out.2, if_pos d1, if_neg d2]
          subst e1 e2 d1
          have d2' : ((n : Int) == (m : Int)) = false := by simp; omega
          clear d2
          go_wp2_with (first | (go_at_call 11; (with_reducible refine (HRed.out _ HM.out).mono ?_); rintro e w1 ⟨u1, u2, rfl, hV⟩; replace HM := Aside0.mk (HM.out.below hV); replace HB := Aside0.mk (below_step HB.out hV); clear hV) | (go_at_call 17; (with_reducible refine (HRnk.out _ HM.out).mono ?_); rintro e w1 ⟨rfl, hV⟩; replace HM := Aside0.mk (HM.out.below hV); replace HB := Aside0.mk (below_step HB.out hV); clear hV) | (go_at_call 18; (with_reducible refine (HKer.out _ HM.out).mono ?_); rintro e w1 ⟨u3, rfl, hV⟩; replace HM := Aside0.mk (HM.out.below hV); replace HB := Aside0.mk (below_step HB.out hV); clear hV) | (go_at_call 15; (with_reducible refine (HDet.out _ HM.out).mono ?_); rintro e w1 ⟨q, rfl, hV⟩; replace HM := Aside0.mk (HM.out.below hV); replace HB := Aside0.mk (below_step HB.out hV); clear hV) | (go_at_call 19; (with_reducible refine (HSol.out _ _ (HM.out.below (below_alloc (below_alloc (Below.refl _ _) _) _)) (made_rowV1 _ _ _)).mono ?_); rintro e w1 ⟨u4, rfl, hV⟩; replace HM := Aside0.mk ((HM.out.below (below_alloc (below_alloc (Below.refl _ _) _) _)).below hV); replace HB := Aside0.mk (below_step (below_step HB.out (below_alloc (below_alloc (Below.refl _ _) _) _)) hV); clear hV) | (go_at_call 20; (with_reducible refine (HApp.out _ _ (HM.out.below (below_alloc (Below.refl _ _) _)) (made_rowV _ _)).mono ?_); rintro e w1 ⟨u5, rfl, hV⟩; replace HM := Aside0.mk ((HM.out.below (below_alloc (Below.refl _ _) _)).below hV); replace HB := Aside0.mk (below_step (below_step HB.out (below_alloc (Below.refl _ _) _)) hV); clear hV) | (go_at_call 12; (with_reducible refine (awake_c (Below.refl _ _)).mono ?_); rintro e w1 ⟨rfl, hV⟩; replace HM := Aside0.mk (HM.out.below hV); replace HB := Aside0.mk (below_step HB.out hV); clear hV)); go_ret; exact ⟨rfl, HB.out⟩
      · have e1 : sq = wl := by rw [HSS.out.1, if_neg (fun h => d1 h.1)]
        have e2 : sg0 = wl := by rw [HSS.out.2, if_neg d1]
        have d1' : ((wl : Int) == 0) = false := by simp; omega
        clear d1 HSS
        subst e1 e2
        go_wp2_with (first | (go_at_call 11; (with_reducible refine (HRed.out _ HM.out).mono ?_); rintro e w1 ⟨u1, u2, rfl, hV⟩; replace HM := Aside0.mk (HM.out.below hV); replace HB := Aside0.mk (below_step HB.out hV); clear hV) | (go_at_call 17; (with_reducible refine (HRnk.out _ HM.out).mono ?_); rintro e w1 ⟨rfl, hV⟩; replace HM := Aside0.mk (HM.out.below hV); replace HB := Aside0.mk (below_step HB.out hV); clear hV) | (go_at_call 18; (with_reducible refine (HKer.out _ HM.out).mono ?_); rintro e w1 ⟨u3, rfl, hV⟩; replace HM := Aside0.mk (HM.out.below hV); replace HB := Aside0.mk (below_step HB.out hV); clear hV) | (go_at_call 15; (with_reducible refine (HDet.out _ HM.out).mono ?_); rintro e w1 ⟨q, rfl, hV⟩; replace HM := Aside0.mk (HM.out.below hV); replace HB := Aside0.mk (below_step HB.out hV); clear hV) | (go_at_call 19; (with_reducible refine (HSol.out _ _ (HM.out.below (below_alloc (below_alloc (Below.refl _ _) _) _)) (made_rowV1 _ _ _)).mono ?_); rintro e w1 ⟨u4, rfl, hV⟩; replace HM := Aside0.mk ((HM.out.below (below_alloc (below_alloc (Below.refl _ _) _) _)).below hV); replace HB := Aside0.mk (below_step (below_step HB.out (below_alloc (below_alloc (Below.refl _ _) _) _)) hV); clear hV) | (go_at_call 20; (with_reducible refine (HApp.out _ _ (HM.out.below (below_alloc (Below.refl _ _) _)) (made_rowV _ _)).mono ?_); rintro e w1 ⟨u5, rfl, hV⟩; replace HM := Aside0.mk ((HM.out.below (below_alloc (Below.refl _ _) _)).below hV); replace HB := Aside0.mk (below_step (below_step HB.out (below_alloc (Below.refl _ _) _)) hV); clear hV) | (go_at_call 12; (with_reducible refine (awake_c (Below.refl _ _)).mono ?_); rintro e w1 ⟨rfl, hV⟩; replace HM := Aside0.mk (HM.out.below hV); replace HB := Aside0.mk (below_step HB.out hV); clear hV)); go_ret; exact ⟨rfl, HB.out⟩
end Go.Proofs.YtiamgjepcagohaaDoor.P
end
