/- ClSame: lemmas of this claim, of 4 texts. -/
import Derived.Test.YtiamgjepcagohaaGreatDoorClBar
import Derived.BigRegion
import Derived.Test.YtiamgjepcagohaaGreatDoorClApp
section
/- Package linear: Solve. -/
namespace Go.Proofs.YtiamgjepcagohaaGreatDoor.P
open Go Go.RowKit Go.Proofs.YtiamgjepcagohaaGreatDoorW.PrintWords Go.Proofs.YtiamgjepcagohaaGreatDoorW.PrintLast Go.Proofs.YtiamgjepcagohaaGreatDoorW.PrintMore Go.Proofs.YtiamgjepcagohaaGreatDoor.Ari

set_option maxHeartbeats 2000000 in
set_option maxRecDepth 1000000 in
theorem Solve_bad {w0 w : World} {v xv : Value} {n y : Nat} {L : Nat → Nat} {E : Nat → Nat → Raw} (hB : Below w0.heap.size w0 w) (hM : Mat w v n L E) (hn : n ≤ 1000) (hx : sqr n L = y) (h0 : y ≠ 0) :
    Calls Tryz.prog 12 #[v, xv] w fun e w' => e = .returned (.tuple #[.slice none 0 0, .int .i64 y]) ∧ Below w0.heap.size w0 w' := by
  have HC := Aside0.mk (hx ▸ square_c hB hM hn)
  have hx2 : ((y : Int) == 0) = false := by simp; omega
  clear hB hM hx h0
  go_enter Tryz.func12, Tryz.ntmps12
  go_wp2_with (go_at_call 30; (with_reducible refine HC.out.mono ?_); rintro e w1 ⟨rfl, hV⟩; have HV := Aside0.mk hV; clear hV)
  go_ret2
  exact ⟨rfl, HV.out⟩

theorem val_rw (q : Rat) : val (rw_ q) = q := rval_rv q
theorem own_raw {W : World} {b g cap n : Nat} {q : Nat → Rat} {e : Raw} (h : W.ownsRow b 49 3 (.slice (some ⟨g, 0, none⟩) (n + 1) cap) (n + 1) (rcells q n ++ [.bool e.1, .string e.2.1, .string e.2.2])) : Row W g 0 (n + 1) (fun k => if k < n then rw_ (q k) else e) := by
  refine ⟨fun k hk => ?_⟩
  rw [Nat.zero_add]
  have hl := rcells_length q n
  by_cases hkn : k < n
  · rw [if_pos hkn]
    obtain ⟨h1, h2, h3⟩ := rcells_get q n hkn
    refine ⟨(h.cellAt (k * 3) (by omega)).trans ?_, (h.cellAt (k * 3 + 1) (by omega)).trans ?_, (h.cellAt (k * 3 + 2) (by omega)).trans ?_⟩
    · rw [List.getElem?_append_left (show k * 3 < (rcells q n).length by omega)]; exact h1
    · rw [List.getElem?_append_left (show k * 3 + 1 < (rcells q n).length by omega)]; exact h2
    · rw [List.getElem?_append_left (show k * 3 + 2 < (rcells q n).length by omega)]; exact h3
  · obtain rfl : n = k := by omega
    rw [if_neg hkn]
    refine ⟨(h.cellAt (n * 3) (by omega)).trans ?_, (h.cellAt (n * 3 + 1) (by omega)).trans ?_, (h.cellAt (n * 3 + 2) (by omega)).trans ?_⟩
    · rw [List.getElem?_append_right (show (rcells q n).length ≤ n * 3 by omega), hl, Nat.sub_self]; rfl
    · rw [List.getElem?_append_right (show (rcells q n).length ≤ n * 3 + 1 by omega), hl, show n * 3 + 1 - n * 3 = 1 by omega]; rfl
    · rw [List.getElem?_append_right (show (rcells q n).length ≤ n * 3 + 2 by omega), hl, show n * 3 + 2 - n * 3 = 2 by omega]; rfl
theorem mat_one {W : World} {b m c : Nat} {E : Nat → Raw} {t : TypeId} (h : Row W b 0 m E) : Mat (W.alloc (.cells #[.slice (some ⟨b, 0, none⟩) m c] t)) (.slice (some ⟨W.heap.size, 0, none⟩) 1 1) 1 (fun _ => m) (fun _ => E) := by
  have hb := below_alloc (Below.refl W.heap.size W) (.cells #[.slice (some ⟨b, 0, none⟩) m c] t)
  refine ⟨some ⟨W.heap.size, 0, none⟩, 1, fun _ => some ⟨b, 0, none⟩, fun _ => c, rfl, fun _ => ⟨W.heap.size, 0, rfl, fun i hi => ?_⟩, fun i hi => ⟨fun _ => ⟨b, 0, rfl, h.below hb⟩⟩⟩
  obtain rfl : i = 0 := by omega
  simp
theorem qrow_eq (E : Nat → Nat → Raw) {X : Nat → Raw} {n i : Nat} {e : Raw} (h : X i = e) (k : Nat) : qrow E X n i k = val (if k < n then rw_ (val (E i k)) else e) := by
  unfold qrow
  split
  · exact (val_rw _).symm
  · rw [h]
theorem PZ.cell {W : World} {B g n m i : Nat} {v : Value} {A C : Nat → Nat} {G : Gz} (h : PZ W B g n m i v A C G) (hi : i < n) : W.cell? ⟨g, i, none⟩ = some v := by
  rw [h.top i hi]; simp
/-- The solution that Solve reads off. -/
def solv (G : Gz) (n : Nat) : Nat → Rat := fun i => qq ((G i n).1 != (G i i).1) (G i n).2 (G i i).2
set_option maxHeartbeats 2000000 in
set_option maxRecDepth 1000000 in
theorem Solve_g {w0 w : World} {v xv : Value} {n N : Nat} {L : Nat → Nat} {E : Nat → Nat → Raw} {X : Nat → Raw} {OUT : Option Gz} (hB : Below w0.heap.size w0 w) (hM : Mat w v n L E) (hk : chk n L = 0) (hm : L 0 = n) (hX : Vec w xv n X)
    (hE : ∀ i, i < n → ∀ k, k < n → FitS N (E i k).2.1 (E i k).2.2) (hFX : ∀ i, i < n → FitS N (X i).2.1 (X i).2.2) (hN : (1 + (n + 2) * N) * 3 ^ n ≤ 1073741824) (ho : bar n n 0 (false, 1) (zrows E X n) = OUT) :
    Calls Tryz.prog 12 #[v, xv] w fun e w' => ((OUT = none ∧ e = .returned (.tuple #[.slice none 0 0, .int .i64 5])) ∨ ∃ G' b, OUT = some G' ∧ e = .returned (.tuple #[.slice (some ⟨b, 0, none⟩) n n, .int .i64 0]) ∧ RowV w' b n (solv G' n)) ∧ Below w0.heap.size w0 w' := by
  obtain ⟨h0, h16, hm0, hm16, hall⟩ := chk_ok hk
  have hsq : sqr n L = 0 := by unfold sqr; rw [if_pos hk, hm, if_pos rfl]
  have HINV := Aside0.mk (zrows_inv hE hFX hN ho)
  have HSM : Aside0 (1 + (n + 1) * N + N + N ≤ 1073741824) := ⟨by
    have h1 := HINV.out.small
    have h2 := HINV.out.room
    have h3 : 3 ≤ 3 ^ (n - 0) := by
      rw [show n - 0 = (n - 1) + 1 by omega, Nat.pow_succ]
      have := Nat.pow_pos (n := n - 1) (show 0 < 3 by decide)
      omega
    have h4 : (1 + (n + 2) * N) * 3 ≤ (1 + (n + 2) * N) * 3 ^ (n - 0) := Nat.mul_le_mul_left _ h3
    have h5 : (n + 2) * N = (n + 1) * N + N := Nat.succ_mul (n + 1) N
    omega⟩
  have HNS : Aside0 (N ≤ 1073741824) := ⟨by
    have h2 : (n + 2) * N = (n + 1) * N + N := Nat.succ_mul (n + 1) N
    have := HSM.out; omega⟩
  have H0 := Aside0.mk hB
  have HC := Aside0.mk (hsq ▸ square_c (Below.refl _ _) hM (by omega))
  have HM := Aside0.mk hM
  have HEE := Aside0.mk hE
  have HFX := Aside0.mk hFX
  have HL : Aside0 (∀ i, i < n → L i = n) := ⟨fun i hi => (hall i hi).trans hm⟩
  obtain ⟨ga, gc, A, C, rfl, _, _⟩ := hM.ex
  obtain ⟨xa, xc, rfl, hxr⟩ := hX.ex
  obtain ⟨xb, xo, rfl, hxrow⟩ := hxr.ex h0
  have HXR := Aside0.mk hxrow
  have HMK : Aside0 (∀ W : World, (Instr.makeSlice 61 (.int .i64 (n : Int)) (.int .i64 (n : Int))).run Tryz.prog W = .ok (.slice (some ⟨W.heap.size, 0, none⟩) n n) (W.alloc (.cells (madeCells #[.slice none 0 0] n) 63))) := ⟨fun W => run_make_row' (P := Tryz.prog) 61 63 (.slice none 0 0) 24 Tryz.underlying61 infoRowZ rfl .i64 .i64 n (by omega) (by omega) W⟩
  clear hB hM hE hFX hN hall hm hk hX hxr hxrow hsq ho hm0 hm16
  go_enter Tryz.func12, Tryz.ntmps12
  go_upto_region 7 with (go_at_call 30; (with_reducible refine HC.out.mono ?_); rintro e w1 ⟨rfl, hV⟩; have HV := Aside0.mk hV; clear hV)
  have hmk := HMK.out
  go_upto_region 8 with (fail)
  clear hmk
  have hpz := PZ.start w1 n (n + 1) (fun _ => 0) (fun _ => 0) (zrows E X n) w.heap.size HV.out.size
  have hV := below_alloc (Below.refl w1.heap.size w1) (.cells (madeCells #[.slice none 0 0] n) 63)
  obtain ⟨gw, hgw⟩ : ∃ x, w1.heap.size = x := ⟨_, rfl⟩
  obtain ⟨w2, hw2⟩ : ∃ w3, w1.alloc (.cells (madeCells #[.slice none 0 0] n) 63) = w3 := ⟨_, rfl⟩
  rw [hw2] at hpz hV ⊢
  replace HV := Aside0.mk (below_step HV.out hV)
  rw [hgw] at hpz ⊢
  replace HPZ := Aside0.mk hpz
  clear hgw hw2 hV hpz
  go_upto_block 0 with (go_at_call 31; (with_reducible refine (cleanM_o (Below.refl _ _) (HM.out.below HV.out) (by omega) (by omega) h0 h0 HL.out HEE.out HNS.out).mono ?_); rintro e w3 ⟨gcl, A2, C2, rfl, hV, hg, hG, hOW⟩; have HG := Aside0.mk hG; have HOW := Aside0.mk hOW; have HPZ0 := HPZ; replace HPZ := Aside0.mk (HPZ.out.below hV); replace HV := Aside0.mk (below_step HV.out hV); have HGG := Aside0.mk hg; clear hV hG hOW hg)
  have HGW : Aside0 (gw < w2.heap.size) := ⟨HPZ0.out.lt⟩
  obtain ⟨b2, hb2⟩ : ∃ x, w2.heap.size = x := ⟨_, rfl⟩
  rw [hb2] at HG HOW HGW HGG
  obtain ⟨bc, hbc⟩ : ∃ x, w3.heap.size = x := ⟨_, rfl⟩
  have HWW : Aside0 (w.heap.size ≤ gw ∧ w.heap.size ≤ b2) := ⟨HPZ.out.base, Nat.le_trans HPZ.out.base (Nat.le_of_lt HGW.out)⟩
  have HAB : Aside0 (gcl < bc ∧ ∀ j, j < n → b2 ≤ A2 j ∧ A2 j < bc ∧ gcl ≠ A2 j) := ⟨hbc ▸ HG.out.lt, fun j hj => ⟨HG.out.ge j hj, hbc ▸ (HG.out.rows j hj).lt, fun e => HG.out.ne j hj e.symm⟩⟩
  have HINJ := Aside0.mk HG.out.inj
  have HCL : Aside0 (∀ j, 0 ≤ j → j < n → w3.cell? ⟨gcl, j, none⟩ = some (.slice (some ⟨A2 j, 0, none⟩) n (C2 j)) ∧ OwnQ w3 b2 (.slice (some ⟨A2 j, 0, none⟩) n (C2 j)) n (fun k => val (E j k))) := ⟨fun j _ hj => ⟨HG.out.top j hj, HOW.out j hj⟩⟩
  have HBC : Aside0 (bc ≤ w3.heap.size ∧ b2 ≤ bc) := ⟨Nat.le_of_eq hbc.symm, by have := HAB.out.2 0 h0; omega⟩
  clear hb2 hbc HPZ0 HG HOW
  go_cut [] (fun wc => ∃ Aw Cw, Aside0 (GridZ wc w.heap.size gw n (n + 1) Aw Cw (zrows E X n)) ∧ Aside0 (Below w.heap.size w wc))
  case first =>
    go_wp2
    go_loopw [33] (fun v33 wr => ∃ (i : Nat) (Aw Cw : Nat → Nat), i ≤ n ∧ v33 = .int .i64 i ∧ Aside0 (PZ wr w.heap.size gw n (n + 1) i (.slice none 0 0) Aw Cw (zrows E X n)) ∧ Aside0 (∀ j, j < i → bc ≤ Aw j ∧ Aw j < wr.heap.size) ∧ Aside0 (∀ j, i ≤ j → j < n → wr.cell? ⟨gcl, j, none⟩ = some (.slice (some ⟨A2 j, 0, none⟩) n (C2 j)) ∧ OwnQ wr b2 (.slice (some ⟨A2 j, 0, none⟩) n (C2 j)) n (fun k => val (E j k))) ∧ Aside0 (bc ≤ wr.heap.size ∧ b2 ≤ bc) ∧ Aside0 (Below w.heap.size w wr)) (fun v33 _ => n - (intOf v33).toNat)
    case atStart => exact ⟨0, _, _, by omega, rfl, HPZ, ⟨fun j hj => by omega⟩, HCL, HBC, HV⟩
    case round =>
      clear HPZ HCL HBC HV
      obtain ⟨i, Aw, Cw, hi, rfl, HPZ, HAW, HCL, HBC, HV⟩ := hrel
      by_cases hin : i < n
      · have t1 := (HCL.out i (Nat.le_refl _) hin).1
        have HOi := Aside0.mk (HCL.out i (Nat.le_refl _) hin).2
        have E1 := Aside0.mk ((HXR.out.el i hin).below HV.out)
        have FX := HFX.out i hin
        obtain ⟨⟨x0, x1, x2⟩, hex⟩ : ∃ e, X i = e := ⟨_, rfl⟩
        rw [hex] at E1 FX
        have HEX := Aside0.mk hex
        have FXX := Aside0.mk FX
        have e0 := E1.out.c0
        have e1 := E1.out.c1
        have e2 := E1.out.c2
        simp only at e0 e1 e2
        have h1 : ∀ u ∈ [Value.bool x0, Value.string x1, Value.string x2], u.oneCell' = true := by
          intro u hu
          simp only [List.mem_cons, List.not_mem_nil, or_false] at hu
          rcases hu with rfl | rfl | rfl <;> rfl
        have H1 := Aside0.mk h1
        have HL' : Aside0 (b2 ≤ wr.heap.size ∧ (n + 1) * 40 ≤ 140737488355328) := ⟨Nat.le_trans HBC.out.2 HBC.out.1, by omega⟩
        have HFE : Aside0 (∀ i', i' < 1 → ∀ k, k < n + 1 → FitS N (if k < n then rw_ (val (E i k)) else (x0, x1, x2)).2.1 (if k < n then rw_ (val (E i k)) else (x0, x1, x2)).2.2) := ⟨fun _ _ k hk => by
          by_cases hkn : k < n
          · rw [if_pos hkn]; exact ((HEE.out i hin k hkn).val (b := (E i k).1)).raw
          · rw [if_neg hkn]; exact FXX.out⟩
        have HNE : Aside0 (gw ≠ A2 i ∧ ∀ j, j < i → Aw j ≠ A2 i) := ⟨by have := HAB.out.2 i hin; have := HGW.out; omega, fun j hj => by have := HAB.out.2 i hin; have := HAW.out j hj; omega⟩
        clear hex FX h1
        go_wp2_with (first
          | (at_builtin; refine print_append_cells b2 rfl (.tmp 40) (.tmp 45) 23 49 _ 3 40 rfl Tryz.underlying23 infoRat rfl (by decide) (by decide) (.slice (some ⟨A2 i, 0, none⟩) n (C2 i)) n (rcells (fun k => val (E i k)) n) [.bool x0, .string x1, .string x2] rfl rfl rfl H1.out HOi.out (Below.refl b2 wr) HL'.out.1 HL'.out.2 ?_; intro v1 w4 ho1 hb1 hg1 ha1; obtain ⟨b4, c4, rfl, hb4, hl4⟩ := own_shape ho1 (Nat.succ_pos _); have HR4 := Aside0.mk (own_raw (e := (x0, x1, x2)) ho1); have HG4 := Aside0.mk hg1; clear ho1 hb1 hg1 ha1 hb4 hl4 t1 e0 e1 e2)
          | (go_at_call 31; (with_reducible refine (cleanM_c (w0 := w4) (below_alloc (Below.refl _ _) _) (mat_one HR4.out) (by omega) (by omega) (by omega) (by omega) (fun _ _ => rfl) HFE.out HNS.out).mono ?_); rintro e w6 ⟨g6, A6, C6, rfl, hV, hg6, hG6⟩; have HB6 := Aside0.mk hV; have HG6 := Aside0.mk hG6; have t6 := hG6.top 0 (by omega); clear hV hg6 hG6)
          | (go_at_call 32; (with_reducible refine (integers_c (w0 := w4) HB6.out ((HG6.out.rows 0 (by omega)).congr (q' := qrow E X n i) (fun k hk => by rw [← qrow_eq E HEX.out k])) (by omega) (qrow_fit (fun k hk => HEE.out i hin k hk) (HEX.out.symm ▸ FXX.out)) HSM.out).mono ?_); rintro e w7 ⟨g7, rfl, hV, hg7, hz7⟩; have HB7 := Aside0.mk hV; have HZ7 := Aside0.mk hz7; have HG7 := Aside0.mk hg7; clear hV hg7 hz7 t6; (have hc4 : Chg wr w4 (fun b => b = A2 i) := (Chg.refl wr _).grown HG4.out (fun k hk => by simp only [Value.ownBlock, Option.some.injEq] at hk; exact .inl hk.symm)); (replace HPZ := Aside0.mk ((HPZ.out.chg hc4 HNE.out.1 HNE.out.2).below HB7.out)); (have t7 := HPZ.out.cell hin); (have t8 := HPZ.out.ftop i)))
        clear t7 t8
        have hc7 := hc4.below HB7.out
        have hcs : Chg w7 (w7.setCell ⟨gw, i, none⟩ (.slice (some ⟨g7, 0, none⟩) (n + 1) (n + 1))) (fun b => b = gw) := (Chg.refl w7 (fun b => b = gw)).setCell (p := ⟨gw, i, none⟩) (.inl rfl) _
        have hs1 : wr.heap.size ≤ g7 := Nat.le_trans hc4.size (Nat.le_trans HB6.out.size HG7.out)
        have hps := HPZ.out.store hin (.slice (some ⟨g7, 0, none⟩) (n + 1) (n + 1))
        have hz8 : RowZ (w7.setCell ⟨gw, i, none⟩ (.slice (some ⟨g7, 0, none⟩) (n + 1) (n + 1))) g7 (n + 1) (zrows E X n i) := HZ7.out.chg hcs (fun e => by have := HGW.out; have := HBC.out; omega)
        have hnx := hps.next hz8 hs1 (Nat.le_trans HWW.out.2 HL'.out.1) (by have := HGW.out; have := HL'.out.1; omega) (fun j hj => (HAW.out j hj).2)
        obtain ⟨w8, hw8⟩ : ∃ w8, w7.setCell ⟨gw, i, none⟩ (.slice (some ⟨g7, 0, none⟩) (n + 1) (n + 1)) = w8 := ⟨_, rfl⟩
        rw [hw8] at hcs hnx hz8 ⊢
        refine ⟨⟨i + 1, _, _, hin, by go_num, ⟨hnx⟩, ⟨fun j hj => ?_⟩, ⟨fun j hj hjn => ?_⟩, ⟨Nat.le_trans HBC.out.1 (Nat.le_trans hc7.size hcs.size), HBC.out.2⟩, ⟨hcs.out (hc7.out HV.out (fun k hk => by rw [hk]; have := HAB.out.2 i hin; have := HWW.out; omega)) (fun k hk => by rw [hk]; exact HWW.out.1)⟩⟩, ?_⟩
        · by_cases e : j = i
          · simp only [if_pos e]
            exact ⟨by have := HBC.out; omega, hz8.lt⟩
          · simp only [if_neg e]
            have := HAW.out j (by omega)
            have h1 := hc7.size
            have h2 := hcs.size
            omega
        · obtain ⟨q1, q2⟩ := HCL.out j (by omega) hjn
          have hab := HAB.out.2 j hjn
          have hgw := HGW.out
          have hgg := HGG.out
          refine ⟨?_, own_chg2 (own_chg2 q2 hc7 (fun x hx e => ?_)) hcs (fun x hx e => ?_)⟩
          · exact ((cell_chg hcs (Nat.lt_of_lt_of_le (World.block_lt_of_cell? _ _ q1) hc7.size) (show ¬ gcl = gw by omega)).trans (cell_chg hc7 (World.block_lt_of_cell? _ _ q1) (fun e => (HAB.out.2 i hin).2.2 e))).trans q1
          · simp only [Value.ownBlock, Option.some.injEq] at hx
            have := HINJ.out j i hjn hin (hx.trans e)
            omega
          · simp only [Value.ownBlock, Option.some.injEq] at hx
            omega
        · simp [intOf]; omega
      · obtain rfl : n = i := by omega
        go_wp2
        go_meet
        exact ⟨Aw, Cw, ⟨HPZ.out.grid⟩, HV⟩
  case rest =>
    clear HPZ HCL HBC HV
    obtain ⟨Aw, Cw, HG, HV⟩ := hcut
    have HOne : Aside0 (∀ U V : World, Below U.heap.size U V → Calls Tryz.prog 33 #[.int .u64 1] V fun e w' => e = .returned (.string (enc 1)) ∧ Below U.heap.size U w') := ⟨fun U V h => fromUint_s (u := 1) h (by decide)⟩
    go_upto_region 14 with (go_at_call 33; (with_reducible refine (HOne.out _ _ (Below.refl _ _)).mono ?_); rintro e w4 ⟨rfl, hV⟩; replace HG := Aside0.mk (HG.out.below hV); replace HV := Aside0.mk (below_step HV.out hV); clear hV)
    obtain ⟨p11, hp11⟩ : ∃ x, w4.heap.size = x := ⟨_, rfl⟩
    obtain ⟨w5, hw5, HLB, hV⟩ := bz1 w4 (.bool false) (.string (enc 1)) 68
    have HGL : Aside0 (gw < p11 ∧ ∀ i, i < n → Aw i < p11) := ⟨hp11 ▸ ⟨HG.out.lt, fun i hi => (HG.out.rows i hi).lt⟩⟩
    have HWP : Aside0 (w.heap.size ≤ p11) := ⟨hp11 ▸ HV.out.size⟩
    rw [hw5]
    rw [hp11] at HLB ⊢
    replace HG := Aside0.mk (HG.out.below hV)
    replace HV := Aside0.mk (below_step HV.out hV)
    clear hw5 hp11 hV HOne
    go_wp2
    go_loopw [57] (fun v57 wr => ∃ (k K : Nat) (l : Sg) (G : Gz) (A' C' : Nat → Nat), k ≤ n ∧ v57 = .int .i64 k ∧ Aside0 (BInv n k K l G OUT) ∧ Aside0 (GridZ wr w.heap.size gw n (n + 1) A' C' G) ∧ Aside0 (gw < p11 ∧ ∀ i, i < n → A' i < p11) ∧ Aside0 (Bz wr p11 (.bool l.1) (.string (enc l.2))) ∧ Aside0 (Below w.heap.size w wr)) (fun v57 _ => n - (intOf v57).toNat)
    case atStart => exact ⟨0, _, (false, 1), _, Aw, Cw, by omega, rfl, HINV, HG, HGL, HLB, HV⟩
    case round =>
      clear HG HGL HLB HV
      obtain ⟨k, K, l, G, A', C', hk, rfl, HI, HG, HGL, HLB, HV⟩ := hrel
      by_cases hkn : k < n
      · go_upto_region 17 with (fail)
        obtain ⟨p12, hp12⟩ : ∃ x, wr.heap.size = x := ⟨_, rfl⟩
        have hV := below_alloc (Below.refl wr.heap.size wr) (.cells #[.int .i64 (k : Int)] 3)
        have tk : (wr.alloc (.cells #[.int .i64 (k : Int)] 3)).cell? ⟨wr.heap.size, 0, none⟩ = some (.int .i64 (k : Int)) := by simp
        obtain ⟨w6, hw6⟩ : ∃ x, wr.alloc (.cells #[.int .i64 (k : Int)] 3) = x := ⟨_, rfl⟩
        rw [hw6] at tk hV ⊢
        have HPP : Aside0 (p11 < p12) := ⟨hp12 ▸ HLB.out.lt⟩
        replace HG := Aside0.mk (HG.out.below hV)
        replace HLB := Aside0.mk (HLB.out.below hV)
        replace HV := Aside0.mk (below_step HV.out hV)
        rw [hp12] at tk ⊢
        have HTK := Aside0.mk tk
        clear hw6 hp12 hV
        obtain ⟨out, hout⟩ : ∃ o, pvz G k (n - k) k = o := ⟨_, rfl⟩
        have HOUT := Aside0.mk hout
        clear hout
        go_upto_region 18 with (go_at_call 34; (with_reducible refine (IndexFunc_c (Below.refl _ _) HG.out HTK.out (Nat.le_of_lt hkn) (by omega) (by omega)).mono ?_); rintro e w7 ⟨rfl, hV⟩; replace HG := Aside0.mk (HG.out.below hV); replace HLB := Aside0.mk (HLB.out.below hV); replace HV := Aside0.mk (below_step HV.out hV); replace tk := cell_below hV HTK.out; replace HTK := Aside0.mk tk; clear hV; rw [HOUT.out])
        cases out with
        | none =>
          simp only [pvR]
          go_wp2
          go_ret2
          exact ⟨.inl ⟨HI.out.none hkn HOUT.out, rfl⟩, below_step H0.out HV.out⟩
        | some a =>
          have hpa := pvz_some HOUT.out
          obtain ⟨d, hd⟩ : ∃ d, a = k + d := ⟨a - k, by omega⟩
          subst hd
          have hkd : k + d < n := by omega
          have hR : pvR k (some (k + d)) = (d : Int) := by simp [pvR]; omega
          rw [hR]
          have HST := Aside0.mk (HI.out.step hkn HOUT.out)
          have HLN : Aside0 (0 < l.2 ∧ nb l.2 ≤ K ∧ (∀ i, i < n → ∀ j, j < n + 1 → nb (G i j).2 ≤ K)) := ⟨HI.out.l0, HI.out.lf, HI.out.ent⟩
          have HK1 : Aside0 (K + K + 1 + 1 ≤ 1073741824) := ⟨by have := HST.out.2; have := HI.out.one; omega⟩
          clear hpa hR
          go_upto_region 20 with (fail)
          go_cut [13] (fun v13 wc => v13 = .int .i64 d ∧ ∃ A1 C1, Aside0 (GridZ wc w.heap.size gw n (n + 1) A1 C1 (swapZ G k (k + d))) ∧ Aside0 (gw < p11 ∧ ∀ i, i < n → A1 i < p11) ∧ Aside0 (Bz wc p11 (.bool l.1) (.string (enc l.2))) ∧ Aside0 (wc.cell? ⟨p12, 0, none⟩ = some (.int .i64 (k : Int))) ∧ Aside0 (Below w.heap.size w wc))
          case first =>
            have HPN : Aside0 (gw ≠ p11 ∧ gw ≠ p12 ∧ w.heap.size ≤ gw) := ⟨by have := HGL.out.1; omega, by have := HGL.out.1; have := HPP.out; omega, HWW.out.1⟩
            by_cases hd : d = 0
            · subst hd
              simp only [Nat.add_zero] at hkd ⊢
              have t1 := HG.out.top k hkn
              have t3 := HG.out.ftop k
              have t6 : ∀ v, (w7.setCell ⟨gw, k, none⟩ v).cell? ⟨p12, 0, none⟩ = some (.int .i64 (k : Int)) := fun v => (World.cell?_setCell_other _ _ _ _ (fun h => HPN.out.2.1 (by injection h))).trans HTK.out
              have t7 : ∀ v, (w7.setCell ⟨gw, k, none⟩ v).cell? ⟨gw, k, none⟩ = some v := fun v => cell_setn (by rw [t1]; rfl) v
              go_region
              clear t1 t3 t6 t7
              have hg := (HG.out.swap hkn hkn).below (below_drew1 (Below.refl _ _))
              have hc : Chg w7 ((w7.setCell ⟨gw, k, none⟩ (.slice (some ⟨A' k, 0, none⟩) (n + 1) (C' k))).setCell ⟨gw, k, none⟩ (.slice (some ⟨A' k, 0, none⟩) (n + 1) (C' k))).drew (fun b => b = gw) := (((Chg.refl w7 (fun b => b = gw)).setCell (p := ⟨gw, k, none⟩) (.inl rfl) _).setCell (p := ⟨gw, k, none⟩) (.inl rfl) _).drew
              go_wp2
              go_meet
              exact ⟨rfl, _, _, ⟨hg⟩, ⟨HGL.out.1, sw_lt HGL.out.2 hkn hkn⟩, ⟨HLB.out.chg hc (fun e => HPN.out.1 e.symm)⟩, ⟨(cell_chg hc (World.block_lt_of_cell? _ _ HTK.out) (fun e => HPN.out.2.1 e.symm)).trans HTK.out⟩, ⟨hc.out HV.out (fun x hx => by rw [hx]; exact HPN.out.2.2)⟩⟩
            · have t1 := HG.out.top k hkn
              have t2 := HG.out.top (k + d) hkd
              have t3 := HG.out.ftop k
              have t4 := HG.out.ftop (k + d)
              have z1 : (0 : Int) ≤ (k : Int) + (d : Int) := by omega
              have z2 : (k : Int) + (d : Int) < (n : Int) := by omega
              have z3 : ((k : Int) + (d : Int)).toNat = k + d := by omega
              have z4 : ¬ (k + d = k) := by omega
              have z5 : ¬ (k = k + d) := by omega
              have z6 : ¬ (d = 0) := by omega
              have t5 : ∀ v, (w7.setCell ⟨gw, k, none⟩ v).cell? ⟨gw, k + d, none⟩ = some (.slice (some ⟨A' (k + d), 0, none⟩) (n + 1) (C' (k + d))) := fun v => (World.cell?_setCell_other _ _ _ _ (fun h => by injection h with _ h; omega)).trans t2
              have t6 : ∀ v, (w7.setCell ⟨gw, k, none⟩ v).cell? ⟨p12, 0, none⟩ = some (.int .i64 (k : Int)) := fun v => (World.cell?_setCell_other _ _ _ _ (fun h => HPN.out.2.1 (by injection h))).trans HTK.out
              go_region
              clear t1 t2 t3 t4 t5 t6 z1 z2 z3 z4 z5 z6
              have hg := (HG.out.swap hkn hkd).below (below_drew1 (Below.refl _ _))
              have hc : Chg w7 ((w7.setCell ⟨gw, k, none⟩ (.slice (some ⟨A' (k + d), 0, none⟩) (n + 1) (C' (k + d)))).setCell ⟨gw, k + d, none⟩ (.slice (some ⟨A' k, 0, none⟩) (n + 1) (C' k))).drew (fun b => b = gw) := (((Chg.refl w7 (fun b => b = gw)).setCell (p := ⟨gw, k, none⟩) (.inl rfl) _).setCell (p := ⟨gw, k + d, none⟩) (.inl rfl) _).drew
              go_wp2
              go_meet
              exact ⟨rfl, _, _, ⟨hg⟩, ⟨HGL.out.1, sw_lt HGL.out.2 hkn hkd⟩, ⟨HLB.out.chg hc (fun e => HPN.out.1 e.symm)⟩, ⟨(cell_chg hc (World.block_lt_of_cell? _ _ HTK.out) (fun e => HPN.out.2.1 e.symm)).trans HTK.out⟩, ⟨hc.out HV.out (fun x hx => by rw [hx]; exact HPN.out.2.2)⟩⟩
          case rest =>
            clear HG HGL HLB HV HTK tk
            obtain ⟨rfl, A1, C1, HG, HGL, HLB, HTK, HV⟩ := hcut
            obtain ⟨G1, hG1⟩ : ∃ G1, swapZ G k (k + d) = G1 := ⟨_, rfl⟩
            rw [hG1] at HG
            have HG1 := Aside0.mk hG1
            have hG1F : Aside0 (∀ i, i < n → ∀ j, j < n + 1 → nb (G1 i j).2 ≤ K) := ⟨fun i hi j hj => by
              rw [← hG1]; unfold swapZ
              split
              · exact HLN.out.2.2 _ hkd j hj
              · split
                · exact HLN.out.2.2 _ hkn j hj
                · exact HLN.out.2.2 _ hi j hj⟩
            have tk := HTK.out
            have hk1 : k < n + 1 := by omega
            have hk2 : (k : Int) < (n : Int) + 1 := by omega
            have kx := (HLB.out); have kl0 := kx.c0; have kl1 := kx.c1; have fl0 := kx.f0; have fl1 := kx.f1; clear kx
            clear hG1
            go_upto_region 22 with (go_at_call 36; (with_reducible refine (eliminate_c (w0 := w) HV.out HG.out hkn (by omega) (by omega) (by omega) hG1F.out HLN.out.2.1 HLN.out.1 HK1.out).mono ?_); rintro e w8 ⟨rfl, hV, hG, hc⟩; replace HLB := Aside0.mk (HLB.out.chg hc (by rintro ⟨i, hi, e⟩; have := HGL.out.2 i hi; omega)); replace HTK := Aside0.mk ((cell_chg hc (World.block_lt_of_cell? _ _ HTK.out) (by rintro ⟨i, hi, e⟩; have := HGL.out.2 i hi; have := HPP.out; simp only at e; omega)).trans HTK.out); replace HG := Aside0.mk hG; replace HV := Aside0.mk hV; clear hV hG hc tk kl0 kl1 fl0 fl1)
            obtain ⟨G2, hG2⟩ : ∃ G2, elimZ G1 k l = G2 := ⟨_, rfl⟩
            rw [hG2] at HG
            have HG2 := Aside0.mk hG2
            clear hG2
            obtain ⟨⟨z1, z2⟩, hz⟩ : ∃ e, G2 k k = e := ⟨_, rfl⟩
            have E1 := Aside0.mk ((HG.out.rows k hkn).el k (by omega))
            rw [hz] at E1
            have HZ := Aside0.mk hz
            clear hz
            (refine wp_region_below_tail 7 (by kernel_rfl) (by kernel_rfl) ?_); (simp only [List.take_succ_cons, List.take_zero, List.drop_succ_cons, List.drop_zero]); (repeat (refine wpQuiet_step (fun K hK => ?_); go_simp; first | (refine hK _ ?_; clear hK K) | (apply Exists.intro; refine ⟨fun V hV => ?_, hK _ ?_⟩; (focus ((first | rfl | ((have kx := cell_below hV HTK.out); go_simp; first | rfl | fail) | ((have kx := (HG.out.below hV).top k hkn); go_simp; first | rfl | fail) | ((have kx := (E1.out.below hV)); have kc0 := kx.c0; have kc1 := kx.c1; clear kx; go_simp; first | rfl | fail)))); clear hK K))); (refine wpQuiet_nil ?_); (intro V hV)
            replace HG := Aside0.mk (HG.out.below hV)
            replace HLB := Aside0.mk (HLB.out.below hV)
            replace HV := Aside0.mk (below_step HV.out hV)
            clear hV E1
            have kx := (HLB.out); have kl0 := kx.c0; have kl1 := kx.c1; have fl0 := kx.f0; have fl1 := kx.f1; clear kx
            go_wp2
            clear kl0 kl1 fl0 fl1
            have hc : Chg V ((V.setCell ⟨p11, 0, none⟩ (.bool z1)).setCell ⟨p11, 1, none⟩ (.string (enc z2))) (fun b => b = p11) := chg_set2 (S := fun b => b = p11) (o := 0) (Chg.refl _ _) (.inl rfl) _ _
            have hlz : G2 k k = G (k + d) k := by
              rw [← HG2.out]; unfold elimZ; rw [if_pos rfl, ← HG1.out, swapZ_left]
            refine ⟨⟨k + 1, 3 * K, (z1, z2), G2, A1, C1, hkn, by go_num, ⟨?_⟩, ⟨HG.out.chg2 hc (fun e => by have := HGL.out.1; omega) (fun i hi e => by have := HGL.out.2 i hi; omega)⟩, HGL, ⟨HLB.out.set _ _⟩, ⟨hc.out HV.out (fun x hx => by rw [hx]; exact HWP.out)⟩⟩, ?_⟩
            · rw [← HZ.out, hlz, ← HG2.out, ← HG1.out]
              exact HST.out.1
            · simp [intOf]; omega
      · obtain rfl : n = k := by omega
        have HEND := Aside0.mk HI.out.end_
        have HDI : Aside0 (∀ i, i < n → 0 < (G i i).2 ∧ ∀ j, j < n + 1 → Sm (G i j).2) := ⟨fun i hi => ⟨by rw [HI.out.dia i hi]; exact HI.out.l0, fun j hj => ⟨Nat.le_trans (HI.out.ent i hi j hj) HI.out.small⟩⟩⟩
        have hmk := make_rats n (by omega)
        go_upto_region 25 with (fail)
        clear hmk
        have HRV := made_rowV wr n
        have hV := below_alloc (Below.refl wr.heap.size wr) (.cells (madeCells #[.bool false, .string ⟨#[]⟩, .string ⟨#[]⟩] (n * 3)) 49)
        obtain ⟨b, hb⟩ : ∃ x, wr.heap.size = x := ⟨_, rfl⟩
        obtain ⟨w3, hw3⟩ : ∃ w3, wr.alloc (.cells (madeCells #[.bool false, .string ⟨#[]⟩, .string ⟨#[]⟩] (n * 3)) 49) = w3 := ⟨_, rfl⟩
        rw [hw3] at HRV hV ⊢
        have HBB : Aside0 (gw < b ∧ (∀ i, i < n → A' i < b) ∧ w.heap.size ≤ b) := ⟨hb ▸ ⟨HG.out.lt, fun i hi => (HG.out.rows i hi).lt, HV.out.size⟩⟩
        rw [hb] at HRV ⊢
        replace HG := Aside0.mk (HG.out.below hV)
        replace HV := Aside0.mk (below_step HV.out hV)
        replace HRV : Aside0 (RowV w3 b n (fun j => if j < 0 then solv G n j else 0)) := ⟨HRV.congr (fun j _ => by rw [if_neg (by omega)])⟩
        clear hb hw3 hV HLB HI HGL
        go_wp2
        go_loopw [101] (fun v101 wr => ∃ i : Nat, i ≤ n ∧ v101 = .int .i64 i ∧ Aside0 (RowV wr b n (fun j => if j < i then solv G n j else 0)) ∧ Aside0 (GridZ wr w.heap.size gw n (n + 1) A' C' G) ∧ Aside0 (Below w.heap.size w wr)) (fun v101 _ => n - (intOf v101).toNat)
        case atStart => exact ⟨0, by omega, rfl, HRV, HG, HV⟩
        case round =>
          clear HRV HG HV
          obtain ⟨i, hi, rfl, HRV, HG, HV⟩ := hrel
          by_cases hin : i < n
          · have t1 := HG.out.top i hin
            have E1 := Aside0.mk ((HG.out.rows i hin).el n (by omega))
            have E2 := Aside0.mk ((HG.out.rows i hin).el i (by omega))
            obtain ⟨⟨x0, x1⟩, hx⟩ : ∃ x, G i n = x := ⟨_, rfl⟩
            obtain ⟨⟨y0, y1⟩, hy⟩ : ∃ x, G i i = x := ⟨_, rfl⟩
            rw [hx] at E1
            rw [hy] at E2
            have hd := (HDI.out i hin).1
            have hs1 := (HDI.out i hin).2 n (by omega)
            have hs2 := (HDI.out i hin).2 i (by omega)
            rw [hy] at hd hs2
            rw [hx] at hs1
            obtain ⟨z, hz⟩ : ∃ z, (x0 == y0) = z := ⟨_, rfl⟩
            obtain ⟨q, hq⟩ : ∃ q, qq (!z) x1 y1 = q := ⟨_, rfl⟩
            have HQ : Aside0 (solv G n i = q) := ⟨by unfold solv; rw [hx, hy]; rw [← hz] at hq; exact hq⟩
            have HMP : Aside0 (∀ U V : World, Below U.heap.size U V → Calls Tryz.prog 37 #[.bool (!z), .string (enc x1), .string (enc y1)] V fun e w' => e = .returned (.tuple #[rv q, .bool true]) ∧ Below U.heap.size U w') := ⟨fun U V h => hq ▸ Make_pos h hd hs1 hs2⟩
            clear hx hy hd hs1 hs2 hq
            have hi1 : (i : Int) < (n : Int) + 1 := by omega
            have hn1 : (n : Int) < (n : Int) + 1 := by omega
            go_upto_region 28 with (fail)
            clear t1
            have ee := E1.out
            have p0 := ee.c0
            have p1 := ee.c1
            clear ee
            have ee := E2.out
            have r0 := ee.c0
            have r1 := ee.c1
            clear ee
            have hne := HBB.out.2.1 i hin
            have hne1 : A' i ≠ b := by omega
            clear hne
            refine wp_region_held_drew (S := (fun w' => w'.cell? ⟨A' i, n * 2, none⟩ = some (.bool x0) ∧ w'.cell? ⟨A' i, n * 2 + 1, none⟩ = some (.string (enc x1)) ∧ w'.cell? ⟨A' i, i * 2, none⟩ = some (.bool y0) ∧ w'.cell? ⟨A' i, i * 2 + 1, none⟩ = some (.string (enc y1)))) (by kernel_rfl) (show _ ∧ _ ∧ _ ∧ _ from ⟨p0, p1, r0, r1⟩) (fun hHeld => ?_)
            (refine wpAnyH_take (i := 0) (v := ?_) rfl (by kernel_rfl) (by kernel_rfl) (by kernel_rfl) (fun _ _ _ h => h) (Or.inl ⟨by rfl, ?_⟩) (by assumption) ?_); rotate_left; (focus (intro w' hSw; (try dsimp only at hSw); go_simp; (try with_reducible rfl))); (try simp only [Act.put, List.setIfInBounds_toArray, List.set_cons_zero, List.set_cons_succ])
            (refine wpAnyH_take (i := 1) (v := ?_) rfl (by kernel_rfl) (by kernel_rfl) (by kernel_rfl) (fun _ _ _ h => h) (Or.inl ⟨by rfl, ?_⟩) (by assumption) ?_); rotate_left; (focus (intro w' hSw; (try dsimp only at hSw); go_simp; (try with_reducible rfl))); (try simp only [Act.put, List.setIfInBounds_toArray, List.set_cons_zero, List.set_cons_succ])
            (refine wpAnyH_take (i := 2) (v := ?_) rfl (by kernel_rfl) (by kernel_rfl) (by kernel_rfl) (fun _ _ _ h => h) (Or.inl ⟨by rfl, ?_⟩) (by assumption) ?_); rotate_left; (focus (intro w' hSw; (try dsimp only at hSw); go_simp; (try with_reducible rfl))); (try simp only [Act.put, List.setIfInBounds_toArray, List.set_cons_zero, List.set_cons_succ])
            (refine wpAnyH_take (i := 3) (v := ?_) rfl (by kernel_rfl) (by kernel_rfl) (by kernel_rfl) (fun _ _ _ h => h) (Or.inl ⟨by rfl, ?_⟩) (by assumption) ?_); rotate_left; (focus (intro w' hSw; (try dsimp only at hSw); go_simp; (try with_reducible rfl))); (try simp only [Act.put, List.setIfInBounds_toArray, List.set_cons_zero, List.set_cons_succ])
            (refine wpAnyH_take (i := 4) (v := ?_) rfl (by kernel_rfl) (by kernel_rfl) (by kernel_rfl) (fun _ _ _ h => h) (Or.inl ⟨by rfl, ?_⟩) (by assumption) ?_); rotate_left; (focus (intro w' hSw; (try dsimp only at hSw); go_simp; (try with_reducible rfl))); (try simp only [Act.put, List.setIfInBounds_toArray, List.set_cons_zero, List.set_cons_succ])
            (refine wpAnyH_take (i := 5) (v := ?_) rfl (by kernel_rfl) (by kernel_rfl) (by kernel_rfl) (fun _ _ _ h => h) (Or.inl ⟨by rfl, ?_⟩) (by assumption) ?_); rotate_left; (focus (intro w' hSw; (try dsimp only at hSw); go_simp; (try with_reducible rfl))); (try simp only [Act.put, List.setIfInBounds_toArray, List.set_cons_zero, List.set_cons_succ])
            (refine wpAnyH_take (i := 6) (v := ?_) rfl (by kernel_rfl) (by kernel_rfl) (by kernel_rfl) (fun _ _ _ h => h) (Or.inl ⟨by rfl, ?_⟩) (by assumption) ?_); rotate_left; (focus (intro w' hSw; (try dsimp only at hSw); go_simp; (try with_reducible rfl))); (try simp only [Act.put, List.setIfInBounds_toArray, List.set_cons_zero, List.set_cons_succ])
            (refine wpAnyH_take (i := 7) (v := ?_) rfl (by kernel_rfl) (by kernel_rfl) (by kernel_rfl) (fun _ _ _ h => h) (Or.inl ⟨by rfl, ?_⟩) (by assumption) ?_); rotate_left; (focus (intro w' hSw; (try dsimp only at hSw); go_simp; (try with_reducible rfl))); (try simp only [Act.put, List.setIfInBounds_toArray, List.set_cons_zero, List.set_cons_succ])
            (refine wpAnyH_take (i := 8) (v := ?_) rfl (by kernel_rfl) (by kernel_rfl) (by kernel_rfl) (fun _ _ _ h => h) (Or.inl ⟨by rfl, ?_⟩) (by assumption) ?_); rotate_left; (focus (intro w' hSw; (try dsimp only at hSw); go_simp; (try with_reducible rfl))); (try simp only [Act.put, List.setIfInBounds_toArray, List.set_cons_zero, List.set_cons_succ])
            (refine wpAnyH_take (i := 9) (v := ?_) rfl (by kernel_rfl) (by kernel_rfl) (by kernel_rfl) (fun _ _ _ h => h) (Or.inl ⟨by rfl, ?_⟩) (by assumption) ?_); rotate_left; (focus (intro w' hSw; (try dsimp only at hSw); go_simp; (try with_reducible rfl))); (try simp only [Act.put, List.setIfInBounds_toArray, List.set_cons_zero, List.set_cons_succ])
            (refine wpAnyH_take (i := 10) (v := ?_) rfl (by kernel_rfl) (by kernel_rfl) (by kernel_rfl) (fun _ _ _ h => h) (Or.inl ⟨by rfl, ?_⟩) (by assumption) ?_); rotate_left; (focus (intro w' hSw; (try dsimp only at hSw); go_simp; (try with_reducible rfl))); (try simp only [Act.put, List.setIfInBounds_toArray, List.set_cons_zero, List.set_cons_succ])
            (refine wpAnyH_take (i := 11) (v := ?_) rfl (by kernel_rfl) (by kernel_rfl) (by kernel_rfl) (fun _ _ _ h => h) (Or.inl ⟨by rfl, ?_⟩) (by assumption) ?_); rotate_left; (focus (intro w' hSw; (try dsimp only at hSw); go_simp; (try with_reducible rfl))); (try simp only [Act.put, List.setIfInBounds_toArray, List.set_cons_zero, List.set_cons_succ])
            (refine wpAnyH_take (i := 12) (v := ?_) rfl (by kernel_rfl) (by kernel_rfl) (by kernel_rfl) (fun _ _ _ h => h) (Or.inl ⟨by rfl, ?_⟩) (by assumption) ?_); rotate_left; (focus (intro w' hSw; (try dsimp only at hSw); go_simp; (try with_reducible rfl))); (try simp only [Act.put, List.setIfInBounds_toArray, List.set_cons_zero, List.set_cons_succ])
            (refine wpAnyH_take (i := 13) (v := ?_) rfl (by kernel_rfl) (by kernel_rfl) (by kernel_rfl) (fun _ _ _ h => h) (Or.inl ⟨by rfl, ?_⟩) (by assumption) ?_); rotate_left; (focus (intro w' hSw; (try dsimp only at hSw); go_simp; (try with_reducible rfl))); (try simp only [Act.put, List.setIfInBounds_toArray, List.set_cons_zero, List.set_cons_succ])
            (refine wpAnyH_take (i := 14) (v := ?_) rfl (by kernel_rfl) (by kernel_rfl) (by kernel_rfl) (fun _ _ _ h => h) (Or.inl ⟨by rfl, ?_⟩) (by assumption) ?_); rotate_left; (focus (intro w' hSw; (try dsimp only at hSw); go_simp; (try with_reducible rfl))); (try simp only [Act.put, List.setIfInBounds_toArray, List.set_cons_zero, List.set_cons_succ])
            (refine wpAnyH_take (i := 15) (v := ?_) rfl (by kernel_rfl) (by kernel_rfl) (by kernel_rfl) (fun _ _ _ h => h) (Or.inl ⟨by rfl, ?_⟩) (by assumption) ?_); rotate_left; (focus (intro w' hSw; (try dsimp only at hSw); go_simp; (try with_reducible rfl))); (try simp only [Act.put, List.setIfInBounds_toArray, List.set_cons_zero, List.set_cons_succ])
            (refine wpAnyH_take (i := 16) (v := ?_) rfl (by kernel_rfl) (by kernel_rfl) (by kernel_rfl) (fun _ _ _ h => h) (Or.inl ⟨by rfl, ?_⟩) (by assumption) ?_); rotate_left; (focus (intro w' hSw; (try dsimp only at hSw); go_simp; (try with_reducible rfl))); (try simp only [Act.put, List.setIfInBounds_toArray, List.set_cons_zero, List.set_cons_succ])
            (refine wpAnyH_take (i := 17) (v := ?_) rfl (by kernel_rfl) (by kernel_rfl) (by kernel_rfl) (fun _ _ _ h => h) (Or.inl ⟨by rfl, ?_⟩) (by assumption) ?_); rotate_left; (focus (intro w' hSw; (try dsimp only at hSw); go_simp; (try with_reducible rfl))); (try simp only [Act.put, List.setIfInBounds_toArray, List.set_cons_zero, List.set_cons_succ])
            (refine wpAnyH_take (i := 18) (v := ?_) rfl (by kernel_rfl) (by kernel_rfl) (by kernel_rfl) (fun _ _ _ h => h) (Or.inl ⟨by rfl, ?_⟩) (by assumption) ?_); rotate_left; (focus (intro w' hSw; (try dsimp only at hSw); go_simp; (try with_reducible rfl))); (try simp only [Act.put, List.setIfInBounds_toArray, List.set_cons_zero, List.set_cons_succ])
            (refine wpAnyH_take (i := 19) (v := ?_) rfl (by kernel_rfl) (by kernel_rfl) (by kernel_rfl) (fun _ _ _ h => h) (Or.inl ⟨by rfl, ?_⟩) (by assumption) ?_); rotate_left; (focus (intro w' hSw; (try dsimp only at hSw); go_simp; (try with_reducible rfl))); (try simp only [Act.put, List.setIfInBounds_toArray, List.set_cons_zero, List.set_cons_succ])
            (refine wpAnyH_take (i := 20) (v := ?_) rfl (by kernel_rfl) (by kernel_rfl) (by kernel_rfl) (fun _ _ _ h => h) (Or.inl ⟨by rfl, ?_⟩) (by assumption) ?_); rotate_left; (focus (intro w' hSw; (try dsimp only at hSw); go_simp; (try with_reducible rfl))); (try simp only [Act.put, List.setIfInBounds_toArray, List.set_cons_zero, List.set_cons_succ])
            (refine wpAnyH_take (i := 21) (v := ?_) rfl (by kernel_rfl) (by kernel_rfl) (by kernel_rfl) (fun _ _ _ h => h) (Or.inl ⟨by rfl, ?_⟩) (by assumption) ?_); rotate_left; (focus (intro w' hSw; (try dsimp only at hSw); go_simp; (try with_reducible rfl))); (try simp only [Act.put, List.setIfInBounds_toArray, List.set_cons_zero, List.set_cons_succ])
            (refine wpAnyH_take (i := 22) (v := ?_) rfl (by kernel_rfl) (by kernel_rfl) (by kernel_rfl) (fun _ _ _ h => h) (Or.inl ⟨by rfl, ?_⟩) (by assumption) ?_); rotate_left; (focus (intro w' hSw; (try dsimp only at hSw); go_simp; (try with_reducible rfl))); (try simp only [Act.put, List.setIfInBounds_toArray, List.set_cons_zero, List.set_cons_succ])
            (refine wpAnyH_ready (rs := [23]) (by kernel_rfl) (by simp) ?_); (refine AllReadyH.cons rfl (fun K hK => ?_) AllReadyH.nil)
            go_simp
            (go_at_call 37; (with_reducible refine (HMP.out _ _ (Below.refl _ _)).mono ?_); rintro e w1 ⟨rfl, hV⟩; replace hV := below_step (below_drew1 (Below.refl _ _)) hV; clear p0 p1 r0 r1; replace E1 := Aside0.mk (E1.out.below hV); replace E2 := Aside0.mk (E2.out.below hV); replace HRV := Aside0.mk (HRV.out.below hV); replace HG := Aside0.mk (HG.out.below hV); replace HV := Aside0.mk (below_step HV.out hV); have ee := E1.out; have p0 := ee.c0; have p1 := ee.c1; clear ee; have ee := E2.out; have r0 := ee.c0; have r1 := ee.c1; clear ee hV; have ee := (HRV.out.el i hin); have ea0 := ee.c0; have ea1 := ee.c1; have ea2 := ee.c2; clear ee; have eb0 := HRV.out.fr (i * 3); have eb1 := HRV.out.fr (i * 3 + 1); have eb2 := HRV.out.fr (i * 3 + 2))
            go_wp2
            (refine hK.out _ _ ?_ (fun hHeld => ?_)); (focus ((try dsimp only); go_keep)); (clear hK K); (try simp only [Act.put, List.setIfInBounds_toArray, List.set_cons_zero, List.set_cons_succ])
            (refine wpAnyH_take (i := 24) (v := ?_) rfl (by kernel_rfl) (by kernel_rfl) (by kernel_rfl) (fun _ _ _ h => h) (Or.inl ⟨by rfl, ?_⟩) (by assumption) ?_); rotate_left; (focus (intro w' hSw; (try dsimp only at hSw); go_simp; (try with_reducible rfl))); (try simp only [Act.put, List.setIfInBounds_toArray, List.set_cons_zero, List.set_cons_succ])
            (refine wpAnyH_take (i := 25) (v := ?_) rfl (by kernel_rfl) (by kernel_rfl) (by kernel_rfl) (fun _ _ _ h => h) (Or.inl ⟨by rfl, ?_⟩) (by assumption) ?_); rotate_left; (focus (intro w' hSw; (try dsimp only at hSw); go_simp; (try with_reducible rfl))); (try simp only [Act.put, List.setIfInBounds_toArray, List.set_cons_zero, List.set_cons_succ])
            (refine wpAnyH_take (i := 26) (v := ?_) rfl (by kernel_rfl) (by kernel_rfl) (by kernel_rfl) (fun _ _ _ h => h) (Or.inl ⟨by rfl, ?_⟩) (by assumption) ?_); rotate_left; (focus (intro w' hSw; (try dsimp only at hSw); go_simp; (try with_reducible rfl))); (try simp only [Act.put, List.setIfInBounds_toArray, List.set_cons_zero, List.set_cons_succ])
            (refine wpAnyH_take (i := 27) (v := ?_) rfl (by kernel_rfl) (by kernel_rfl) (by kernel_rfl) (fun _ _ _ h => h) (Or.inl ⟨by rfl, ?_⟩) (by assumption) ?_); rotate_left; (focus (intro w' hSw; (try dsimp only at hSw); go_simp; (try with_reducible rfl))); (try simp only [Act.put, List.setIfInBounds_toArray, List.set_cons_zero, List.set_cons_succ])
            (refine wpAnyH_ready (rs := [28]) (by kernel_rfl) (by simp) ?_); (refine AllReadyH.cons rfl (fun K hK => ?_) AllReadyH.nil)
            go_simp
            (refine hK.out _ _ ?_ (fun hHeld => ?_)); (focus ((try dsimp only); exact ⟨(set3_other (.inl hne1)).trans p0, (set3_other (.inl hne1)).trans p1, (set3_other (.inl hne1)).trans r0, (set3_other (.inl hne1)).trans r1⟩)); (clear hK K); (try simp only [Act.put, List.setIfInBounds_toArray, List.set_cons_zero, List.set_cons_succ])
            refine wpAnyH_done (by kernel_rfl) ?_ _
            clear E1 E2 HMP hz p0 p1 r0 r1 ea0 ea1 ea2 eb0 eb1 eb2 hne1
            go_wp2
            have hc := chg_set3 (S := fun x => x = b) (b := b) (o := i * 3) (Chg.refl w1 _) (.inl rfl) (.bool (ngv q)) (.string (enc q.num.natAbs)) (.string (encD q.den))
            refine ⟨⟨i + 1, hin, by go_num, ⟨(HRV.out.set hin q).congr (fun j hj => ?_)⟩, ⟨HG.out.chg2 hc (fun e => by have := HBB.out.1; omega) (fun j hj e => by have := HBB.out.2.1 j hj; omega)⟩, ⟨hc.out HV.out (fun x hx => by rw [hx]; exact HBB.out.2.2)⟩⟩, ?_⟩
            · by_cases e : j = i
              · rw [if_pos e, if_pos (by omega), e, HQ.out]
              · rw [if_neg e]
                by_cases e2 : j < i
                · rw [if_pos e2, if_pos (by omega)]
                · rw [if_neg e2, if_neg (by omega)]
            · simp [intOf]; omega
          · obtain rfl : n = i := by omega
            go_wp2
            go_ret2
            exact ⟨.inr ⟨G, b, HEND.out, rfl, HRV.out.congr (fun j hj => by rw [if_pos hj])⟩, below_step H0.out HV.out⟩
theorem Solve_sing {w0 w : World} {v xv : Value} {n N : Nat} {L : Nat → Nat} {E : Nat → Nat → Raw} {X : Nat → Raw} (hB : Below w0.heap.size w0 w) (hM : Mat w v n L E) (hk : chk n L = 0) (hm : L 0 = n) (hX : Vec w xv n X)
    (hE : ∀ i, i < n → ∀ k, k < n → FitS N (E i k).2.1 (E i k).2.2) (hFX : ∀ i, i < n → FitS N (X i).2.1 (X i).2.2) (hN : (1 + (n + 2) * N) * 3 ^ n ≤ 1073741824) (ho : bar n n 0 (false, 1) (zrows E X n) = none) :
    Calls Tryz.prog 12 #[v, xv] w fun e w' => e = .returned (.tuple #[.slice none 0 0, .int .i64 5]) ∧ Below w0.heap.size w0 w' :=
  (Solve_g hB hM hk hm hX hE hFX hN ho).mono fun e w' ⟨h, hb⟩ => by
    rcases h with ⟨_, he⟩ | ⟨G', b, h1, _⟩
    · exact ⟨he, hb⟩
    · cases h1
end Go.Proofs.YtiamgjepcagohaaGreatDoor.P
end
section
/- The example that the laws try, and matrices of noughts: plain laws. -/
namespace Go.Proofs.YtiamgjepcagohaaGreatDoor.P
open Go Go.RowKit Go.Proofs.YtiamgjepcagohaaGreatDoorW.PrintWords Go.Proofs.YtiamgjepcagohaaGreatDoorW.PrintLast Go.Proofs.YtiamgjepcagohaaGreatDoorW.PrintMore Go.Proofs.YtiamgjepcagohaaGreatDoor.Ari

/-! integers among the rational numbers -/
theorem comm_int (M : Nat → Int) : ∀ k, comm (fun k => (M k : Rat)) k = 1
  | 0 => rfl
  | k + 1 => by
    rw [comm, comm_int M k, Rat.den_intCast]; rfl
theorem intz_int (M : Nat → Int) (m k : Nat) : intz (fun k => (M k : Rat)) m k = (decide (M k < 0), (M k).natAbs) := by
  unfold intz ngv
  rw [comm_int, Rat.den_intCast, Rat.num_intCast]
  simp
def exM (i k : Nat) : Int := if i = 0 then (if k = 0 then 1 else if k = 1 then 2 else 0) else (if k = 0 then 2 else if k = 1 then 4 else 0)
def exE : Nat → Nat → Raw := fun i k => rw_ ((exM i k : Int) : Rat)
def exX : Nat → Raw := fun _ => (false, ⟨#[]⟩, ⟨#[]⟩)
theorem raw_zero : rw_ 0 = (false, ⟨#[]⟩, ⟨#[]⟩) := by
  have := rv_zero
  simp only [rv, Value.agg.injEq, Array.mk.injEq, List.cons.injEq, Value.bool.injEq, Value.string.injEq, and_true] at this
  unfold rw_
  rw [this.1, this.2.1, this.2.2]
theorem val_rw_ (q : Rat) : val (rw_ q) = q := rval_rv q
theorem val_zero : val (false, ⟨#[]⟩, ⟨#[]⟩) = 0 := by rw [← raw_zero]; exact val_rw_ 0
theorem ex_zrow (i : Nat) (hi : i < 2) : zrows exE exX 2 i = fun k => (decide ((if k < 2 then exM i k else 0) < 0), (if k < 2 then exM i k else 0).natAbs) := by
  have e : qrow exE exX 2 i = fun k => ((if k < 2 then exM i k else 0 : Int) : Rat) := by
    funext k
    unfold qrow exE exX
    split
    · exact val_rw_ _
    · rw [val_zero]; rfl
  unfold zrows
  rw [e]
  funext k
  exact intz_int _ _ _
theorem ex_bar : bar 2 2 0 (false, 1) (zrows exE exX 2) = none := by
  have h : ∀ G : Gz, G 0 = (fun k => (decide ((if k < 2 then exM 0 k else 0) < 0), (if k < 2 then exM 0 k else 0).natAbs)) → G 1 = (fun k => (decide ((if k < 2 then exM 1 k else 0) < 0), (if k < 2 then exM 1 k else 0).natAbs)) → bar 2 2 0 (false, 1) G = none := by
    intro G h0 h1
    have p : pvz G 0 2 0 = some 0 := by
      simp only [pvz, h0]; rw [if_neg (by decide)]
    have q : ∀ j, elimZ (swapZ G 0 0) 0 (false, 1) 1 j = if j = 0 then (false, 0) else zo (zm (zt (G 0 0) (G 1 j)) (zt (G 1 0) (G 0 j))) (false, 1) := by
      intro j
      unfold elimZ elimE swapZ
      simp
    have r : pvz (elimZ (swapZ G 0 0) 0 (false, 1)) 1 1 1 = none := by
      simp only [pvz, q, h0, h1]; decide
    rw [bar]
    simp only [Nat.sub_zero, p]
    rw [bar]
    simp only [Nat.zero_add, show 2 - 1 = 1 from rfl, r]
  exact h _ (ex_zrow 0 (by omega)) (ex_zrow 1 (by omega))
theorem ex_vals : vals exE = fun i k => ((exM i k : Int) : Rat) := by
  funext i k; exact val_rw_ _
def exOut : St := ech 2 2 0 ⟨fun i k => ((exM i k : Int) : Rat), [], 1⟩
theorem ex_piv : exOut.piv = [0] := by decide +kernel
theorem ex_k0 : kv exOut.G exOut.piv 1 exOut.piv.length 0 = ((-2 : Int) : Rat) := by decide +kernel
theorem ex_k1 : kv exOut.G exOut.piv 1 exOut.piv.length 1 = ((1 : Int) : Rat) := by decide +kernel
theorem fit_int {z : Int} (h : z.natAbs < 256) : Fit 1 (z : Rat) := ⟨by rw [Rat.num_intCast]; exact nb_le (by simpa using h), by rw [Rat.den_intCast, nb_one]; omega⟩
theorem ex_fit (i k : Nat) : FitS 1 (exE i k).2.1 (exE i k).2.2 := by
  refine (fit_int ?_).raw
  unfold exM
  repeat' split
  all_goals decide
theorem ex_okay : Okay 2 2 1 1 2 exE exOut :=
  Okay.mk_ (fun i _ k _ => ex_fit i k) (Nat.le_refl _) (Nat.le_refl _) (by rw [ex_vals]; rfl) (by rw [ex_piv]; rfl) (by decide)
theorem ex_fitX (i : Nat) : FitS 1 (exX i).2.1 (exX i).2.2 := ⟨by show (0 : Nat) ≤ 1; omega, by show (0 : Nat) ≤ 1; omega, Nat.le_refl _⟩

/-! a matrix of noughts -/
def zeE : Nat → Nat → Raw := fun _ _ => (false, ⟨#[]⟩, ⟨#[]⟩)
end Go.Proofs.YtiamgjepcagohaaGreatDoor.P
end
section
/- The example that the laws try. -/
namespace Go.Proofs.YtiamgjepcagohaaGreatDoor.P
open Go Go.RowKit Go.Proofs.YtiamgjepcagohaaGreatDoorW.PrintWords Go.Proofs.YtiamgjepcagohaaGreatDoorW.PrintLast Go.Proofs.YtiamgjepcagohaaGreatDoorW.PrintMore Go.Proofs.YtiamgjepcagohaaGreatDoor.Ari

theorem lit2 (W : World) (a b : Rat) (t : TypeId) {E : Nat → Raw} (h0 : E 0 = rw_ a) (h1 : E 1 = rw_ b) :
    Row (W.alloc (.cells #[.bool (ngv a), .string (enc a.num.natAbs), .string (encD a.den), .bool (ngv b), .string (enc b.num.natAbs), .string (encD b.den)] t)) W.heap.size 0 2 E := by
  refine ⟨fun k hk => ?_⟩
  rcases (by omega : k = 0 ∨ k = 1) with rfl | rfl
  · rw [h0]; constructor <;> simp
  · rw [h1]; constructor <;> simp
theorem lit2z (W : World) (t : TypeId) : Row (W.alloc (.cells #[.bool false, .string ⟨#[]⟩, .string ⟨#[]⟩, .bool false, .string ⟨#[]⟩, .string ⟨#[]⟩] t)) W.heap.size 0 2 exX := by
  refine ⟨fun k hk => ?_⟩
  rcases (by omega : k = 0 ∨ k = 1) with rfl | rfl
  · constructor <;> simp [exX]
  · constructor <;> simp [exX]
theorem mat2 {W : World} {b0 b1 c0 c1 m : Nat} {E : Nat → Nat → Raw} {t : TypeId} (h0 : Row W b0 0 m (E 0)) (h1 : Row W b1 0 m (E 1)) :
    Mat (W.alloc (.cells #[.slice (some ⟨b0, 0, none⟩) m c0, .slice (some ⟨b1, 0, none⟩) m c1] t)) (.slice (some ⟨W.heap.size, 0, none⟩) 2 2) 2 (fun _ => m) E := by
  have hb := below_alloc (Below.refl W.heap.size W) (.cells #[.slice (some ⟨b0, 0, none⟩) m c0, .slice (some ⟨b1, 0, none⟩) m c1] t)
  refine ⟨some ⟨W.heap.size, 0, none⟩, 2, fun i => if i = 0 then some ⟨b0, 0, none⟩ else some ⟨b1, 0, none⟩, fun i => if i = 0 then c0 else c1, rfl, fun _ => ⟨W.heap.size, 0, rfl, fun i hi => ?_⟩, fun i hi => ⟨fun _ => ?_⟩⟩
  · rcases (by omega : i = 0 ∨ i = 1) with rfl | rfl
    · simp
    · simp
  · rcases (by omega : i = 0 ∨ i = 1) with rfl | rfl
    · exact ⟨b0, 0, rfl, h0.below hb⟩
    · exact ⟨b1, 0, rfl, h1.below hb⟩
theorem ex_chk : chk 2 (fun _ => 2) = 0 := by decide
set_option maxHeartbeats 2000000 in
set_option maxRecDepth 1000000 in
theorem awake_c {w0 w : World} (hB : Below w0.heap.size w0 w) :
    Calls Tryz.prog 11 #[] w fun e w' => e = .returned (.bool true) ∧ Below w0.heap.size w0 w' := by
  have H0 := Aside0.mk hB
  obtain ⟨c1, hc1⟩ : ∃ q : Rat, ((1 : Int) : Rat) = q := ⟨_, rfl⟩
  obtain ⟨c2, hc2⟩ : ∃ q : Rat, ((2 : Int) : Rat) = q := ⟨_, rfl⟩
  obtain ⟨c4, hc4⟩ : ∃ q : Rat, ((4 : Int) : Rat) = q := ⟨_, rfl⟩
  obtain ⟨cm, hcm⟩ : ∃ q : Rat, ((-2 : Int) : Rat) = q := ⟨_, rfl⟩
  have HI1 : Aside0 (∀ U V : World, Below U.heap.size U V → Calls Tryz.prog 29 #[.int .i64 1] V fun e w' => e = .returned (rv c1) ∧ Below U.heap.size U w') := ⟨fun U V h => hc1 ▸ Int_c h (by omega) (by omega)⟩
  have HI2 : Aside0 (∀ U V : World, Below U.heap.size U V → Calls Tryz.prog 29 #[.int .i64 2] V fun e w' => e = .returned (rv c2) ∧ Below U.heap.size U w') := ⟨fun U V h => hc2 ▸ Int_c h (by omega) (by omega)⟩
  have HI4 : Aside0 (∀ U V : World, Below U.heap.size U V → Calls Tryz.prog 29 #[.int .i64 4] V fun e w' => e = .returned (rv c4) ∧ Below U.heap.size U w') := ⟨fun U V h => hc4 ▸ Int_c h (by omega) (by omega)⟩
  have HIm : Aside0 (∀ U V : World, Below U.heap.size U V → Calls Tryz.prog 29 #[.int .i64 (-2)] V fun e w' => e = .returned (rv cm) ∧ Below U.heap.size U w') := ⟨fun U V h => hcm ▸ Int_c h (by omega) (by omega)⟩
  have HE0 : Aside0 (exE 0 0 = rw_ c1 ∧ exE 0 1 = rw_ c2 ∧ exE 1 0 = rw_ c2 ∧ exE 1 1 = rw_ c4) := ⟨by rw [← hc1, ← hc2, ← hc4]; exact ⟨rfl, rfl, rfl, rfl⟩⟩
  have HK0 : Aside0 (kv exOut.G exOut.piv 1 exOut.piv.length 0 = cm ∧ kv exOut.G exOut.piv 1 exOut.piv.length 1 = c1) := ⟨by rw [← hcm, ← hc1]; exact ⟨ex_k0, ex_k1⟩⟩
  have HB : Aside0 (Below w.heap.size w w) := ⟨Below.refl _ _⟩
  clear hB hc1 hc2 hc4 hcm
  go_enter Tryz.func11, Tryz.ntmps11
  go_upto_region 2 with (first
    | (go_at_call 29; (with_reducible refine (HI1.out _ _ (Below.refl _ _)).mono ?_); rintro e w1 ⟨rfl, hV⟩; replace HB := Aside0.mk (below_step HB.out hV); clear hV)
    | (go_at_call 29; (with_reducible refine (HI2.out _ _ (Below.refl _ _)).mono ?_); rintro e w3 ⟨rfl, hV⟩; have HR := Aside0.mk ((lit2 _ c1 c2 _ HE0.out.1 HE0.out.2.1).below hV); replace HB := Aside0.mk (below_step (below_alloc HB.out _) hV); clear hV)
    | (go_at_call 29; (with_reducible refine (HI2.out _ _ (Below.refl _ _)).mono ?_); rintro e w2 ⟨rfl, hV⟩; replace HB := Aside0.mk (below_step HB.out hV); clear hV)
    | (go_at_call 29; (with_reducible refine (HI4.out _ _ (Below.refl _ _)).mono ?_); rintro e w4 ⟨rfl, hV⟩; replace HR := Aside0.mk (HR.out.below hV); replace HB := Aside0.mk (below_step HB.out hV); clear hV))
  have hm1 := mat2 (t := 23) (E := exE) (c0 := 2) (c1 := 2) (HR.out.below (below_alloc (Below.refl _ _) (.cells #[.bool (ngv c2), .string (enc c2.num.natAbs), .string (encD c2.den), .bool (ngv c4), .string (enc c4.num.natAbs), .string (encD c4.den)] 49))) (lit2 w4 c2 c4 49 HE0.out.2.2.1 HE0.out.2.2.2)
  rw [show ∀ o, (w4.alloc o).heap.size = w4.heap.size + 1 from fun o => by simp] at hm1
  replace HB := Aside0.mk (below_alloc (below_alloc HB.out (.cells #[.bool (ngv c2), .string (enc c2.num.natAbs), .string (encD c2.den), .bool (ngv c4), .string (enc c4.num.natAbs), .string (encD c4.den)] 49)) (.cells #[.slice (some ⟨w2.heap.size, 0, none⟩) 2 2, .slice (some ⟨w4.heap.size, 0, none⟩) 2 2] 23))
  obtain ⟨wm, hwm⟩ : ∃ x, (w4.alloc (.cells #[.bool (ngv c2), .string (enc c2.num.natAbs), .string (encD c2.den), .bool (ngv c4), .string (enc c4.num.natAbs), .string (encD c4.den)] 49)).alloc (.cells #[.slice (some ⟨w2.heap.size, 0, none⟩) 2 2, .slice (some ⟨w4.heap.size, 0, none⟩) 2 2] 23) = x := ⟨_, rfl⟩
  rw [hwm] at hm1 HB ⊢
  have HM := Aside0.mk hm1
  clear hm1 hwm HR
  obtain ⟨p2, hp2⟩ : ∃ x, w4.heap.size + 1 = x := ⟨_, rfl⟩
  rw [hp2] at HM ⊢
  clear hp2
  go_upto_region 4 with (first
    | (go_at_call 12; (with_reducible refine (Solve_sing (N := 1) (Below.refl _ _) (HM.out.below (below_alloc (Below.refl _ _) _)) ex_chk rfl ⟨⟨_, _, rfl, ⟨fun _ => ⟨_, _, rfl, lit2z _ _⟩⟩⟩⟩ (fun i _ k _ => ex_fit i k) (fun i _ => ex_fitX i) (by decide) ex_bar).mono ?_); rintro e w5 ⟨rfl, hV⟩; replace HM := Aside0.mk ((HM.out.below (below_alloc (Below.refl _ _) _)).below hV); replace HB := Aside0.mk (below_step (below_alloc HB.out _) hV); clear hV)
    | (go_at_call 15; (with_reducible refine (Kernel_ok (Below.refl _ _) HM.out ex_chk rfl ex_okay).mono ?_); rintro e w6 ⟨u, rfl, hV, hU⟩; replace HB := Aside0.mk (below_step HB.out hV); have HU := Aside0.mk hU; clear hV hU))
  have hu := HU.out
  rw [show (frees exOut.piv 2) = [1] by rw [ex_piv]; decide] at hu
  obtain ⟨ga, gc, A, C, rfl, hg, hr⟩ := hu.ex
  obtain ⟨gb, go, rfl, hc⟩ := hg (by decide)
  have t0 := hc 0 (by decide)
  obtain ⟨rb, ro, hA, hrow⟩ := (hr 0 (by decide)).ex (by decide)
  rw [hA, Nat.add_zero] at t0
  have E0 := hrow.el 0 (by decide)
  have E1 := hrow.el 1 (by decide)
  have hk0 : (kv exOut.G exOut.piv ([1].getD 0 0) exOut.piv.length 0) = cm := HK0.out.1
  have hk1 : (kv exOut.G exOut.piv ([1].getD 0 0) exOut.piv.length 1) = c1 := HK0.out.2
  rw [hk0] at E0
  rw [hk1] at E1
  have HT := Aside0.mk t0
  rw [show ro + 0 * 3 = ro by omega] at E0
  rw [show ro + 1 * 3 = ro + 3 by omega] at E1
  replace E0 := Aside0.mk E0
  replace E1 := Aside0.mk E1
  clear hg hc t0 hr hA hrow hk0 hk1 hu HU
  rw [show ([1] : List Nat).length = 1 from rfl]
  (refine wp_region_below (by kernel_rfl) (by kernel_rfl) ?_); (repeat (refine wpQuiet_step (fun K hK => ?_); go_simp; first | (refine hK _ ?_; clear hK K) | (apply Exists.intro; refine ⟨fun V hV => ?_, hK _ ?_⟩; (focus ((first | rfl | ((with_reducible exact HIm.out _ _ hV)) | ((with_reducible exact HI1.out _ _ hV)) | ((have kx := cell_below hV HT.out); go_simp; first | rfl | fail) | ((have kx := (E0.out.below hV)); have kc0 := kx.c0; have kc1 := kx.c1; have kc2 := kx.c2; clear kx; go_simp; first | rfl | fail) | ((have kx := (E1.out.below hV)); have kc0 := kx.c0; have kc1 := kx.c1; have kc2 := kx.c2; clear kx; go_simp; first | rfl | fail)))); clear hK K))); (refine wpQuiet_nil ?_); (intro V hV)
  go_wp2
  go_ret
  exact ⟨rfl, below_step H0.out (below_step HB.out hV)⟩
end Go.Proofs.YtiamgjepcagohaaGreatDoor.P
end
section
/- The reference's comparisons of lists: SameRats, SameRows, SameInts, of equal ones and of any. -/
namespace Go.Proofs.YtiamgjepcagohaaGreatDoor.P
open Go Go.RowKit Go.Proofs.YtiamgjepcagohaaGreatDoorW.PrintWords Go.Proofs.YtiamgjepcagohaaGreatDoorW.PrintLast Go.Proofs.YtiamgjepcagohaaGreatDoorW.PrintMore Go.Proofs.YtiamgjepcagohaaGreatDoor.Ari

set_option maxHeartbeats 2000000 in
set_option maxRecDepth 1000000 in
theorem SameRats_c {w0 w : World} {u v : Value} {n : Nat} {X : Nat → Raw} (hB : Below w0.heap.size w0 w) (hu : Vec w u n X) (hv : Vec w v n X) (hn : n ≤ 1000) :
    Calls Tryz.prog 14 #[u, v] w fun e w' => e = .returned (.bool true) ∧ Below w0.heap.size w0 w' := by
  have H0 := Aside0.mk hB
  obtain ⟨ua, uc, rfl, hur⟩ := hu.ex
  obtain ⟨va, vc, rfl, hvr⟩ := hv.ex
  have HU := Aside0.mk hur
  have HV := Aside0.mk hvr
  have HB : Aside0 (Below w.heap.size w w) := ⟨Below.refl _ _⟩
  clear hB hu hv hur hvr
  go_enter Tryz.func14, Tryz.ntmps14
  go_wp2
  go_loopw [5] (fun v5 wr => ∃ i : Nat, i ≤ n ∧ v5 = .int .i64 i ∧ Aside0 (Below w.heap.size w wr)) (fun v5 _ => n - (intOf v5).toNat)
  case atStart => exact ⟨0, by omega, rfl, HB⟩
  case round =>
    clear HB
    obtain ⟨i, hi, rfl, HB⟩ := hrel
    by_cases hin : i < n
    · obtain ⟨ub, uo, rfl, hue⟩ := (HU.out.below HB.out).ex (by omega)
      obtain ⟨vb, vo, rfl, hve⟩ := (HV.out.below HB.out).ex (by omega)
      have E1 := hue.el i hin
      have E2 := hve.el i hin
      obtain ⟨⟨x0, x1, x2⟩, hx⟩ : ∃ x, X i = x := ⟨_, rfl⟩
      rw [hx] at E1 E2
      replace E1 := Aside0.mk E1
      replace E2 := Aside0.mk E2
      clear hx hue hve
      go_upto_region 6 with (fail)
      (refine wp_region_below (by kernel_rfl) (by kernel_rfl) ?_); (repeat (refine wpQuiet_step (fun K hK => ?_); go_simp; first | (refine hK _ ?_; clear hK K) | (apply Exists.intro; refine ⟨fun V hV => ?_, hK _ ?_⟩; (focus ((first | rfl | ((have kx := (E1.out.below hV)); have kc0 := kx.c0; have kc1 := kx.c1; have kc2 := kx.c2; clear kx; go_simp; first | rfl | fail) | ((have kx := (E2.out.below hV)); have kc0 := kx.c0; have kc1 := kx.c1; have kc2 := kx.c2; clear kx; go_simp; first | rfl | fail) | (go_simp; first | rfl | fail)))); clear hK K))); (refine wpQuiet_nil ?_); (intro V hV)
      go_wp2
      refine ⟨⟨i + 1, hin, by go_num, ⟨below_step HB.out hV⟩⟩, ?_⟩
      simp [intOf]; omega
    · obtain rfl : n = i := by omega
      go_wp2
      go_ret
      exact ⟨rfl, below_step H0.out HB.out⟩

end Go.Proofs.YtiamgjepcagohaaGreatDoor.P
end
