/- ClBar: lemmas of this claim, of 3 texts. -/
import Derived.Test.YtiamgjepcagohaaGreatDoorClInt2
section
/- Package linear: eliminate. -/
namespace Go.Proofs.YtiamgjepcagohaaGreatDoor.P
open Go Go.RowKit Go.Proofs.YtiamgjepcagohaaGreatDoorW.PrintWords Go.Proofs.YtiamgjepcagohaaGreatDoorW.PrintLast Go.Proofs.YtiamgjepcagohaaGreatDoorW.PrintMore Go.Proofs.YtiamgjepcagohaaGreatDoor.Ari

abbrev Gz := Nat → Nat → Sg
def elimE (G : Gz) (k : Nat) (l : Sg) (i j : Nat) : Sg := zo (zm (zt (G k k) (G i j)) (zt (G i k) (G k j))) l
def elimZ (G : Gz) (k : Nat) (l : Sg) : Gz := fun i j => if i = k then G i j else if j = k then (false, 0) else elimE G k l i j
theorem zt_fit {a b : Sg} {N M : Nat} (h1 : nb a.2 ≤ N) (h2 : nb b.2 ≤ M) : nb (zt a b).2 ≤ N + M := nb_mul_le h1 h2
theorem zm_fit {a b : Sg} {N : Nat} (h1 : nb a.2 ≤ N) (h2 : nb b.2 ≤ N) : nb (zm a b).2 ≤ N + 1 := by
  unfold zm
  split
  · exact nb_add_le h1 h2
  · split
    · exact Nat.le_trans (nb_mono (Nat.sub_le _ _)) (by omega)
    · exact Nat.le_trans (nb_mono (Nat.sub_le _ _)) (by omega)
theorem zo_fit {a b : Sg} {N : Nat} (h1 : nb a.2 ≤ N) : nb (zo a b).2 ≤ N := Nat.le_trans (nb_mono (Nat.div_le_self _ _)) h1
theorem elimE_fit {G : Gz} {k i j N : Nat} {l : Sg} (h1 : nb (G k k).2 ≤ N) (h2 : nb (G i j).2 ≤ N) (h3 : nb (G i k).2 ≤ N) (h4 : nb (G k j).2 ≤ N) : nb (elimE G k l i j).2 ≤ N + N + 1 :=
  zo_fit (zm_fit (zt_fit h1 h2) (zt_fit h3 h4))

set_option maxHeartbeats 2000000 in
set_option maxRecDepth 1000000 in
theorem eliminate_c {w0 w : World} {g n m cap k N : Nat} {A C : Nat → Nat} {G : Gz} {l : Sg} (hB : Below w0.heap.size w0 w) (hG : GridZ w w0.heap.size g n m A C G) (hk : k < n) (hkm : k < m) (hn : n ≤ 1000) (hm : m ≤ 1000)
    (hF : ∀ i, i < n → ∀ j, j < m → nb (G i j).2 ≤ N) (hl : nb l.2 ≤ N) (hl0 : 0 < l.2) (hN : N + N + 1 + 1 ≤ 1073741824) :
    Calls Tryz.prog 36 #[.slice (some ⟨g, 0, none⟩) n cap, .int .i64 k, iv l] w fun e w' => e = .returned (.tuple #[]) ∧ Below w0.heap.size w0 w' ∧ GridZ w' w0.heap.size g n m A C (elimZ G k l) ∧ Chg w w' (fun b => ∃ i, i < n ∧ b = A i) := by
  have H0 := Aside0.mk hB
  obtain ⟨l1, l2⟩ := l
  obtain ⟨W, hW, H5, hbW⟩ := bz1 w (.bool l1) (.string (enc l2)) 68
  have HE := Aside0.mk hW
  have HG := Aside0.mk (hG.below hbW)
  have HGL : Aside0 (g < w.heap.size ∧ ∀ i, i < n → A i < w.heap.size) := ⟨hG.lt, fun i hi => (hG.rows i hi).lt⟩
  have HGE : Aside0 (∀ i, i < n → w0.heap.size ≤ A i) := ⟨hG.ge⟩
  have HB1 : Aside0 (Chg w W (fun b => ∃ i, i < n ∧ b = A i)) := ⟨Chg.of_below hbW _⟩
  have HF := Aside0.mk (And.intro hF (And.intro hl (And.intro hl0 hN)))
  obtain ⟨p5, hp5⟩ : ∃ x, w.heap.size = x := ⟨_, rfl⟩
  rw [hp5] at H5
  have HP5 := Aside0.mk hp5
  have hlt5 := H5.out.lt
  clear hB hG hW hbW hF hl hl0 hN
  go_enter Tryz.func36, Tryz.ntmps36
  go_upto_region 1 with (fail)
  rw [HE.out]
  clear hp5
  have t1 := HG.out.top k hk
  have t2 := ((HG.out.rows k hk).el k hkm)
  obtain ⟨⟨d1, d2⟩, hd⟩ : ∃ e, G k k = e := ⟨_, rfl⟩
  rw [hd] at t2
  have HD := Aside0.mk hd
  have t20 := t2.c0
  have t21 := t2.c1
  clear hd t2
  simp only at t20 t21
  go_upto_region 2 with (fail)
  clear t1 t20 t21
  obtain ⟨p6, hp6⟩ : ∃ x, W.heap.size = x := ⟨_, rfl⟩
  obtain ⟨w5, hw5, H6, hV⟩ := bz1 W (.bool d1) (.string (enc d2)) 68
  rw [hw5]
  rw [hp6] at H6 hlt5 ⊢
  have HP6 : Aside0 (p5 < p6) := ⟨hlt5⟩
  replace HG := Aside0.mk (HG.out.below hV)
  replace HB1 := Aside0.mk (HB1.out.below hV)
  replace H5 := Aside0.mk (H5.out.below hV)
  clear hw5 hp6 hV hlt5 HE
  go_wp2
  go_loopw [20] (fun v20 wr => ∃ i : Nat, i ≤ n ∧ v20 = .int .i64 i ∧ Aside0 (GridZ wr w0.heap.size g n m A C (fun a b => if a < i then elimZ G k (l1, l2) a b else G a b)) ∧ Aside0 (Bz wr p5 (.bool l1) (.string (enc l2))) ∧ Aside0 (Bz wr p6 (.bool d1) (.string (enc d2))) ∧ Aside0 (Chg w wr (fun b => ∃ i, i < n ∧ b = A i))) (fun v20 _ => n - (intOf v20).toNat)
  case atStart => exact ⟨0, by omega, rfl, ⟨HG.out.congr (fun a ha b hb => by rw [if_neg (by omega)])⟩, H5, H6, HB1⟩
  case round =>
    clear HG H5 H6 HB1
    obtain ⟨i, hi, rfl, HG, H5, H6, HB1⟩ := hrel
    by_cases hin : i < n
    · have t1 := HG.out.top i hin
      by_cases hik : i = k
      · subst hik
        go_wp2
        refine ⟨⟨i + 1, hin, by go_num, ⟨HG.out.congr (fun a ha b hb => ?_)⟩, H5, H6, HB1⟩, ?_⟩
        · by_cases h1 : a < i
          · rw [if_pos h1, if_pos (by omega)]
          · rw [if_neg h1]
            by_cases h2 : a < i + 1
            · rw [if_pos h2]; unfold elimZ; rw [if_pos (show a = i by omega)]
            · rw [if_neg h2]
        · simp [intOf]; omega
      · have hik2 : ((i : Int) == (k : Int)) = false := by simp; omega
        have HIK := Aside0.mk hik
        have E1 := Aside0.mk ((HG.out.rows i hin).el k hkm)
        simp only [Nat.lt_irrefl, if_false] at E1
        obtain ⟨⟨f1, f2⟩, hf⟩ : ∃ e, G i k = e := ⟨_, rfl⟩
        rw [hf] at E1
        have HFF := Aside0.mk hf
        have e0 := E1.out.c0
        have e1 := E1.out.c1
        clear hf E1 hik
        simp only at e0 e1
        go_upto_region 7 with (fail)
        clear t1 e0 e1
        obtain ⟨p9, hp9⟩ : ∃ x, wr.heap.size = x := ⟨_, rfl⟩
        obtain ⟨w5, hw5, H9, hV⟩ := bz1 wr (.bool f1) (.string (enc f2)) 68
        have HP9 : Aside0 (p6 < p9) := ⟨hp9 ▸ H6.out.lt⟩
        rw [hw5]
        rw [hp9] at H9 ⊢
        replace HG := Aside0.mk (HG.out.below hV); replace HB1 := Aside0.mk (HB1.out.below hV); replace H5 := Aside0.mk (H5.out.below hV); replace H6 := Aside0.mk (H6.out.below hV)
        clear hw5 hp9 hV
        go_wp2
        go_loopw [34] (fun v34 wr => ∃ j : Nat, j ≤ m ∧ v34 = .int .i64 j ∧ Aside0 (GridZ wr w0.heap.size g n m A C (fun a b => if a < i then elimZ G k (l1, l2) a b else if a = i then (if b < j then (if b = k then G i b else elimE G k (l1, l2) i b) else G i b) else G a b)) ∧ Aside0 (Bz wr p5 (.bool l1) (.string (enc l2))) ∧ Aside0 (Bz wr p6 (.bool d1) (.string (enc d2))) ∧ Aside0 (Bz wr p9 (.bool f1) (.string (enc f2))) ∧ Aside0 (Chg w wr (fun b => ∃ i, i < n ∧ b = A i))) (fun v34 _ => m - (intOf v34).toNat)
        case atStart => exact ⟨0, by omega, rfl, ⟨HG.out.congr (fun a ha b hb => by
          by_cases h1 : a < i
          · rw [if_pos h1, if_pos h1]
          · rw [if_neg h1, if_neg h1]
            by_cases h2 : a = i
            · rw [if_pos h2, if_neg (by omega), h2]
            · rw [if_neg h2])⟩, H5, H6, H9, HB1⟩
        case round =>
          clear HG H5 H6 H9 HB1
          obtain ⟨j, hj, rfl, HG, H5, H6, H9, HB1⟩ := hrel
          by_cases hjm : j < m
          · by_cases hjk : j = k
            · subst hjk
              go_wp2
              refine ⟨⟨j + 1, hjm, by go_num, ⟨HG.out.congr (fun a ha b hb => ?_)⟩, H5, H6, H9, HB1⟩, ?_⟩
              · by_cases h1 : a < i
                · rw [if_pos h1, if_pos h1]
                · rw [if_neg h1, if_neg h1]
                  by_cases h2 : a = i
                  · rw [if_pos h2, if_pos h2]
                    by_cases h3 : b < j
                    · rw [if_pos h3, if_pos (show b < j + 1 by omega)]
                    · rw [if_neg h3]
                      by_cases h4 : b < j + 1
                      · rw [if_pos h4, if_pos (show b = j by omega)]
                      · rw [if_neg h4]
                  · rw [if_neg h2, if_neg h2]
              · simp [intOf]; omega
            · have hjk2 : ((j : Int) == (k : Int)) = false := by simp; omega
              have HJK := Aside0.mk hjk
              clear hjk
              have E2 := Aside0.mk ((HG.out.rows i hin).el j hjm)
              simp only [Nat.lt_irrefl, if_false, if_true] at E2
              have E3 := Aside0.mk ((HG.out.rows k hk).el j hjm)
              have hkj : (if k < i then elimZ G k (l1, l2) k j else if k = i then (if j < j then (if j = k then G i j else elimE G k (l1, l2) i j) else G i j) else G k j) = G k j := by
                by_cases h1 : k < i
                · rw [if_pos h1]; unfold elimZ; rw [if_pos rfl]
                · rw [if_neg h1, if_neg (fun e => HIK.out e.symm)]
              rw [hkj] at E3
              clear hkj
              have F1 := HF.out.1 i hin j hjm
              have F2 := HF.out.1 k hk j hjm
              have F3 := HF.out.1 i hin k hkm
              have F4 := HF.out.1 k hk k hkm
              have FN := HF.out.2.2.2
              have hE : elimE G k (l1, l2) i j = zo (zm (zt (G k k) (G i j)) (zt (G i k) (G k j))) (l1, l2) := rfl
              rw [HD.out] at F4 hE
              rw [HFF.out] at F3 hE
              obtain ⟨⟨r1, r2⟩, hr⟩ : ∃ e, G i j = e := ⟨_, rfl⟩
              obtain ⟨⟨c1, c2⟩, hc⟩ : ∃ e, G k j = e := ⟨_, rfl⟩
              rw [hr] at E2 F1 hE
              rw [hc] at E3 F2 hE
              obtain ⟨u1, hu1⟩ : ∃ u, zt (d1, d2) (r1, r2) = u := ⟨_, rfl⟩
              obtain ⟨u2, hu2⟩ : ∃ u, zt (f1, f2) (c1, c2) = u := ⟨_, rfl⟩
              have FU1 : nb u1.2 ≤ N + N := hu1 ▸ zt_fit F4 F1
              have FU2 : nb u2.2 ≤ N + N := hu2 ▸ zt_fit F3 F2
              obtain ⟨u3, hu3⟩ : ∃ u, zm u1 u2 = u := ⟨_, rfl⟩
              have FU3 : nb u3.2 ≤ N + N + 1 := hu3 ▸ zm_fit FU1 FU2
              obtain ⟨u4, hu4⟩ : ∃ u, zo u3 (l1, l2) = u := ⟨_, rfl⟩
              rw [hu1, hu2, hu3, hu4] at hE
              have HEE := Aside0.mk hE
              have HT1 : Aside0 (∀ U V : World, Below U.heap.size U V → Calls Tryz.prog 67 #[.agg #[.bool d1, .string (enc d2)], .agg #[.bool r1, .string (enc r2)]] V fun e w' => e = .returned (iv u1) ∧ Below U.heap.size U w') := ⟨fun U V h => hu1 ▸ times_c h F4 F1 (by omega)⟩
              have HT2 : Aside0 (∀ U V : World, Below U.heap.size U V → Calls Tryz.prog 67 #[.agg #[.bool f1, .string (enc f2)], .agg #[.bool c1, .string (enc c2)]] V fun e w' => e = .returned (iv u2) ∧ Below U.heap.size U w') := ⟨fun U V h => hu2 ▸ times_c h F3 F2 (by omega)⟩
              have HT3 : Aside0 (∀ U V : World, Below U.heap.size U V → Calls Tryz.prog 68 #[iv u1, iv u2] V fun e w' => e = .returned (iv u3) ∧ Below U.heap.size U w') := ⟨fun U V h => hu3 ▸ minusZ_c h FU1 FU2 (by omega)⟩
              have HT4 : Aside0 (∀ U V : World, Below U.heap.size U V → Calls Tryz.prog 69 #[iv u3, .agg #[.bool l1, .string (enc l2)]] V fun e w' => e = .returned (iv u4) ∧ Below U.heap.size U w') := ⟨fun U V h => hu4 ▸ over_c h FU3 (Nat.le_trans HF.out.2.1 (by omega)) (by omega) HF.out.2.2.1⟩
              clear F1 F2 F3 F4 FN hE hr hc hu1 hu2 hu3 hu4 FU1 FU2 FU3
              go_upto_region 11 with (fail)
              (refine wp_region_below_tail 21 (by kernel_rfl) (by kernel_rfl) ?_); (simp only [List.take_succ_cons, List.take_zero, List.drop_succ_cons, List.drop_zero]); (repeat (refine wpQuiet_step (fun K hK => ?_); go_simp; first | (refine hK _ ?_; clear hK K) | (apply Exists.intro; refine ⟨fun V hV => ?_, hK _ ?_⟩; (focus ((first | rfl | ((with_reducible exact HT1.out _ _ hV)) | ((with_reducible exact HT2.out _ _ hV)) | ((with_reducible exact HT3.out _ _ hV)) | ((with_reducible exact HT4.out _ _ hV)) | ((have kx := (HG.out.below hV).top k hk); go_simp; first | rfl | fail) | ((have kx := (E2.out.below hV)); have kc0 := kx.c0; have kc1 := kx.c1; clear kx; go_simp; first | rfl | fail) | ((have kx := (E3.out.below hV)); have kc0 := kx.c0; have kc1 := kx.c1; clear kx; go_simp; first | rfl | fail) | ((have kx := (H5.out.below hV)); have kc0 := kx.c0; have kc1 := kx.c1; clear kx; go_simp; first | rfl | fail) | ((have kx := (H6.out.below hV)); have kc0 := kx.c0; have kc1 := kx.c1; clear kx; go_simp; first | rfl | fail) | ((have kx := (H9.out.below hV)); have kc0 := kx.c0; have kc1 := kx.c1; clear kx; go_simp; first | rfl | fail)))); clear hK K))); (refine wpQuiet_nil ?_); (intro V hV)
              replace HG := Aside0.mk (HG.out.below hV); replace HB1 := Aside0.mk (HB1.out.below hV); replace H5 := Aside0.mk (H5.out.below hV); replace H6 := Aside0.mk (H6.out.below hV)
              replace H9 := Aside0.mk (H9.out.below hV)
              clear hV E2 E3 HT1 HT2 HT3 HT4
              have ee := ((HG.out.rows i hin).el j hjm); have ea0 := ee.c0; have ea1 := ee.c1; clear ee; have eb0 := (HG.out.rows i hin).fr (j * 2); have eb1 := (HG.out.rows i hin).fr (j * 2 + 1)
              go_wp2
              clear ea0 ea1 eb0 eb1
              have hc := chg_set2 (S := fun b => b = A i) (b := A i) (o := j * 2) (Chg.refl V _) (.inl rfl) (.bool u4.1) (.string (enc u4.2))
              have hg := HG.out.row hin hc ((HG.out.rows i hin).set hjm u4)
              obtain ⟨w7, hw7⟩ : ∃ w7, (V.setCell ⟨A i, j * 2, none⟩ (.bool u4.1)).setCell ⟨A i, j * 2 + 1, none⟩ (.string (enc u4.2)) = w7 := ⟨_, rfl⟩
              rw [hw7] at hc hg ⊢
              replace HB1 := Aside0.mk (HB1.out.then_ hc (fun x hx => .inl ⟨i, hin, hx⟩)); replace H5 := Aside0.mk (H5.out.chg hc (fun e => by have := HGL.out.2 i hin; have := HP5.out; omega)); replace H6 := Aside0.mk (H6.out.chg hc (fun e => by have := HGL.out.2 i hin; have := HP5.out; have := HP6.out; omega)); (try replace H9 := Aside0.mk (H9.out.chg hc (fun e => by have := HGL.out.2 i hin; have := HP5.out; have := HP6.out; have := HP9.out; omega)))
              refine ⟨⟨j + 1, hjm, by go_num, ⟨hg.congr (fun a ha b hb => ?_)⟩, H5, H6, H9, HB1⟩, ?_⟩
              · by_cases h2 : a = i
                · subst h2
                  simp only [if_true, Nat.lt_irrefl, if_false]
                  by_cases h3 : b = j
                  · subst h3
                    rw [if_pos rfl, if_pos (show b < b + 1 by omega), if_neg HJK.out, HEE.out]
                  · rw [if_neg h3]
                    by_cases h4 : b < j
                    · rw [if_pos h4, if_pos (show b < j + 1 by omega)]
                    · rw [if_neg h4, if_neg (show ¬ b < j + 1 by omega)]
                · simp only [if_neg h2]
              · simp [intOf]; omega
          · obtain rfl : m = j := by omega
            have t1 := HG.out.top i hin
            have ee := ((HG.out.rows i hin).el k hkm); have ea0 := ee.c0; have ea1 := ee.c1; clear ee; have eb0 := (HG.out.rows i hin).fr (k * 2); have eb1 := (HG.out.rows i hin).fr (k * 2 + 1)
            go_wp2
            clear t1 ea0 ea1 eb0 eb1
            have hc := chg_set2 (S := fun b => b = A i) (b := A i) (o := k * 2) (Chg.refl wr _) (.inl rfl) (.bool false) (.string ⟨#[]⟩)
            have hg := HG.out.row hin hc (by
              have := (HG.out.rows i hin).set hkm (false, 0)
              rw [enc_zero] at this
              exact this)
            obtain ⟨w7, hw7⟩ : ∃ w7, (wr.setCell ⟨A i, k * 2, none⟩ (.bool false)).setCell ⟨A i, k * 2 + 1, none⟩ (.string ⟨#[]⟩) = w7 := ⟨_, rfl⟩
            rw [hw7] at hc hg ⊢
            replace HB1 := Aside0.mk (HB1.out.then_ hc (fun x hx => .inl ⟨i, hin, hx⟩)); replace H5 := Aside0.mk (H5.out.chg hc (fun e => by have := HGL.out.2 i hin; have := HP5.out; omega)); replace H6 := Aside0.mk (H6.out.chg hc (fun e => by have := HGL.out.2 i hin; have := HP5.out; have := HP6.out; omega)); (try replace H9 := Aside0.mk (H9.out.chg hc (fun e => by have := HGL.out.2 i hin; have := HP5.out; have := HP6.out; have := HP9.out; omega)))
            refine ⟨⟨i + 1, hin, by go_num, ⟨hg.congr (fun a ha b hb => ?_)⟩, H5, H6, HB1⟩, ?_⟩
            · by_cases h2 : a = i
              · subst h2
                simp only [if_true, Nat.lt_irrefl, if_false]
                rw [if_pos (show a < a + 1 by omega)]
                unfold elimZ
                rw [if_neg HIK.out]
                by_cases h3 : b = k
                · simp only [if_pos h3]
                · simp only [if_neg h3, if_pos hb]
              · simp only [if_neg h2]
                by_cases h1 : a < i
                · rw [if_pos h1, if_pos (by omega)]
                · rw [if_neg h1, if_neg (by omega)]
            · simp [intOf]; omega
    · obtain rfl : n = i := by omega
      go_wp2
      go_end0
      exact ⟨rfl, HB1.out.out H0.out (fun x hx => by obtain ⟨i, hi, e⟩ := hx; rw [e]; exact HGE.out i hi), HG.out.congr (fun a ha b hb => by rw [if_pos ha]), HB1.out⟩
end Go.Proofs.YtiamgjepcagohaaGreatDoor.P
end
section
/- Package linear: the search for a pivot in Solve. -/
namespace Go.Proofs.YtiamgjepcagohaaGreatDoor.P
open Go Go.RowKit Go.Proofs.YtiamgjepcagohaaGreatDoorW.PrintWords Go.Proofs.YtiamgjepcagohaaGreatDoorW.PrintLast Go.Proofs.YtiamgjepcagohaaGreatDoorW.PrintMore Go.Proofs.YtiamgjepcagohaaGreatDoor.Ari

set_option maxHeartbeats 2000000 in
set_option maxRecDepth 1000000 in
theorem Solve1_c {w0 w : World} {b m p c k : Nat} {q : Nat → Sg} (hB : Below w0.heap.size w0 w) (hQ : RowZ w b m q) (hp : w.cell? ⟨p, 0, none⟩ = some (.int .i64 (k : Int))) (hk : k < m) :
    Calls Tryz.prog 35 #[.slice (some ⟨b, 0, none⟩) m c, .pointer (some ⟨p, 0, none⟩)] w fun e w' => e = .returned (.bool (decide ((q k).2 ≠ 0))) ∧ Below w0.heap.size w0 w' := by
  have H0 := Aside0.mk hB
  have t1 := (hQ.el k hk).c1
  obtain ⟨x, hx⟩ : ∃ x, (q k).2 = x := ⟨_, rfl⟩
  rw [hx] at t1 ⊢
  have he := empty_enc x
  obtain ⟨s, hs⟩ : ∃ s, enc x = s := ⟨_, rfl⟩
  rw [hs] at t1 he
  obtain ⟨z, hz⟩ : ∃ z, decide (x = 0) = z := ⟨_, rfl⟩
  have hd : decide (x ≠ 0) = !z := by rw [← hz]; simp
  rw [hd]
  rw [hz] at he
  clear hB hQ hx hs hz hd
  go_enter Tryz.func35, Tryz.ntmps35
  go_wp2
  go_ret
  refine ⟨?_, H0.out⟩
  simp [he]

/-- The first row from i on whose number in column c is not 0. -/
def pvz (G : Gz) (c : Nat) : Nat → Nat → Option Nat
  | 0, _ => none
  | f + 1, i => if (G i c).2 = 0 then pvz G c f (i + 1) else some i
def pvR (k : Nat) : Option Nat → Int | none => -1 | some i => (i : Int) - k
set_option maxHeartbeats 2000000 in
set_option maxRecDepth 1000000 in
theorem IndexFunc_c {w0 w : World} {B g n m p cap k : Nat} {A C : Nat → Nat} {G : Gz} (hB : Below w0.heap.size w0 w) (hG : GridZ w B g n m A C G) (hp : w.cell? ⟨p, 0, none⟩ = some (.int .i64 (k : Int))) (hk : k ≤ n) (hkm : k < m) (hn : n ≤ 1000) :
    Calls Tryz.prog 34 #[.slice (some ⟨g, k, none⟩) (n - k) cap, .func (.func 35) #[] #[.pointer (some ⟨p, 0, none⟩)]] w fun e w' => e = .returned (.int .i64 (pvR k (pvz G k (n - k) k))) ∧ Below w0.heap.size w0 w' := by
  have H0 := Aside0.mk hB
  have HG := Aside0.mk hG
  have HP := Aside0.mk hp
  obtain ⟨out, ho⟩ : ∃ x, pvz G k (n - k) k = x := ⟨_, rfl⟩
  rw [ho]
  have HO := Aside0.mk ho
  obtain ⟨l, hl⟩ : ∃ l, n - k = l := ⟨_, rfl⟩
  rw [hl] at HO ⊢
  have HL : Aside0 (k + l = n) := ⟨by omega⟩
  have hl1 : l ≤ 1000 := by omega
  clear hB hG ho hp hl hk
  go_enter Tryz.func34, Tryz.ntmps34
  go_wp2
  go_loopw [8] (fun v8 wr => ∃ i : Nat, i ≤ l ∧ v8 = .int .i64 i ∧ Aside0 (pvz G k (l - i) (k + i) = out) ∧ Aside0 (Below w.heap.size w wr)) (fun v8 _ => l - (intOf v8).toNat)
  case atStart => exact ⟨0, by omega, rfl, HO, ⟨Below.refl _ _⟩⟩
  case round =>
    obtain ⟨i, hi, rfl, HI, HV⟩ := hrel
    by_cases hil : i < l
    · have HG1 := Aside0.mk (HG.out.below HV.out)
      have hin : k + i < n := by have := HL.out; omega
      have t1 := HG1.out.top (k + i) hin
      have t2 := cell_below HV.out HP.out
      have HC : Aside0 (Calls Tryz.prog 35 #[.slice (some ⟨A (k + i), 0, none⟩) m (C (k + i)), .pointer (some ⟨p, 0, none⟩)] wr fun e w' => e = .returned (.bool (decide ((G (k + i) k).2 ≠ 0))) ∧ Below wr.heap.size wr w') := ⟨Solve1_c (Below.refl _ _) (HG1.out.rows (k + i) hin) t2 hkm⟩
      have hf : l - i = (l - (i + 1)) + 1 := by omega
      have HF := Aside0.mk hf
      clear hf
      by_cases hz : (G (k + i) k).2 = 0
      · have hz2 : decide ((G (k + i) k).2 ≠ 0) = false := by simp [hz]
        rw [hz2] at HC
        have HZ := Aside0.mk hz
        clear hz hz2
        go_wp2_with (go_at_call 35; (with_reducible refine HC.out.mono ?_); rintro e w1 ⟨rfl, hV⟩; replace HV := Aside0.mk (below_step HV.out hV); clear hV)
        refine ⟨⟨i + 1, hil, by go_num, ⟨?_⟩, HV⟩, ?_⟩
        · have := HI.out
          rw [HF.out, pvz, if_pos HZ.out] at this
          exact this
        · simp [intOf]; omega
      · have hz2 : decide ((G (k + i) k).2 ≠ 0) = true := by simp [hz]
        rw [hz2] at HC
        have HZ := Aside0.mk hz
        clear hz hz2
        go_wp2_with (go_at_call 35; (with_reducible refine HC.out.mono ?_); rintro e w1 ⟨rfl, hV⟩; replace HV := Aside0.mk (below_step HV.out hV); clear hV)
        go_ret
        have := HI.out
        rw [HF.out, pvz, if_neg HZ.out] at this
        rw [← this]
        refine ⟨?_, below_step H0.out HV.out⟩
        simp [pvR]
        omega
    · obtain rfl : l = i := by omega
      go_wp2
      go_ret
      have := HI.out
      rw [Nat.sub_self] at this
      rw [← this]
      exact ⟨rfl, below_step H0.out HV.out⟩
end Go.Proofs.YtiamgjepcagohaaGreatDoor.P
end
section
/- The elimination over integers, as Solve does it: plain laws. -/
namespace Go.Proofs.YtiamgjepcagohaaGreatDoor.P
open Go Go.RowKit Go.Proofs.YtiamgjepcagohaaGreatDoorW.PrintWords Go.Proofs.YtiamgjepcagohaaGreatDoorW.PrintLast Go.Proofs.YtiamgjepcagohaaGreatDoorW.PrintMore Go.Proofs.YtiamgjepcagohaaGreatDoor.Ari

def bar (n : Nat) : Nat → Nat → Sg → Gz → Option Gz
  | 0, _, _, G => some G
  | f + 1, k, l, G =>
    match pvz G k (n - k) k with
    | none => none
    | some a => bar n f (k + 1) (G a k) (elimZ (swapZ G k a) k l)
theorem pvz_some {G : Gz} {c : Nat} : ∀ {f i a : Nat}, pvz G c f i = some a → i ≤ a ∧ a < i + f ∧ (G a c).2 ≠ 0
  | 0, i, a, h => by simp [pvz] at h
  | f + 1, i, a, h => by
    rw [pvz] at h
    split at h
    · have := pvz_some h
      exact ⟨by omega, by omega, this.2.2⟩
    · rename_i h2
      injection h with h
      subst h
      exact ⟨Nat.le_refl _, by omega, h2⟩
theorem zm_zero {a b : Sg} (h : b.2 = 0) : (zm a b).2 = a.2 := by
  unfold zm
  split
  · simp [h]
  · rw [if_pos (by omega)]; simp [h]
theorem swapZ_left (G : Gz) (i j : Nat) : swapZ G i j i = G j := by unfold swapZ; rw [if_pos rfl]
structure BInv (n k K : Nat) (l : Sg) (G : Gz) (OUT : Option Gz) : Prop where
  kle : k ≤ n
  run : bar n (n - k) k l G = OUT
  ent : ∀ i, i < n → ∀ j, j < n + 1 → nb (G i j).2 ≤ K
  lf : nb l.2 ≤ K
  l0 : 0 < l.2
  one : 1 ≤ K
  room : K * 3 ^ (n - k) ≤ 1073741824
  dia : ∀ i, i < k → (G i i).2 = l.2
  off : ∀ i, i < k → ∀ j, j < n → j ≠ i → (G j i).2 = 0
section
variable {n k K : Nat} {l : Sg} {G : Gz} {OUT : Option Gz}
theorem BInv.small (h : BInv n k K l G OUT) : K ≤ 1073741824 := Nat.le_trans (Nat.le_mul_of_pos_right K (Nat.pow_pos (by decide))) h.room
theorem BInv.none (h : BInv n k K l G OUT) (hk : k < n) (hp : pvz G k (n - k) k = none) : OUT = .none := by
  rw [← h.run, show n - k = (n - (k + 1)) + 1 by omega, bar]
  simp only [hp]
theorem BInv.end_ (h : BInv n n K l G OUT) : OUT = some G := by
  rw [← h.run, Nat.sub_self]; rfl
theorem BInv.step (h : BInv n k K l G OUT) {a : Nat} (hk : k < n) (hp : pvz G k (n - k) k = some a) :
    BInv n (k + 1) (3 * K) (G a k) (elimZ (swapZ G k a) k l) OUT ∧ 3 * K ≤ 1073741824 := by
  obtain ⟨h1, h2, h3⟩ := pvz_some hp
  have ha : a < n := by omega
  have hone := h.one
  have hroom : 3 * K * 3 ^ (n - (k + 1)) ≤ 1073741824 := by
    have := h.room
    rw [show n - k = (n - (k + 1)) + 1 by omega, Nat.pow_succ] at this
    calc 3 * K * 3 ^ (n - (k + 1)) = K * (3 ^ (n - (k + 1)) * 3) := by grind
      _ ≤ _ := this
  have hrun : bar n (n - (k + 1)) (k + 1) (G a k) (elimZ (swapZ G k a) k l) = OUT := by
    rw [← h.run]
    conv => rhs; rw [show n - k = (n - (k + 1)) + 1 by omega, bar]
    simp only [hp]
  have hs : ∀ i, i < n → ∃ i', i' < n ∧ swapZ G k a i = G i' ∧ (i < k → i' = i) ∧ (i ≠ k → i' ≠ i → i' = k) := by
    intro i hi
    unfold swapZ
    split
    · exact ⟨a, ha, rfl, fun h => by omega, fun h => by omega⟩
    · split
      · exact ⟨k, hk, rfl, fun h => by omega, fun _ _ => rfl⟩
      · exact ⟨i, hi, rfl, fun _ => rfl, fun _ h => absurd rfl h⟩
  have hkk : swapZ G k a k = G a := swapZ_left G k a
  refine ⟨⟨by omega, hrun, ?_, Nat.le_trans (h.ent a ha k (by omega)) (by omega), Nat.pos_of_ne_zero h3, by omega, hroom, ?_, ?_⟩, Nat.le_trans (Nat.le_mul_of_pos_right _ (Nat.pow_pos (by decide))) hroom⟩
  · intro i hi j hj
    obtain ⟨i', hi', e, _, _⟩ := hs i hi
    unfold elimZ
    split
    · rw [e]; exact Nat.le_trans (h.ent i' hi' j hj) (by omega)
    · split
      · rw [nb_zero]; omega
      · refine Nat.le_trans (elimE_fit (N := K) ?_ ?_ ?_ ?_) (by omega)
        · rw [hkk]; exact h.ent a ha k (by omega)
        · rw [e]; exact h.ent i' hi' j hj
        · rw [e]; exact h.ent i' hi' k (by omega)
        · rw [hkk]; exact h.ent a ha j hj
  · intro i hi
    unfold elimZ
    by_cases e : i = k
    · rw [if_pos e, e, hkk]
    · obtain ⟨i', hi', e1, e2, _⟩ := hs i (by omega)
      have := e2 (by omega)
      subst this
      rw [if_neg e, if_neg e]
      unfold elimE
      have hz : (zt (swapZ G k a i' k) (swapZ G k a k i')).2 = 0 := by
        show _ * _ = 0
        rw [hkk, h.off i' (by omega) a ha (by omega), Nat.mul_zero]
      show (zm _ _).2 / l.2 = _
      rw [zm_zero hz, hkk, e1]
      show (G a k).2 * (G i' i').2 / l.2 = _
      rw [h.dia i' (by omega), Nat.mul_div_cancel _ h.l0]
  · intro i hi j hj hji
    unfold elimZ
    by_cases e : j = k
    · rw [if_pos e, e, hkk]
      exact h.off i (by omega) a ha (by omega)
    · rw [if_neg e]
      by_cases e2 : i = k
      · rw [if_pos e2]
      · rw [if_neg e2]
        obtain ⟨j', hj', e1, e3, e4⟩ := hs j hj
        have hj0 : (G j' i).2 = 0 := by
          refine h.off i (by omega) j' hj' ?_
          by_cases e5 : j' = j
          · omega
          · have := e4 e e5; omega
        unfold elimE
        have hz : (zt (swapZ G k a j k) (swapZ G k a k i)).2 = 0 := by
          show _ * _ = 0
          rw [hkk, h.off i (by omega) a ha (by omega), Nat.mul_zero]
        show (zm _ _).2 / l.2 = 0
        rw [zm_zero hz, e1]
        show _ * (G j' i).2 / l.2 = 0
        rw [hj0, Nat.mul_zero, Nat.zero_div]
end
/-- The numbers of row i with its right side. -/
def qrow (E : Nat → Nat → Raw) (X : Nat → Raw) (n i : Nat) : Nat → Rat := fun k => if k < n then val (E i k) else val (X i)
def zrows (E : Nat → Nat → Raw) (X : Nat → Raw) (n : Nat) : Gz := fun i => intz (qrow E X n i) (n + 1)
theorem qrow_fit {E : Nat → Nat → Raw} {X : Nat → Raw} {n N i : Nat} (hE : ∀ k, k < n → FitS N (E i k).2.1 (E i k).2.2) (hX : FitS N (X i).2.1 (X i).2.2) : ∀ k, k < n + 1 → Fit N (qrow E X n i k) := by
  intro k hk
  unfold qrow
  split
  · exact (hE k (by omega)).val
  · exact hX.val
theorem zrows_inv {E : Nat → Nat → Raw} {X : Nat → Raw} {n N : Nat} {OUT : Option Gz} (hE : ∀ i, i < n → ∀ k, k < n → FitS N (E i k).2.1 (E i k).2.2) (hX : ∀ i, i < n → FitS N (X i).2.1 (X i).2.2)
    (hN : (1 + (n + 2) * N) * 3 ^ n ≤ 1073741824) (ho : bar n n 0 (false, 1) (zrows E X n) = OUT) : BInv n 0 (1 + (n + 2) * N) (false, 1) (zrows E X n) OUT := by
  refine ⟨Nat.zero_le _, by rw [Nat.sub_zero]; exact ho, fun i hi j hj => ?_, by rw [nb_one]; omega, Nat.one_pos, by omega, by rw [Nat.sub_zero]; exact hN, fun i hi => by omega, fun i hi => by omega⟩
  have hq := qrow_fit (hE i hi) (hX i hi)
  have h1 := nb_mul_le (hq j hj).num (Nat.le_trans (nb_mono (Nat.div_le_self (comm (qrow E X n i) (n + 1)) (qrow E X n i j).den)) (comm_nb hq (n + 1) (Nat.le_refl _)))
  have h2 : (n + 2) * N = (n + 1) * N + N := Nat.succ_mul (n + 1) N
  show nb (_ * _) ≤ _
  omega
end Go.Proofs.YtiamgjepcagohaaGreatDoor.P
end
