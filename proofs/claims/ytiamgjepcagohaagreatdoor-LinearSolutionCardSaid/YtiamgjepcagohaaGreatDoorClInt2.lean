/- ClInt2: lemmas of this claim, of 3 texts. -/
import Derived.Test.YtiamgjepcagohaaGreatDoorClApp
section
/- Package linear: integers with a sign. -/
namespace Go.Proofs.YtiamgjepcagohaaGreatDoor.P
open Go Go.RowKit Go.Proofs.YtiamgjepcagohaaGreatDoorW.PrintWords Go.Proofs.YtiamgjepcagohaaGreatDoorW.PrintLast Go.Proofs.YtiamgjepcagohaaGreatDoorW.PrintMore Go.Proofs.YtiamgjepcagohaaGreatDoor.Ari

abbrev Sg := Bool × Nat
abbrev iv (e : Sg) : Value := .agg #[.bool e.1, .string (enc e.2)]
def zt (a b : Sg) : Sg := (a.1 != b.1, a.2 * b.2)
def zm (a b : Sg) : Sg := if a.1 ≠ b.1 then (a.1, a.2 + b.2) else if b.2 ≤ a.2 then (a.1, a.2 - b.2) else (!a.1, b.2 - a.2)
def zo (a b : Sg) : Sg := (a.1 != b.1, a.2 / b.2)
/-- A variable of two cells. -/
structure Bz (W : World) (g : Nat) (a b : Value) : Prop where
  lt : g < W.heap.size
  c0 : W.cell? ⟨g, 0, none⟩ = some a
  c1 : W.cell? ⟨g, 1, none⟩ = some b
  f0 : W.frozen? ⟨g, 0, none⟩ = false
  f1 : W.frozen? ⟨g, 1, none⟩ = false
section
variable {w W : World} {g : Nat} {a b : Value} {S : Nat → Prop}
theorem Bz.chg (h : Bz w g a b) (hb : Chg w W S) (hs : ¬ S g) : Bz W g a b :=
  ⟨Nat.lt_of_lt_of_le h.lt hb.size, (cell_chg hb h.lt hs).trans h.c0, (cell_chg hb h.lt hs).trans h.c1, (frozen_chg hb h.lt hs).trans h.f0, (frozen_chg hb h.lt hs).trans h.f1⟩
theorem Bz.below (h : Bz w g a b) (hb : Below w.heap.size w W) : Bz W g a b := h.chg (Chg.of_below hb (fun _ => False)) (fun h => h)
theorem Bz.alloc (w : World) (a b : Value) (t : TypeId) : Bz (w.alloc (.cells #[a, b] t)) w.heap.size a b := by
  constructor <;> simp
theorem Bz.set (h : Bz W g a b) (a' b' : Value) : Bz ((W.setCell ⟨g, 0, none⟩ a').setCell ⟨g, 1, none⟩ b') g a' b' := by
  obtain ⟨h0, h1, h2, h3, h4⟩ := h
  refine ⟨?_, ?_, ?_, ?_, ?_⟩
  · simp [go_sem, *]
  · simp [go_sem, *]
  · simp [go_sem, *]
  all_goals (rw [World.frozen?_setCell, World.frozen?_setCell]; assumption)
theorem Bz.load (h : Bz W g a b) : (loadVar 68 ⟨g, 0, none⟩).run Tryz.prog W = .ok (.agg #[a, b]) W := by
  obtain ⟨h0, h1, h2, h3, h4⟩ := h
  simp [go_sem, *]
theorem results_bz {fn : Func} {p : Tmp} {tmps : Array Value} (h : fn.results = #[.cell p 68]) (hp : tmps.getD p undef = .pointer (some ⟨g, 0, none⟩)) (hb : Bz W g a b) :
    (results fn tmps).run Tryz.prog W = .ok (.agg #[a, b]) W := by
  have h1 := hb.load
  have h2 : tmps[p]?.getD undef = .pointer (some ⟨g, 0, none⟩) := by simpa using hp
  simp only [results, h]
  simp [Sem.run_bind, Result.andThen, h2, asAddr, h1]
theorem bz3 (w : World) (a b a' b' : Value) (t : TypeId) : ∃ W, ((w.alloc (.cells #[a, b] t)).alloc (.cells #[a', b'] t)).alloc (.cells #[.bool false, .string ⟨#[]⟩] t) = W ∧ Aside0 (Bz W w.heap.size a b) ∧ Aside0 (Bz W (w.heap.size + 1) a' b') ∧ Aside0 (Bz W (w.heap.size + 1 + 1) (.bool false) (.string ⟨#[]⟩)) ∧ Below w.heap.size w W := by
  refine ⟨_, rfl, ⟨(Bz.alloc _ _ _ _).below (below_alloc (below_alloc (Below.refl _ _) _) _)⟩, ⟨?_⟩, ⟨?_⟩, below_alloc (below_alloc (below_alloc (Below.refl _ _) _) _) _⟩
  · have := (Bz.alloc (w.alloc (.cells #[a, b] t)) a' b' t).below (below_alloc (Below.refl _ _) (.cells #[.bool false, .string ⟨#[]⟩] t))
    simpa using this
  · have := Bz.alloc ((w.alloc (.cells #[a, b] t)).alloc (.cells #[a', b'] t)) (.bool false) (.string ⟨#[]⟩) t
    simpa using this
theorem bz1 (w : World) (a b : Value) (t : TypeId) : ∃ W, w.alloc (.cells #[a, b] t) = W ∧ Aside0 (Bz W w.heap.size a b) ∧ Below w.heap.size w W :=
  ⟨_, rfl, ⟨Bz.alloc _ _ _ _⟩, below_alloc (Below.refl _ _) _⟩
theorem below_set2 {w W : World} {g : Nat} {u u' : Value} (h : Below w.heap.size w W) (hg : w.heap.size ≤ g) : Below w.heap.size w ((W.setCell ⟨g, 0, none⟩ u).setCell ⟨g, 1, none⟩ u') := below_set (below_set h hg) hg
end
set_option maxHeartbeats 2000000 in
set_option maxRecDepth 1000000 in
theorem times_c {w0 w : World} {a b : Sg} {N M : Nat} (hB : Below w0.heap.size w0 w) (h1 : nb a.2 ≤ N) (h2 : nb b.2 ≤ M) (hN : N + M ≤ 1073741824) :
    Calls Tryz.prog 67 #[iv a, iv b] w fun e w' => e = .returned (iv (zt a b)) ∧ Below w0.heap.size w0 w' := by
  obtain ⟨b1, x⟩ := a
  obtain ⟨b2, y⟩ := b
  have H0 := Aside0.mk hB; obtain ⟨W, hW, HX, HY, HR, hbW⟩ := bz3 w (.bool b1) (.string (enc x)) (.bool b2) (.string (enc y)) 68; have HW : Aside0 (Below w0.heap.size w0 W) := ⟨below_step hB hbW⟩; have HE := Aside0.mk hW
  have S1 : Sm x := ⟨by simp only at h1; omega⟩
  have S2 : Sm y := ⟨by simp only at h2; omega⟩
  obtain ⟨z, hz⟩ : ∃ z, x * y = z := ⟨_, rfl⟩
  have HM : Aside0 (∀ U V : World, Below U.heap.size U V → Calls Tryz.prog 65 #[.string (enc x), .string (enc y)] V fun e w' => e = .returned (.string (enc z)) ∧ Below U.heap.size U w') := ⟨fun U V h => hz ▸ mul_s h S1 S2⟩
  have HZ : Aside0 (iv (zt (b1, x) (b2, y)) = .agg #[.bool (b1 != b2), .string (enc z)]) := ⟨by rw [← hz]; rfl⟩
  rw [HZ.out]
  clear hB hW hbW h1 h2 hN hz HZ
  go_enter Tryz.func67, Tryz.ntmps67
  go_upto_region 1 with (fail)
  rw [HE.out]
  (refine wp_region_below_tail 11 (by kernel_rfl) (by kernel_rfl) ?_); (simp only [List.take_succ_cons, List.take_zero, List.drop_succ_cons, List.drop_zero]); (repeat (refine wpQuiet_step (fun K hK => ?_); go_simp; first | (refine hK _ ?_; clear hK K) | (apply Exists.intro; refine ⟨fun V hV => ?_, hK _ ?_⟩; (focus ((first | rfl | ((with_reducible exact HM.out _ _ hV)) | ((have kx := (HX.out.below hV)); have kc0 := kx.c0; have kc1 := kx.c1; clear kx; go_simp; first | rfl | fail) | ((have kx := (HY.out.below hV)); have kc0 := kx.c0; have kc1 := kx.c1; clear kx; go_simp; first | rfl | fail)))); clear hK K))); (refine wpQuiet_nil ?_); (intro V hV)
  have kx := (HR.out.below hV); have kr0 := kx.c0; have kr1 := kx.c1; have fr0 := kx.f0; have fr1 := kx.f1; clear kx
  go_wp2
  refine bodyPost_ret (results_bz rfl rfl ((HR.out.below hV).set _ _)) rfl ?_
  exact ⟨rfl, below_set2 (below_step HW.out hV) (by have := H0.out.size; omega)⟩

set_option maxHeartbeats 2000000 in
set_option maxRecDepth 1000000 in
theorem over_c {w0 w : World} {a b : Sg} {N : Nat} (hB : Below w0.heap.size w0 w) (h1 : nb a.2 ≤ N) (h2 : nb b.2 ≤ N) (hN : N ≤ 1073741824) (h0 : 0 < b.2) :
    Calls Tryz.prog 69 #[iv a, iv b] w fun e w' => e = .returned (iv (zo a b)) ∧ Below w0.heap.size w0 w' := by
  obtain ⟨b1, x⟩ := a
  obtain ⟨b2, y⟩ := b
  have H0 := Aside0.mk hB; obtain ⟨W, hW, HX, HY, HR, hbW⟩ := bz3 w (.bool b1) (.string (enc x)) (.bool b2) (.string (enc y)) 68; have HW : Aside0 (Below w0.heap.size w0 W) := ⟨below_step hB hbW⟩; have HE := Aside0.mk hW
  have S1 : Sm x := ⟨by simp only at h1; omega⟩
  have S2 : Sm y := ⟨by simp only at h2; omega⟩
  obtain ⟨z, hz⟩ : ∃ z, x / y = z := ⟨_, rfl⟩
  obtain ⟨r, hr⟩ : ∃ z, x % y = z := ⟨_, rfl⟩
  have HM : Aside0 (∀ U V : World, Below U.heap.size U V → Calls Tryz.prog 63 #[.string (enc x), .string (enc y)] V fun e w' => e = .returned (.tuple #[.string (enc z), .string (enc r), .bool true]) ∧ Below U.heap.size U w') := ⟨fun U V h => hr ▸ hz ▸ div_s h S1 S2 h0⟩
  have HZ : Aside0 (iv (zo (b1, x) (b2, y)) = .agg #[.bool (b1 != b2), .string (enc z)]) := ⟨by rw [← hz]; rfl⟩
  rw [HZ.out]
  clear hB hW hbW h1 h2 hN hz hr HZ h0
  go_enter Tryz.func69, Tryz.ntmps69
  go_upto_region 1 with (fail)
  rw [HE.out]
  have kx := (HX.out); have kx0 := kx.c0; have kx1 := kx.c1; have fx0 := kx.f0; have fx1 := kx.f1; clear kx; have kx := (HY.out); have ky0 := kx.c0; have ky1 := kx.c1; have fy0 := kx.f0; have fy1 := kx.f1; clear kx; have kx := (HR.out); have kr0 := kx.c0; have kr1 := kx.c1; have fr0 := kx.f0; have fr1 := kx.f1; clear kx
  go_wp2_with (go_at_call 63; (with_reducible refine (HM.out _ _ (Below.refl _ _)).mono ?_); rintro e w1 ⟨rfl, hV⟩; replace HX := Aside0.mk (HX.out.below hV); replace HY := Aside0.mk (HY.out.below hV); replace HR := Aside0.mk (HR.out.below hV); replace HW := Aside0.mk (below_step HW.out hV); clear kx0 kx1 fx0 fx1 ky0 ky1 fy0 fy1 kr0 kr1 fr0 fr1; have kx := (HX.out); have kx0 := kx.c0; have kx1 := kx.c1; have fx0 := kx.f0; have fx1 := kx.f1; clear kx; have kx := (HY.out); have ky0 := kx.c0; have ky1 := kx.c1; have fy0 := kx.f0; have fy1 := kx.f1; clear kx; have kx := (HR.out); have kr0 := kx.c0; have kr1 := kx.c1; have fr0 := kx.f0; have fr1 := kx.f1; clear kx; clear hV)
  refine bodyPost_ret (results_bz rfl rfl (HR.out.set _ _)) rfl ?_
  exact ⟨rfl, below_set2 HW.out (by have := H0.out.size; omega)⟩
set_option maxHeartbeats 2000000 in
set_option maxRecDepth 1000000 in
theorem minusZ_c {w0 w : World} {a b : Sg} {N : Nat} (hB : Below w0.heap.size w0 w) (h1 : nb a.2 ≤ N) (h2 : nb b.2 ≤ N) (hN : N + 1 ≤ 1073741824) :
    Calls Tryz.prog 68 #[iv a, iv b] w fun e w' => e = .returned (iv (zm a b)) ∧ Below w0.heap.size w0 w' := by
  obtain ⟨b1, x⟩ := a
  obtain ⟨b2, y⟩ := b
  have H0 := Aside0.mk hB; obtain ⟨W, hW, HX, HY, HR, hbW⟩ := bz3 w (.bool b1) (.string (enc x)) (.bool b2) (.string (enc y)) 68; have HW : Aside0 (Below w0.heap.size w0 W) := ⟨below_step hB hbW⟩; have HE := Aside0.mk hW
  have S1 : Sm x := ⟨by simp only at h1; omega⟩
  have S2 : Sm y := ⟨by simp only at h2; omega⟩
  have SS := Aside0.mk (And.intro S1 S2)
  clear hB hW hbW h1 h2 hN S1 S2
  by_cases hb : b1 = b2
  · subst hb
    rcases Nat.lt_or_ge x y with hl | hl
    · have HL := Aside0.mk hl
      obtain ⟨z, hz⟩ : ∃ z, y - x = z := ⟨_, rfl⟩
      have HZ : Aside0 (iv (zm (b1, x) (b1, y)) = .agg #[.bool !b1, .string (enc z)] ∧ y - x = z) := ⟨by
        refine ⟨?_, hz⟩
        unfold zm
        rw [if_neg (by simp), if_neg (by simp only; omega), ← hz]⟩
      rw [HZ.out.1]
      clear hz hl
      go_enter Tryz.func68, Tryz.ntmps68
      go_upto_region 1 with (fail)
      rw [HE.out]
      have kx := (HX.out); have kx0 := kx.c0; have kx1 := kx.c1; have fx0 := kx.f0; have fx1 := kx.f1; clear kx; have kx := (HY.out); have ky0 := kx.c0; have ky1 := kx.c1; have fy0 := kx.f0; have fy1 := kx.f1; clear kx; have kx := (HR.out); have kr0 := kx.c0; have kr1 := kx.c1; have fr0 := kx.f0; have fr1 := kx.f1; clear kx
      go_wp2_with (first
        | (go_at_call 90; (with_reducible refine (sub_gt_c (Below.refl _ _) SS.out.1 SS.out.2 HL.out).mono ?_); rintro e w1 ⟨rfl, hV⟩; replace HX := Aside0.mk (HX.out.below hV); replace HY := Aside0.mk (HY.out.below hV); replace HR := Aside0.mk (HR.out.below hV); replace HW := Aside0.mk (below_step HW.out hV); clear kx0 kx1 fx0 fx1 ky0 ky1 fy0 fy1 kr0 kr1 fr0 fr1; have kx := (HX.out); have kx0 := kx.c0; have kx1 := kx.c1; have fx0 := kx.f0; have fx1 := kx.f1; clear kx; have kx := (HY.out); have ky0 := kx.c0; have ky1 := kx.c1; have fy0 := kx.f0; have fy1 := kx.f1; clear kx; have kx := (HR.out); have kr0 := kx.c0; have kr1 := kx.c1; have fr0 := kx.f0; have fr1 := kx.f1; clear kx; clear hV)
        | (go_at_call 90; (with_reducible refine (sub_le_c (Below.refl _ _) SS.out.2 SS.out.1 (Nat.le_of_lt HL.out) HZ.out.2).mono ?_); rintro e w1 ⟨rfl, hV⟩; replace HX := Aside0.mk (HX.out.below hV); replace HY := Aside0.mk (HY.out.below hV); replace HR := Aside0.mk (HR.out.below hV); replace HW := Aside0.mk (below_step HW.out hV); clear kx0 kx1 fx0 fx1 ky0 ky1 fy0 fy1 kr0 kr1 fr0 fr1; have kx := (HX.out); have kx0 := kx.c0; have kx1 := kx.c1; have fx0 := kx.f0; have fx1 := kx.f1; clear kx; have kx := (HY.out); have ky0 := kx.c0; have ky1 := kx.c1; have fy0 := kx.f0; have fy1 := kx.f1; clear kx; have kx := (HR.out); have kr0 := kx.c0; have kr1 := kx.c1; have fr0 := kx.f0; have fr1 := kx.f1; clear kx; clear hV))
      refine bodyPost_ret (results_bz rfl rfl (HR.out.set _ _)) rfl ?_
      exact ⟨rfl, below_set2 HW.out (by have := H0.out.size; omega)⟩
    · have HL := Aside0.mk hl
      obtain ⟨z, hz⟩ : ∃ z, x - y = z := ⟨_, rfl⟩
      have HZ : Aside0 (iv (zm (b1, x) (b1, y)) = .agg #[.bool b1, .string (enc z)] ∧ x - y = z) := ⟨by
        refine ⟨?_, hz⟩
        unfold zm
        rw [if_neg (by simp), if_pos (by simpa using hl), ← hz]⟩
      rw [HZ.out.1]
      clear hz hl
      go_enter Tryz.func68, Tryz.ntmps68
      go_upto_region 1 with (fail)
      rw [HE.out]
      have kx := (HX.out); have kx0 := kx.c0; have kx1 := kx.c1; have fx0 := kx.f0; have fx1 := kx.f1; clear kx; have kx := (HY.out); have ky0 := kx.c0; have ky1 := kx.c1; have fy0 := kx.f0; have fy1 := kx.f1; clear kx; have kx := (HR.out); have kr0 := kx.c0; have kr1 := kx.c1; have fr0 := kx.f0; have fr1 := kx.f1; clear kx
      go_wp2_with (go_at_call 90; (with_reducible refine (sub_le_c (Below.refl _ _) SS.out.1 SS.out.2 HL.out HZ.out.2).mono ?_); rintro e w1 ⟨rfl, hV⟩; replace HX := Aside0.mk (HX.out.below hV); replace HY := Aside0.mk (HY.out.below hV); replace HR := Aside0.mk (HR.out.below hV); replace HW := Aside0.mk (below_step HW.out hV); clear kx0 kx1 fx0 fx1 ky0 ky1 fy0 fy1 kr0 kr1 fr0 fr1; have kx := (HX.out); have kx0 := kx.c0; have kx1 := kx.c1; have fx0 := kx.f0; have fx1 := kx.f1; clear kx; have kx := (HY.out); have ky0 := kx.c0; have ky1 := kx.c1; have fy0 := kx.f0; have fy1 := kx.f1; clear kx; have kx := (HR.out); have kr0 := kx.c0; have kr1 := kx.c1; have fr0 := kx.f0; have fr1 := kx.f1; clear kx; clear hV)
      refine bodyPost_ret (results_bz rfl rfl (HR.out.set _ _)) rfl ?_
      exact ⟨rfl, below_set2 HW.out (by have := H0.out.size; omega)⟩
  · obtain ⟨z, hz⟩ : ∃ z, x + y = z := ⟨_, rfl⟩
    have HM : Aside0 (∀ U V : World, Below U.heap.size U V → Calls Tryz.prog 89 #[.string (enc x), .string (enc y)] V fun e w' => e = .returned (.string (enc z)) ∧ Below U.heap.size U w') := ⟨fun U V h => hz ▸ add_s h SS.out.1 SS.out.2⟩
    have HZ : Aside0 (iv (zm (b1, x) (b2, y)) = .agg #[.bool b1, .string (enc z)]) := ⟨by
      unfold zm
      rw [if_pos (by simpa using hb), ← hz]⟩
    rw [HZ.out]
    have hne : (b1 == b2) = false := beq_bool_ne hb
    clear hz HZ hb
    go_enter Tryz.func68, Tryz.ntmps68
    go_upto_region 1 with (fail)
    rw [HE.out]
    have kx := (HX.out); have kx0 := kx.c0; have kx1 := kx.c1; have fx0 := kx.f0; have fx1 := kx.f1; clear kx; have kx := (HY.out); have ky0 := kx.c0; have ky1 := kx.c1; have fy0 := kx.f0; have fy1 := kx.f1; clear kx; have kx := (HR.out); have kr0 := kx.c0; have kr1 := kx.c1; have fr0 := kx.f0; have fr1 := kx.f1; clear kx
    go_upto_region 2 with (fail)
    clear kx0 kx1 fx0 fx1 ky0 ky1 fy0 fy1 kr0 kr1 fr0 fr1
    (refine wp_region_below_tail 8 (by kernel_rfl) (by kernel_rfl) ?_); (simp only [List.take_succ_cons, List.take_zero, List.drop_succ_cons, List.drop_zero]); (repeat (refine wpQuiet_step (fun K hK => ?_); go_simp; first | (refine hK _ ?_; clear hK K) | (apply Exists.intro; refine ⟨fun V hV => ?_, hK _ ?_⟩; (focus ((first | rfl | ((with_reducible exact HM.out _ _ hV)) | ((have kx := (HX.out.below hV)); have kc0 := kx.c0; have kc1 := kx.c1; clear kx; go_simp; first | rfl | fail) | ((have kx := (HY.out.below hV)); have kc0 := kx.c0; have kc1 := kx.c1; clear kx; go_simp; first | rfl | fail)))); clear hK K))); (refine wpQuiet_nil ?_); (intro V hV)
    have kx := (HR.out.below hV); have kr0 := kx.c0; have kr1 := kx.c1; have fr0 := kx.f0; have fr1 := kx.f1; clear kx
    go_wp2
    refine bodyPost_ret (results_bz rfl rfl ((HR.out.below hV).set _ _)) rfl ?_
    exact ⟨rfl, below_set2 (below_step HW.out hV) (by have := H0.out.size; omega)⟩
end Go.Proofs.YtiamgjepcagohaaGreatDoor.P
end
section
/- Rows of integers in memory, and slices of such rows. -/
namespace Go.Proofs.YtiamgjepcagohaaGreatDoor.P
open Go Go.RowKit Go.Proofs.YtiamgjepcagohaaGreatDoorW.PrintWords Go.Proofs.YtiamgjepcagohaaGreatDoorW.PrintLast Go.Proofs.YtiamgjepcagohaaGreatDoorW.PrintMore Go.Proofs.YtiamgjepcagohaaGreatDoor.Ari

structure Ez (W : World) (b o : Nat) (e : Sg) : Prop where
  c0 : W.cell? ⟨b, o, none⟩ = some (.bool e.1)
  c1 : W.cell? ⟨b, o + 1, none⟩ = some (.string (enc e.2))
section
variable {w W : World} {b o n m : Nat} {e e' : Sg} {S : Nat → Prop}
theorem Ez.lt (h : Ez W b o e) : b < W.heap.size := World.block_lt_of_cell? W ⟨b, o, none⟩ h.c0
theorem Ez.chg (k : Ez w b o e) (h : Chg w W S) (hs : ¬ S b) : Ez W b o e :=
  ⟨(cell_chg h k.lt hs).trans k.c0, (cell_chg h k.lt hs).trans k.c1⟩
theorem Ez.below (k : Ez w b o e) (h : Below w.heap.size w W) : Ez W b o e := k.chg (Chg.of_below h (fun _ => False)) (fun h => h)
/-- A row of this call's own: it can be written. -/
structure RowZ (W : World) (b m : Nat) (q : Nat → Sg) : Prop where
  lt : b < W.heap.size
  el : ∀ k, k < m → Ez W b (k * 2) (q k)
  fr : ∀ o, W.frozen? ⟨b, o, none⟩ = false
theorem RowZ.chg {q : Nat → Sg} (k : RowZ w b m q) (h : Chg w W S) (hs : ¬ S b) : RowZ W b m q :=
  ⟨Nat.lt_of_lt_of_le k.lt h.size, fun i hi => (k.el i hi).chg h hs, fun o => (frozen_chg h k.lt hs).trans (k.fr o)⟩
theorem RowZ.below {q : Nat → Sg} (k : RowZ w b m q) (h : Below w.heap.size w W) : RowZ W b m q := k.chg (Chg.of_below h (fun _ => False)) (fun h => h)
theorem RowZ.congr {q q' : Nat → Sg} (k : RowZ w b m q) (h : ∀ i, i < m → q i = q' i) : RowZ w b m q' := ⟨k.lt, fun i hi => h i hi ▸ k.el i hi, k.fr⟩
theorem set2_other {b o b' o' : Nat} {u0 u1 : Value} (h : b ≠ b' ∨ o' + 1 < o ∨ o < o') :
    (((W.setCell ⟨b', o', none⟩ u0).setCell ⟨b', o' + 1, none⟩ u1)).cell? ⟨b, o, none⟩ = W.cell? ⟨b, o, none⟩ := by
  rw [World.cell?_setCell_other, World.cell?_setCell_other]
  all_goals intro h2; injection h2 with h3 h4; omega
theorem Ez.set (h : Ez W b o e) (x : Bool) (n : Nat) : Ez ((W.setCell ⟨b, o, none⟩ (.bool x)).setCell ⟨b, o + 1, none⟩ (.string (enc n))) b o (x, n) := by
  obtain ⟨h0, h1⟩ := h
  refine ⟨?_, ?_⟩
  · simp [go_sem, *]
  · simp [go_sem, *]
theorem Ez.other (h : Ez W b o e) {b' o' : Nat} {u0 u1 : Value} (hne : b ≠ b' ∨ o' + 1 < o ∨ o + 1 < o') : Ez ((W.setCell ⟨b', o', none⟩ u0).setCell ⟨b', o' + 1, none⟩ u1) b o e :=
  ⟨(set2_other (by omega)).trans h.c0, (set2_other (by omega)).trans h.c1⟩
theorem RowZ.set {q : Nat → Sg} (h : RowZ W b m q) {k : Nat} (hk : k < m) (r : Sg) : RowZ ((W.setCell ⟨b, k * 2, none⟩ (.bool r.1)).setCell ⟨b, k * 2 + 1, none⟩ (.string (enc r.2))) b m (fun i => if i = k then r else q i) := by
  refine ⟨by simpa using h.lt, fun i hi => ?_, fun o => ?_⟩
  · by_cases e : i = k
    · subst e
      rw [if_pos rfl]
      exact (h.el i hi).set _ _
    · rw [if_neg e]
      exact (h.el i hi).other (by omega)
  · rw [World.frozen?_setCell, World.frozen?_setCell]; exact h.fr o
theorem chg_set2 (h : Chg w W S) {b o : Nat} (hp : S b ∨ w.heap.size ≤ b) (u0 u1 : Value) : Chg w ((W.setCell ⟨b, o, none⟩ u0).setCell ⟨b, o + 1, none⟩ u1) S :=
  (h.setCell (p := ⟨b, o, none⟩) hp u0).setCell (p := ⟨b, o + 1, none⟩) hp u1
/-- A slice of n own rows of m numbers each. -/
structure GridZ (W : World) (B g n m : Nat) (A C : Nat → Nat) (G : Nat → Nat → Sg) : Prop where
  base : B ≤ g
  lt : g < W.heap.size
  top : ∀ i, i < n → W.cell? ⟨g, i, none⟩ = some (.slice (some ⟨A i, 0, none⟩) m (C i))
  ftop : ∀ o, W.frozen? ⟨g, o, none⟩ = false
  rows : ∀ i, i < n → RowZ W (A i) m (G i)
  ge : ∀ i, i < n → B ≤ A i
  ne : ∀ i, i < n → A i ≠ g
  inj : ∀ i j, i < n → j < n → A i = A j → i = j
variable {B g : Nat} {A C : Nat → Nat} {G : Nat → Nat → Sg}
theorem GridZ.chg (k : GridZ w B g n m A C G) (h : Chg w W S) (hs : ∀ b, B ≤ b → ¬ S b) : GridZ W B g n m A C G :=
  ⟨k.base, Nat.lt_of_lt_of_le k.lt h.size, fun i hi => (cell_chg h k.lt (hs _ k.base)).trans (k.top i hi), fun o => (frozen_chg h k.lt (hs _ k.base)).trans (k.ftop o), fun i hi => (k.rows i hi).chg h (hs _ (k.ge i hi)), k.ge, k.ne, k.inj⟩
theorem GridZ.chg2 (k : GridZ w B g n m A C G) (h : Chg w W S) (hg : ¬ S g) (hA : ∀ i, i < n → ¬ S (A i)) : GridZ W B g n m A C G :=
  ⟨k.base, Nat.lt_of_lt_of_le k.lt h.size, fun i hi => (cell_chg h k.lt hg).trans (k.top i hi), fun o => (frozen_chg h k.lt hg).trans (k.ftop o), fun i hi => (k.rows i hi).chg h (hA i hi), k.ge, k.ne, k.inj⟩
theorem GridZ.below (k : GridZ w B g n m A C G) (h : Below w.heap.size w W) : GridZ W B g n m A C G := k.chg (Chg.of_below h (fun _ => False)) (fun _ _ h => h)
theorem GridZ.congr {G' : Nat → Nat → Sg} (k : GridZ w B g n m A C G) (h : ∀ i, i < n → ∀ j, j < m → G i j = G' i j) : GridZ w B g n m A C G' :=
  ⟨k.base, k.lt, k.top, k.ftop, fun i hi => (k.rows i hi).congr (h i hi), k.ge, k.ne, k.inj⟩
/-- One row is written, by whatever leaves all else. -/
theorem GridZ.row (k : GridZ w B g n m A C G) {r : Nat} (hr : r < n) {q : Nat → Sg} (h : Chg w W (fun b => b = A r)) (hq : RowZ W (A r) m q) : GridZ W B g n m A C (fun i => if i = r then q else G i) := by
  refine ⟨k.base, Nat.lt_of_lt_of_le k.lt h.size, fun i hi => (cell_chg h k.lt (fun e => k.ne r hr e.symm)).trans (k.top i hi), fun o => (frozen_chg h k.lt (fun e => k.ne r hr e.symm)).trans (k.ftop o), fun i hi => ?_, k.ge, k.ne, k.inj⟩
  by_cases e : i = r
  · subst e
    simpa using hq
  · simp only [if_neg e]
    exact (k.rows i hi).chg h (fun h2 => e (k.inj i r hi hr h2))
end

def swapZ (G : Nat → Nat → Sg) (i j : Nat) : Nat → Nat → Sg := fun k => if k = i then G j else if k = j then G i else G k
theorem GridZ.swap {W : World} {B g n m i j : Nat} {A C : Nat → Nat} {G : Nat → Nat → Sg} (k : GridZ W B g n m A C G) (hi : i < n) (hj : j < n) :
    GridZ ((W.setCell ⟨g, i, none⟩ (.slice (some ⟨A j, 0, none⟩) m (C j))).setCell ⟨g, j, none⟩ (.slice (some ⟨A i, 0, none⟩) m (C i))) B g n m (sw A i j) (sw C i j) (swapZ G i j) := by
  have hc : Chg W ((W.setCell ⟨g, i, none⟩ (.slice (some ⟨A j, 0, none⟩) m (C j))).setCell ⟨g, j, none⟩ (.slice (some ⟨A i, 0, none⟩) m (C i))) (fun b => b = g) :=
    ((Chg.refl W (fun b => b = g)).setCell (p := ⟨g, i, none⟩) (.inl rfl) _).setCell (p := ⟨g, j, none⟩) (.inl rfl) _
  have hsw : ∀ x, x < n → ∃ y, y < n ∧ sw A i j x = A y ∧ swapZ G i j x = G y ∧ y = (if x = i then j else if x = j then i else x) := by
    intro x hx
    unfold sw swapZ
    split
    · exact ⟨j, hj, rfl, rfl, rfl⟩
    · split
      · exact ⟨i, hi, rfl, rfl, rfl⟩
      · exact ⟨x, hx, rfl, rfl, rfl⟩
  refine ⟨k.base, by simpa using k.lt, fun x hx => ?_, fun o => by rw [World.frozen?_setCell, World.frozen?_setCell]; exact k.ftop o, fun x hx => ?_, fun x hx => ?_, fun x hx => ?_, fun x y hx hy h => ?_⟩
  · have h1 := k.top i hi
    have h2 := k.top j hj
    unfold sw
    by_cases e : x = j
    · subst e
      rw [cell_setn]
      · by_cases e2 : x = i
        · subst e2; simp
        · simp [e2]
      · by_cases e2 : x = i
        · subst e2; rw [cell_setn (by rw [h1]; rfl)]; rfl
        · rw [World.cell?_setCell_other _ _ _ _ (fun h => e2 (by injection h with _ h; exact h.symm)), h2]; rfl
    · rw [World.cell?_setCell_other _ _ _ _ (fun h => e (by injection h with _ h; exact h.symm))]
      by_cases e2 : x = i
      · subst e2
        rw [cell_setn (by rw [h1]; rfl), if_pos rfl, if_pos rfl]
      · rw [World.cell?_setCell_other _ _ _ _ (fun h => e2 (by injection h with _ h; exact h.symm)), if_neg e2, if_neg e, if_neg e2, if_neg e]
        exact k.top x hx
  · obtain ⟨y, hy, h1, h2, _⟩ := hsw x hx
    rw [h1, h2]
    exact (k.rows y hy).chg hc (k.ne y hy)
  · obtain ⟨y, hy, h1, _, _⟩ := hsw x hx
    rw [h1]; exact k.ge y hy
  · obtain ⟨y, hy, h1, _, _⟩ := hsw x hx
    rw [h1]; exact k.ne y hy
  · obtain ⟨x', hx', h1, _, e1⟩ := hsw x hx
    obtain ⟨y', hy', h2, _, e2⟩ := hsw y hy
    rw [h1, h2] at h
    have := k.inj _ _ hx' hy' h
    rw [e1, e2] at this
    by_cases x1 : x = i <;> by_cases x2 : x = j <;> by_cases y1 : y = i <;> by_cases y2 : y = j <;> simp only [x1, x2, y1, y2, if_true, if_false, if_pos, if_neg] at this <;> (try split at this) <;> omega
/-- i rows are done, row i is v. -/
structure PZ (W : World) (B g n m i : Nat) (v : Value) (A C : Nat → Nat) (G : Nat → Nat → Sg) : Prop where
  base : B ≤ g
  lt : g < W.heap.size
  top : ∀ j, j < n → W.cell? ⟨g, j, none⟩ = some (if j < i then .slice (some ⟨A j, 0, none⟩) m (C j) else if j = i then v else .slice none 0 0)
  ftop : ∀ o, W.frozen? ⟨g, o, none⟩ = false
  rows : ∀ j, j < i → RowZ W (A j) m (G j)
  ge : ∀ j, j < i → B ≤ A j
  ne : ∀ j, j < i → A j ≠ g
  inj : ∀ j k, j < i → k < i → A j = A k → j = k
section
variable {w W : World} {B g n m i : Nat} {v : Value} {A C : Nat → Nat} {G : Nat → Nat → Sg} {S : Nat → Prop}
theorem PZ.chg (k : PZ w B g n m i v A C G) (h : Chg w W S) (hg : ¬ S g) (hA : ∀ j, j < i → ¬ S (A j)) : PZ W B g n m i v A C G :=
  ⟨k.base, Nat.lt_of_lt_of_le k.lt h.size, fun j hj => (cell_chg h k.lt hg).trans (k.top j hj), fun o => (frozen_chg h k.lt hg).trans (k.ftop o), fun j hj => (k.rows j hj).chg h (hA j hj), k.ge, k.ne, k.inj⟩
theorem PZ.below (k : PZ w B g n m i v A C G) (h : Below w.heap.size w W) : PZ W B g n m i v A C G := k.chg (Chg.of_below h (fun _ => False)) (fun h => h) (fun _ _ h => h)
theorem PZ.store (k : PZ w B g n m i v A C G) (hi : i < n) (v' : Value) : PZ (w.setCell ⟨g, i, none⟩ v') B g n m i v' A C G := by
  have hc : Chg w (w.setCell ⟨g, i, none⟩ v') (fun b => b = g) := (Chg.refl w (fun b => b = g)).setCell (p := ⟨g, i, none⟩) (.inl rfl) _
  refine ⟨k.base, by simpa using k.lt, fun j hj => ?_, fun o => by rw [World.frozen?_setCell]; exact k.ftop o, fun j hj => (k.rows j hj).chg hc (k.ne j hj), k.ge, k.ne, k.inj⟩
  by_cases e : j = i
  · subst e
    rw [cell_setn (by rw [k.top j hj]; rfl), if_neg (by omega), if_pos rfl]
  · rw [World.cell?_setCell_other _ _ _ _ (fun h => e (by injection h with _ h; exact h.symm)), k.top j hj]
    simp only [if_neg e]
theorem PZ.next {b c bi : Nat} (k : PZ w B g n m i (.slice (some ⟨b, 0, none⟩) m c) A C G) (hr : RowZ w b m (G i)) (hb : bi ≤ b) (hB : B ≤ bi) (hg : g < bi) (hA : ∀ j, j < i → A j < bi) :
    PZ w B g n m (i + 1) (.slice none 0 0) (fun j => if j = i then b else A j) (fun j => if j = i then c else C j) G := by
  refine ⟨k.base, k.lt, fun j hj => ?_, k.ftop, fun j hj => ?_, fun j hj => ?_, fun j hj => ?_, fun x y hx hy h => ?_⟩
  · rw [k.top j hj]
    by_cases e : j = i
    · subst e; simp
    · by_cases e2 : j < i
      · rw [if_pos e2, if_pos (by omega), if_neg e, if_neg e]
      · rw [if_neg e2, if_neg e, if_neg (by omega)]
        simp
  · by_cases e : j = i
    · subst e; simpa using hr
    · simp only [if_neg e]; exact k.rows j (by omega)
  · by_cases e : j = i
    · simp only [if_pos e]; omega
    · simp only [if_neg e]; exact k.ge j (by omega)
  · by_cases e : j = i
    · simp only [if_pos e]; omega
    · simp only [if_neg e]; exact k.ne j (by omega)
  · have hA' := hA
    by_cases e1 : x = i
    · by_cases e2 : y = i
      · omega
      · simp only [if_pos e1, if_neg e2] at h
        have := hA y (by omega)
        omega
    · by_cases e2 : y = i
      · simp only [if_pos e2, if_neg e1] at h
        have := hA x (by omega)
        omega
      · simp only [if_neg e1, if_neg e2] at h
        exact k.inj x y (by omega) (by omega) h
theorem PZ.grid (k : PZ w B g n m n v A C G) : GridZ w B g n m A C G :=
  ⟨k.base, k.lt, fun j hj => by rw [k.top j hj, if_pos hj], k.ftop, k.rows, k.ge, k.ne, k.inj⟩
end
theorem PZ.start (w : World) (n m : Nat) (A C : Nat → Nat) (G : Nat → Nat → Sg) (B : Nat) (hB : B ≤ w.heap.size) : PZ (w.alloc (.cells (madeCells #[.slice none 0 0] n) 63)) B w.heap.size n m 0 (.slice none 0 0) A C G := by
  have h := World.rowIs_made w (.slice none 0 0) n 63
  refine ⟨hB, h.lt, fun j hj => ?_, fun o => h.frozen o, fun j hj => by omega, fun j hj => by omega, fun j hj => by omega, fun j k hj => by omega⟩
  rw [h.cell hj]
  simp

theorem infoZ : (Tryz.prog.info? 68).map (fun i => (i.zero, i.size, i.bytes)) = some (some (.agg #[.bool false, .string ⟨#[]⟩]), 2, 24) := by kernel_rfl
theorem infoRowZ : (Tryz.prog.info? 63).map (fun i => (i.zero, i.size, i.bytes)) = some (some (.slice none 0 0), 1, 24) := by kernel_rfl
theorem mad2_get (z0 z1 : Value) {m i : Nat} (hi : i < m) : (madeCells #[z0, z1] (m * 2))[i * 2]? = some z0 ∧ (madeCells #[z0, z1] (m * 2))[i * 2 + 1]? = some z1 := by
  have h0 : i * 2 < m * 2 := by omega
  have h1 : i * 2 + 1 < m * 2 := by omega
  have m0 : i * 2 % 2 = 0 := by omega
  have m1 : (i * 2 + 1) % 2 = 1 := by omega
  refine ⟨?_, ?_⟩ <;> simp [madeCells, h0, h1, m0, m1]
theorem make_ints (m : Nat) (hm : m ≤ 1000) (w : World) : (Instr.makeSlice 63 (.int .i64 (m : Int)) (.int .i64 (m : Int))).run Tryz.prog w =
    .ok (.slice (some ⟨w.heap.size, 0, none⟩) m m) (w.alloc (.cells (madeCells #[.bool false, .string ⟨#[]⟩] (m * 2)) 68)) := by
  obtain ⟨i, hi, hzz⟩ := Option.map_eq_some_iff.1 infoZ
  simp only [Prod.mk.injEq] at hzz
  obtain ⟨hz, hs, hb⟩ := hzz
  have hr := run_make (P := Tryz.prog) w 63 68 i _ Tryz.underlying63 hi hz .i64 .i64 m m (by omega) (Int.le_refl _) (by rw [hb]; omega) (by omega)
  simp only [Int.toNat_natCast, hs] at hr
  exact hr
theorem made_rowZ (w : World) (m : Nat) : RowZ (w.alloc (.cells (madeCells #[.bool false, .string ⟨#[]⟩] (m * 2)) 68)) w.heap.size m (fun _ => (false, 0)) := by
  refine ⟨by simp, fun i hi => ?_, fun o => ?_⟩
  · obtain ⟨h0, h1⟩ := mad2_get (.bool false) (.string ⟨#[]⟩) hi
    refine ⟨?_, ?_⟩
    · rw [cell_of_row _ w.heap.size (i * 2) _ _ (0, 0) (heap_alloc_new w _)]; exact h0
    · rw [cell_of_row _ w.heap.size (i * 2 + 1) _ _ (0, 0) (heap_alloc_new w _)]; rw [enc_zero]; exact h1
  · exact frozen_of_row _ w.heap.size o _ _ (heap_alloc_new w _)
end Go.Proofs.YtiamgjepcagohaaGreatDoor.P
end
section
/- Package linear: integers. -/
namespace Go.Proofs.YtiamgjepcagohaaGreatDoor.P
open Go Go.RowKit Go.Proofs.YtiamgjepcagohaaGreatDoorW.PrintWords Go.Proofs.YtiamgjepcagohaaGreatDoorW.PrintLast Go.Proofs.YtiamgjepcagohaaGreatDoorW.PrintMore Go.Proofs.YtiamgjepcagohaaGreatDoor.Ari

set_option maxHeartbeats 2000000 in
set_option maxRecDepth 1000000 in
theorem denominator_c {w0 w : World} {q : Rat} (hB : Below w0.heap.size w0 w) :
    Calls Tryz.prog 62 #[.agg #[.bool (ngv q), .string (enc q.num.natAbs), .string (encD q.den)]] w fun e w' => e = .returned (.string (enc q.den)) ∧ Below w0.heap.size w0 w' := by
  have H0 := Aside0.mk hB; obtain ⟨W, hW, HX, hbW⟩ := box1 w (.bool (ngv q)) (.string (enc q.num.natAbs)) (.string (encD q.den)) 49; have HW : Aside0 (Below w0.heap.size w0 W) := ⟨below_step hB hbW⟩; have HE := Aside0.mk hW
  have he := empty_encD q.den_pos
  have HI : Aside0 (∀ U V : World, Below U.heap.size U V → Calls Tryz.prog 33 #[.int .u64 1] V fun e w' => e = .returned (.string (enc 1)) ∧ Below U.heap.size U w') := ⟨fun U V h => fromUint_s (u := 1) h (by decide)⟩
  by_cases h1 : q.den = 1
  · rw [decide_eq_true h1] at he
    rw [h1]
    obtain ⟨t, ht⟩ : ∃ t, encD q.den = t := ⟨_, rfl⟩
    obtain ⟨o, hoo⟩ : ∃ t, enc 1 = t := ⟨_, rfl⟩
    rw [h1] at he HX HE
    obtain ⟨t, ht⟩ : ∃ t, encD 1 = t := ⟨_, rfl⟩
    rw [ht] at he HX HE ⊢
    rw [hoo] at HI ⊢
    clear hB hW hbW h1 hoo ht
    go_enter Tryz.func62, Tryz.ntmps62
    go_upto_region 1 with (fail)
    rw [HE.out]
    have kx := (HX.out); have kx0 := kx.c0; have kx1 := kx.c1; have kx2 := kx.c2; have fx0 := kx.f0; have fx1 := kx.f1; have fx2 := kx.f2; clear kx
    go_wp2_with (go_at_call 33; (with_reducible refine (HI.out _ _ (Below.refl _ _)).mono ?_); rintro e w1 ⟨rfl, hV⟩; replace HW := Aside0.mk (below_step HW.out hV); clear hV)
    go_ret
    exact ⟨rfl, HW.out⟩
  · rw [decide_eq_false h1] at he
    have hd : encD q.den = enc q.den := by unfold encD; rw [if_neg h1]
    rw [hd] at he HX HE ⊢
    obtain ⟨t, ht⟩ : ∃ t, enc q.den = t := ⟨_, rfl⟩
    rw [ht] at he HX HE ⊢
    clear hB hW hbW h1 ht hd
    go_enter Tryz.func62, Tryz.ntmps62
    go_upto_region 1 with (fail)
    rw [HE.out]
    have kx := (HX.out); have kx0 := kx.c0; have kx1 := kx.c1; have kx2 := kx.c2; have fx0 := kx.f0; have fx1 := kx.f1; have fx2 := kx.f2; clear kx
    go_wp2
    go_ret
    exact ⟨rfl, HW.out⟩

/-- The common denominator, as the program reckons it. -/
def comm (q : Nat → Rat) : Nat → Nat
  | 0 => 1
  | k + 1 => comm q k * ((q k).den / Nat.gcd (comm q k) (q k).den)
def intz (q : Nat → Rat) (m : Nat) : Nat → Sg := fun k => (ngv (q k), (q k).num.natAbs * (comm q m / (q k).den))
theorem comm_pos (q : Nat → Rat) : ∀ k, 0 < comm q k
  | 0 => Nat.one_pos
  | k + 1 => by
    rw [comm]
    refine Nat.mul_pos (comm_pos q k) (Nat.div_pos (Nat.le_of_dvd (q k).den_pos (Nat.gcd_dvd_right _ _)) (Nat.gcd_pos_of_pos_right _ (q k).den_pos))
theorem comm_nb {q : Nat → Rat} {m N : Nat} (h : ∀ k, k < m → Fit N (q k)) : ∀ k, k ≤ m → nb (comm q k) ≤ 1 + k * N
  | 0, _ => by rw [comm, nb_one]; omega
  | k + 1, hk => by
    rw [comm]
    have h1 := nb_mul_le (comm_nb h k (by omega)) (Nat.le_trans (nb_mono (Nat.div_le_self (q k).den (Nat.gcd (comm q k) (q k).den))) (h k (by omega)).den)
    have h2 : (k + 1) * N = k * N + N := Nat.succ_mul _ _
    omega
set_option maxHeartbeats 2000000 in
set_option maxRecDepth 1000000 in
theorem integers_c {w0 w : World} {b m c N : Nat} {q : Nat → Rat} (hB : Below w0.heap.size w0 w) (hQ : RowV w b m q) (hm : m ≤ 1000) (hF : ∀ k, k < m → Fit N (q k)) (hN : 1 + m * N + N + N ≤ 1073741824) :
    Calls Tryz.prog 32 #[.slice (some ⟨b, 0, none⟩) m c] w fun e w' => ∃ g, e = .returned (.slice (some ⟨g, 0, none⟩) m m) ∧ Below w0.heap.size w0 w' ∧ w.heap.size ≤ g ∧ RowZ w' g m (intz q m) := by
  have H0 := Aside0.mk hB
  have HQ := Aside0.mk hQ
  have HF := Aside0.mk (And.intro hF hN)
  have HI : Aside0 (∀ U V : World, Below U.heap.size U V → Calls Tryz.prog 33 #[.int .u64 1] V fun e w' => e = .returned (.string (enc 1)) ∧ Below U.heap.size U w') := ⟨fun U V h => fromUint_s (u := 1) h (by decide)⟩
  have HSM : Aside0 (∀ k, k ≤ m → Sm (comm q k) ∧ 0 < comm q k) := ⟨fun k hk => ⟨⟨by
    have h1 := comm_nb hF k hk
    have h2 : k * N ≤ m * N := Nat.mul_le_mul_right _ hk
    omega⟩, comm_pos q k⟩⟩
  have HDM : Aside0 (∀ k, k < m → Sm (q k).den ∧ 0 < (q k).den) := ⟨fun k hk => ⟨⟨by have := (hF k hk).den; omega⟩, (q k).den_pos⟩⟩
  have HMK : Aside0 (∀ W : World, (Instr.makeSlice 63 (.int .i64 (m : Int)) (.int .i64 (m : Int))).run Tryz.prog W = .ok (.slice (some ⟨W.heap.size, 0, none⟩) m m) (W.alloc (.cells (madeCells #[.bool false, .string ⟨#[]⟩] (m * 2)) 68))) := ⟨fun W => make_ints m hm W⟩
  clear hB hQ hF hN
  go_enter Tryz.func32, Tryz.ntmps32
  go_upto_region 2 with (go_at_call 33; (with_reducible refine (HI.out _ _ (Below.refl _ _)).mono ?_); rintro e w1 ⟨rfl, hV⟩; have HV := Aside0.mk hV; clear hV)
  go_wp2
  go_loopw [3, 19] (fun v3 v19 wr => ∃ k : Nat, k ≤ m ∧ v19 = .int .i64 k ∧ v3 = .string (enc (comm q k)) ∧ Aside0 (Below w.heap.size w wr)) (fun _ v19 _ => m - (intOf v19).toNat)
  case atStart => exact ⟨0, by omega, rfl, rfl, HV⟩
  case round =>
    clear HV
    obtain ⟨k, hk, rfl, rfl, HV⟩ := hrel
    by_cases hkm : k < m
    · have E1 := Aside0.mk ((HQ.out.below HV.out).el k hkm)
      have e0 := E1.out.c0
      have e1 := E1.out.c1
      have e2 := E1.out.c2
      obtain ⟨cc, hcc⟩ : ∃ x, comm q k = x := ⟨_, rfl⟩
      have hs1 := HSM.out k hk
      have hs2 := HDM.out k hkm
      have hs3 := HSM.out (k + 1) hkm
      have hck : comm q (k + 1) = comm q k * ((q k).den / Nat.gcd (comm q k) (q k).den) := rfl
      rw [hcc] at hs1 hck
      obtain ⟨d, hd⟩ : ∃ x, (q k).den = x := ⟨_, rfl⟩
      rw [hd] at hs2 hck
      obtain ⟨g, hg⟩ : ∃ x, Nat.gcd cc d = x := ⟨_, rfl⟩
      rw [hg] at hck
      obtain ⟨r, hr⟩ : ∃ x, d / g = x := ⟨_, rfl⟩
      rw [hr] at hck
      have hgp : 0 < g := hg ▸ Nat.gcd_pos_of_pos_right _ hs2.2
      have hgs : Sm g := hs2.1.le (hg ▸ Nat.gcd_le_right _ hs2.2)
      have hrs : Sm r := hs2.1.le (hr ▸ Nat.div_le_self _ _)
      obtain ⟨c2, hc2⟩ : ∃ x, cc * r = x := ⟨_, rfl⟩
      obtain ⟨dr, hdr⟩ : ∃ x, d % g = x := ⟨_, rfl⟩
      rw [hc2] at hck
      have HCK := Aside0.mk hck
      have HDN : Aside0 (∀ U V : World, Below U.heap.size U V → Calls Tryz.prog 62 #[rv (q k)] V fun e w' => e = .returned (.string (enc d)) ∧ Below U.heap.size U w') := ⟨fun U V h => hd ▸ denominator_c h⟩
      have HG : Aside0 (∀ U V : World, Below U.heap.size U V → Calls Tryz.prog 64 #[.string (enc cc), .string (enc d)] V fun e w' => e = .returned (.string (enc g)) ∧ Below U.heap.size U w') := ⟨fun U V h => hg ▸ gcd_s h hs1.1 hs2.1⟩
      have HDV : Aside0 (∀ U V : World, Below U.heap.size U V → Calls Tryz.prog 63 #[.string (enc d), .string (enc g)] V fun e w' => e = .returned (.tuple #[.string (enc r), .string (enc dr), .bool true]) ∧ Below U.heap.size U w') := ⟨fun U V h => hdr ▸ hr ▸ div_s h hs2.1 hgs hgp⟩
      have HMU : Aside0 (∀ U V : World, Below U.heap.size U V → Calls Tryz.prog 65 #[.string (enc cc), .string (enc r)] V fun e w' => e = .returned (.string (enc c2)) ∧ Below U.heap.size U w') := ⟨fun U V h => hc2 ▸ mul_s h hs1.1 hrs⟩
      rw [hcc]
      clear hcc hs1 hs2 hs3 hck hd hg hr hgp hgs hrs hc2 hdr
      go_upto_region 5 with (fail)
      clear e0 e1 e2
      obtain ⟨w5, hw5, HX, hV⟩ := box1 wr (.bool (ngv (q k))) (.string (enc (q k).num.natAbs)) (.string (encD (q k).den)) 49
      rw [hw5]
      replace HV := Aside0.mk (below_step HV.out hV)
      clear hw5 hV E1
      have kx := (HX.out); have kx0 := kx.c0; have kx1 := kx.c1; have kx2 := kx.c2; have fx0 := kx.f0; have fx1 := kx.f1; have fx2 := kx.f2; clear kx
      go_wp2_with (first
        | (go_at_call 62; (with_reducible refine (HDN.out _ _ (Below.refl _ _)).mono ?_); rintro e w1 ⟨rfl, hV⟩; replace HV := Aside0.mk (below_step HV.out hV); clear hV)
        | (go_at_call 64; (with_reducible refine (HG.out _ _ (Below.refl _ _)).mono ?_); rintro e w1 ⟨rfl, hV⟩; replace HV := Aside0.mk (below_step HV.out hV); clear hV)
        | (go_at_call 63; (with_reducible refine (HDV.out _ _ (Below.refl _ _)).mono ?_); rintro e w1 ⟨rfl, hV⟩; replace HV := Aside0.mk (below_step HV.out hV); clear hV)
        | (go_at_call 65; (with_reducible refine (HMU.out _ _ (Below.refl _ _)).mono ?_); rintro e w1 ⟨rfl, hV⟩; replace HV := Aside0.mk (below_step HV.out hV); clear hV))
      refine ⟨⟨k + 1, hkm, by go_num, by rw [HCK.out], HV⟩, ?_⟩
      simp [intOf]; omega
    · obtain rfl : m = k := by omega
      have hmk := HMK.out
      go_upto_region 10 with (fail)
      clear hmk
      have HRZ := made_rowZ wr m
      have hV := below_alloc (Below.refl wr.heap.size wr) (.cells (madeCells #[.bool false, .string ⟨#[]⟩] (m * 2)) 68)
      obtain ⟨g, hg⟩ : ∃ x, wr.heap.size = x := ⟨_, rfl⟩
      obtain ⟨w3, hw3⟩ : ∃ w3, wr.alloc (.cells (madeCells #[.bool false, .string ⟨#[]⟩] (m * 2)) 68) = w3 := ⟨_, rfl⟩
      rw [hw3] at HRZ hV ⊢
      have HGB : Aside0 (w.heap.size ≤ g) := ⟨hg ▸ HV.out.size⟩
      replace HV := Aside0.mk (below_step HV.out hV)
      rw [hg] at HRZ ⊢
      replace HRZ := Aside0.mk HRZ
      have hs0 := HSM.out m (Nat.le_refl _)
      obtain ⟨cc, hcc⟩ : ∃ x, comm q m = x := ⟨_, rfl⟩
      rw [hcc] at hs0 ⊢
      have HCC := Aside0.mk hcc
      have HS0 := Aside0.mk hs0
      have HCN : Aside0 (nb cc ≤ 1 + m * N) := ⟨hcc ▸ comm_nb HF.out.1 m (Nat.le_refl _)⟩
      clear hg hw3 hV hcc hs0
      go_wp2
      go_loopw [43] (fun v43 wr => ∃ k : Nat, k ≤ m ∧ v43 = .int .i64 k ∧ Aside0 (RowZ wr g m (fun j => if j < k then intz q m j else (false, 0))) ∧ Aside0 (Below w.heap.size w wr)) (fun v43 _ => m - (intOf v43).toNat)
      case atStart => exact ⟨0, by omega, rfl, ⟨HRZ.out.congr (fun j hj => by rw [if_neg (by omega)])⟩, HV⟩
      case round =>
        clear HRZ HV
        obtain ⟨k, hk, rfl, HRZ, HV⟩ := hrel
        by_cases hkm : k < m
        · have E1 := Aside0.mk ((HQ.out.below HV.out).el k hkm)
          have e0 := E1.out.c0
          have e1 := E1.out.c1
          have e2 := E1.out.c2
          have hs2 := HDM.out k hkm
          have hfk := HF.out.1 k hkm
          obtain ⟨d, hd⟩ : ∃ x, (q k).den = x := ⟨_, rfl⟩
          rw [hd] at hs2
          obtain ⟨r, hr⟩ : ∃ x, cc / d = x := ⟨_, rfl⟩
          obtain ⟨dr, hdr⟩ : ∃ x, cc % d = x := ⟨_, rfl⟩
          obtain ⟨nm, hnm⟩ : ∃ x, (q k).num.natAbs = x := ⟨_, rfl⟩
          obtain ⟨pr, hpr⟩ : ∃ x, nm * r = x := ⟨_, rfl⟩
          obtain ⟨sg0, hsg⟩ : ∃ x, ngv (q k) = x := ⟨_, rfl⟩
          have hz : intz q m k = (sg0, pr) := by
            unfold intz
            rw [hsg, hnm, HCC.out, hd, hr, hpr]
          have hrs : Sm r := HS0.out.1.le (hr ▸ Nat.div_le_self _ _)
          have hns : Sm nm := ⟨by have := hfk.num; rw [hnm] at this; have := HF.out.2; omega⟩
          have HDN : Aside0 (∀ U V : World, Below U.heap.size U V → Calls Tryz.prog 62 #[.agg #[.bool sg0, .string (enc nm), .string (encD d)]] V fun e w' => e = .returned (.string (enc d)) ∧ Below U.heap.size U w') := ⟨fun U V h => by
            have := denominator_c (q := q k) h
            rw [hsg, hnm, hd] at this
            exact this⟩
          have HDV : Aside0 (∀ U V : World, Below U.heap.size U V → Calls Tryz.prog 63 #[.string (enc cc), .string (enc d)] V fun e w' => e = .returned (.tuple #[.string (enc r), .string (enc dr), .bool true]) ∧ Below U.heap.size U w') := ⟨fun U V h => hdr ▸ hr ▸ div_s h HS0.out.1 hs2.1 hs2.2⟩
          have HMU : Aside0 (∀ U V : World, Below U.heap.size U V → Calls Tryz.prog 65 #[.string (enc nm), .string (enc r)] V fun e w' => e = .returned (.string (enc pr)) ∧ Below U.heap.size U w') := ⟨fun U V h => hpr ▸ mul_s h hns hrs⟩
          have HZZ := Aside0.mk hz
          simp only [hsg, hnm, hd] at e0 e1 e2
          clear hs2 hfk hd hr hdr hnm hpr hsg hz hrs hns
          go_upto_region 13 with (fail)
          clear e0 e1 e2
          obtain ⟨p12, hp12⟩ : ∃ x, wr.heap.size = x := ⟨_, rfl⟩
          obtain ⟨w5, hw5, HX, hV⟩ := box1 wr (.bool sg0) (.string (enc nm)) (.string (encD d)) 49
          rw [hw5]
          rw [hp12] at HX ⊢
          replace HV := Aside0.mk (below_step HV.out hV)
          replace HRZ := Aside0.mk (HRZ.out.below hV)
          clear hw5 hp12 hV E1
          have kx := (HX.out); have kx0 := kx.c0; have kx1 := kx.c1; have kx2 := kx.c2; have fx0 := kx.f0; have fx1 := kx.f1; have fx2 := kx.f2; clear kx
          go_upto_region 14 with (first
            | (go_at_call 62; (with_reducible refine (HDN.out _ _ (Below.refl _ _)).mono ?_); rintro e w1 ⟨rfl, hV⟩; replace HV := Aside0.mk (below_step HV.out hV); replace HRZ := Aside0.mk (HRZ.out.below hV); replace HX := Aside0.mk (HX.out.below hV); clear hV)
            | (go_at_call 63; (with_reducible refine (HDV.out _ _ (Below.refl _ _)).mono ?_); rintro e w1 ⟨rfl, hV⟩; replace HV := Aside0.mk (below_step HV.out hV); replace HRZ := Aside0.mk (HRZ.out.below hV); replace HX := Aside0.mk (HX.out.below hV); clear hV))
          clear kx0 kx1 kx2 fx0 fx1 fx2
          (refine wp_region_below_tail 10 (by kernel_rfl) (by kernel_rfl) ?_); (simp only [List.take_succ_cons, List.take_zero, List.drop_succ_cons, List.drop_zero]); (repeat (refine wpQuiet_step (fun K hK => ?_); go_simp; first | (refine hK _ ?_; clear hK K) | (apply Exists.intro; refine ⟨fun V hV => ?_, hK _ ?_⟩; (focus ((first | rfl | ((with_reducible exact HMU.out _ _ hV)) | ((have kx := (HX.out.below hV)); have kc0 := kx.c0; have kc1 := kx.c1; have kc2 := kx.c2; clear kx; go_simp; first | rfl | fail)))); clear hK K))); (refine wpQuiet_nil ?_); (intro V hV)
          replace HV := Aside0.mk (below_step HV.out hV)
          replace HRZ := Aside0.mk (HRZ.out.below hV)
          clear hV HX HMU HDV HDN
          have ee := (HRZ.out.el k hkm); have ea0 := ee.c0; have ea1 := ee.c1; clear ee; have eb0 := HRZ.out.fr (k * 2); have eb1 := HRZ.out.fr (k * 2 + 1)
          go_wp2
          clear ea0 ea1 eb0 eb1
          refine ⟨⟨k + 1, hkm, by go_num, ⟨(HRZ.out.set hkm (sg0, pr)).congr (fun j hj => ?_)⟩, ⟨(chg_set2 (S := fun x => x = g) (Chg.refl _ _) (.inl rfl) _ _).out HV.out (fun x hx => by rw [hx]; exact HGB.out)⟩⟩, ?_⟩
          · by_cases h1 : j = k
            · subst h1; rw [if_pos rfl, if_pos (by omega), HZZ.out]
            · rw [if_neg h1]
              by_cases h2 : j < k
              · rw [if_pos h2, if_pos (by omega)]
              · rw [if_neg h2, if_neg (by omega)]
          · simp [intOf]; omega
        · obtain rfl : m = k := by omega
          go_wp2
          go_ret
          exact ⟨g, rfl, below_step H0.out HV.out, HGB.out, HRZ.out.congr (fun j hj => by rw [if_pos hj])⟩
end Go.Proofs.YtiamgjepcagohaaGreatDoor.P
end
