/- ClWMore: lemmas of this claim, of 2 texts. -/
import Derived.Test.YtiamgjepcagohaaDoorClWN
import Derived.Test.YtiamgjepcagohaaDoorClWWords
import Derived.Test.YtiamgjepcagohaaDoorClWQPut
import Derived.Test.YtiamgjepcagohaaDoorClWArr
section
-- PRINTED BY print.sh 35421559b90ae4d0a3588c463048766b98c2df88dd9212a6774a882060cdf62d: not written by this session
/-! ### 48. N's events: append, a whole row appended, zeros appended, literals, make, stores, cuts, an element taken out -/
namespace Go.Proofs.YtiamgjepcagohaaDoorW.PrintWords
open Go.RowKit
namespace Kd
section
variable {α : Type} {d : Kd α} {e base n cap g : Nat} {ok ok' okp : Nat → Prop} {w w1 W : World} {v v1 : Value} {xs ys : List α}
/-- Behind an append: the old elements and the new ones, moved. -/
theorem N_appended {rows news : List (List Value)} (h0 : ∀ k, v.ownBlock = some k → ok k) (hl : rows.length = xs.length) (hf : ∀ (j : Nat) (x : α) (c : List Value), xs[j]? = some x → rows[j]? = some c → FK d W (fun k => ok k ∧ some k ≠ v.ownBlock) x c)
    (hl2 : news.length = ys.length) (hf2 : ∀ (j : Nat) (x : α) (c : List Value), ys[j]? = some x → news[j]? = some c → FK d W okp x c) (hokp : ∀ k, okp k → ok k ∧ some k ≠ v.ownBlock) (hfresh : ∀ k, W.heap.size ≤ k → ok k)
    (hR : (raw d.sz).R e w1 base (fun _ => True) v1 (rows ++ news)) (hg : W.grownBy w1 v.ownBlock) (hat : v1.ownBlock = v.ownBlock ∨ ∃ b, v1.ownBlock = some b ∧ W.heap.size ≤ b) : N d e w1 base ok v1 (xs ++ ys) := by
  have hne : ∀ k, some k ≠ v.ownBlock → k < W.heap.size → some k ≠ v1.ownBlock := by
    intro k hk hlt
    rcases hat with hat | ⟨b, hb, hle⟩
    · rw [hat]; exact hk
    · rw [hb]
      intro he
      injection he with he
      omega
  have step : ∀ {x : α} {c : List Value} {o : Nat → Prop}, FK d W o x c → (∀ k, o k → ok k ∧ some k ≠ v.ownBlock) → FK d w1 (fun k => ok k ∧ some k ≠ v1.ownBlock) x c := by
    intro x c o hq ho
    exact FK_mono (FK_step (FK_bound hq) (fun k hk hlt => hg.block k hlt (ho k hk.1).2)) (fun k hk => ⟨(ho k hk.1).1, hne k (ho k hk.1).2 hk.2⟩)
  refine ⟨fun k hk => ?_, rows ++ news, by rw [List.length_append, List.length_append, hl, hl2], raw_tight hR, fun j x c hx hc => ?_⟩
  · rcases hat with hat | ⟨b, hb, hle⟩
    · exact h0 k (hat ▸ hk)
    · rw [hb] at hk
      injection hk with hk
      exact hfresh k (by omega)
  · rcases Nat.lt_or_ge j xs.length with hlt | hge
    · rw [List.getElem?_append_left hlt] at hx
      rw [List.getElem?_append_left (by omega)] at hc
      exact step (hf j x c hx hc) (fun _ hk => hk)
    · rw [List.getElem?_append_right hge] at hx
      rw [List.getElem?_append_right (by omega), hl] at hc
      exact step (hf2 _ x c hx hc) hokp
theorem FK_raw {x : α} {c : List Value} (h : FK d W ok x c) : c = c ∧ c.length = d.sz ∧ ∀ u ∈ c, u.oneCell' = true := ⟨rfl, d.K_len (FK_now h), d.K_one (FK_now h)⟩
/-- What was made just now. -/
theorem N_made {rows : List (List Value)} (hR : (raw d.sz).R e w1 base (fun k => k = W.heap.size) v1 rows) (hg : W.grownBy w1 none) (hat : ∃ b, v1.ownBlock = some b ∧ W.heap.size ≤ b) (hl : rows.length = xs.length) (hf : ∀ (j : Nat) (x : α) (c : List Value), xs[j]? = some x → rows[j]? = some c → FK d W okp x c)
    (hok : ∀ k, okp k → ok k) (hfresh : ok W.heap.size) : N d e w1 base ok v1 xs := by
  obtain ⟨b, hb, hle⟩ := hat
  refine ⟨fun k hk => by rw [hR.1 k hk]; exact hfresh, rows, hl, raw_tight hR, fun j x c hx hc => ?_⟩
  refine FK_mono (FK_step (FK_bound (hf j x c hx hc)) (fun k hk hlt => hg.block k hlt (by simp))) (fun k hk => ⟨hok k hk.1, fun he => ?_⟩)
  rw [hb] at he
  injection he with he
  have := hk.2
  omega
/-- Element i's cells were written: it is x' then. -/
theorem N_written {rows : List (List Value)} {i : Int} {x' : α} {c' : List Value} (h0 : ∀ k, (Value.slice (some ⟨g, 0, none⟩) n cap).ownBlock = some k → ok k) (hl : rows.length = xs.length) (hf : ∀ (j : Nat) (x : α) (c : List Value), xs[j]? = some x → rows[j]? = some c → FK d W (fun k => ok k ∧ some k ≠ (Value.slice (some ⟨g, 0, none⟩) n cap).ownBlock) x c)
    (hR : (raw d.sz).R e w1 base (fun _ => True) (.slice (some ⟨g, 0, none⟩) n cap) (rows.set i.toNat c')) (hg : W.grownBy w1 (some g)) (hM : FK d W okp x' c') (hokp : ∀ k, okp k → ok k ∧ k ≠ g) : N d e w1 base ok (.slice (some ⟨g, 0, none⟩) n cap) (xs.set i.toNat x') := by
  have hgo : some g = (Value.slice (some ⟨g, 0, none⟩) n cap).ownBlock := by simp [Value.ownBlock]
  refine ⟨h0, rows.set i.toNat c', by rw [List.length_set, List.length_set, hl], raw_tight hR, fun j x c hx hc => ?_⟩
  have hjl : j < xs.length := by have := (List.getElem?_eq_some_iff.1 hx).1; rwa [List.length_set] at this
  by_cases hji : j = i.toNat
  · subst hji
    rw [List.getElem?_set_self hjl] at hx
    rw [List.getElem?_set_self (by omega)] at hc
    injection hx with hx
    injection hc with hc
    rw [← hx, ← hc]
    exact FK_mono (FK_step hM (fun k hk hlt => hg.block k hlt (fun he => (hokp k hk).2 (by injection he)))) (fun k hk => ⟨(hokp k hk).1, fun he => (hokp k hk).2 (by rw [← hgo] at he; injection he)⟩)
  · rw [List.getElem?_set_ne (Ne.symm hji)] at hx hc
    exact FK_step (hf j x c hx hc) (fun k hk hlt => hg.block k hlt (by rw [hgo]; exact hk.2))
/-- Element k was taken out. -/
theorem N_erased {rows : List (List Value)} {k : Nat} (h0 : ∀ k, (Value.slice (some ⟨g, 0, none⟩) n cap).ownBlock = some k → ok k) (hl : rows.length = xs.length) (hf : ∀ (j : Nat) (x : α) (c : List Value), xs[j]? = some x → rows[j]? = some c → FK d W (fun k => ok k ∧ some k ≠ (Value.slice (some ⟨g, 0, none⟩) n cap).ownBlock) x c)
    {n' : Nat} (hR : (raw d.sz).R e w1 base (fun _ => True) (.slice (some ⟨g, 0, none⟩) n' cap) (rows.eraseIdx k)) (hg : W.grownBy w1 (some g)) : N d e w1 base ok (.slice (some ⟨g, 0, none⟩) n' cap) (xs.eraseIdx k) := by
  have hgo : ∀ m, some g = (Value.slice (some ⟨g, 0, none⟩) m cap).ownBlock := fun m => by simp [Value.ownBlock]
  refine ⟨fun b hb => h0 b (by rw [← hgo] at hb ⊢; exact hb), rows.eraseIdx k, by rw [List.length_eraseIdx, List.length_eraseIdx, hl], raw_tight hR, fun j x c hx hc => ?_⟩
  rw [List.getElem?_eraseIdx] at hx hc
  have key : ∀ j', xs[j']? = some x → rows[j']? = some c → FK d w1 (fun k => ok k ∧ some k ≠ (Value.slice (some ⟨g, 0, none⟩) n' cap).ownBlock) x c := fun j' h1 h2 =>
    FK_mono (FK_step (hf j' x c h1 h2) (fun b hb hlt => hg.block b hlt (by rw [hgo n]; exact hb.2))) (fun b hb => ⟨hb.1, by rw [← hgo]; rw [← hgo] at hb; exact hb.2⟩)
  by_cases hjk : j < k
  · rw [if_pos hjk] at hx hc
    exact key _ hx hc
  · rw [if_neg hjk] at hx hc
    exact key _ hx hc
/-- xs = xs[:m]. -/
theorem N_take {A : Option Addr} {m c : Nat} (h : N d e w base ok (.slice A n c) xs) (hm : m ≤ xs.length) : N d e w base ok (.slice A m c) (xs.take m) := by
  obtain ⟨h0, rows, hl, hR, hf⟩ := h
  have hb : ∀ x y : Nat, (Value.slice A x c).ownBlock = (Value.slice A y c).ownBlock := by
    intro x y
    cases A <;> rfl
  refine ⟨fun k hk => h0 k (by rw [hb _ m]; exact hk), rows.take m, by rw [List.length_take, List.length_take, hl], raw_tight (R_take (raw_any hR) (by omega)), fun j x c' hx hc => ?_⟩
  rw [List.getElem?_take] at hx hc
  split at hx
  · rename_i hj
    rw [if_pos hj] at hc
    rw [hb m n]
    exact hf j x c' hx hc
  · cases hx
/-- Cells of element i are written, the world as_ it is then. -/
theorem N_seg (h : N d e W base ok (.slice (some ⟨g, 0, none⟩) n cap) xs) (i : Int) (h0 : 0 ≤ i) (h1 : i < n) {c seg : List Value} {j : Nat} (hcl : c.length = d.sz) (hcc : ∀ j u, c[j]? = some u → W.cell? ⟨g, i.toNat * d.sz + j, none⟩ = some u)
    (hj : j + seg.length ≤ d.sz) {x' : α} (hM : FK d W okp x' (c.take j ++ seg ++ c.drop (j + seg.length))) (hokp : ∀ k, okp k → ok k ∧ k ≠ g) :
    N d e (W.setCells g (i.toNat * d.sz + j) seg) base ok (.slice (some ⟨g, 0, none⟩) n cap) (xs.set i.toNat x') ∧ W.grownBy (W.setCells g (i.toNat * d.sz + j) seg) (some g) := by
  obtain ⟨hown, rows, hl, hR, hf⟩ := h
  obtain ⟨h2, h3⟩ := R_seg (raw_any hR) i h0 h1 (c := c) (seg := seg) (j := j) (x' := c.take j ++ seg ++ c.drop (j + seg.length)) (okp := fun _ => False) hcl hcc hj ⟨rfl, d.K_len (FK_now hM), d.K_one (FK_now hM)⟩ (fun _ hk => hk.elim)
  exact ⟨N_written hown hl hf h2 h3 hM hokp, h3⟩
/-- What is read as_ a row, as_ rows of cells. -/
theorem reads_raw {Rr : α → List Value → Prop} {sz m : Nat} {A : Option Addr} (h : ReadsRow Rr sz W A m ys) (hR : ∀ x c, Rr x c → c.length = sz ∧ ∀ u ∈ c, u.oneCell' = true) :
    ∃ news : List (List Value), news.length = ys.length ∧ ReadsRow (fun x cs => cs = x ∧ cs.length = sz ∧ ∀ u ∈ cs, u.oneCell' = true) sz W A m news ∧ ∀ (j : Nat) (x : α) (c : List Value), ys[j]? = some x → news[j]? = some c → Rr x c := by
  rcases Nat.eq_zero_or_pos m with h0 | hp
  · have hy : ys = [] := List.eq_nil_of_length_eq_zero (h.1.trans h0)
    subst hy
    exact ⟨[], rfl, ⟨h0 ▸ rfl, h.2.1, fun hp => by omega⟩, fun j x c hx => by simp at hx⟩
  · obtain ⟨ad, rfl, _⟩ := h.2.2 hp
    obtain ⟨inner, hr, hc⟩ := ReadsRow.inner_ h
    refine ⟨chunks sz ys.length inner, chunks_length _ _ _, ⟨by rw [chunks_length]; exact h.1, h.2.1, fun _ => ⟨ad, rfl, fun j p hj => ?_⟩⟩, fun j x c hx hcc => ?_⟩
    · have hjl : j < ys.length := by have := (List.getElem?_eq_some_iff.1 hj).1; rwa [chunks_length] at this
      have hpe := chunks_get hj
      have hq := hR _ _ (hr.2 j _ (List.getElem?_eq_getElem hjl))
      rw [← hpe] at hq
      refine ⟨p, hq.1, ⟨rfl, hq⟩, fun i u hu => ?_⟩
      have hu2 : inner[j * sz + i]? = some u := by
        rw [hpe, List.getElem?_take] at hu
        split at hu
        · rw [List.getElem?_drop] at hu
          exact hu
        · cases hu
      exact hc _ u hu2
    · rw [chunks_get hcc]
      exact hr.2 j x hx
end
section
variable {P : Program} {ops : Array Oper} {rest : List Oper} {o : Oper} {a : Act} {Q : Exit → Act → World → Prop} {Kc : Act → World → Prop} {α : Type}
/-- append(v, x), behind 'at_builtin': x's cells are cs. -/
theorem N_append (d : Kd α) {w0 W : World} (base : Nat) (hgd : o.guard = none) (s x : Operand) (t e : TypeId) (z : Value) (bytes : Nat)
    (ho : o.op = .call { callee := .builtin .append, args := #[s, x], argTypes := #[t, t] })
    (ht : P.underlying t = some (.slice e)) (hinfo : (P.info? e).map (fun i => (i.zero, i.size, i.bytes)) = some (some z, d.sz, bytes)) (hz : z.cells.size = d.sz) (hs0 : 0 < d.sz) (hb0 : 0 < bytes)
    (v : Value) (xs : List α) (p : α) (cs : List Value) (ok okp : Nat → Prop) (hs : a.eval s = v) (hx : a.eval x = .slice (some ⟨W.heap.size, 0, none⟩) 1 1) (hp : FK d W okp p cs) (hokp : ∀ k, okp k → ok k ∧ some k ≠ v.ownBlock) (hfresh : ∀ k, W.heap.size ≤ k → ok k)
    (HO : N d e W base ok v xs) (HB : Below base w0 W) (hbase : base ≤ W.heap.size) (hl : (xs.length + 1) * bytes ≤ 140737488355328)
    (h : ∀ v1 w1, N d e w1 base ok v1 (xs ++ [p]) → Below base w0 w1 → W.grownBy w1 v.ownBlock → (v1.ownBlock = v.ownBlock ∨ ∃ b, v1.ownBlock = some b ∧ W.heap.size ≤ b) → wpList P ops Q rest (a.put o.dst v1) w1) :
    wpList P ops Q (o :: rest) a (W.alloc (.cells cs.toArray e)) := by
  obtain ⟨h0, rows, hlr, hR, hf⟩ := HO
  refine R_append (raw d.sz) base hgd s x t e z bytes ho ht hinfo hz hs0 hb0 v rows cs cs (fun _ => True) (fun _ => False) hs hx (FK_raw hp) (fun _ hk => hk.elim) (fun _ _ => trivial) (raw_any hR) HB hbase (by rw [hlr]; exact hl) ?_
  intro v1 w1 hr hb hg hat
  exact h v1 w1 (N_appended h0 hlr hf (ys := [p]) (news := [cs]) rfl (fun j y c hy hc => by
    rcases j with _ | j
    · simp only [List.getElem?_cons_zero, Option.some.injEq] at hy hc
      rw [← hy, ← hc]; exact hp
    · simp at hy) hokp hfresh hr hg hat) hb hg hat
theorem N_append_step (d : Kd α) {w0 W : World} (base : Nat) (hw : Region.wanted o (yielded ops a.tmps) = true) (s x : Operand) (t e : TypeId) (z : Value) (bytes : Nat)
    (ho : o.op = .call { callee := .builtin .append, args := #[s, x], argTypes := #[t, t] })
    (ht : P.underlying t = some (.slice e)) (hinfo : (P.info? e).map (fun i => (i.zero, i.size, i.bytes)) = some (some z, d.sz, bytes)) (hz : z.cells.size = d.sz) (hs0 : 0 < d.sz) (hb0 : 0 < bytes)
    (v : Value) (xs : List α) (p : α) (cs : List Value) (ok okp : Nat → Prop) (hs : a.eval s = v) (hx : a.eval x = .slice (some ⟨W.heap.size, 0, none⟩) 1 1) (hp : FK d W okp p cs) (hokp : ∀ k, okp k → ok k ∧ some k ≠ v.ownBlock) (hfresh : ∀ k, W.heap.size ≤ k → ok k)
    (HO : N d e W base ok v xs) (HB : Below base w0 W) (hbase : base ≤ W.heap.size) (hl : (xs.length + 1) * bytes ≤ 140737488355328)
    (h : ∀ v1 w1, N d e w1 base ok v1 (xs ++ [p]) → Below base w0 w1 → W.grownBy w1 v.ownBlock → (v1.ownBlock = v.ownBlock ∨ ∃ b, v1.ownBlock = some b ∧ W.heap.size ≤ b) → Kc (a.put o.dst v1) w1) :
    if Region.wanted o (yielded ops a.tmps) = true then Oper.wp P o a (W.alloc (.cells cs.toArray e)) Kc Q else Kc (a.put o.dst undef) (W.alloc (.cells cs.toArray e)) := by
  obtain ⟨h0, rows, hlr, hR, hf⟩ := HO
  refine R_append_step (raw d.sz) base hw s x t e z bytes ho ht hinfo hz hs0 hb0 v rows cs cs (fun _ => True) (fun _ => False) hs hx (FK_raw hp) (fun _ hk => hk.elim) (fun _ _ => trivial) (raw_any hR) HB hbase (by rw [hlr]; exact hl) ?_
  intro v1 w1 hr hb hg hat
  exact h v1 w1 (N_appended h0 hlr hf (ys := [p]) (news := [cs]) rfl (fun j y c hy hc => by
    rcases j with _ | j
    · simp only [List.getElem?_cons_zero, Option.some.injEq] at hy hc
      rw [← hy, ← hc]; exact hp
    · simp at hy) hokp hfresh hr hg hat) hb hg hat
/-- append(v, ys...): ys is read (F). -/
theorem N_append_rows (d : Kd α) {w0 W : World} (base : Nat) (hgd : o.guard = none) (s x : Operand) (t e : TypeId) (z : Value) (bytes : Nat)
    (ho : o.op = .call { callee := .builtin .append, args := #[s, x], argTypes := #[t, t] })
    (ht : P.underlying t = some (.slice e)) (hinfo : (P.info? e).map (fun i => (i.zero, i.size, i.bytes)) = some (some z, d.sz, bytes)) (hz : z.cells.size = d.sz) (hs0 : 0 < d.sz) (hb0 : 0 < bytes)
    (v : Value) (xs ys : List α) (A : Option Addr) (m c : Nat) (ok okp : Nat → Prop) (hs : a.eval s = v) (hx : a.eval x = .slice A m c)
    (HO : N d e W base ok v xs) (HR : F d W okp A m ys) (hokp : ∀ k, okp k → ok k ∧ some k ≠ v.ownBlock) (hfresh : ∀ k, W.heap.size ≤ k → ok k)
    (HB : Below base w0 W) (hbase : base ≤ W.heap.size) (hl : (xs.length + m) * bytes ≤ 140737488355328)
    (h : ∀ v1 w1, N d e w1 base ok v1 (xs ++ ys) → Below base w0 w1 → W.grownBy w1 v.ownBlock → (v1.ownBlock = v.ownBlock ∨ ∃ b, v1.ownBlock = some b ∧ W.heap.size ≤ b) → wpList P ops Q rest (a.put o.dst v1) w1) :
    wpList P ops Q (o :: rest) a W := by
  obtain ⟨h0, rows, hlr, hR, hf⟩ := HO
  obtain ⟨news, hnl, hnr, hnf⟩ := reads_raw (F_rows HR) (fun y c hk => ⟨d.K_len (FK_now hk), d.K_one (FK_now hk)⟩)
  refine R_append_rows (raw d.sz) base hgd s x t e z bytes ho ht hinfo hz hs0 hb0 v rows news A m c (fun _ => True) (fun _ => False) hs hx (raw_any hR) hnr (fun _ _ hk => hk) (fun _ hk => hk.elim) (fun _ _ => trivial) HB hbase (by rw [hlr]; exact hl) ?_
  intro v1 w1 hr hb hg hat
  exact h v1 w1 (N_appended h0 hlr hf hnl hnf hokp hfresh hr hg hat) hb hg hat
theorem N_append_rows_step (d : Kd α) {w0 W : World} (base : Nat) (hw : Region.wanted o (yielded ops a.tmps) = true) (s x : Operand) (t e : TypeId) (z : Value) (bytes : Nat)
    (ho : o.op = .call { callee := .builtin .append, args := #[s, x], argTypes := #[t, t] })
    (ht : P.underlying t = some (.slice e)) (hinfo : (P.info? e).map (fun i => (i.zero, i.size, i.bytes)) = some (some z, d.sz, bytes)) (hz : z.cells.size = d.sz) (hs0 : 0 < d.sz) (hb0 : 0 < bytes)
    (v : Value) (xs ys : List α) (A : Option Addr) (m c : Nat) (ok okp : Nat → Prop) (hs : a.eval s = v) (hx : a.eval x = .slice A m c)
    (HO : N d e W base ok v xs) (HR : F d W okp A m ys) (hokp : ∀ k, okp k → ok k ∧ some k ≠ v.ownBlock) (hfresh : ∀ k, W.heap.size ≤ k → ok k)
    (HB : Below base w0 W) (hbase : base ≤ W.heap.size) (hl : (xs.length + m) * bytes ≤ 140737488355328)
    (h : ∀ v1 w1, N d e w1 base ok v1 (xs ++ ys) → Below base w0 w1 → W.grownBy w1 v.ownBlock → (v1.ownBlock = v.ownBlock ∨ ∃ b, v1.ownBlock = some b ∧ W.heap.size ≤ b) → Kc (a.put o.dst v1) w1) :
    if Region.wanted o (yielded ops a.tmps) = true then Oper.wp P o a W Kc Q else Kc (a.put o.dst undef) W := by
  obtain ⟨h0, rows, hlr, hR, hf⟩ := HO
  obtain ⟨news, hnl, hnr, hnf⟩ := reads_raw (F_rows HR) (fun y c hk => ⟨d.K_len (FK_now hk), d.K_one (FK_now hk)⟩)
  refine R_append_rows_step (raw d.sz) base hw s x t e z bytes ho ht hinfo hz hs0 hb0 v rows news A m c (fun _ => True) (fun _ => False) hs hx (raw_any hR) hnr (fun _ _ hk => hk) (fun _ hk => hk.elim) (fun _ _ => trivial) HB hbase (by rw [hlr]; exact hl) ?_
  intro v1 w1 hr hb hg hat
  exact h v1 w1 (N_appended h0 hlr hf hnl hnf hokp hfresh hr hg hat) hb hg hat
/-- append(v, make([]T, n)...). -/
theorem N_append_zeros (d : Kd α) {w0 W : World} (base : Nat) (hgd : o.guard = none) (s x : Operand) (t ti e : TypeId) (z : Value) (bytes : Nat)
    (ho : o.op = .call { callee := .builtin .append, args := #[s, x], argTypes := #[t, ti] })
    (ht : P.underlying t = some (.slice e)) {k : IntKind} (hti : P.underlying ti = some (.int k)) (hinfo : (P.info? e).map (fun i => (i.zero, i.size, i.bytes)) = some (some z, d.sz, bytes)) (hz : z.cells.size = d.sz) (hs0 : 0 < d.sz) (hb0 : 0 < bytes)
    (v : Value) (xs : List α) (z0 : α) {kx : IntKind} (n : Int) (ok : Nat → Prop) (hs : a.eval s = v) (hx : a.eval x = .int kx n) (hzero : FK d W (fun _ => False) z0 z.cells.toList) (hfresh : ∀ k, W.heap.size ≤ k → ok k)
    (HO : N d e W base ok v xs) (h0 : 0 ≤ n) (HB : Below base w0 W) (hbase : base ≤ W.heap.size) (hl : (xs.length + n.toNat) * bytes ≤ 140737488355328)
    (h : ∀ v1 w1, N d e w1 base ok v1 (xs ++ List.replicate n.toNat z0) → Below base w0 w1 → W.grownBy w1 v.ownBlock → (v1.ownBlock = v.ownBlock ∨ ∃ b, v1.ownBlock = some b ∧ W.heap.size ≤ b) → wpList P ops Q rest (a.put o.dst v1) w1) :
    wpList P ops Q (o :: rest) a W := by
  obtain ⟨h0', rows, hlr, hR, hf⟩ := HO
  refine R_append_zeros (raw d.sz) base hgd s x t ti e z bytes ho ht hti hinfo hz hs0 hb0 v rows z.cells.toList n (fun _ => True) hs hx (FK_raw hzero) (fun _ _ => trivial) (raw_any hR) h0 HB hbase (by rw [hlr]; exact hl) ?_
  intro v1 w1 hr hb hg hat
  refine h v1 w1 (N_appended h0' hlr hf (ys := List.replicate n.toNat z0) (news := List.replicate n.toNat z.cells.toList) (by rw [List.length_replicate, List.length_replicate]) (okp := fun _ => False) (fun j y c hy hc => ?_) (fun _ hk => hk.elim) hfresh hr hg hat) hb hg hat
  have h1 := (List.getElem?_eq_some_iff.1 hy).2
  have h2 := (List.getElem?_eq_some_iff.1 hc).2
  rw [List.getElem_replicate] at h1 h2
  rw [← h1, ← h2]
  exact hzero
theorem N_append_zeros_step (d : Kd α) {w0 W : World} (base : Nat) (hw : Region.wanted o (yielded ops a.tmps) = true) (s x : Operand) (t ti e : TypeId) (z : Value) (bytes : Nat)
    (ho : o.op = .call { callee := .builtin .append, args := #[s, x], argTypes := #[t, ti] })
    (ht : P.underlying t = some (.slice e)) {k : IntKind} (hti : P.underlying ti = some (.int k)) (hinfo : (P.info? e).map (fun i => (i.zero, i.size, i.bytes)) = some (some z, d.sz, bytes)) (hz : z.cells.size = d.sz) (hs0 : 0 < d.sz) (hb0 : 0 < bytes)
    (v : Value) (xs : List α) (z0 : α) {kx : IntKind} (n : Int) (ok : Nat → Prop) (hs : a.eval s = v) (hx : a.eval x = .int kx n) (hzero : FK d W (fun _ => False) z0 z.cells.toList) (hfresh : ∀ k, W.heap.size ≤ k → ok k)
    (HO : N d e W base ok v xs) (h0 : 0 ≤ n) (HB : Below base w0 W) (hbase : base ≤ W.heap.size) (hl : (xs.length + n.toNat) * bytes ≤ 140737488355328)
    (h : ∀ v1 w1, N d e w1 base ok v1 (xs ++ List.replicate n.toNat z0) → Below base w0 w1 → W.grownBy w1 v.ownBlock → (v1.ownBlock = v.ownBlock ∨ ∃ b, v1.ownBlock = some b ∧ W.heap.size ≤ b) → Kc (a.put o.dst v1) w1) :
    if Region.wanted o (yielded ops a.tmps) = true then Oper.wp P o a W Kc Q else Kc (a.put o.dst undef) W := by
  obtain ⟨h0', rows, hlr, hR, hf⟩ := HO
  refine R_append_zeros_step (raw d.sz) base hw s x t ti e z bytes ho ht hti hinfo hz hs0 hb0 v rows z.cells.toList n (fun _ => True) hs hx (FK_raw hzero) (fun _ _ => trivial) (raw_any hR) h0 HB hbase (by rw [hlr]; exact hl) ?_
  intro v1 w1 hr hb hg hat
  refine h v1 w1 (N_appended h0' hlr hf (ys := List.replicate n.toNat z0) (news := List.replicate n.toNat z.cells.toList) (by rw [List.length_replicate, List.length_replicate]) (okp := fun _ => False) (fun j y c hy hc => ?_) (fun _ hk => hk.elim) hfresh hr hg hat) hb hg hat
  have h1 := (List.getElem?_eq_some_iff.1 hy).2
  have h2 := (List.getElem?_eq_some_iff.1 hc).2
  rw [List.getElem_replicate] at h1 h2
  rw [← h1, ← h2]
  exact hzero
/-- A literal '[]T{..}': inner its cells; what the elements lead to is okp. -/
theorem N_lit (d : Kd α) {w0 W : World} (base e : Nat) (hgd : o.guard = none) {N' : Tmp} (_hd : o.dst = some N') {xs : List α} {inner : List Value} {ok okp : Nat → Prop}
    (hrun : (execOp a.eval o).run P W = .ok (.value (.slice (some ⟨W.heap.size, 0, none⟩) xs.length xs.length)) (W.alloc (.cells inner.toArray e)))
    (hrep : Reps (FK d W okp) d.sz xs inner) (hok : ∀ k, okp k → ok k) (hfresh : ok W.heap.size) (HB : Below base w0 W) (hbase : base ≤ W.heap.size) (hm : xs.length ≤ 9223372036854775807)
    (h : ∀ v1 w1, N d e w1 base ok v1 xs → Below base w0 w1 → W.grownBy w1 none → (∃ b, v1.ownBlock = some b ∧ W.heap.size ≤ b) → wpList P ops Q rest (a.put o.dst v1) w1) :
    wpList P ops Q (o :: rest) a W := by
  refine R_lit (raw d.sz) base e hgd _hd (xs := chunks d.sz xs.length inner) (inner := inner) (ok := fun k => k = W.heap.size) (okp := fun _ => False) (by rw [chunks_length]; exact hrun) (reps_raw hrep (fun y c hk => ⟨d.K_len (FK_now hk), d.K_one (FK_now hk)⟩)) (fun _ hk => hk.elim) rfl HB hbase (by rw [chunks_length]; exact hm) ?_
  intro v1 w1 hr hb hg hat
  exact h v1 w1 (N_made hr hg hat (chunks_length _ _ _) (fun j y c hy hc => by rw [chunks_get hc]; exact hrep.2 j y hy) hok hfresh) hb hg hat
theorem N_lit_step (d : Kd α) {w0 W : World} (base e : Nat) (hw : Region.wanted o (yielded ops a.tmps) = true) {N' : Tmp} (_hd : o.dst = some N') {xs : List α} {inner : List Value} {ok okp : Nat → Prop}
    (hrun : (execOp a.eval o).run P W = .ok (.value (.slice (some ⟨W.heap.size, 0, none⟩) xs.length xs.length)) (W.alloc (.cells inner.toArray e)))
    (hrep : Reps (FK d W okp) d.sz xs inner) (hok : ∀ k, okp k → ok k) (hfresh : ok W.heap.size) (HB : Below base w0 W) (hbase : base ≤ W.heap.size) (hm : xs.length ≤ 9223372036854775807)
    (h : ∀ v1 w1, N d e w1 base ok v1 xs → Below base w0 w1 → W.grownBy w1 none → (∃ b, v1.ownBlock = some b ∧ W.heap.size ≤ b) → Kc (a.put o.dst v1) w1) :
    if Region.wanted o (yielded ops a.tmps) = true then Oper.wp P o a W Kc Q else Kc (a.put o.dst undef) W := by
  refine R_lit_step (raw d.sz) base e hw _hd (xs := chunks d.sz xs.length inner) (inner := inner) (ok := fun k => k = W.heap.size) (okp := fun _ => False) (by rw [chunks_length]; exact hrun) (reps_raw hrep (fun y c hk => ⟨d.K_len (FK_now hk), d.K_one (FK_now hk)⟩)) (fun _ hk => hk.elim) rfl HB hbase (by rw [chunks_length]; exact hm) ?_
  intro v1 w1 hr hb hg hat
  exact h v1 w1 (N_made hr hg hat (chunks_length _ _ _) (fun j y c hy hc => by rw [chunks_get hc]; exact hrep.2 j y hy) hok hfresh) hb hg hat
theorem N_make (d : Kd α) {w0 W : World} (base e : Nat) (hgd : o.guard = none) {N' : Tmp} (hd : o.dst = some N') (t : TypeId) (x y : Operand) (ho : o.op = .makeSlice t x y) (n : Int) (hx : a.eval x = .int .i64 n) (hy : a.eval y = .int .i64 n)
    (ht : P.underlying t = some (.slice e)) (z : Value) (bytes : Nat) (hinfo : (P.info? e).map (fun i => (i.zero, i.size, i.bytes)) = some (some z, d.sz, bytes)) (hz : z.cells.size = d.sz) (hs0 : 0 < d.sz) (hb0 : 0 < bytes)
    (z0 : α) {ok okp : Nat → Prop} (hzero : FK d W okp z0 z.cells.toList) (hok : ∀ k, okp k → ok k) (hfresh : ok W.heap.size) (h0 : 0 ≤ n) (hl : n.toNat * bytes ≤ 281474976710656) (HB : Below base w0 W) (hbase : base ≤ W.heap.size)
    (h : ∀ v1 w1, N d e w1 base ok v1 (List.replicate n.toNat z0) → Below base w0 w1 → W.grownBy w1 none → (∃ b, v1.ownBlock = some b ∧ W.heap.size ≤ b) → wpList P ops Q rest (a.put o.dst v1) w1) :
    wpList P ops Q (o :: rest) a W := by
  refine R_make (raw d.sz) base e hgd hd t x y ho n hx hy ht z bytes hinfo hz hs0 hb0 z.cells.toList (ok := fun k => k = W.heap.size) (okp := fun _ => False) (FK_raw hzero) (fun _ hk => hk.elim) rfl h0 hl HB hbase ?_
  intro v1 w1 hr hb hg hat
  refine h v1 w1 (N_made hr hg hat (by rw [List.length_replicate, List.length_replicate]) (fun j y c hy hc => ?_) hok hfresh) hb hg hat
  have h1 := (List.getElem?_eq_some_iff.1 hy).2
  have h2 := (List.getElem?_eq_some_iff.1 hc).2
  rw [List.getElem_replicate] at h1 h2
  rw [← h1, ← h2]
  exact hzero
theorem N_make_step (d : Kd α) {w0 W : World} (base e : Nat) (hw : Region.wanted o (yielded ops a.tmps) = true) {N' : Tmp} (hd : o.dst = some N') (t : TypeId) (x y : Operand) (ho : o.op = .makeSlice t x y) (n : Int) (hx : a.eval x = .int .i64 n) (hy : a.eval y = .int .i64 n)
    (ht : P.underlying t = some (.slice e)) (z : Value) (bytes : Nat) (hinfo : (P.info? e).map (fun i => (i.zero, i.size, i.bytes)) = some (some z, d.sz, bytes)) (hz : z.cells.size = d.sz) (hs0 : 0 < d.sz) (hb0 : 0 < bytes)
    (z0 : α) {ok okp : Nat → Prop} (hzero : FK d W okp z0 z.cells.toList) (hok : ∀ k, okp k → ok k) (hfresh : ok W.heap.size) (h0 : 0 ≤ n) (hl : n.toNat * bytes ≤ 281474976710656) (HB : Below base w0 W) (hbase : base ≤ W.heap.size)
    (h : ∀ v1 w1, N d e w1 base ok v1 (List.replicate n.toNat z0) → Below base w0 w1 → W.grownBy w1 none → (∃ b, v1.ownBlock = some b ∧ W.heap.size ≤ b) → Kc (a.put o.dst v1) w1) :
    if Region.wanted o (yielded ops a.tmps) = true then Oper.wp P o a W Kc Q else Kc (a.put o.dst undef) W := by
  refine R_make_step (raw d.sz) base e hw hd t x y ho n hx hy ht z bytes hinfo hz hs0 hb0 z.cells.toList (ok := fun k => k = W.heap.size) (okp := fun _ => False) (FK_raw hzero) (fun _ hk => hk.elim) rfl h0 hl HB hbase ?_
  intro v1 w1 hr hb hg hat
  refine h v1 w1 (N_made hr hg hat (by rw [List.length_replicate, List.length_replicate]) (fun j y c hy hc => ?_) hok hfresh) hb hg hat
  have h1 := (List.getElem?_eq_some_iff.1 hy).2
  have h2 := (List.getElem?_eq_some_iff.1 hc).2
  rw [List.getElem_replicate] at h1 h2
  rw [← h1, ← h2]
  exact hzero
/-- out[i] = T{..}, out[i].f = v: as_ R_store. -/
theorem N_store (d : Kd α) {w0 W : World} (base : Nat) (hN : o.dst = none) (hgd : o.guard = none) (t : TypeId) (p x : Operand) (ho : o.op = .store t p x) (e : TypeId) {g n cap o' : Nat} (i : Int) (j : Nat) (xs : List α) (x' : α) (u : Value) (seg c : List Value) (ok okp : Nat → Prop)
    (haddr : a.eval p = .pointer (some ⟨g, o', none⟩)) (hoff : o' = i.toNat * d.sz + j) (hx : a.eval x = u) (hu : u.cells.toList = seg) (ht : (P.info? t).map (·.size) = some seg.length) (h1 : ∀ q ∈ seg, q.oneCell' = true)
    (HO : N d e W base ok (.slice (some ⟨g, 0, none⟩) n cap) xs) (h0 : 0 ≤ i) (hi : i < n) (hcl : c.length = d.sz) (hcc : ∀ j u, c[j]? = some u → W.cell? ⟨g, i.toNat * d.sz + j, none⟩ = some u)
    (hj : j + seg.length ≤ d.sz) (hM : FK d W okp x' (c.take j ++ seg ++ c.drop (j + seg.length))) (hokp : ∀ k, okp k → ok k ∧ k ≠ g) (HB : Below base w0 W)
    (h : ∀ w1, N d e w1 base ok (.slice (some ⟨g, 0, none⟩) n cap) (xs.set i.toNat x') → Below base w0 w1 → W.grownBy w1 (some g) → wpList P ops Q rest a w1) : wpList P ops Q (o :: rest) a W := by
  obtain ⟨hown, rows, hl, hR, hf⟩ := HO
  refine R_store (raw d.sz) base hN hgd t p x ho e i j rows (c.take j ++ seg ++ c.drop (j + seg.length)) u seg c (fun _ => True) (fun _ => False) haddr hoff hx hu ht h1 (raw_any hR) h0 hi hcl hcc hj (FK_raw hM) (fun _ hk => hk.elim) HB ?_
  intro w1 hr hb hg
  exact h w1 (N_written hown hl hf hr hg hM hokp) hb hg
/-- out = append(out[:k], out[k+1:]...). -/
theorem N_delete (d : Kd α) {w0 W : World} (base : Nat) (hgd : o.guard = none) (s x : Operand) (t e : TypeId) (ho : o.op = .call { callee := .builtin .append, args := #[s, x], argTypes := #[t, t] })
    (ht : P.underlying t = some (.slice e)) (hinfo : (P.info? e).map (·.size) = some d.sz) {g n c k m c2 : Nat} {A : Option Addr} {xs : List α} {ok : Nat → Prop}
    (hs : a.eval s = .slice (some ⟨g, 0, none⟩) k c) (hx : a.eval x = .slice A m c2) (hA : A = if c = k + 1 then some ⟨g, 0, none⟩ else (some (⟨g, 0, none⟩ : Addr)).map (·.add ((k + 1) * d.sz))) (hm : m = n - (k + 1))
    (HO : N d e W base ok (.slice (some ⟨g, 0, none⟩) n c) xs) (hk : k < n) (HB : Below base w0 W) (hbase : base ≤ W.heap.size)
    (h : ∀ w1, N d e w1 base ok (.slice (some ⟨g, 0, none⟩) (n - 1) c) (xs.eraseIdx k) → Below base w0 w1 → W.grownBy w1 (some g) → wpList P ops Q rest (a.put o.dst (.slice (some ⟨g, 0, none⟩) (n - 1) c)) w1) : wpList P ops Q (o :: rest) a W := by
  obtain ⟨hown, rows, hl, hR, hf⟩ := HO
  exact R_delete (raw d.sz) base hgd s x t e ho ht hinfo hs hx hA hm (raw_any hR) hk HB hbase (fun w1 hr hb hg => h w1 (N_erased hown hl hf hr hg) hb hg)
theorem N_delete_step (d : Kd α) {w0 W : World} (base : Nat) (hw : Region.wanted o (yielded ops a.tmps) = true) (s x : Operand) (t e : TypeId) (ho : o.op = .call { callee := .builtin .append, args := #[s, x], argTypes := #[t, t] })
    (ht : P.underlying t = some (.slice e)) (hinfo : (P.info? e).map (·.size) = some d.sz) {g n c k m c2 : Nat} {A : Option Addr} {xs : List α} {ok : Nat → Prop}
    (hs : a.eval s = .slice (some ⟨g, 0, none⟩) k c) (hx : a.eval x = .slice A m c2) (hA : A = if c = k + 1 then some ⟨g, 0, none⟩ else (some (⟨g, 0, none⟩ : Addr)).map (·.add ((k + 1) * d.sz))) (hm : m = n - (k + 1))
    (HO : N d e W base ok (.slice (some ⟨g, 0, none⟩) n c) xs) (hk : k < n) (HB : Below base w0 W) (hbase : base ≤ W.heap.size)
    (h : ∀ w1, N d e w1 base ok (.slice (some ⟨g, 0, none⟩) (n - 1) c) (xs.eraseIdx k) → Below base w0 w1 → W.grownBy w1 (some g) → Kc (a.put o.dst (.slice (some ⟨g, 0, none⟩) (n - 1) c)) w1) :
    if Region.wanted o (yielded ops a.tmps) = true then Oper.wp P o a W Kc Q else Kc (a.put o.dst undef) W := by
  obtain ⟨hown, rows, hl, hR, hf⟩ := HO
  exact R_delete_step (raw d.sz) base hw s x t e ho ht hinfo hs hx hA hm (raw_any hR) hk HB hbase (fun w1 hr hb hg => h w1 (N_erased hown hl hf hr hg) hb hg)
end
end Kd
end Go.Proofs.YtiamgjepcagohaaDoorW.PrintWords
end
section
-- PRINTED BY print.sh 35421559b90ae4d0a3588c463048766b98c2df88dd9212a6774a882060cdf62d: not written by this session
-- PRINTED WORDS (module Derived/Print/More.lean): go-gate-2's additions: an AI agent of Go's test side, Tue Nov 17 2026; no person has read it. Lean checks it.
namespace Go.Proofs.YtiamgjepcagohaaDoorW.PrintMore
open Go.RowKit Go.Proofs.YtiamgjepcagohaaDoorW.PrintWords
namespace Kd
open Go.Proofs.YtiamgjepcagohaaDoorW.PrintWords.Kd
/-- Element i of a row of one's own, lent: its cells and what it leads to, as the row has them. -/
theorem R_get {α : Type} {d : Kd α} {e base n cap : Nat} {ok : Nat → Prop} {W : World} {ad : Addr} {xs : List α} (h : d.R e W base ok (.slice (some ad) n cap) xs) (z : α) (i : Int) (h0 : 0 ≤ i) (h1 : i < n) :
    ∃ c, c.length = d.sz ∧ d.M W base (fun k => ok k ∧ some k ≠ (Value.slice (some ad) n cap).ownBlock) (xs.getD i.toNat z) c ∧ ∀ j u, c[j]? = some u → W.cell? (ad.add (i.toNat * d.sz + j)) = some u := by
  obtain ⟨g, hg⟩ : ∃ g, ad = ⟨g, 0, none⟩ := by
    obtain ⟨_, inner, ho, _⟩ := h
    rcases ho.2 with ⟨hv, _⟩ | ⟨g, cap', cur, hv, _⟩
    · cases hv
    · injection hv with ha _ _
      injection ha with ha
      exact ⟨g, ha⟩
  subst hg
  obtain ⟨c, hcl, hM, hcc, _⟩ := R_elem h z i h0 h1
  refine ⟨c, hcl, d.M_mono (fun k hk => ⟨hk.1, fun he => hk.2 ?_⟩) hM, fun j u hu => ?_⟩
  · rw [add_at, Nat.zero_add]
    exact hcc j u hu
  · simpa [Value.ownBlock] using he
end Kd

namespace Kd
open Go.Proofs.YtiamgjepcagohaaDoorW.PrintWords.Kd
section
variable {α : Type} {d : Kd α} {e base g N : Nat} {ok : Nat → Prop} {W w1 : World} {u v : Value} {xs : List α}
/-- An elder row over an event that only makes: its blocks are elder than what was made. -/
theorem R_old (hu : d.R e W base ok u xs) (hb : Below W.heap.size W w1) : d.R e w1 base (fun k => ok k ∧ k < W.heap.size) u xs :=
  R_mono (R_below (R_bound hu) hb) (fun _ h => ⟨h.1, h.2.2.1⟩)
/-- The same over a state's call. -/
theorem R_oldK (hu : d.R e W base (fun k => ok k ∧ k ≠ g) u xs) (hk : KeepBut W w1 g none) : d.R e w1 base (fun k => ok k ∧ k < W.heap.size) u xs :=
  R_mono (R_keep (R_bound hu) hk (fun _ h => h.1.2)) (fun _ h => ⟨h.1.1, h.2.2.1⟩)
/-- It is none of the rows made since. -/
theorem R_told (h : d.R e w1 base (fun k => ok k ∧ k < N) u xs) (hbase : ∀ k, v.ownBlock = some k → N ≤ k) : d.R e w1 base (fun k => (ok k ∧ some k ≠ v.ownBlock) ∧ k < N) u xs :=
  R_mono h (fun k hk => ⟨⟨hk.1, fun e => Nat.lt_irrefl _ (Nat.lt_of_lt_of_le hk.2 (hbase k e.symm))⟩, hk.2⟩)
end
end Kd
/-- 'max' and 'min' of two whole numbers. -/
theorem max2_int (k k' : IntKind) (x y : Int) : Builtin.max2 (.int k x) (.int k' y) = pure (.int k (if x < y then y else x)) := by simp only [Builtin.max2, gt_iff_lt]
theorem min2_int (k k' : IntKind) (x y : Int) : Builtin.min2 (.int k x) (.int k' y) = pure (.int k (if y < x then y else x)) := by simp only [Builtin.min2]
theorem max_two (ats : Array TypeId) (ty : TypeId) (a b : Value) : Builtin.max_ ats ty #[a, b] = (Builtin.max2 a b >>= fun s => pure s) := by simp only [Builtin.max_, List.foldlM_cons, List.foldlM_nil]
theorem min_two (ats : Array TypeId) (ty : TypeId) (a b : Value) : Builtin.min_ ats ty #[a, b] = (Builtin.min2 a b >>= fun s => pure s) := by simp only [Builtin.min_, List.foldlM_cons, List.foldlM_nil]
theorem max_three (ats : Array TypeId) (ty : TypeId) (a b c : Value) : Builtin.max_ ats ty #[a, b, c] = (Builtin.max2 a b >>= fun s => Builtin.max2 s c >>= fun s => pure s) := by simp only [Builtin.max_, List.foldlM_cons, List.foldlM_nil]
theorem min_three (ats : Array TypeId) (ty : TypeId) (a b c : Value) : Builtin.min_ ats ty #[a, b, c] = (Builtin.min2 a b >>= fun s => Builtin.min2 s c >>= fun s => pure s) := by simp only [Builtin.min_, List.foldlM_cons, List.foldlM_nil]
theorem max_four (ats : Array TypeId) (ty : TypeId) (a b c d : Value) : Builtin.max_ ats ty #[a, b, c, d] = (Builtin.max2 a b >>= fun s => Builtin.max2 s c >>= fun s => Builtin.max2 s d >>= fun s => pure s) := by simp only [Builtin.max_, List.foldlM_cons, List.foldlM_nil]
theorem min_four (ats : Array TypeId) (ty : TypeId) (a b c d : Value) : Builtin.min_ ats ty #[a, b, c, d] = (Builtin.min2 a b >>= fun s => Builtin.min2 s c >>= fun s => Builtin.min2 s d >>= fun s => pure s) := by simp only [Builtin.min_, List.foldlM_cons, List.foldlM_nil]
end Go.Proofs.YtiamgjepcagohaaDoorW.PrintMore
namespace Go.Proofs.YtiamgjepcagohaaDoorW.PrintWords
open Go.RowKit
section
variable {P : Program} {ops : Array Oper} {rest : List Oper} {o : Oper} {a : Act} {Q : Exit → Act → World → Prop} {W : World}
/-- The operation is a call of this function (a cheap look ahead of a dear step). -/
theorem gate_callee {f : FuncId} {as : Array Operand} {ts : Array TypeId} (_ho : o.op = .call { callee := .value (.func f), args := as, argTypes := ts }) (h : wpList P ops Q (o :: rest) a W) : wpList P ops Q (o :: rest) a W := h
/-- The operation is a builtin over these places. -/
theorem gate_builtin {b : Builtin} {xs : Array Operand} {ts : Array TypeId} (_ho : o.op = .call { callee := .builtin b, args := xs, argTypes := ts }) (h : wpList P ops Q (o :: rest) a W) : wpList P ops Q (o :: rest) a W := h
end
/-- A call's arguments, spelled otherwise. -/
theorem calls_of_args {P : Program} {f : FuncId} {args args' : Array Value} {w : World} {Q : Ending → World → Prop} (h : args = args') (hc : Calls P f args' w Q) : Calls P f args w Q := h ▸ hc
/-- The greater of two whole numbers, as Go's max tells it. -/
def mx (a b : Int) : Int := if a < b then b else a
/-- The smaller of two whole numbers, as Go's min tells it. -/
def mn (a b : Int) : Int := if b < a then b else a
/-- A shift to the left, as Go tells it: a count beyond the width leaves nothing. -/
def shl (k : IntKind) (x y : Int) : Int := k.wrap (x * 2 ^ min y.toNat k.bits)
/-- A shift to the right: a count beyond the width leaves the sign. -/
def shr (k : IntKind) (x y : Int) : Int := x / 2 ^ min y.toNat k.bits
theorem shl_small {k : IntKind} {x y j : Int} (h : shl k x y = j) (hy : y ≤ k.bits) : k.wrap (x * 2 ^ y.toNat) = j := by rw [← h]; unfold shl; rw [Nat.min_eq_left (by omega)]
theorem shr_small {k : IntKind} {x y j : Int} (h : shr k x y = j) (hy : y ≤ k.bits) : x / 2 ^ y.toNat = j := by rw [← h]; unfold shr; rw [Nat.min_eq_left (by omega)]
/-- It says x = x, and that is its use: 'rw [drewN_self w]' fails where the world was not drawn, and the row behind it is skipped. -/
theorem drewN_self (w : World) (n : Nat) : w.drewN n = w.drewN n := rfl
theorem cell_unalloc {W : World} {o : Obj} {a : Addr} {v : Value} (h : (W.alloc o).cell? a = some v) (hlt : a.block < W.heap.size) : W.cell? a = some v := (World.cell?_alloc_lt _ _ _ hlt).symm.trans h
/-- A cell of a block that an event leaves alone. -/
theorem cell_grown {W w1 : World} {row : Option Nat} (hg : W.grownBy w1 row) {a : Addr} {v : Value} (h : W.cell? a = some v) (hne : some a.block ≠ row) : w1.cell? a = some v := by
  have := hg.block a.block (World.block_lt_of_cell? W a h) hne
  simpa [World.cell?, this] using h
namespace Kd
section
variable {α : Type} {d : Kd α} {e base : Nat} {ok : Nat → Prop} {W w1 : World} {v : Value} {xs : List α}
/-- A row of scalars beside a block that is not its own: written. -/
theorem R_grown1 (h : d.R e W base ok v xs) (hE : d.E = []) {row : Option Nat} (hg : W.grownBy w1 row) (hne : row ≠ v.ownBlock) : d.R e w1 base ok v xs :=
  R_mono (R_grown (R_tight hE h) hg (fun _ hk e_ => hne (e_.symm.trans hk))) (fun k hk => h.1 k hk.symm)
/-- The same, told: its block is not that one. -/
theorem R_far1 (h : d.R e W base ok v xs) (hE : d.E = []) {g : Nat} (hne : some g ≠ v.ownBlock) : d.R e W base (fun k => ok k ∧ k ≠ g) v xs :=
  R_mono (R_tight hE h) (fun k hk => ⟨h.1 k hk.symm, fun e_ => hne (by rw [← e_]; exact hk)⟩)
/-- The same, where the row that was written may be none. -/
theorem R_grown2 (h : d.R e W base ok v xs) (hE : d.E = []) {row : Option Nat} (hg : W.grownBy w1 row) (hne : ∀ k, row = some k → some k ≠ v.ownBlock) : d.R e w1 base ok v xs :=
  R_mono (R_grown (R_tight hE h) hg (fun k hk e_ => hne k e_.symm hk)) (fun k hk => h.1 k hk.symm)
end
section
variable {α : Type} {d : Kd α} {e base g n cap : Nat} {ok oki okp : Nat → Prop} {W : World} {xs : List α} {i : Int} {c : List Value}
/-- The place where an element's row comes back: its cells are there, and may be written. -/
theorem H_at (h : H d e W base ok (.slice (some ⟨g, 0, none⟩) n cap) xs i oki c) (h0 : 0 ≤ i) (h1 : i < n) : (∀ j u, c[j]? = some u → W.cell? ⟨g, i.toNat * d.sz + j, none⟩ = some u) ∧ ∀ j, W.frozen? ⟨g, i.toNat * d.sz + j, none⟩ = false := by
  obtain ⟨rows, _, hraw, _, _, hcc, _⟩ := H_raw h h0 h1
  obtain ⟨_, _, _, _, hfr⟩ := R_elem hraw [] i h0 h1
  exact ⟨hcc, hfr⟩
theorem S_seg0 (hH : H d e W base ok (.slice (some ⟨g, 0, none⟩) n cap) xs i oki c) (h0 : 0 ≤ i) (h1 : i < n) {seg : List Value} {j : Nat} (hj : j + seg.length ≤ d.sz)
    {x' : α} (hM : d.M W base okp x' (c.take j ++ seg ++ c.drop (j + seg.length))) (hokp : ∀ k, okp k → oki k) :
    S d e (W.setCells g (i.toNat * d.sz + j) seg) base ok (.slice (some ⟨g, 0, none⟩) n cap) (xs.set i.toNat x') ∧ W.grownBy (W.setCells g (i.toNat * d.sz + j) seg) (some g) :=
  S_seg (okg := fun _ => False) (H_mono hH (fun _ hk => ⟨hk, fun h => h⟩)) h0 h1 hj hM (fun k hk => .inl (hokp k hk)) (fun _ hk => hk.elim)
end
section
variable {α : Type} {d : Kd α} {e base b b' g N : Nat} {ok ok1 : Nat → Prop} {W W2 w1 : World} {u v : Value} {xs ys : List α} {S : Nat → Prop}
theorem Q_tight (hE : d.E = []) (h : d.Q e W base ok v xs) : d.Q e W base (fun k => some k = v.ownBlock) v xs := by
  obtain ⟨h0, inner, ho, hr⟩ := h
  refine ⟨fun k hk => hk.symm, inner, ho, hr.imp_ (fun p c hp => d.M_mono (fun k hk => ?_) (d.M_bound hp))⟩
  obtain ⟨_, _, _, q, hq, _⟩ := hk
  rw [hE] at hq
  cases hq
theorem Q_ok (h : d.Q e W base ok v xs) : ∀ k, v.ownBlock = some k → ok k := h.1
theorem Q_grown1 (h : d.Q e W base ok v xs) (hE : d.E = []) {row : Option Nat} (hg : W.grownBy w1 row) (hne : row ≠ v.ownBlock) : d.Q e w1 base ok v xs :=
  Q_mono (Q_grown (Q_tight hE h) hg (fun _ hk e_ => hne (e_.symm.trans hk))) (fun k hk => h.1 k hk.symm)
theorem Q_grown2 (h : d.Q e W base ok v xs) (hE : d.E = []) {row : Option Nat} (hg : W.grownBy w1 row) (hne : ∀ k, row = some k → some k ≠ v.ownBlock) : d.Q e w1 base ok v xs :=
  Q_mono (Q_grown (Q_tight hE h) hg (fun k hk e_ => hne k e_.symm hk)) (fun k hk => h.1 k hk.symm)
theorem Q_far1 (h : d.Q e W base ok v xs) (hE : d.E = []) {g : Nat} (hne : some g ≠ v.ownBlock) : d.Q e W base (fun k => ok k ∧ k ≠ g) v xs :=
  Q_mono (Q_tight hE h) (fun k hk => ⟨h.1 k hk.symm, fun e_ => hne (by rw [← e_]; exact hk)⟩)
theorem R_tight2 (hE : d.E = []) (h : d.R e W base ok v xs) : d.R e W base (fun k => some k = v.ownBlock ∧ ok k) v xs := R_mono (R_tight hE h) (fun k hk => ⟨hk, h.1 k hk.symm⟩)
theorem R_reok (hE : d.E = []) (h : d.R e W base ok1 v xs) (hok : ∀ k, v.ownBlock = some k → ok k) : d.R e W base ok v xs := R_mono (R_tight hE h) (fun k hk => hok k hk.symm)
theorem own_raise {n size : Nat} {cs : List Value} (h : W.ownsRow b e size v n cs) (hb : ∀ k, v.ownBlock = some k → b' ≤ k) : W.ownsRow b' e size v n cs := by
  obtain ⟨h1, h2⟩ := h
  refine ⟨h1, ?_⟩
  rcases h2 with h2 | ⟨g, cap, cur, rfl, _, r⟩
  · exact .inl h2
  · exact .inr ⟨g, cap, cur, rfl, hb g (by simp [Value.ownBlock]), r⟩
/-- A row whose elements lead to nothing, and whose block is younger than was told. -/
theorem R_raise (hM : ∀ w ok x cs, d.M w b ok x cs → d.M w b' ok x cs) (h : d.R e W b ok v xs) (hb : ∀ k, v.ownBlock = some k → b' ≤ k) : d.R e W b' ok v xs := by
  obtain ⟨h0, inner, ho, hr⟩ := h
  exact ⟨h0, inner, own_raise ho hb, hr.imp_ (fun _ _ hp => hM _ _ _ _ hp)⟩
theorem R_keptB (h : d.R e W base ok v xs) (hk : Kept W W2 S) (hne : ∀ k, ok k → ¬ S k) : d.R e W2 base (fun k => ok k ∧ (¬ S k ∧ k < W.heap.size)) v xs :=
  R_kept (R_mono (R_bound h) (fun k hk => ⟨hk.1, hne k hk.1, hk.2.2.1⟩)) hk (fun _ hk => hk.2.1)
theorem Q_keptB (h : d.Q e W base ok v xs) (hk : Kept W W2 S) (hne : ∀ k, ok k → ¬ S k) : d.Q e W2 base (fun k => ok k ∧ (¬ S k ∧ k < W.heap.size)) v xs :=
  Q_kept (Q_mono (Q_bound h) (fun k hk => ⟨hk.1, hne k hk.1, hk.2.2.1⟩)) hk (fun _ hk => hk.2.1)
theorem S_keptB (h : Kd.S d e W base ok v xs) (hk : Kept W W2 S) (hne : ∀ k, ok k → ¬ S k) : Kd.S d e W2 base (fun k => ok k ∧ (¬ S k ∧ k < W.heap.size)) v xs :=
  S_kept (S_mono (S_bound h) (fun k hk => ⟨hk.1, hne k hk.1, hk.2.2.1⟩)) hk (fun _ hk => hk.2.1)
theorem Q_old (hu : d.Q e W base ok u xs) (hb : Below W.heap.size W w1) : d.Q e w1 base (fun k => ok k ∧ k < W.heap.size) u xs := Q_mono (Q_below (Q_bound hu) hb) (fun _ h => ⟨h.1, h.2.2.1⟩)
theorem Q_oldK (hu : d.Q e W base (fun k => ok k ∧ k ≠ g) u xs) (hk : KeepBut W w1 g none) : d.Q e w1 base (fun k => ok k ∧ k < W.heap.size) u xs := Q_mono (Q_keep (Q_bound hu) hk (fun _ h => h.1.2)) (fun _ h => ⟨h.1.1, h.2.2.1⟩)
theorem Q_apart_nil (h : d.Q e W base ok u xs) : d.Q e W base (fun k => ok k ∧ some k ≠ (Value.slice none 0 0).ownBlock) u xs := Q_mono h (fun k hk => ⟨hk, by simp [Value.ownBlock]⟩)
theorem Q_told (h : d.Q e w1 base (fun k => ok k ∧ k < N) u xs) (hbase : ∀ k, v.ownBlock = some k → N ≤ k) : d.Q e w1 base (fun k => (ok k ∧ some k ≠ v.ownBlock) ∧ k < N) u xs :=
  Q_mono h (fun k hk => ⟨⟨hk.1, fun e => Nat.lt_irrefl _ (Nat.lt_of_lt_of_le hk.2 (hbase k e.symm))⟩, hk.2⟩)
end
end Kd
end Go.Proofs.YtiamgjepcagohaaDoorW.PrintWords
namespace Go.Proofs.YtiamgjepcagohaaDoorW.PrintWords
open Go.RowKit
/-- Beside a state: what was written is the state's, or new since. -/
theorem Kept.keepG {w W W2 : World} {S2 : Nat → Prop} {g : Nat} (h : KeepBut w W g none) (k : Kept W W2 S2) (hs : ∀ k, S2 k → k = g ∨ w.heap.size ≤ k) : KeepBut w W2 g none :=
  ⟨Nat.le_trans h.1 k.1, fun i hi hg hr => (k.2 i (Nat.lt_of_lt_of_le hi h.1) (fun h2 => (hs i h2).elim hg (fun h3 => by omega))).trans (h.2 i hi hg hr)⟩
namespace Kd
/-- A row that is only read, told by its value: its form, its length, what it leads to (in ok). e and base say nothing; they make it as the others are. -/
def V {α : Type} (d : Kd α) (_e : Nat) (W : World) (_base : Nat) (ok : Nat → Prop) (v : Value) (xs : List α) : Prop := ∃ A c, v = .slice A xs.length c ∧ xs.length ≤ c ∧ F d W ok A xs.length xs
section
variable {α β : Type} {d : Kd α} {e base base' n m c g N' lo hi : Nat} {ok ok' S : Nat → Prop} {w W w1 : World} {A : Option Addr} {ad : Addr} {u v v1 : Value} {xs : List α}
theorem V_map (h : V d e W base ok v xs) (hF : ∀ A, F d W ok A xs.length xs → F d w1 ok' A xs.length xs) : V d e w1 base' ok' v xs := by
  obtain ⟨A, c, hv, hl, hf⟩ := h
  exact ⟨A, c, hv, hl, hF A hf⟩
theorem V_mk (hl : xs.length ≤ c) (hf : F d W ok A xs.length xs) : V d e W base ok (.slice A xs.length c) xs := ⟨A, c, rfl, hl, hf⟩
theorem V_slice (h : V d e W base ok v xs) : ∃ A c, v = .slice A xs.length c := by
  obtain ⟨A, c, hv, _⟩ := h
  exact ⟨A, c, hv⟩
theorem V_at (h : V d e W base ok (.slice A n c) xs) : n = xs.length ∧ n ≤ c ∧ F d W ok A xs.length xs := by
  obtain ⟨A', c', hv, hl, hf⟩ := h
  injection hv with ha hn hc
  subst ha; subst hc
  exact ⟨hn, by rw [hn]; exact hl, hf⟩
theorem V_reads' (h : V d e W base ok (.slice A n c) xs) : n = xs.length ∧ n ≤ c ∧ d.C W A xs.length xs := ⟨(V_at h).1, (V_at h).2.1, F_now (V_at h).2.2⟩
theorem V_F (h : V d e W base ok (.slice A n c) xs) : F d W ok A n xs := by
  obtain ⟨hn, _, hf⟩ := V_at h
  rw [hn]
  exact hf
theorem V_nil (d : Kd α) (e : Nat) (W : World) (base : Nat) (ok : Nat → Prop) : V d e W base ok (.slice none 0 0) [] := ⟨none, 0, rfl, Nat.le_refl _, F_nil d W ok⟩
theorem R_V (h : d.R e W base ok v xs) : V d e W base' ok v xs := by
  obtain ⟨A, c, rfl⟩ := R_slice h
  exact ⟨A, c, rfl, (R_reads' h).2.1, R_F h⟩
theorem Q_V (h : d.Q e W base ok v xs) : V d e W base' ok v xs := by
  obtain ⟨A, c, rfl, hl⟩ := Q_slice h
  exact ⟨A, c, rfl, hl, Q_F h⟩
theorem S_V (h : Kd.S d e W base ok v xs) : V d e W base' ok v xs := R_V (S_R h)
theorem N_V (h : N d e W base ok v xs) : V d e W base' ok v xs := by
  obtain ⟨A, c, rfl⟩ := N_slice h
  exact ⟨A, c, rfl, (N_reads' h).2.1, N_F h⟩
theorem V_mono (h : V d e W base ok v xs) (hok : ∀ k, ok k → ok' k) : V d e W base ok' v xs := V_map h (fun _ hf => F_mono hf hok)
theorem V_bound (h : V d e W base ok v xs) : V d e W base (fun k => ok k ∧ k < W.heap.size) v xs := V_map h (fun _ hf => F_bound hf)
theorem V_lower (h : V d e W base ok v xs) (_ : base' ≤ base) : V d e W base' ok v xs := h
theorem V_step (h : V d e W base ok v xs) (hm : ∀ k, ok k → k < W.heap.size → w1.heap[k]? = W.heap[k]?) : V d e w1 base ok v xs := V_map h (fun _ hf => F_step hf hm)
theorem V_below (h : V d e W base ok v xs) (hb : Below W.heap.size W w1) : V d e w1 base ok v xs := V_map h (fun _ hf => F_below hf hb)
theorem V_alloc (h : V d e W base ok v xs) (o : Obj) : V d e (W.alloc o) base ok v xs := V_map h (fun _ hf => F_alloc hf o)
theorem V_drew (h : V d e W base ok v xs) : V d e W.drew base ok v xs := V_map h (fun _ hf => F_drew hf)
theorem V_drewN (h : V d e W base ok v xs) (m : Nat) : V d e (W.drewN m) base ok v xs := V_map h (fun _ hf => F_drewN hf m)
theorem V_grown (h : V d e W base ok v xs) {row : Option Nat} (hg : W.grownBy w1 row) (hok : ∀ k, ok k → some k ≠ row) : V d e w1 base ok v xs := V_map h (fun _ hf => F_grown hf hg hok)
theorem V_far (h : V d e W base ok v xs) {p : Addr} (hok : ∀ k, ok k → k ≠ p.block) (u : Value) : V d e (W.setCell p u) base ok v xs := V_map h (fun _ hf => F_far hf hok u)
theorem V_keep (h : V d e W base ok v xs) (hk : KeepBut W w1 g none) (hok : ∀ k, ok k → k ≠ g) : V d e w1 base ok v xs := V_map h (fun _ hf => F_keep hf hk hok)
theorem V_kept (h : V d e W base ok v xs) (hk : Kept W w1 S) (hok : ∀ k, ok k → ¬ S k) : V d e w1 base ok v xs := V_map h (fun _ hf => F_kept hf hk hok)
theorem V_after (h : V d e W base (fun k => ok k ∧ some k ≠ u.ownBlock) v xs) (hg : W.grownBy w1 u.ownBlock) (hat : v1.ownBlock = u.ownBlock ∨ ∃ b, v1.ownBlock = some b ∧ W.heap.size ≤ b) : V d e w1 base (fun k => ok k ∧ some k ≠ v1.ownBlock) v xs := V_map h (fun _ hf => F_after hf hg hat)
theorem V_afterv (h : V d e W base (fun k => ok k ∧ some k ≠ v.ownBlock) u xs) (hg : W.grownBy w1 v.ownBlock) (hat : v1.ownBlock = v.ownBlock ∨ ∃ b, v1.ownBlock = some b ∧ W.heap.size ≤ b) : V d e w1 base (fun k => ok k ∧ some k ≠ v1.ownBlock) u xs := V_after h hg hat
theorem N_afterv (h : N d e W base (fun k => ok k ∧ some k ≠ v.ownBlock) u xs) (hg : W.grownBy w1 v.ownBlock) (hat : v1.ownBlock = v.ownBlock ∨ ∃ b, v1.ownBlock = some b ∧ W.heap.size ≤ b) : N d e w1 base (fun k => ok k ∧ some k ≠ v1.ownBlock) u xs := N_after h hg hat
theorem V_apart_nil (h : V d e W base ok v xs) : V d e W base (fun k => ok k ∧ some k ≠ (Value.slice none 0 0).ownBlock) v xs := V_map h (fun _ hf => F_apart_nil hf)
theorem V_elder' (h : V d e W base ok v xs) (hbase : ∀ k, u.ownBlock = some k → W.heap.size ≤ k) (hb : Below W.heap.size W w1) : V d e w1 base (fun k => ok k ∧ some k ≠ u.ownBlock) v xs := V_map h (fun _ hf => F_elder' hf hbase hb)
theorem V_elderB (h : V d e W base ok v xs) (a : Nat) (ha : W.heap.size ≤ a) : V d e W base (fun k => ok k ∧ k ≠ a) v xs := V_map h (fun _ hf => F_elderB hf a ha)
theorem V_old (h : V d e W base ok v xs) (hb : Below W.heap.size W w1) : V d e w1 base (fun k => ok k ∧ k < W.heap.size) v xs := V_map h (fun _ hf => F_old hf hb)
theorem V_oldK (h : V d e W base (fun k => ok k ∧ k ≠ g) v xs) (hk : KeepBut W w1 g none) : V d e w1 base (fun k => ok k ∧ k < W.heap.size) v xs := V_map h (fun _ hf => F_oldK hf hk)
theorem V_told (h : V d e w1 base (fun k => ok k ∧ k < N') v xs) (hbase : ∀ k, u.ownBlock = some k → N' ≤ k) : V d e w1 base (fun k => (ok k ∧ some k ≠ u.ownBlock) ∧ k < N') v xs := V_map h (fun _ hf => F_told hf hbase)
theorem V_keptB (h : V d e W base ok v xs) (hk : Kept W w1 S) (hne : ∀ k, ok k → ¬ S k) : V d e w1 base (fun k => ok k ∧ (¬ S k ∧ k < W.heap.size)) v xs :=
  V_kept (V_mono (V_bound h) (fun k hk => ⟨hk.1, hne k hk.1, hk.2⟩)) hk (fun _ hk => hk.2.1)
theorem N_keptB (h : N d e W base ok v xs) (hk : Kept W w1 S) (hne : ∀ k, ok k → ¬ S k) : N d e w1 base (fun k => ok k ∧ (¬ S k ∧ k < W.heap.size)) v xs :=
  N_kept (N_mono (N_bound h) (fun k hk => ⟨hk.1, hne k hk.1, hk.2⟩)) hk (fun _ hk => hk.2.1)
theorem V_get (h : V d e W base ok (.slice (some ad) n c) xs) (z : α) (i : Int) (h0 : 0 ≤ i) (h1 : i < n) :
    ∃ cs, cs.length = d.sz ∧ FK d W ok (xs.getD i.toNat z) cs ∧ ∀ j u, cs[j]? = some u → W.cell? (ad.add (i.toNat * d.sz + j)) = some u := by
  obtain ⟨ad', cs, he, hcl, hK, hcc, _⟩ := F_get (V_F h) z i h0 h1
  injection he with he
  subst he
  exact ⟨cs, hcl, hK, hcc⟩
theorem F_take (h : F d W ok A xs.length xs) (hm : m ≤ xs.length) : F d W ok A (xs.take m).length (xs.take m) := F_imp h (fun _ hC => C_take hC hm)
theorem F_cut (h : F d W ok A xs.length xs) (hm : m ≤ xs.length) (hc : xs.length ≤ c) : F d W ok (if c = m then A else A.map (·.add (m * d.sz))) (xs.drop m).length (xs.drop m) := F_imp h (fun _ hC => C_drop hC hm hc)
theorem F_mid (h : F d W ok A xs.length xs) (h1 : lo ≤ hi) (h2 : hi ≤ xs.length) (hc : xs.length ≤ c) : F d W ok (if c = lo then A else A.map (·.add (lo * d.sz))) ((xs.take hi).drop lo).length ((xs.take hi).drop lo) := F_imp h (fun _ hC => C_mid hC h1 h2 hc)
/-- An element that is itself a row: its one cell. -/
theorem FK_slice_open {l : List α} {cs : List Value} (h : FK (Kd.slice e d) W ok l cs) : ∃ A c, cs = [.slice A l.length c] ∧ l.length ≤ c ∧ F d W ok A l.length l := by
  obtain ⟨A, c, rfl, hl, _⟩ := FK_now h
  refine ⟨A, c, rfl, hl, fun W' hW => ?_⟩
  obtain ⟨A', c', he, _, g'⟩ := h W' hW
  injection he with he _
  injection he with ha _ _
  rw [ha]
  exact g'
theorem FK_slice_mk {l : List α} (hl : l.length ≤ c) (hf : F d W ok A l.length l) : FK (Kd.slice e d) W ok l [.slice A l.length c] := fun W' hW => ⟨A, c, rfl, hl, hf W' hW⟩
theorem foot_int {k : IntKind} {l : List Int} (h : (Kd.int k).C w (some ad) n l) (i : Int) (h0 : 0 ≤ i) (h1 : i < n) : w.cell? (ad.add i.toNat) = some (.int k (rd l i)) := by
  obtain ⟨ad', he, hc⟩ := at_int h i h0 h1
  injection he with he
  subst he
  exact hc
theorem foot_bool {l : List Bool} (h : Kd.bool.C w (some ad) n l) (i : Int) (h0 : 0 ≤ i) (h1 : i < n) : w.cell? (ad.add i.toNat) = some (.bool (rdOf false l i)) := by
  obtain ⟨ad', he, hc⟩ := at_bool h i h0 h1
  injection he with he
  subst he
  exact hc
theorem foot_string {l : List ByteArray} (h : Kd.string.C w (some ad) n l) (i : Int) (h0 : 0 ≤ i) (h1 : i < n) : w.cell? (ad.add i.toNat) = some (.string (rdOf ByteArray.empty l i)) := by
  obtain ⟨ad', he, hc⟩ := at_string h i h0 h1
  injection he with he
  subst he
  exact hc
theorem C_kept_keep {l : List α} (h : ∀ W', Kept w W' S → d.C W' A n l) (hk : Kept w W S) (hg : S g ∨ w.heap.size ≤ g) : ∀ W', KeepBut W W' g none → d.C W' A n l := fun W' k => h W' (hk.of_keep k hg)
theorem C_kept_ownV (h : V d e W base ok (.slice A n c) xs) (hok : ∀ k, ok k → ¬ S k) : ∀ W', Kept W W' S → d.C W' A n xs := fun W' hk => by
  have h2 := V_reads' (V_kept h hk hok)
  rw [h2.1]
  exact h2.2.2
theorem C_foot_ownV (h : V d e W base ok (.slice A n c) xs) (hok : ∀ k, ok k → k ≠ g) : ∀ W', KeepBut W W' g none → d.C W' A n xs := fun W' hk => by
  have h2 := V_reads' (V_keep h hk hok)
  rw [h2.1]
  exact h2.2.2
theorem R_newM {M : Nat → Prop} (h : d.R e w1 W.heap.size ok v xs) (hle : w.heap.size ≤ W.heap.size) (hM : ∀ k, w.heap.size ≤ k → M k) : d.R e w1 W.heap.size (fun k => M k ∧ ok k) v xs := R_mono (R_bound h) (fun k hk => ⟨hM k (Nat.le_trans hle hk.2.1), hk.1⟩)
theorem Q_newM {M : Nat → Prop} (h : d.Q e w1 W.heap.size ok v xs) (hle : w.heap.size ≤ W.heap.size) (hM : ∀ k, w.heap.size ≤ k → M k) : d.Q e w1 W.heap.size (fun k => M k ∧ ok k) v xs := Q_mono (Q_bound h) (fun k hk => ⟨hM k (Nat.le_trans hle hk.2.1), hk.1⟩)
theorem S_newM {M : Nat → Prop} (h : Kd.S d e w1 W.heap.size ok v xs) (hle : w.heap.size ≤ W.heap.size) (hM : ∀ k, w.heap.size ≤ k → M k) : Kd.S d e w1 W.heap.size (fun k => M k ∧ ok k) v xs := S_mono (S_bound h) (fun k hk => ⟨hM k (Nat.le_trans hle hk.2.1), hk.1⟩)
end
end Kd
end Go.Proofs.YtiamgjepcagohaaDoorW.PrintWords
end
