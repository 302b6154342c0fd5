/- A hierarchy in memory; New. -/
import Derived.Test.YtoomennincfkgaaHierRows
set_option maxRecDepth 100000
namespace Go.Sh
open Go.RowKit

structure HierM (w : World) (hb : Nat) (sr sy s3 su sd : SV) (r : Nat) (rank : List Int) (ways : List Wy) (g : Nat → Int) (mm : List (List Int × Value)) (us ds : List SV) (i : Nat) : Prop where
  hd : Blk w hb [.slice sr.a sr.len sr.cap, .slice sy.a sy.len sy.cap, .slice s3.a s3.len s3.cap, .map (some r), .slice su.a su.len su.cap, .slice sd.a sd.len sd.cap]
  rk : Own RI w sr rank
  wy : Own RW w sy ways
  at_ : Own RI w s3 (fi rank.length g)
  m : MapIs true 2 w r mm
  up : Rows w su us (upsL rank ways i)
  dn : Rows w sd ds (dnsL rank ways i)
def hierF (hb : Nat) (sr sy s3 su sd : SV) (r : Nat) (us ds : List SV) (k : Nat) : Prop := k = hb ∨ sr.blk k ∨ sy.blk k ∨ s3.blk k ∨ k = r ∨ rowsF su us k ∨ rowsF sd ds k

theorem HierM.chg {w w' : World} {hb : Nat} {sr sy s3 su sd : SV} {r : Nat} {rank : List Int} {ways : List Wy} {g : Nat → Int} {mm : List (List Int × Value)} {us ds : List SV} {i : Nat} {G : Nat → Prop} (h : HierM w hb sr sy s3 su sd r rank ways g mm us ds i) (c : Chg G w w') (hd : ∀ k, hierF hb sr sy s3 su sd r us ds k → ¬ G k) : HierM w' hb sr sy s3 su sd r rank ways g mm us ds i :=
  ⟨c.blk h.hd (hd _ (.inl rfl)), h.rk.chg c fun k hk => hd k (.inr (.inl hk)), h.wy.chg c fun k hk => hd k (.inr (.inr (.inl hk))), h.at_.chg c fun k hk => hd k (.inr (.inr (.inr (.inl hk)))),
    h.m.same (c.block r h.m.lt (hd _ (.inr (.inr (.inr (.inr (.inl rfl))))))), h.up.chg c fun k hk => hd k (.inr (.inr (.inr (.inr (.inr (.inl hk)))))), h.dn.chg c fun k hk => hd k (.inr (.inr (.inr (.inr (.inr (.inr hk))))))⟩
theorem HierM.lt {w : World} {hb : Nat} {sr sy s3 su sd : SV} {r : Nat} {rank : List Int} {ways : List Wy} {g : Nat → Int} {mm : List (List Int × Value)} {us ds : List SV} {i : Nat} (h : HierM w hb sr sy s3 su sd r rank ways g mm us ds i) {k : Nat} (hk : hierF hb sr sy s3 su sd r us ds k) : k < w.heap.size := by
  rcases hk with rfl | hk | hk | hk | rfl | hk | hk
  · exact blk_lt h.hd
  · exact h.rk.lt hk
  · exact h.wy.lt hk
  · exact h.at_.lt hk
  · exact h.m.lt
  · exact h.up.lt hk
  · exact h.dn.lt hk

/-- A hierarchy; F: its blocks. -/
def HierA (w : World) (p : Option Addr) (rank : List Int) (ways : List Wy) (F : Nat → Prop) : Prop :=
  OkH rank ways ∧ ∃ hb sr sy s3 su sd r g mm us ds, p = some ⟨hb, 0, none⟩ ∧ Placed rank g ∧ MapOk mm ways ∧ HierM w hb sr sy s3 su sd r rank ways g mm us ds ways.length ∧ F = hierF hb sr sy s3 su sd r us ds
section
variable {w w' : World} {p : Option Addr} {rank : List Int} {ways : List Wy} {F : Nat → Prop}
theorem HierA.ok (h : HierA w p rank ways F) : OkH rank ways := h.1
theorem HierA.chg {G : Nat → Prop} (h : HierA w p rank ways F) (c : Chg G w w') (hd : ∀ k, F k → ¬ G k) : HierA w' p rank ways F := by
  obtain ⟨ok, hb, sr, sy, s3, su, sd, r, g, mm, us, ds, hp, hpl, hmo, hM, rfl⟩ := h
  exact ⟨ok, hb, sr, sy, s3, su, sd, r, g, mm, us, ds, hp, hpl, hmo, hM.chg c hd, rfl⟩
theorem HierA.ext (h : HierA w p rank ways F) (e : Ext w w') : HierA w' p rank ways F := h.chg (G := fun _ => False) (.of_ext e) fun _ _ h => h
theorem HierA.off {b : Nat} (h : HierA w p rank ways F) (o : Off b w w') (hb : ¬ F b) : HierA w' p rank ways F := h.chg (G := fun k => k = b) (.of_off o rfl) fun _ hk e => hb (e ▸ hk)
theorem HierA.lt (h : HierA w p rank ways F) {k : Nat} (hk : F k) : k < w.heap.size := by
  obtain ⟨ok, hb, sr, sy, s3, su, sd, r, g, mm, us, ds, hp, hpl, hmo, hM, rfl⟩ := h
  exact hM.lt hk
end

theorem HNew_ok {w : World} {sr0 sy0 : SV} {rank : List Int} {ways : List Wy} {K : Option Addr → World → Prop} (hr : View RI w sr0 rank) (hy : View RW w sy0 ways) (hn : rank.length < 2 ^ 40) (hm : ways.length < 2 ^ 40)
    (hk : OkH rank ways → ∀ p w' F, Ext w w' → HierA w' p rank ways F → (∀ k, F k → w.heap.size ≤ k) → K p w') (hno : ¬ OkH rank ways → ∀ w', Ext w w' → K none w') : sh_hier_New sr0 sy0 K w := by
  unfold sh_hier_New
  intro b1 w2 e2 g1 g1'
  have z2 := e2.size
  have lr0 := hr.len; have ly0 := hy.len
  refine Own.app (R := RI) Own.nil (hr.ext e2) (by simp only [List.length_nil]; omega) (by simp only [List.length_nil]; omega) fun sr w4 c4 hsr hR => ?_
  rw [List.nil_append] at hR
  have e4 : Ext w2 w4 := c4.ext fun k _ ⟨q, hq, _⟩ => by cases hq
  have fr : Fsh w2 sr := fun k hk => by
    rcases hsr k hk with ⟨q, hq, _⟩ | h'
    · cases hq
    · exact h'
  have z4 := e4.size
  refine ⟨kp_ext e4 (by (intro b hb; simp only [List.mem_cons, List.not_mem_nil, or_false] at hb; omega)), fun w5 o5 => ?_⟩
  have z5 := o5.size
  have e5 : Ext w w5 := ext_off (e2.trans e4) o5 g1
  have nr1 : ¬ sr.blk b1 := fun hk => by have := fr _ hk; omega
  have hR5 := hR.off o5 nr1
  refine Own.app (R := RW) Own.nil (hy.ext e5) (by simp only [List.length_nil]; omega) (by simp only [List.length_nil]; omega) fun sy w7 c7 hsy hY => ?_
  rw [List.nil_append] at hY
  have e7 : Ext w5 w7 := c7.ext fun k _ ⟨q, hq, _⟩ => by cases hq
  have fy : Fsh w5 sy := fun k hk => by
    rcases hsy k hk with ⟨q, hq, _⟩ | h'
    · cases hq
    · exact h'
  have z7 := e7.size
  refine ⟨kp_ext e7 (by (intro b hb; simp only [List.mem_cons, List.not_mem_nil, or_false] at hb; omega)), fun w8 o8 => ?_⟩
  have z8 := o8.size
  have e8 : Ext w w8 := ext_off (e5.trans e7) o8 g1
  have ny1 : ¬ sy.blk b1 := fun hk => by have := fy _ hk; omega
  have hR8 := (hR5.ext e7).off o8 nr1
  have hY8 := hY.off o8 ny1
  refine check_ok hR8.view hY8.view (fun ok hb s3 r g mm w11 e11 C => ⟨kp_ext e11 (by (intro b hb; simp only [List.mem_cons, List.not_mem_nil, or_false] at hb; omega)), ?_⟩) (fun no c w11 e11 hc _ _ => ⟨kp_ext e11 (by (intro b hb; simp only [List.mem_cons, List.not_mem_nil, or_false] at hb; omega)), ?_⟩)
  rotate_left
  · rw [show (c != 0) = true by simpa using hc, cond_true]; exact hno no w11 (e8.trans e11)
  rw [bne_self_eq_false, cond_false]
  have hk := hk ok
  intro w12 e12
  have z11 := e11.size; have z12 := e12.size
  have hbl : hb < w11.heap.size := blk_lt C.hd
  have rl := C.m.lt
  have br : ∀ k, sr.blk k → k < w8.heap.size := fun k hk => hR8.lt hk
  have by_ : ∀ k, sy.blk k → k < w8.heap.size := fun k hk => hY8.lt hk
  have b3 : ∀ k, s3.blk k → k < w11.heap.size := fun k hk => C.at_.lt hk
  have lsr := hR8.view.len
  have lsy := hY8.view.len
  have hokn := ok.n; have hokk := ok.k
  refine own_mk (R := RS) (bytes := 24) (by omega) (by omega) (by omega) fun su w14 e14 gu hU => ?_
  simp only [Int.toNat_natCast] at hU
  rw [lsr] at hU
  have z14 := e14.size
  refine ⟨_, rfl, fun w16 e16 => ?_⟩
  have z16 := e16.size
  have e1116 := (e12.trans e14).trans e16
  rw [addm]
  refine stL_blk (b := hb) (o := 0 + 4) [.slice su.a su.len su.cap] 0 w16 _ _ (e1116.blkE C.hd) (by simp) fun w17 o17 hB17 => ?_
  have z17 := o17.size
  refine ⟨⟨by omega, fun b hz => o17.block b (fun e => ?_)⟩, fun c hc => by simp only [List.mem_cons, List.not_mem_nil, or_false] at hc; subst hc; exact o17.block _ (by have := C.ghb; omega), ?_⟩
  · rcases hz with (h | h) | h
    · exact h
    · omega
    · omega
  refine ⟨by omega, Int.le_refl _, by omega, by omega, fun b18 w19 e19 hz18 hB18 => ?_⟩
  have z19 := e19.size
  have hl18 : b18 < w19.heap.size := blk_lt hB18
  have bu : ∀ k, su.blk k → k < w14.heap.size := fun k hk => hU.lt hk
  have g18 : w11.heap.size ≤ b18 ∧ ¬ su.blk b18 := by
    rcases hz18 with ((h | h) | h) | h
    · exact h.elim
    · exact ⟨h.1, fun hk => by have := gu _ hk; omega⟩
    · exact ⟨by omega, fun hk => by have := bu _ hk; omega⟩
    · exact ⟨by omega, fun hk => by have := bu _ hk; omega⟩
  have hD : Own RS w19 ⟨some ⟨b18, 0, none⟩, sr.len, sr.len⟩ (List.replicate rank.length ⟨none, 0, 0⟩) := by
    refine ⟨[], by simp [lsr], by simp [lsr], .inr ⟨b18, rfl, ?_⟩⟩
    rw [List.append_nil, show (⟨none, 0, 0⟩ : SV) = RS.z from rfl, ← RS.zeros]
    have hB := hB18
    simp only [Int.toNat_natCast] at hB
    rw [lsr] at hB
    exact hB
  have f18 : ∀ k, (⟨some ⟨b18, 0, none⟩, sr.len, sr.len⟩ : SV).blk k → k = b18 := fun k ⟨p, hp, hq⟩ => by cases hp; exact hq.symm
  refine ⟨_, rfl, fun w21 e21 => ?_⟩
  have z21 := e21.size
  simp only [Int.toNat_natCast]
  generalize hsd : (⟨some ⟨b18, 0, none⟩, sr.len, sr.len⟩ : SV) = sd at hD f18
  have hsda : (some ⟨b18, 0, none⟩ : Option Addr) = sd.a ∧ sr.len = sd.len ∧ sr.len = sd.cap := by subst hsd; exact ⟨rfl, rfl, rfl⟩
  rw [addm]
  have hst : ([.slice (some ⟨b18, 0, none⟩) sr.len sr.len] : List Value) = [.slice sd.a sd.len sd.cap] := by rw [← hsda.1, ← hsda.2.1, ← hsda.2.2]
  rw [hst]
  refine stL_blk (b := hb) (o := 0 + 5) [.slice sd.a sd.len sd.cap] 0 w21 _ _ ((e19.trans e21).blkE hB17) (by simp [setL]) fun w22 o22 hB22 => ?_
  have z22 := o22.size
  refine ⟨fun c hc => by simp only [List.mem_cons, List.not_mem_nil, or_false] at hc; subst hc; exact o22.block _ (by have := C.ghb; omega), ?_⟩
  intro w23 e23
  have z23 := e23.size
  -- the start
  have cA : Chg (fun k => k = hb) w11 w23 := ((((Chg.of_ext (F := fun k => k = hb) e1116).trans (.of_off (F := fun k => k = hb) o17 rfl) fun _ _ h => h).trans (.of_ext (F := fun _ => False) (e19.trans e21)) fun _ _ h => h.elim).trans (.of_off (F := fun k => k = hb) o22 rfl) fun _ _ h => h).trans (.of_ext (F := fun _ => False) e23) fun _ _ h => h.elim
  have nhb : ∀ k, sr.blk k ∨ sy.blk k ∨ s3.blk k → k ≠ hb := fun k hk e => by
    have := C.ghb
    rcases hk with h | h | h
    · have := br k h; omega
    · have := by_ k h; omega
    · exact C.d3 (e ▸ h)
  have nu : ¬ su.blk hb := fun hk => by have := gu _ hk; omega
  have nd : ¬ sd.blk hb := fun hk => by have := f18 _ hk; omega
  have M0 : HierM w23 hb sr sy s3 su sd r rank ways g mm (List.replicate rank.length ⟨none, 0, 0⟩) (List.replicate rank.length ⟨none, 0, 0⟩) 0 := by
    refine ⟨by have := e23.blkE hB22; simpa [setL] using this, (hR8.ext e11).chg cA fun k hk => nhb k (.inl hk), (hY8.ext e11).chg cA fun k hk => nhb k (.inr (.inl hk)), C.at_.chg cA fun k hk => nhb k (.inr (.inr hk)), C.m.same (cA.block r rl C.dr), ?_, ?_⟩
    · rw [upsL_nil]; exact .nil ((((hU.ext e16).off o17 nu).ext (e19.trans e21)).off o22 nu |>.ext e23)
    · rw [dnsL_nil]; exact .nil (((hD.ext e21).off o22 nd).ext e23)
  have e23' : Ext w w23 := ext_chg (e8.trans e11) cA fun k hk => by have := C.ghb; have := e8.size; omega
  have ly : (sy.len : Int) = ways.length := by omega
  have base : w.heap.size ≤ w11.heap.size := by have := e8.size; omega
  refine LoopT.gh (γ := Nat × List SV × List SV) (fun gh (st : Int × Unit) w' => st.1 = gh.1 ∧ gh.1 ≤ ways.length ∧ Ext w w' ∧ w23.heap.size ≤ w'.heap.size ∧ HierM w' hb sr sy s3 su sd r rank ways g mm gh.2.1 gh.2.2 gh.1 ∧ (∀ k, rowsF su gh.2.1 k → w11.heap.size ≤ k) ∧ (∀ k, rowsF sd gh.2.2 k → w11.heap.size ≤ k) ∧ (∀ k, rowsF su gh.2.1 k → ¬ rowsF sd gh.2.2 k)) (fun gh => ways.length - gh.1) (0, List.replicate rank.length ⟨none, 0, 0⟩, List.replicate rank.length ⟨none, 0, 0⟩)
    ⟨rfl, Nat.zero_le _, e23', Nat.le_refl _, M0, fun k hk => by rw [rowsF_nil] at hk; have := gu k hk; omega, fun k hk => by rw [rowsF_nil] at hk; rw [f18 k hk]; exact g18.1, fun k h1 h2 => by rw [rowsF_nil] at h1 h2; rw [f18 k h2] at h1; exact g18.2 h1⟩ ?_
  rintro ⟨i, us, ds⟩ ⟨x, _⟩ w26 ⟨hx, hi, e26, z26, M, fu, fd, dud⟩ J1 hJ1
  simp only at hx hi M fu fd dud; subst hx
  dsimp only
  rw [Bool.cond_decide]
  by_cases hc : (i : Int) < (sy.len : Int)
  · rw [if_pos hc]
    have hi' : i < ways.length := by omega
    refine way_idx M.wy.view hi' fun a _ a0 a1 a2 a3 a4 => ⟨_, a0, _, a1, _, a2, _, a3, _, a4, ?_⟩
    rw [wyA_get hi']
    have oky := ok.f i hi'
    rw [wyA_get hi'] at oky
    generalize hyy : wyA ways i = y at oky ⊢
    obtain ⟨_, hne, f0, t0, f1, t1, _, _⟩ := oky
    obtain ⟨f, hf⟩ := Int.eq_ofNat_of_zero_le f0
    obtain ⟨t, ht⟩ := Int.eq_ofNat_of_zero_le t0
    rw [hf, ht]
    intro b33 w34 e34 g33 g33' w35 o35
    have z34 := e34.size; have z35 := o35.size
    have nF : ¬ hierF hb sr sy s3 su sd r us ds b33 := fun hk => by have := M.lt hk; omega
    have M35 := (M.chg (G := fun _ => False) (.of_ext e34) fun _ _ h => h).chg (G := fun k => k = b33) (.of_off o35 rfl) fun k hk e => nF (e ▸ hk)
    have e35 : Ext w w35 := ext_off (e26.trans e34) o35 (by have := e26.size; omega)
    refine int_idx M35.rk.view (by omega) fun _ q => ⟨_, q, ?_⟩
    refine int_idx M35.rk.view (by omega) fun _ q => ⟨_, q, ?_⟩
    rw [rk_get (show f < rank.length by omega), rk_get (show t < rank.length by omega), ← hf, ← ht]
    intro w40 e40
    have z40 := e40.size
    have M40 := M35.chg (G := fun _ => False) (.of_ext e40) fun _ _ h => h
    have e40' := e35.trans e40
    have lus : us.length = rank.length := by rw [M40.up.len, upsL_len]
    have lds : ds.length = rank.length := by rw [M40.dn.len, dnsL_len]
    have nrow : ∀ k, w11.heap.size ≤ k → k = hb ∨ sr.blk k ∨ sy.blk k ∨ s3.blk k ∨ k = r → False := fun k hk h => by
      rcases h with h | h | h | h | h
      · omega
      · have := br k h; omega
      · have := by_ k h; omega
      · have := b3 k h; omega
      · omega
    have bx : ∀ c, c ∈ [b33, b1] → c < w40.heap.size ∧ (¬ rowsF su us c ∧ ¬ rowsF sd ds c) := fun c hc => by
      simp only [List.mem_cons, List.not_mem_nil, or_false] at hc
      rcases hc with rfl | rfl
      · exact ⟨by omega, fun h => nF (.inr (.inr (.inr (.inr (.inr (.inl h)))))), fun h => nF (.inr (.inr (.inr (.inr (.inr (.inr h))))))⟩
      · exact ⟨by omega, fun h => by have := fu _ h; omega, fun h => by have := fd _ h; omega⟩
    rw [Bool.cond_decide]
    by_cases hup : rkA rank (yF y) < rkA rank (yT y)
    · rw [if_pos hup]
      refine ⟨_, rfl, su, by rw [addm, cell_blk M40.hd]; rfl, _, rfl, su, by rw [addm, cell_blk M40.hd]; rfl, ?_⟩
      rw [hf]
      have hv : f < us.length := by omega
      refine slot_idx M40.up.so.view hv fun q hq => ⟨_, hq, fun w49 e49 => ?_⟩
      have z49 := e49.size
      have M49 := M40.chg (G := fun _ => False) (.of_ext e49) fun _ _ h => h
      have hrow := M49.up.row f hv (by rw [upsL_len]; omega)
      rw [upsL_get] at hrow
      have hpl := upP_len rank ways (f : Int) i
      refine put_ok hrow (upP_rise ok.f _ (by omega)) (by omega) fun s48 w50 c50 hs48 hO50 => ⟨kp_chg c50 fun c hc => ⟨by have := (bx c hc).1; omega, fun hk => (bx c hc).2.1 (.inr ⟨f, hv, hk⟩)⟩, ?_⟩
      have z50 := c50.size
      have gF : ∀ k, us[f].blk k → w11.heap.size ≤ k := fun k hk => fu k (.inr ⟨f, hv, hk⟩)
      have hd50 := c50.blk M49.hd fun hk => by have := gF _ hk; omega
      refine ⟨⟨su, by rw [addm, cell_blk hd50]; rfl, rfl⟩, ?_⟩
      -- the store at the end
      have hst := fun w52 (e52 : Ext w50 w52) (K' : World → Prop) (hK' : ∀ w53, Chg su.blk w52 w53 → Rows w53 su (us.set f s48) ((upsL rank ways i).set f (insE (yT y, yW y, (i : Int)) (upP rank ways (f : Int) i))) → (∀ k, rowsF su (us.set f s48) k → rowsF su us k ∨ w49.heap.size ≤ k) → K' w53) =>
        Rows.store M49.up hv c50 hs48 (w2 := w52) hO50 e52 (K := K') hK'
      have hgoal : ∀ w52, Ext w50 w52 → Idx su.a su.len (f : Int) 1 (fun a51 => stL w52 a51 [.slice s48.a s48.len s48.cap] 0 (fun w53 => Keeps [b33, b1] w52 w53 ∧ ∀ w54, Ext w53 w54 → J1 (IntKind.i64.wrap ((i : Int) + 1), ()) w54)) := fun w52 e52 => by
        have z52 := e52.size
        refine hst w52 e52 _ fun w53 c53 R53 hF53 => ⟨kp_chg c53 fun c hc => ⟨by have := (bx c hc).1; omega, fun hk => (bx c hc).2.1 (.inl hk)⟩, fun w54 e54 => ?_⟩
        have z53 := c53.size; have z54 := e54.size
        have cc : Chg (fun k => rowsF su us k) w49 w54 := ((((c50.mono (G := fun k => rowsF su us k) fun k _ hk => .inr ⟨f, hv, hk⟩).trans (.of_ext (F := fun _ => False) e52) fun _ _ h => h.elim).trans c53 fun k _ hk => .inl hk).trans (.of_ext (F := fun _ => False) e54) fun _ _ h => h.elim)
        have nn : ∀ k, k = hb ∨ sr.blk k ∨ sy.blk k ∨ s3.blk k ∨ k = r → ¬ rowsF su us k := fun k hk hr => nrow k (fu k hr) hk
        have R54 := R53.ext e54
        rw [← hyy] at R54
        rw [upsL_step (by rw [hyy]; exact hf) (by unfold IsUp; rw [hyy]; exact hup)] at R54
        have hdn : dnsL rank ways (i + 1) = dnsL rank ways i := dnsL_same (by unfold IsUp; rw [hyy]; exact hup)
        refine hJ1 (i + 1, us.set f s48, ds) _ _ ⟨wsucc (m := 2 ^ 40) (by omega) (by omega), by simp only; omega, ext_chg (e40'.trans e49) cc fun k hk => by have := fu k hk; omega, by omega, ?_, ?_, fd, ?_⟩ (by simp only; omega)
        · simp only
          refine ⟨cc.blk M49.hd (nn _ (.inl rfl)), M49.rk.chg cc fun k hk => nn k (.inr (.inl hk)), M49.wy.chg cc fun k hk => nn k (.inr (.inr (.inl hk))), M49.at_.chg cc fun k hk => nn k (.inr (.inr (.inr (.inl hk)))), M49.m.same (cc.block r M49.m.lt (nn _ (.inr (.inr (.inr (.inr rfl)))))), R54, ?_⟩
          rw [hdn]; exact M49.dn.chg cc fun k h1 h2 => dud k h2 h1
        · intro k hk
          rcases hF53 k hk with h' | h'
          · exact fu k h'
          · omega
        · intro k hk h2
          rcases hF53 k hk with h' | h'
          · exact dud k h' h2
          · have := M49.dn.lt h2; omega
      -- Idx's address is the same whatever the world
      obtain ⟨q1, hq1, h01, h02, hA⟩ := hgoal w50 (.refl _)
      refine ⟨q1, hq1, h01, h02, fun w52 e52 => ?_⟩
      obtain ⟨q2, hq2, _, _, hA2⟩ := hgoal w52 e52
      rw [hq1] at hq2; cases hq2
      exact hA2
    · rw [if_neg hup]
      refine ⟨_, rfl, sd, by rw [addm, cell_blk M40.hd]; rfl, _, rfl, sd, by rw [addm, cell_blk M40.hd]; rfl, ?_⟩
      rw [ht]
      have hv : t < ds.length := by omega
      refine slot_idx M40.dn.so.view hv fun q hq => ⟨_, hq, fun w49 e49 => ?_⟩
      have z49 := e49.size
      have M49 := M40.chg (G := fun _ => False) (.of_ext e49) fun _ _ h => h
      have hrow := M49.dn.row t hv (by rw [dnsL_len]; omega)
      rw [dnsL_get] at hrow
      have hpl := dnP_len rank ways (t : Int) i
      refine put_ok hrow (dnP_rise ok.f _ (by omega)) (by omega) fun s48 w50 c50 hs48 hO50 => ⟨kp_chg c50 fun c hc => ⟨by have := (bx c hc).1; omega, fun hk => (bx c hc).2.2 (.inr ⟨t, hv, hk⟩)⟩, ?_⟩
      have z50 := c50.size
      have gF : ∀ k, ds[t].blk k → w11.heap.size ≤ k := fun k hk => fd k (.inr ⟨t, hv, hk⟩)
      have hd50 := c50.blk M49.hd fun hk => by have := gF _ hk; omega
      refine ⟨⟨sd, by rw [addm, cell_blk hd50]; rfl, rfl⟩, ?_⟩
      have hst := fun w52 (e52 : Ext w50 w52) (K' : World → Prop) (hK' : ∀ w53, Chg sd.blk w52 w53 → Rows w53 sd (ds.set t s48) ((dnsL rank ways i).set t (insE (yF y, yW y, (i : Int)) (dnP rank ways (t : Int) i))) → (∀ k, rowsF sd (ds.set t s48) k → rowsF sd ds k ∨ w49.heap.size ≤ k) → K' w53) =>
        Rows.store M49.dn hv c50 hs48 (w2 := w52) hO50 e52 (K := K') hK'
      have hgoal : ∀ w52, Ext w50 w52 → Idx sd.a sd.len (t : Int) 1 (fun a51 => stL w52 a51 [.slice s48.a s48.len s48.cap] 0 (fun w53 => Keeps [b33, b1] w52 w53 ∧ ∀ w54, Ext w53 w54 → J1 (IntKind.i64.wrap ((i : Int) + 1), ()) w54)) := fun w52 e52 => by
        have z52 := e52.size
        refine hst w52 e52 _ fun w53 c53 R53 hF53 => ⟨kp_chg c53 fun c hc => ⟨by have := (bx c hc).1; omega, fun hk => (bx c hc).2.2 (.inl hk)⟩, fun w54 e54 => ?_⟩
        have z53 := c53.size; have z54 := e54.size
        have cc : Chg (fun k => rowsF sd ds k) w49 w54 := ((((c50.mono (G := fun k => rowsF sd ds k) fun k _ hk => .inr ⟨t, hv, hk⟩).trans (.of_ext (F := fun _ => False) e52) fun _ _ h => h.elim).trans c53 fun k _ hk => .inl hk).trans (.of_ext (F := fun _ => False) e54) fun _ _ h => h.elim)
        have nn : ∀ k, k = hb ∨ sr.blk k ∨ sy.blk k ∨ s3.blk k ∨ k = r → ¬ rowsF sd ds k := fun k hk hr => nrow k (fd k hr) hk
        have R54 := R53.ext e54
        rw [← hyy] at R54
        rw [dnsL_step (by rw [hyy]; exact ht) (by unfold IsUp; rw [hyy]; exact hup)] at R54
        have hdn : upsL rank ways (i + 1) = upsL rank ways i := upsL_same (by unfold IsUp; rw [hyy]; exact hup)
        refine hJ1 (i + 1, us, ds.set t s48) _ _ ⟨wsucc (m := 2 ^ 40) (by omega) (by omega), by simp only; omega, ext_chg (e40'.trans e49) cc fun k hk => by have := fd k hk; omega, by omega, ?_, fu, ?_, ?_⟩ (by simp only; omega)
        · simp only
          refine ⟨cc.blk M49.hd (nn _ (.inl rfl)), M49.rk.chg cc fun k hk => nn k (.inr (.inl hk)), M49.wy.chg cc fun k hk => nn k (.inr (.inr (.inl hk))), M49.at_.chg cc fun k hk => nn k (.inr (.inr (.inr (.inl hk)))), M49.m.same (cc.block r M49.m.lt (nn _ (.inr (.inr (.inr (.inr rfl)))))), ?_, R54⟩
          rw [hdn]; exact M49.up.chg cc fun k h1 h2 => dud k h1 h2
        · intro k hk
          rcases hF53 k hk with h' | h'
          · exact fd k h'
          · omega
        · intro k hk h2
          rcases hF53 k h2 with h' | h'
          · exact dud k hk h'
          · have := M49.up.lt hk; omega
      obtain ⟨q1, hq1, h01, h02, hA⟩ := hgoal w50 (.refl _)
      refine ⟨q1, hq1, h01, h02, fun w52 e52 => ?_⟩
      obtain ⟨q2, hq2, _, _, hA2⟩ := hgoal w52 e52
      rw [hq1] at hq2; cases hq2
      exact hA2
  · rw [if_neg hc]
    have : i = ways.length := by omega
    subst this
    refine hk _ w26 _ e26 ⟨ok, hb, sr, sy, s3, su, sd, r, g, mm, us, ds, rfl, C.pl, C.mo, M, rfl⟩ fun k hk => ?_
    rcases hk with rfl | hk | hk | hk | rfl | hk | hk
    · have := C.ghb; have := e8.size; omega
    · have := fr k hk; omega
    · have := fy k hk; have := e5.size; omega
    · have := C.gs k hk; have := e8.size; omega
    · have := C.gr; have := e8.size; omega
    · have := fu k hk; omega
    · have := fd k hk; omega
end Go.Sh
