/- HierOfMaps, GraphTurned, GraphLoops, GraphLeast, DistPure, DistSum, DistApi, DistRef, DistRef2, SpMaps: merged into one text. -/
import Derived.Test.YtpgkbolfbcninaaP4
import Derived.Test.YtpgkbolfbcninaaP3
/- HierOfMaps. -/
set_option maxRecDepth 100000
namespace Go.Sh
open Go.RowKit

section
variable {w : World}
theorem Of07_ok {n0 : Int} {s : SV} {arcs0 : List Arc} {K : Int → SV → World → Prop} (h : View RD w s arcs0)
    (hk : ∀ n t w' arcs, Ext w w' → 1 ≤ n → n ≤ 12 → OkMap n arcs → arcs.length ≤ 40 → Own RD w' t arcs → Fsh w t → K n t w') : sh_postroadref07_Of n0 s K w := by
  unfold sh_postroadref07_Of
  intro b1 w2 e2 g1 g1'
  have z2 := e2.size
  refine Of_ok (h.ext e2) fun n t w5 arcs e5 h1 h2 ok hl hO hF => ⟨kp_ext e5 (by (intro b hb; simp only [List.mem_cons, List.not_mem_nil, or_false] at hb; omega)), fun w6 o6 => ?_⟩
  exact hk n t w6 arcs (ext_off (e2.trans e5) o6 g1) h1 h2 ok hl (hO.off o6 fun hk => by have := hF _ hk; omega) (hF.ext e2)

end
end Go.Sh

/- GraphTurned. -/
set_option maxRecDepth 100000
namespace Go.Sh
open Go.RowKit

end Go.Sh

/- GraphLoops. -/
set_option maxRecDepth 100000
namespace Go.Sh
open Go.RowKit

end Go.Sh

/- GraphLeast. -/
set_option maxRecDepth 100000
namespace Go.Sh
open Go.RowKit

end Go.Sh

/- How far it is in a map, in plain words; the graph's edges tell the same. -/
set_option maxRecDepth 100000
namespace Go.Sh
open Go.RowKit

/-- How far it is by arcs; below 0: there is no way. -/
noncomputable def dst (arcs : List Arc) (s v : Nat) : Int := by
  classical exact if h : ∃ x, IsD (EA arcs) s v x then h.choose else -1

section
variable {N : Int} {arcs : List Arc}
theorem EA_arc (ok : OkMap N arcs) {u v : Nat} {x : Int} (h : EA arcs u v x) : ∃ k, k < arcs.length ∧ frA arcs k = u ∧ toA arcs k = v ∧ wtA arcs k = x ∧ (u : Int) < N ∧ (v : Int) < N ∧ 0 ≤ x ∧ x ≤ 2147483648 := by
  obtain ⟨k, hk⟩ := h
  have hl := (List.getElem?_eq_some_iff.1 hk).1
  have he := (List.getElem?_eq_some_iff.1 hk).2
  rw [arcA_get hl] at he
  have := ok.at hl
  unfold OkArc at this
  rw [he] at this
  simp only at this
  exact ⟨k, hl, by unfold frA; rw [he]; simp, by unfold toA; rw [he]; simp, by unfold wtA; rw [he], by omega, by omega, by omega, by omega⟩
theorem EA_of (ok : OkMap N arcs) {k : Nat} (hk : k < arcs.length) : EA arcs (frA arcs k) (toA arcs k) (wtA arcs k) := by
  refine ⟨k, ?_⟩
  rw [List.getElem?_eq_getElem hk, arcA_get hk]
  have h1 := (ok.fr hk).1
  have h2 := (ok.to hk).1
  rw [← h1, ← h2]; rfl
theorem EA_pos (ok : OkMap N arcs) : ∀ u v x, EA arcs u v x → 0 ≤ x := fun u v x h => by
  obtain ⟨_, _, _, _, _, _, _, h, _⟩ := EA_arc ok h; exact h
theorem dst_is (ok : OkMap N arcs) (s v : Nat) : IsD (EA arcs) s v (dst arcs s v) := by
  have h := IsD.ex (EA_pos ok) s v
  unfold dst
  rw [dif_pos h]; exact h.choose_spec

/-- From a place; to a place; between two. -/
noncomputable def distL (N : Int) (arcs : List Arc) (s : Int) : List Int := if 0 ≤ s ∧ s < N then fi N.toNat fun v => dst arcs s.toNat v else []
end
end Go.Sh

/- No place is farther than all arcs together. -/
set_option maxRecDepth 100000
namespace Go.Sh
open Go.RowKit

end Go.Sh

/- dist's functions. -/
set_option maxRecDepth 100000
namespace Go.Sh
open Go.RowKit

section
variable {CV : CVT} {w : World} {p : Option Addr} {N : Int} {arcs : List Arc} {F : Nat → Prop}

theorem distL_get {s : Int} (h : 0 ≤ s ∧ s < N) : distL N arcs s = fi N.toNat fun v => dst arcs s.toNat v := by unfold distL; rw [if_pos h]
end
end Go.Sh

/- The reference of layer 7, and what its laws lean on. -/
set_option maxRecDepth 100000
namespace Go.Sh
open Go.RowKit

section
variable {CV : CVT} {w : World} {N : Int} {s : SV} {arcs : List Arc}

end
end Go.Sh

/- The reference's table: arc by arc, till nothing is nearer. -/
set_option maxRecDepth 100000
namespace Go.Sh
open Go.RowKit

noncomputable def allL (N : Int) (arcs : List Arc) (i : Nat) : List (List Int) := (List.range i).map fun (s : Nat) => distL N arcs (s : Int)
theorem allL_len (N : Int) (arcs : List Arc) (i : Nat) : (allL N arcs i).length = i := by simp [allL]
theorem allL_get {N : Int} {arcs : List Arc} {i s : Nat} (h : s < (allL N arcs i).length) : (allL N arcs i)[s] = distL N arcs (s : Int) := by simp [allL]
theorem allL_snoc (N : Int) (arcs : List Arc) (i : Nat) : allL N arcs (i + 1) = allL N arcs i ++ [distL N arcs (i : Int)] := by simp [allL, List.range_succ]

/-- The first i arcs bring nothing nearer. -/
def Rlx (arcs : List Arc) (f : Nat → Int) (i : Nat) : Prop := ∀ k, k < i → k < arcs.length → 0 ≤ f (frA arcs k) → 0 ≤ f (toA arcs k) ∧ f (toA arcs k) ≤ f (frA arcs k) + wtA arcs k

section
variable {w : World} {N : Int} {s : SV} {arcs : List Arc}

theorem rAll_ok {n : Nat} {K : SV → World → Prop} (ok : OkMap (n : Int) arcs) (hn : n ≤ 4096) (h : View RD w s arcs) (hk : ∀ t svs w', Ext w w' → TblO w' t svs (allL (n : Int) arcs n) → Fsh w t → (∀ v (hv : v < svs.length), Fsh w svs[v]) → K t w') : sh_postroadref07_All (n : Int) s K w := by
  unfold sh_postroadref07_All
  intro b1 w2 e2 g1 g1'
  have z2 := e2.size
  have hl := h.len
  have hal := ok.len
  have hdom : ∀ u v x, EA arcs u v x → u < n → v < n := fun u v x e _ => by obtain ⟨_, _, _, _, _, _, q, _⟩ := EA_arc ok e; omega
  refine LoopT.gh (γ := Nat × List SV) (fun gh (st : SV × Int × Unit) w' => st.2.1 = gh.1 ∧ gh.1 ≤ n ∧ Ext w2 w' ∧ w2.heap.size ≤ w'.heap.size ∧ TblO w' st.1 gh.2 (allL (n : Int) arcs gh.1) ∧ Fsh w2 st.1 ∧ (∀ v (hv : v < gh.2.length), Fsh w2 gh.2[v])) (fun gh => n - gh.1) (0, [])
    ⟨rfl, Nat.zero_le _, .refl _, Nat.le_refl _, TblO.nil, fsh_nil, fun v hv => by simp at hv⟩ ?_
  rintro ⟨i, svs⟩ ⟨t, x, _⟩ w5 ⟨hx, hi, e5, z5, hT, fT, fr⟩ J1 hJ1
  simp only at hx hi hT fT fr; subst hx
  dsimp only
  rw [Bool.cond_decide]
  by_cases hc : (i : Int) < (n : Int)
  · rw [if_pos hc]
    have hi' : i < n := by omega
    have lsv := hT.len
    rw [allL_len] at lsv
    refine Join.cut (fun (x : SV × Unit) w' => Ext w2 w' ∧ w2.heap.size ≤ w'.heap.size ∧ ∃ svs', TblO w' x.1 svs' (allL (n : Int) arcs (i + 1)) ∧ Fsh w2 x.1 ∧ (∀ v (hv : v < svs'.length), Fsh w2 svs'[v])) (fun J2 hJ2 => ?_) (fun x w' ⟨q1, q2, svs', q3, q4, q5⟩ => hJ1 (i + 1, svs') _ _ ⟨wsucc (m := 2 ^ 40) (by omega) (by omega), by simp only; omega, q1, q2, q3, q4, q5⟩ (by simp only; omega))
    refine own_mk (R := RI) (bytes := 8) (by omega) (by omega) (by omega) fun s7 w8 e8 f7 hO => ?_
    simp only [Int.toNat_natCast] at hO
    rw [show RI.z = (0 : Int) from rfl, fi_rep] at hO
    have z8 := e8.size
    have m7 : ∀ {k}, s7.blk k → k < w8.heap.size := fun hk => hO.lt hk
    have n7 : ∀ {wa}, w8.heap.size ≤ wa → ¬ s7.blk wa := fun hz hk => by have := m7 hk; omega
    have kpc : ∀ {wa wb}, w8.heap.size ≤ wa.heap.size → Chg s7.blk wa wb → Keeps [b1] wa wb := fun hz c => kc1 c (by omega) fun hk => by have := f7 _ hk; omega
    have tab : ∀ {wa wb}, TblO wa t svs (allL (n : Int) arcs i) → Chg s7.blk wa wb → TblO wb t svs (allL (n : Int) arcs i) := fun hTa c => hTa.chg c (fun k h1 h2 => by have := hT.so.lt h1; have := f7 k h2; omega) fun v hv k h1 h2 => by have := hT.lt hv h1; have := f7 k h2; omega
    refine Join.cut (fun _ w' => Ext w5 w' ∧ w8.heap.size ≤ w'.heap.size ∧ TblO w' t svs (allL (n : Int) arcs i) ∧ Own RI w' s7 (fi n fun _ => -1)) (fun J hJ => ?_) ?_
    · refine LoopT.gh (γ := Nat) (fun j (st : Int × Unit) w' => st.1 = j ∧ j ≤ n ∧ Ext w5 w' ∧ w8.heap.size ≤ w'.heap.size ∧ TblO w' t svs (allL (n : Int) arcs i) ∧ Own RI w' s7 (fi n fun v => if v < j then -1 else 0)) (fun j => n - j) 0 ⟨rfl, Nat.zero_le _, e8, Nat.le_refl _, hT.ext e8, (congrArg (Own RI w8 s7) (fi_congr fun j _ => by rw [if_neg (by omega)])).mp hO⟩ ?_
      rintro j ⟨x, _⟩ w12 ⟨hx, hj, e12, z12, hT12, hO12⟩ J3 hJ3
      simp only at hx; subst hx
      dsimp only
      rw [Bool.cond_decide]
      by_cases hc2 : (j : Int) < (n : Int)
      · rw [if_pos hc2]
        refine fi_wr hO12 (by omega) fun a put => ?_
        refine put w12 _ _ hO12 fun w14 c14 hO14 => ⟨kpc z12 c14, ?_⟩
        have z14 := c14.size
        refine hJ3 (j + 1) _ _ ⟨wsucc (m := 2 ^ 40) (by omega) (by omega), by omega, ext_chg e12 c14 f7, by omega, tab hT12 c14, (congrArg (Own RI w14 s7) (fi_congr fun v _ => ?_)).mp hO14⟩ (by omega)
        by_cases hv : v = j
        · subst hv; rw [if_pos rfl, if_pos (by omega)]
        · rw [if_neg hv]
          by_cases hv2 : v < j
          · rw [if_pos hv2, if_pos (by omega)]
          · rw [if_neg hv2, if_neg (by omega)]
      · rw [if_neg hc2]
        exact hJ _ _ ⟨e12, z12, hT12, (congrArg (Own RI w12 s7) (fi_congr fun v hv => by rw [if_pos (by omega)])).mp hO12⟩
    rintro _ w16 ⟨e16, z16, hT16, hO16⟩
    refine fi_wr hO16 hi' fun a put => ?_
    refine put w16 _ _ hO16 fun w18 c18 hO18 => ⟨kpc z16 c18, ?_⟩
    have z18 := c18.size
    have e18 := ext_chg e16 c18 f7
    have hT18 := tab hT16 c18
    have hn0 : 0 ≤ (n : Int) * 2147483648 := Int.mul_nonneg (by omega) (by omega)
    obtain ⟨B, hB⟩ := Int.eq_ofNat_of_zero_le hn0
    refine Join.cut (fun _ w' => Ext w5 w' ∧ w8.heap.size ≤ w'.heap.size ∧ TblO w' t svs (allL (n : Int) arcs i) ∧ Own RI w' s7 (distL (n : Int) arcs (i : Int))) (fun J hJ => ?_) ?_
    · refine LoopT.gh (γ := (Nat → Int) × Bool) (fun gh (st : Bool × Unit) w' => st.1 = gh.2 ∧ Ext w5 w' ∧ w8.heap.size ≤ w'.heap.size ∧ TblO w' t svs (allL (n : Int) arcs i) ∧ Own RI w' s7 (fi n gh.1) ∧ Tab (EA arcs) n i 2147483648 gh.1 ∧ (gh.2 = false → Rlx arcs gh.1 arcs.length)) (fun gh => 2 * sumB B gh.1 n + (if gh.2 then 1 else 0))
        (up1 (fun _ => -1) i 0, true) ⟨rfl, e18, by omega, hT18, hO18, Tab.begin hi' (by decide), fun h => by cases h⟩ ?_
      rintro ⟨f, more⟩ ⟨x, _⟩ w22 ⟨hx, e22, z22, hT22, hO22, hTab, hrl⟩ J3 hJ3
      simp only at hx hO22 hTab hrl hJ3; subst hx
      cases x with
      | false =>
        rw [cond_false]
        refine hJ _ _ ⟨e22, z22, hT22, (congrArg (Own RI w22 s7) ?_).mp hO22⟩
        rw [distL_get ⟨by omega, hc⟩]
        simp only [Int.toNat_natCast]
        refine fi_congr fun v hv => IsD.uniq (hTab.done hdom (fun u v x e hu h0 => ?_) hv) (dst_is ok i v)
        obtain ⟨k, hk, q1, q2, q3, _⟩ := EA_arc ok e
        have := hrl rfl k hk hk (by rw [q1]; exact h0)
        rw [q1, q2, q3] at this; exact this
      | true =>
        rw [cond_true]
        refine LoopT.gh (γ := Nat × (Nat → Int) × Bool) (fun gh (st : Bool × Int × Unit) w' => st.1 = gh.2.2 ∧ st.2.1 = gh.1 ∧ gh.1 ≤ arcs.length ∧ Ext w5 w' ∧ w8.heap.size ≤ w'.heap.size ∧ TblO w' t svs (allL (n : Int) arcs i) ∧ Own RI w' s7 (fi n gh.2.1) ∧ Tab (EA arcs) n i 2147483648 gh.2.1 ∧ (gh.2.2 = false → gh.2.1 = f ∧ Rlx arcs f gh.1) ∧ (gh.2.2 = true → sumB B gh.2.1 n < sumB B f n)) (fun gh => arcs.length - gh.1)
          (0, f, false) ⟨rfl, rfl, Nat.zero_le _, e22, z22, hT22, hO22, hTab, fun _ => ⟨rfl, fun k hk => by omega⟩, fun h => by cases h⟩ ?_
        rintro ⟨k, f1, m1⟩ ⟨y, x, _⟩ w25 ⟨hy, hx, hkl, e25, z25, hT25, hO25, hTab1, hm0, hm1⟩ J4 hJ4
        simp only at hy hx hkl hO25 hTab1 hm0 hm1 hJ4; subst hy hx
        dsimp only
        rw [Bool.cond_decide]
        by_cases hc2 : (k : Int) < (s.len : Int)
        · rw [if_pos hc2]
          have hk' : k < arcs.length := by omega
          refine Join.cut (fun (x : Bool × Unit) w' => ∃ f2, Ext w5 w' ∧ w8.heap.size ≤ w'.heap.size ∧ TblO w' t svs (allL (n : Int) arcs i) ∧ Own RI w' s7 (fi n f2) ∧ Tab (EA arcs) n i 2147483648 f2 ∧ (x.1 = false → f2 = f ∧ Rlx arcs f (k + 1)) ∧ (x.1 = true → sumB B f2 n < sumB B f n)) (fun J5 hJ5 => ?_)
            (fun x w' ⟨f2, q1, q2, q3, q4, q5, q6, q7⟩ => hJ4 (k + 1, f2, x.1) _ _ ⟨rfl, wsucc (m := 2 ^ 40) (by omega) (by omega), by simp only; omega, q1, q2, q3, q4, q5, q6, q7⟩ (by simp only; omega))
          have hE := EA_of ok hk'
          obtain ⟨a1, a2⟩ := ok.fr hk'
          obtain ⟨b1', b2⟩ := ok.to hk'
          have hoa := ok.at hk'; unfold OkArc at hoa
          rw [Int.toNat_natCast] at a2 b2
          have hwt : wtA arcs k = (arcA arcs k).2.2 := rfl
          refine do_idx (h.ext ((e2.trans e5).trans e25)) hk' fun _ a0 a1' a2' => ⟨_, a0, _, a1', _, a2', ?_⟩
          rw [arcA_get hk', a1, b1', ← hwt]
          intro b31 w32 e32 g31 g31' w33 o33
          have z32 := e32.size; have z33 := o33.size
          have e33 : Ext w5 w33 := ext_off (e25.trans e32) o33 (by have := e25.size; omega)
          have hO33 : Own RI w33 s7 (fi n f1) := (hO25.ext e32).off o33 (n7 (by omega))
          have hT33 : TblO w33 t svs (allL (n : Int) arcs i) := (hT25.ext e32).chg (G := fun k => k = b31) (.of_off o33 rfl) (fun k h1 h2 => by have := hT.so.lt h1; have := e25.size; omega) fun v hv k h1 h2 => by have := hT.lt hv h1; have := e25.size; omega
          have hb1 := hTab1.bound a2; have hb2 := hTab1.bound b2
          have hsame : ∀ {w'}, Ext w33 w' → (0 ≤ f1 (frA arcs k) → 0 ≤ f1 (toA arcs k) ∧ f1 (toA arcs k) ≤ f1 (frA arcs k) + wtA arcs k) → J5 (y, ()) w' := fun {w'} e' hr => by
            have z' := e'.size
            refine hJ5 _ _ ⟨f1, e33.trans e', by omega, hT33.ext e', hO33.ext e', hTab1, fun hy => ?_, hm1⟩
            obtain ⟨r1, r2⟩ := hm0 hy
            subst r1
            refine ⟨rfl, fun j hj hjl h0 => ?_⟩
            by_cases e : j = k
            · subst e; exact hr h0
            · exact r2 j (by omega) hjl h0
          have hset : ∀ {w'}, Ext w33 w' → 0 ≤ f1 (frA arcs k) → (f1 (toA arcs k) < 0 ∨ f1 (frA arcs k) + wtA arcs k < f1 (toA arcs k)) → Idx s7.a s7.len ((toA arcs k : Nat) : Int) 1 (fun a41 => (∀ w42, Ext w' w42 → (stL w42 a41 [(.int .i64 (IntKind.i64.wrap (f1 (frA arcs k) + wtA arcs k)))] 0 (fun w43 => (Keeps [b31, b1] w42 w43 ∧ (∀ w44, Ext w43 w44 → (J5 (true, ()) w44))))))) := fun {w'} e' h0 hlt => by
            have z' := e'.size
            have hle := hTab1.lt a2 h0 (x := wtA arcs k) (by omega)
            rw [w64 (by omega) (by omega)]
            refine fi_wr (hO33.ext e') b2 fun a put => ?_
            intro w42 e42
            have z42 := e42.size
            refine put w42 _ _ ((hO33.ext e').ext e42) fun w43 c43 hO43 => ?_
            have z43 := c43.size
            refine ⟨kc2 c43 (by omega) (n7 (by omega)) (by omega) (fun hk => by have := f7 _ hk; omega), fun w44 e44 => ?_⟩
            have z44 := e44.size
            obtain ⟨q1, q2⟩ := hTab1.step a2 b2 hE (by omega) (by omega) h0 hlt
            refine hJ5 _ _ ⟨up1 f1 (toA arcs k) (f1 (frA arcs k) + wtA arcs k), (ext_chg ((e33.trans e').trans e42) c43 f7).trans e44, by omega, (tab ((hT33.ext e').ext e42) c43).ext e44, hO43.ext e44, q1, fun h => (by cases h), fun _ => ?_⟩
            have h3 := q2 B (by omega)
            cases y with
            | false => rw [(hm0 rfl).1] at h3 ⊢; exact h3
            | true => have := hm1 rfl; omega
          refine fi_rd hO33.view a2 fun _ q => ⟨_, q, ?_⟩
          rw [Bool.cond_decide]
          by_cases h0 : f1 (frA arcs k) ≥ 0
          · rw [if_pos h0]
            have hle := hTab1.lt a2 h0 (x := wtA arcs k) (by omega)
            refine fi_rd hO33.view b2 fun _ q => ⟨_, q, ?_⟩
            rw [Bool.cond_decide]
            by_cases h1 : f1 (toA arcs k) < 0
            · rw [if_pos h1]
              intro w38 e38
              refine fi_rd (hO33.ext e38).view a2 fun _ q => ⟨_, q, ?_⟩
              exact hset e38 h0 (.inl h1)
            · rw [if_neg h1]
              refine fi_rd hO33.view a2 fun _ q => ⟨_, q, ?_⟩
              refine fi_rd hO33.view b2 fun _ q => ⟨_, q, ?_⟩
              intro w49 e49
              rw [w64 (by omega) (by omega), Bool.cond_decide]
              by_cases h2 : f1 (frA arcs k) + wtA arcs k < f1 (toA arcs k)
              · rw [if_pos h2]
                refine fi_rd (hO33.ext e49).view a2 fun _ q => ⟨_, q, ?_⟩
                exact hset e49 h0 (.inr h2)
              · rw [if_neg h2]
                exact hsame e49 fun _ => ⟨by omega, by omega⟩
          · rw [if_neg h0]
            intro w56 e56
            exact hsame e56 fun h => absurd h h0
        · rw [if_neg hc2]
          have : k = arcs.length := by omega
          subst this
          refine hJ3 (f1, y) _ _ ⟨rfl, e25, z25, hT25, hO25, hTab1, fun hy => ?_⟩ ?_
          · obtain ⟨r1, r2⟩ := hm0 hy
            simp only; rw [r1]; exact r2
          · simp only
            cases y with
            | false => rw [(hm0 rfl).1]; simp
            | true => have := hm1 rfl; simp only [if_true]; omega
    rintro _ w60 ⟨e60, z60, hT60, hO60⟩
    refine TblO.push hT60 hO60 (fun k h1 h2 => by have := hT.so.lt h2; have := f7 k h1; omega) (by omega) (by omega) fun w62 s63 w64 e62 c64 hs63 hT64 => ⟨?_, ?_⟩
    · have z62 := e62.size
      refine kc1 c64 (by omega) fun hk => ?_
      have := fT _ hk; omega
    · have z62 := e62.size; have z64 := c64.size
      have z60' := e60.size
      rw [← allL_snoc] at hT64
      refine hJ2 _ _ ⟨ext_chg ((e5.trans e60).trans e62) c64 fT, by omega, svs ++ [s7], hT64, fun k hk => ?_, fun v hv k hk => ?_⟩
      · rcases hs63 k hk with h' | h'
        · exact fT k h'
        · omega
      · by_cases e : v < svs.length
        · rw [List.getElem_append_left e] at hk
          exact fr v e k hk
        · have e1 : v = svs.length := by simp at hv; omega
          subst e1
          rw [List.getElem_append_right (Nat.le_refl _)] at hk
          simp only [Nat.sub_self, List.getElem_cons_zero] at hk
          have := f7 k hk; omega
  · rw [if_neg hc]
    have : i = n := by omega
    subst this
    exact hk t svs w5 (e2.trans e5) hT (fT.ext e2) fun v hv => (fr v hv).ext e2
end
end Go.Sh

/- SpaceTop, SpaceWithin, SpaceSteps: of maps. -/
set_option maxRecDepth 100000
namespace Go.Sh
open Go.RowKit

theorem MapH.fit {n : Nat} {arcs : List Arc} {rank : List Int} {ways : List Wy} (h : MapH n arcs rank ways) (hn : n ≤ 12) : FitH rank ways := ⟨h.ok, by rw [h.n]; omega, h.b⟩

section
variable {rank : List Int} {ways : List Wy}
theorem ES_rise (ok : OkH rank ways) {top : Int} {back : Bool} {u v : Nat} {x : Int} (h : ES rank ways top back u v x) : rkA rank (u : Int) < rkA rank (v : Int) := by
  obtain ⟨k, hk, _, _, _, _, h5⟩ := ES_way ok h; omega
theorem wk_rise (ok : OkH rank ways) {top : Int} {back : Bool} {u v : Nat} {x : Int} (h : Wk (ES rank ways top back) u v x) : u = v ∨ rkA rank (u : Int) < rkA rank (v : Int) := by
  induction h with
  | nil => exact .inl rfl
  | snoc _ e ih =>
    have := ES_rise ok e
    right
    rcases ih with rfl | ih <;> omega
theorem wk_len (fit : FitH rank ways) {top : Int} {back : Bool} {u v : Nat} {x : Int} (h : Wk (ES rank ways top back) u v x) : x ≤ (rkA rank (v : Int) - rkA rank (u : Int)) * 1125899906842624 := by
  induction h with
  | nil => omega
  | snoc _ e ih =>
    have h1 := ES_rise fit.ok e
    obtain ⟨k, hk, _, _, h3, _⟩ := ES_way fit.ok e
    have := fit.b _ (List.getElem_mem hk)
    omega
theorem ES_src (ok : OkH rank ways) {top : Int} {back : Bool} {u v : Nat} {x : Int} (h : ES rank ways top back u v x) {top' : Int} (ht : rkA rank (u : Int) < top') : ES rank ways top' back u v x := by
  obtain ⟨k, hk, k1, k2, k3, _, k5⟩ := ES_way ok h
  rw [← k3]
  exact ES_of ok hk k1 k2 ht k5
theorem wk_below (ok : OkH rank ways) {top top' : Int} {back : Bool} {s v : Nat} {d : Int} (h : Wk (ES rank ways top back) s v d) (hv : rkA rank (v : Int) ≤ top') : Wk (ES rank ways top' back) s v d := by
  induction h with
  | nil => exact .nil
  | snoc w e ih =>
    have := ES_rise ok e
    exact (ih (by omega)).snoc (ES_src ok e (by omega))
theorem wk_all (ok : OkH rank ways) {top : Int} {back : Bool} {s v : Nat} {d : Int} (h : Wk (ES rank ways top back) s v d) : Wk (ES rank ways rank.length back) s v d := by
  refine h.mono fun u v x e => ES_src ok e ?_
  obtain ⟨hu, _⟩ := e
  exact (okR_rk ok hu).2
/-- .. is, one way or the other, a walk of the map. -/
theorem wk_map {n : Nat} {arcs : List Arc} (hM : MapH n arcs rank ways) {top : Int} {s v : Nat} {d : Int} : (Wk (ES rank ways top false) s v d → Wk (EA arcs) s v d) ∧ (Wk (ES rank ways top true) s v d → Wk (EA arcs) v s d) := by
  constructor
  · intro h
    refine h.bind fun u v x e => ?_
    obtain ⟨k, hk, k1, k2, k3, _⟩ := ES_way hM.ok e
    exact hM.so u v x ⟨_, List.getElem_mem hk, k1, k2, k3⟩
  · intro h
    refine h.rev.bind fun u v x e => ?_
    obtain ⟨k, hk, k1, k2, k3, _⟩ := ES_way hM.ok e
    exact hM.so u v x ⟨_, List.getElem_mem hk, k2, k1, k3⟩

/-- From a place as high as the top none is reached but itself. -/
theorem cl_alone (fit : FitH rank ways) {s : Nat} (hs : s < rank.length) {t : Int} {back : Bool} (h : ∀ v x, ¬ ES rank ways t back s v x) (v : Nat) : clF rank ways t back s v = if v = s then 0 else -1 := by
  refine (clF_is fit hs v).uniq (isD_by (f := fun v => if v = s then 0 else -1) (by simp) (fun v h => ?_) (fun v => ?_) (fun u v x e h' => ?_) v)
  · by_cases q : v = s
    · subst q; simp only [if_pos]; exact .nil
    · simp only [if_neg q] at h; omega
  · by_cases q : v = s
    · exact .inr (by rw [if_pos q]; decide)
    · exact .inl (if_neg q)
  · by_cases q : u = s
    · subst q; exact absurd e (h v x)
    · simp only [if_neg q] at h'; omega
theorem rows_alone {n s : Nat} (hs : s < n) {f : Nat → Int} (hf : ∀ v, f v = if v = s then 0 else -1) {q : Nat → Bool} (hq : q s = true) : rowsL n f q = [((s : Int), 0)] := by
  refine sorted_ext1 (rowsL_pw n f q) fun e => ?_
  rw [rowsL_mem]
  constructor
  · rintro ⟨v, hv, hv0, hvq, rfl⟩
    rw [hf] at hv0 ⊢
    by_cases e : v = s
    · subst e; rw [if_pos rfl]
    · rw [if_neg e] at hv0; omega
  · rintro rfl
    have h0 : f s = 0 := by rw [hf s]; simp
    exact ⟨s, hs, by omega, hq, by rw [h0]⟩
end

theorem rows_count {n : Nat} {f g : Nat → Int} {p q r : Nat → Bool} (hpq : ∀ v, v < n → p v = true → q v = true → False) (hfg : ∀ v, v < n → 0 ≤ f v → 0 ≤ g v) (hr : ∀ v, r v = true) : (rowsL n f p).length + (rowsL n f q).length ≤ (rowsL n g r).length := by
  induction n with
  | zero => exact Nat.le_refl _
  | succ n ih =>
    have ih := ih (fun v hv => hpq v (by omega)) fun v hv => hfg v (by omega)
    rw [rowsL_succ, rowsL_succ, rowsL_succ]
    have h1 := hpq n (by omega); have h2 := hfg n (by omega); have h3 := hr n
    by_cases hf : 0 ≤ f n
    · rw [if_pos (show 0 ≤ g n ∧ r n = true from ⟨h2 hf, h3⟩)]
      by_cases a : p n = true
      · rw [if_pos ⟨hf, a⟩, if_neg (fun b => h1 a b.2)]
        simp only [List.length_append, List.length_cons, List.length_nil]; omega
      · rw [if_neg (fun b => a b.2)]
        split <;> simp only [List.length_append, List.length_cons, List.length_nil] <;> omega
    · rw [if_neg (fun b => hf b.1), if_neg (fun b => hf b.1)]
      split
      · simp only [List.length_append, List.length_cons, List.length_nil]; omega
      · exact ih

section
variable {CV : CVT} {w : World}

theorem SpaceWithin_ok (hcv : SpaceCV CV) {n0 a0 r0 : Int} {back : Bool} {s : SV} {arcs0 : List Arc} {K : Bool → World → Prop} (h : View RD w s arcs0) (ha : 0 ≤ a0 ∧ a0 < 256) (hr0 : 0 ≤ r0 ∧ r0 < 256) (hk : ∀ w', Ext w w' → K true w') : sh_postroadlaw11_SpaceWithin CV n0 s a0 r0 back K w := by
  unfold sh_postroadlaw11_SpaceWithin
  refine Of07_ok h fun x1 s2 w3 arcs e3 h1 h12 ok _ hA fA => ?_
  intro b4 w5 e5 g4 g4' w6 o6
  have z3 := e3.size; have z5 := e5.size; have z6 := o6.size
  have e36 : Ext w3 w6 := ext_off e5 o6 g4
  obtain ⟨n, rfl⟩ := Int.eq_ofNat_of_zero_le (show 0 ≤ x1 by omega)
  refine Of9_ok (hA.ext e36).view ok (by omega) fun s7 s8 w9 rank ways e9 hR hW fR fW dRW hM => ⟨kp1 e9 (by omega), ?_⟩
  have z9 := e9.size
  have e09 := (e3.trans e36).trans e9
  have hok := hM.ok
  have fit := hM.fit (by omega)
  have hrn := hM.n
  refine HNew_ok hR.view hW.view (by have := hok.n; omega) (by have := hok.k; omega) (fun _ p w11 F e11 hH hF => ⟨kp1 e11 (by omega), ?_⟩) fun hno => absurd hok hno
  have z11 := e11.size
  have e011 := e09.trans e11
  have hw2 : IntKind.i64.wrap ((n : Int) + 2) = (n : Int) + 2 := w64 (by omega) (by omega)
  rw [if_neg (by omega), hw2, if_neg (by omega)]
  have hv : 0 ≤ (IntKind.i64.wrap a0).tmod (n : Int) ∧ (IntKind.i64.wrap a0).tmod (n : Int) < n := by
    rw [w64 (by omega) (by omega), Int.tmod_eq_emod_of_nonneg ha.1]
    exact ⟨Int.emod_nonneg _ (by omega), Int.emod_lt_of_pos _ (by omega)⟩
  have hkk : 0 ≤ (IntKind.i64.wrap r0).tmod ((n : Int) + 2) ∧ (IntKind.i64.wrap r0).tmod ((n : Int) + 2) < (n : Int) + 2 := by
    rw [w64 (by omega) (by omega), Int.tmod_eq_emod_of_nonneg hr0.1]
    exact ⟨Int.emod_nonneg _ (by omega), Int.emod_lt_of_pos _ (by omega)⟩
  generalize (IntKind.i64.wrap r0).tmod ((n : Int) + 2) = k at hkk ⊢
  obtain ⟨v, hve⟩ := Int.eq_ofNat_of_zero_le hv.1
  rw [hve] at hv ⊢
  have hvn : v < rank.length := by omega
  have kn : ∀ {wa}, w6.heap.size ≤ wa.heap.size → Ext w wa → sh_postroadlaw11_known CV (fun t w8 => Keeps [b4] wa w8 ∧ K t w8) wa := fun {wa} hz ea =>
    known11_ok hcv fun w6 e6 => ⟨kp1 e6 (by omega), hk w6 (ea.trans e6)⟩
  have hbig : ∀ {f q}, (rowsL rank.length f q).length ≤ 12 := fun {f q} => by have := rowsL_len rank.length f q; omega
  refine Within_ok hcv hH fit fun s12 s13 w14 e14 h12 h13 f12 f13 _ => ⟨kp1 e14 (by omega), ?_⟩
  have z14 := e14.size
  refine Forward_ok hcv (hH.ext e14) fit fun s15 w16 e16 h15 _ => ⟨kp1 e16 (by omega), ?_⟩
  have z16 := e16.size
  have e016 := (e011.trans e14).trans e16
  refine Join.cut (fun (x : SV × Unit) w' => Ext w16 w' ∧ Own RE w' x.1 (rowsL rank.length (clF rank ways rank.length back v) fun _ => true)) (fun J hJ => ?_) ?_
  · cases back with
    | true =>
      rw [cond_true]
      exact Back_ok hcv (hH.ext (e14.trans e16)) fit fun s18 w19 e19 h18 _ => ⟨kp1 e19 (by omega), hJ _ _ ⟨e19, h18⟩⟩
    | false => rw [cond_false]; exact hJ _ _ ⟨.refl _, h15⟩
  rintro ⟨s20, _⟩ w21 ⟨e21, h20⟩
  simp only at h20
  have z21 := e21.size
  have e1121 := (e14.trans e16).trans e21
  have hH21 := hH.ext e1121
  have v12 := (h12.ext (e16.trans e21)).view
  have v13 := (h13.ext (e16.trans e21)).view
  have v20 := h20.view
  have l12 := v12.len; have l13 := v13.len; have l20 := v20.len
  have hrk : ∀ u : Nat, u < rank.length → rankF rank (u : Int) = rkA rank (u : Int) := fun u hu => by unfold rankF; rw [if_pos (by omega)]
  have cls := fun u => clF_is (top := k) (back := back) fit hvn u
  have clsn := fun u => clF_is (top := (rank.length : Int)) (back := back) fit hvn u
  have low : ∀ u, u < rank.length → rkA rank (u : Int) ≤ k → clF rank ways rank.length back v u = clF rank ways k back v u := fun u hu hlt =>
    (clsn u).uniq ((cls u).same (fun d hd => ⟨d, Int.le_refl _, wk_all hok hd⟩) fun d hd => ⟨d, Int.le_refl _, wk_below hok hd hlt⟩)
  have high : ∀ u, 0 ≤ clF rank ways k back v u → 0 ≤ clF rank ways rank.length back v u ∧ clF rank ways rank.length back v u ≤ clF rank ways k back v u := fun u h0 => (clsn u).min (wk_all hok ((cls u).wk h0))
  refine Join.cut (fun _ w' => Ext w21 w') (fun J hJ => ?_) ?_
  · refine LoopT.gh (γ := Nat) (fun i (st : Int × Unit) w' => st.1 = i ∧ i ≤ (rowsL rank.length (clF rank ways k back v) fun u => decide (rkA rank (u : Int) < k)).length ∧ Ext w21 w') (fun i => (rowsL rank.length (clF rank ways k back v) fun u => decide (rkA rank (u : Int) < k)).length - i) 0 ⟨rfl, Nat.zero_le _, .refl _⟩ ?_
    rintro i ⟨x, _⟩ w25 ⟨hx, hi, e25⟩ J1 hJ1
    simp only at hx; subst hx
    dsimp only
    have hbg := @hbig (clF rank ways k back v) (fun u => decide (rkA rank (u : Int) < k))
    rw [Bool.cond_decide]
    by_cases hc : (i : Int) < (s12.len : Int)
    · rw [if_pos hc]
      have hi' : i < (rowsL rank.length (clF rank ways k back v) fun u => decide (rkA rank (u : Int) < k)).length := by omega
      obtain ⟨u, hu, hu0, huq, hue⟩ := rowsL_mem.1 (List.getElem_mem hi')
      have hlt := of_decide_eq_true huq
      refine re_idx (v12.ext e25) hi' fun _ a0 _ => ⟨_, a0, ?_⟩
      rw [hue]
      refine Rank_quiet (hH21.ext e25) ?_
      rw [Bool.cond_decide, if_neg (by dsimp only; rw [hrk u hu]; omega)]
      refine re_idx (v12.ext e25) hi' fun _ a0 _ => ⟨_, a0, ?_⟩
      rw [hue]
      refine Find_quiet (v20.ext e25) (by have := @hbig (clF rank ways rank.length back v) (fun _ => true); omega) ?_
      refine re_idx (v12.ext e25) hi' fun _ _ a1 => ⟨_, a1, ?_⟩
      intro w41 e41
      rw [hue, findR_rows hu (by rw [low u hu (by omega)]; exact hu0) rfl, low u hu (by omega), bne_self_eq_false, cond_false]
      exact hJ1 (i + 1) _ _ ⟨wsucc (m := 2 ^ 40) (by omega) (by omega), by omega, e25.trans e41⟩ (by omega)
    · rw [if_neg hc]; exact hJ _ _ e25
  rintro _ w43 e43
  have z43 := e43.size
  refine Join.cut (fun _ w' => Ext w43 w') (fun J hJ => ?_) ?_
  · refine LoopT.gh (γ := Nat) (fun i (st : Int × Unit) w' => st.1 = i ∧ i ≤ (rowsL rank.length (clF rank ways k back v) fun u => decide (rkA rank (u : Int) ≥ k)).length ∧ Ext w43 w') (fun i => (rowsL rank.length (clF rank ways k back v) fun u => decide (rkA rank (u : Int) ≥ k)).length - i) 0 ⟨rfl, Nat.zero_le _, .refl _⟩ ?_
    rintro i ⟨x, _⟩ w47 ⟨hx, hi, e47⟩ J1 hJ1
    simp only at hx; subst hx
    dsimp only
    have z47 := e47.size
    have hbg := @hbig (clF rank ways k back v) (fun u => decide (rkA rank (u : Int) ≥ k))
    rw [Bool.cond_decide]
    by_cases hc : (i : Int) < (s13.len : Int)
    · rw [if_pos hc]
      have hi' : i < (rowsL rank.length (clF rank ways k back v) fun u => decide (rkA rank (u : Int) ≥ k)).length := by omega
      obtain ⟨u, hu, hu0, huq, hue⟩ := rowsL_mem.1 (List.getElem_mem hi')
      have hlt := of_decide_eq_true huq
      obtain ⟨q1, q2⟩ := high u hu0
      have e47' := e43.trans e47
      refine re_idx (v13.ext e47') hi' fun _ a0 _ => ⟨_, a0, ?_⟩
      rw [hue]
      refine Find_ok (v20.ext e47') (by have := @hbig (clF rank ways rank.length back v) (fun _ => true); omega) fun w51 e51 => ⟨kp1 e51 (by omega), ?_⟩
      have z51 := e51.size
      refine re_idx (v13.ext (e47'.trans e51)) hi' fun _ a0 _ => ⟨_, a0, ?_⟩
      rw [hue]
      refine Rank_ok (hH21.ext (e47'.trans e51)) ⟨kp1 (.refl _) (by omega), ?_⟩
      rw [findR_rows hu q1 rfl, Bool.cond_decide, if_neg (by dsimp only; rw [hrk u hu]; omega), Bool.cond_decide, if_neg (by omega)]
      refine re_idx (v13.ext (e47'.trans e51)) hi' fun _ _ a1 => ⟨_, a1, ?_⟩
      rw [hue, Bool.cond_decide, if_neg (by dsimp only; omega)]
      exact hJ1 (i + 1) _ _ ⟨wsucc (m := 2 ^ 40) (by omega) (by omega), by omega, e47.trans e51⟩ (by omega)
    · rw [if_neg hc]; exact hJ _ _ e47
  rintro _ w59 e59
  have z59 := e59.size
  have e059 := (e016.trans e21).trans (e43.trans e59)
  rw [Bool.cond_decide]
  by_cases hkn : k ≥ (n : Int)
  · rw [if_pos hkn]
    have hnil : (rowsL rank.length (clF rank ways k back v) fun u => decide (rkA rank (u : Int) ≥ k)) = [] := by
      rw [List.eq_nil_iff_forall_not_mem]
      intro e he
      obtain ⟨u, hu, _, huq, _⟩ := rowsL_mem.1 he
      have := of_decide_eq_true huq
      have := okR_rk hok hu
      omega
    rw [show ((s13.len : Int) == 0) = true by rw [beq_iff_eq, l13, hnil]; rfl, cond_true]
    have heq : (rowsL rank.length (clF rank ways k back v) fun u => decide (rkA rank (u : Int) < k)) = rowsL rank.length (clF rank ways rank.length back v) fun _ => true := by
      unfold rowsL
      refine gthL_congr fun u hu => ?_
      have := okR_rk hok hu
      have hq : decide (rkA rank (u : Int) < k) = true := decide_eq_true (by omega)
      have hl := low u hu (by omega)
      exact ⟨by simp only [hl, hq], fun _ => by simp only [hl, hq]⟩
    rw [show ((s12.len : Int) == (s20.len : Int)) = true by rw [beq_iff_eq, l12, l20, heq], cond_true]
    exact kn (by omega) e059
  · rw [if_neg hkn]
    have hcount := rows_count (n := rank.length) (f := clF rank ways k back v) (g := clF rank ways rank.length back v) (p := fun u => decide (rkA rank (u : Int) < k)) (q := fun u => decide (rkA rank (u : Int) ≥ k)) (r := fun _ => true)
      (fun u _ a b => by have := of_decide_eq_true a; have := of_decide_eq_true b; omega) (fun u _ h0 => (high u h0).1) fun _ => rfl
    have b1 := @hbig (clF rank ways k back v) (fun u => decide (rkA rank (u : Int) < k))
    have b2 := @hbig (clF rank ways k back v) (fun u => decide (rkA rank (u : Int) ≥ k))
    rw [show decide (IntKind.i64.wrap ((s12.len : Int) + (s13.len : Int)) ≤ (s20.len : Int)) = true by
      rw [decide_eq_true_iff, w64 (by omega) (by omega)]; omega, cond_true]
    exact kn (by omega) e059
end
end Go.Sh
