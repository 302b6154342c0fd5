/- The reference's table: arc by arc, till nothing is nearer. -/
import Derived.Test.YtachbdfhbpmaeaaDistRef
set_option maxRecDepth 100000
namespace Go.Sh
open Go.RowKit

noncomputable def allL (N : Int) (arcs : List Arc) (i : Nat) : List (List Int) := (List.range i).map fun (s : Nat) => distL N arcs (s : Int)
theorem allL_len (N : Int) (arcs : List Arc) (i : Nat) : (allL N arcs i).length = i := by simp [allL]
theorem allL_get {N : Int} {arcs : List Arc} {i s : Nat} (h : s < (allL N arcs i).length) : (allL N arcs i)[s] = distL N arcs (s : Int) := by simp [allL]
theorem allL_snoc (N : Int) (arcs : List Arc) (i : Nat) : allL N arcs (i + 1) = allL N arcs i ++ [distL N arcs (i : Int)] := by simp [allL, List.range_succ]

/-- The first i arcs bring nothing nearer. -/
def Rlx (arcs : List Arc) (f : Nat → Int) (i : Nat) : Prop := ∀ k, k < i → k < arcs.length → 0 ≤ f (frA arcs k) → 0 ≤ f (toA arcs k) ∧ f (toA arcs k) ≤ f (frA arcs k) + wtA arcs k

section
variable {w : World} {N : Int} {s : SV} {arcs : List Arc}

theorem rAll_ok {n : Nat} {K : SV → World → Prop} (ok : OkMap (n : Int) arcs) (hn : n ≤ 4096) (h : View RD w s arcs) (hk : ∀ t svs w', Ext w w' → TblO w' t svs (allL (n : Int) arcs n) → Fsh w t → (∀ v (hv : v < svs.length), Fsh w svs[v]) → K t w') : sh_postroadref07_All (n : Int) s K w := by
  unfold sh_postroadref07_All
  intro b1 w2 e2 g1 g1'
  have z2 := e2.size
  have hl := h.len
  have hal := ok.len
  have hdom : ∀ u v x, EA arcs u v x → u < n → v < n := fun u v x e _ => by obtain ⟨_, _, _, _, _, _, q, _⟩ := EA_arc ok e; omega
  refine LoopT.gh (γ := Nat × List SV) (fun gh (st : SV × Int × Unit) w' => st.2.1 = gh.1 ∧ gh.1 ≤ n ∧ Ext w2 w' ∧ w2.heap.size ≤ w'.heap.size ∧ TblO w' st.1 gh.2 (allL (n : Int) arcs gh.1) ∧ Fsh w2 st.1 ∧ (∀ v (hv : v < gh.2.length), Fsh w2 gh.2[v])) (fun gh => n - gh.1) (0, [])
    ⟨rfl, Nat.zero_le _, .refl _, Nat.le_refl _, TblO.nil, fsh_nil, fun v hv => by simp at hv⟩ ?_
  rintro ⟨i, svs⟩ ⟨t, x, _⟩ w5 ⟨hx, hi, e5, z5, hT, fT, fr⟩ J1 hJ1
  simp only at hx hi hT fT fr; subst hx
  dsimp only
  rw [Bool.cond_decide]
  by_cases hc : (i : Int) < (n : Int)
  · rw [if_pos hc]
    have hi' : i < n := by omega
    have lsv := hT.len
    rw [allL_len] at lsv
    refine Join.cut (fun (x : SV × Unit) w' => Ext w2 w' ∧ w2.heap.size ≤ w'.heap.size ∧ ∃ svs', TblO w' x.1 svs' (allL (n : Int) arcs (i + 1)) ∧ Fsh w2 x.1 ∧ (∀ v (hv : v < svs'.length), Fsh w2 svs'[v])) (fun J2 hJ2 => ?_) (fun x w' ⟨q1, q2, svs', q3, q4, q5⟩ => hJ1 (i + 1, svs') _ _ ⟨wsucc (m := 2 ^ 40) (by omega) (by omega), by simp only; omega, q1, q2, q3, q4, q5⟩ (by simp only; omega))
    refine own_mk (R := RI) (bytes := 8) (by omega) (by omega) (by omega) fun s7 w8 e8 f7 hO => ?_
    simp only [Int.toNat_natCast] at hO
    rw [show RI.z = (0 : Int) from rfl, fi_rep] at hO
    have z8 := e8.size
    have m7 : ∀ {k}, s7.blk k → k < w8.heap.size := fun hk => hO.lt hk
    have n7 : ∀ {wa}, w8.heap.size ≤ wa → ¬ s7.blk wa := fun hz hk => by have := m7 hk; omega
    have kpc : ∀ {wa wb}, w8.heap.size ≤ wa.heap.size → Chg s7.blk wa wb → Keeps [b1] wa wb := fun hz c => kc1 c (by omega) fun hk => by have := f7 _ hk; omega
    have tab : ∀ {wa wb}, TblO wa t svs (allL (n : Int) arcs i) → Chg s7.blk wa wb → TblO wb t svs (allL (n : Int) arcs i) := fun hTa c => hTa.chg c (fun k h1 h2 => by have := hT.so.lt h1; have := f7 k h2; omega) fun v hv k h1 h2 => by have := hT.lt hv h1; have := f7 k h2; omega
    refine Join.cut (fun _ w' => Ext w5 w' ∧ w8.heap.size ≤ w'.heap.size ∧ TblO w' t svs (allL (n : Int) arcs i) ∧ Own RI w' s7 (fi n fun _ => -1)) (fun J hJ => ?_) ?_
    · refine LoopT.gh (γ := Nat) (fun j (st : Int × Unit) w' => st.1 = j ∧ j ≤ n ∧ Ext w5 w' ∧ w8.heap.size ≤ w'.heap.size ∧ TblO w' t svs (allL (n : Int) arcs i) ∧ Own RI w' s7 (fi n fun v => if v < j then -1 else 0)) (fun j => n - j) 0 ⟨rfl, Nat.zero_le _, e8, Nat.le_refl _, hT.ext e8, (congrArg (Own RI w8 s7) (fi_congr fun j _ => by rw [if_neg (by omega)])).mp hO⟩ ?_
      rintro j ⟨x, _⟩ w12 ⟨hx, hj, e12, z12, hT12, hO12⟩ J3 hJ3
      simp only at hx; subst hx
      dsimp only
      rw [Bool.cond_decide]
      by_cases hc2 : (j : Int) < (n : Int)
      · rw [if_pos hc2]
        refine fi_wr hO12 (by omega) fun a put => ?_
        refine put w12 _ _ hO12 fun w14 c14 hO14 => ⟨kpc z12 c14, ?_⟩
        have z14 := c14.size
        refine hJ3 (j + 1) _ _ ⟨wsucc (m := 2 ^ 40) (by omega) (by omega), by omega, ext_chg e12 c14 f7, by omega, tab hT12 c14, (congrArg (Own RI w14 s7) (fi_congr fun v _ => ?_)).mp hO14⟩ (by omega)
        by_cases hv : v = j
        · subst hv; rw [if_pos rfl, if_pos (by omega)]
        · rw [if_neg hv]
          by_cases hv2 : v < j
          · rw [if_pos hv2, if_pos (by omega)]
          · rw [if_neg hv2, if_neg (by omega)]
      · rw [if_neg hc2]
        exact hJ _ _ ⟨e12, z12, hT12, (congrArg (Own RI w12 s7) (fi_congr fun v hv => by rw [if_pos (by omega)])).mp hO12⟩
    rintro _ w16 ⟨e16, z16, hT16, hO16⟩
    refine fi_wr hO16 hi' fun a put => ?_
    refine put w16 _ _ hO16 fun w18 c18 hO18 => ⟨kpc z16 c18, ?_⟩
    have z18 := c18.size
    have e18 := ext_chg e16 c18 f7
    have hT18 := tab hT16 c18
    have hn0 : 0 ≤ (n : Int) * 2147483648 := Int.mul_nonneg (by omega) (by omega)
    obtain ⟨B, hB⟩ := Int.eq_ofNat_of_zero_le hn0
    refine Join.cut (fun _ w' => Ext w5 w' ∧ w8.heap.size ≤ w'.heap.size ∧ TblO w' t svs (allL (n : Int) arcs i) ∧ Own RI w' s7 (distL (n : Int) arcs (i : Int))) (fun J hJ => ?_) ?_
    · refine LoopT.gh (γ := (Nat → Int) × Bool) (fun gh (st : Bool × Unit) w' => st.1 = gh.2 ∧ Ext w5 w' ∧ w8.heap.size ≤ w'.heap.size ∧ TblO w' t svs (allL (n : Int) arcs i) ∧ Own RI w' s7 (fi n gh.1) ∧ Tab (EA arcs) n i 2147483648 gh.1 ∧ (gh.2 = false → Rlx arcs gh.1 arcs.length)) (fun gh => 2 * sumB B gh.1 n + (if gh.2 then 1 else 0))
        (up1 (fun _ => -1) i 0, true) ⟨rfl, e18, by omega, hT18, hO18, Tab.begin hi' (by decide), fun h => by cases h⟩ ?_
      rintro ⟨f, more⟩ ⟨x, _⟩ w22 ⟨hx, e22, z22, hT22, hO22, hTab, hrl⟩ J3 hJ3
      simp only at hx hO22 hTab hrl hJ3; subst hx
      cases x with
      | false =>
        rw [cond_false]
        refine hJ _ _ ⟨e22, z22, hT22, (congrArg (Own RI w22 s7) ?_).mp hO22⟩
        rw [distL_get ⟨by omega, hc⟩]
        simp only [Int.toNat_natCast]
        refine fi_congr fun v hv => IsD.uniq (hTab.done hdom (fun u v x e hu h0 => ?_) hv) (dst_is ok i v)
        obtain ⟨k, hk, q1, q2, q3, _⟩ := EA_arc ok e
        have := hrl rfl k hk hk (by rw [q1]; exact h0)
        rw [q1, q2, q3] at this; exact this
      | true =>
        rw [cond_true]
        refine LoopT.gh (γ := Nat × (Nat → Int) × Bool) (fun gh (st : Bool × Int × Unit) w' => st.1 = gh.2.2 ∧ st.2.1 = gh.1 ∧ gh.1 ≤ arcs.length ∧ Ext w5 w' ∧ w8.heap.size ≤ w'.heap.size ∧ TblO w' t svs (allL (n : Int) arcs i) ∧ Own RI w' s7 (fi n gh.2.1) ∧ Tab (EA arcs) n i 2147483648 gh.2.1 ∧ (gh.2.2 = false → gh.2.1 = f ∧ Rlx arcs f gh.1) ∧ (gh.2.2 = true → sumB B gh.2.1 n < sumB B f n)) (fun gh => arcs.length - gh.1)
          (0, f, false) ⟨rfl, rfl, Nat.zero_le _, e22, z22, hT22, hO22, hTab, fun _ => ⟨rfl, fun k hk => by omega⟩, fun h => by cases h⟩ ?_
        rintro ⟨k, f1, m1⟩ ⟨y, x, _⟩ w25 ⟨hy, hx, hkl, e25, z25, hT25, hO25, hTab1, hm0, hm1⟩ J4 hJ4
        simp only at hy hx hkl hO25 hTab1 hm0 hm1 hJ4; subst hy hx
        dsimp only
        rw [Bool.cond_decide]
        by_cases hc2 : (k : Int) < (s.len : Int)
        · rw [if_pos hc2]
          have hk' : k < arcs.length := by omega
          refine Join.cut (fun (x : Bool × Unit) w' => ∃ f2, Ext w5 w' ∧ w8.heap.size ≤ w'.heap.size ∧ TblO w' t svs (allL (n : Int) arcs i) ∧ Own RI w' s7 (fi n f2) ∧ Tab (EA arcs) n i 2147483648 f2 ∧ (x.1 = false → f2 = f ∧ Rlx arcs f (k + 1)) ∧ (x.1 = true → sumB B f2 n < sumB B f n)) (fun J5 hJ5 => ?_)
            (fun x w' ⟨f2, q1, q2, q3, q4, q5, q6, q7⟩ => hJ4 (k + 1, f2, x.1) _ _ ⟨rfl, wsucc (m := 2 ^ 40) (by omega) (by omega), by simp only; omega, q1, q2, q3, q4, q5, q6, q7⟩ (by simp only; omega))
          have hE := EA_of ok hk'
          obtain ⟨a1, a2⟩ := ok.fr hk'
          obtain ⟨b1', b2⟩ := ok.to hk'
          have hoa := ok.at hk'; unfold OkArc at hoa
          rw [Int.toNat_natCast] at a2 b2
          have hwt : wtA arcs k = (arcA arcs k).2.2 := rfl
          refine do_idx (h.ext ((e2.trans e5).trans e25)) hk' fun _ a0 a1' a2' => ⟨_, a0, _, a1', _, a2', ?_⟩
          rw [arcA_get hk', a1, b1', ← hwt]
          intro b31 w32 e32 g31 g31' w33 o33
          have z32 := e32.size; have z33 := o33.size
          have e33 : Ext w5 w33 := ext_off (e25.trans e32) o33 (by have := e25.size; omega)
          have hO33 : Own RI w33 s7 (fi n f1) := (hO25.ext e32).off o33 (n7 (by omega))
          have hT33 : TblO w33 t svs (allL (n : Int) arcs i) := (hT25.ext e32).chg (G := fun k => k = b31) (.of_off o33 rfl) (fun k h1 h2 => by have := hT.so.lt h1; have := e25.size; omega) fun v hv k h1 h2 => by have := hT.lt hv h1; have := e25.size; omega
          have hb1 := hTab1.bound a2; have hb2 := hTab1.bound b2
          have hsame : ∀ {w'}, Ext w33 w' → (0 ≤ f1 (frA arcs k) → 0 ≤ f1 (toA arcs k) ∧ f1 (toA arcs k) ≤ f1 (frA arcs k) + wtA arcs k) → J5 (y, ()) w' := fun {w'} e' hr => by
            have z' := e'.size
            refine hJ5 _ _ ⟨f1, e33.trans e', by omega, hT33.ext e', hO33.ext e', hTab1, fun hy => ?_, hm1⟩
            obtain ⟨r1, r2⟩ := hm0 hy
            subst r1
            refine ⟨rfl, fun j hj hjl h0 => ?_⟩
            by_cases e : j = k
            · subst e; exact hr h0
            · exact r2 j (by omega) hjl h0
          have hset : ∀ {w'}, Ext w33 w' → 0 ≤ f1 (frA arcs k) → (f1 (toA arcs k) < 0 ∨ f1 (frA arcs k) + wtA arcs k < f1 (toA arcs k)) → Idx s7.a s7.len ((toA arcs k : Nat) : Int) 1 (fun a41 => (∀ w42, Ext w' w42 → (stL w42 a41 [(.int .i64 (IntKind.i64.wrap (f1 (frA arcs k) + wtA arcs k)))] 0 (fun w43 => (Keeps [b31, b1] w42 w43 ∧ (∀ w44, Ext w43 w44 → (J5 (true, ()) w44))))))) := fun {w'} e' h0 hlt => by
            have z' := e'.size
            have hle := hTab1.lt a2 h0 (x := wtA arcs k) (by omega)
            rw [w64 (by omega) (by omega)]
            refine fi_wr (hO33.ext e') b2 fun a put => ?_
            intro w42 e42
            have z42 := e42.size
            refine put w42 _ _ ((hO33.ext e').ext e42) fun w43 c43 hO43 => ?_
            have z43 := c43.size
            refine ⟨kc2 c43 (by omega) (n7 (by omega)) (by omega) (fun hk => by have := f7 _ hk; omega), fun w44 e44 => ?_⟩
            have z44 := e44.size
            obtain ⟨q1, q2⟩ := hTab1.step a2 b2 hE (by omega) (by omega) h0 hlt
            refine hJ5 _ _ ⟨up1 f1 (toA arcs k) (f1 (frA arcs k) + wtA arcs k), (ext_chg ((e33.trans e').trans e42) c43 f7).trans e44, by omega, (tab ((hT33.ext e').ext e42) c43).ext e44, hO43.ext e44, q1, fun h => (by cases h), fun _ => ?_⟩
            have h3 := q2 B (by omega)
            cases y with
            | false => rw [(hm0 rfl).1] at h3 ⊢; exact h3
            | true => have := hm1 rfl; omega
          refine fi_rd hO33.view a2 fun _ q => ⟨_, q, ?_⟩
          rw [Bool.cond_decide]
          by_cases h0 : f1 (frA arcs k) ≥ 0
          · rw [if_pos h0]
            have hle := hTab1.lt a2 h0 (x := wtA arcs k) (by omega)
            refine fi_rd hO33.view b2 fun _ q => ⟨_, q, ?_⟩
            rw [Bool.cond_decide]
            by_cases h1 : f1 (toA arcs k) < 0
            · rw [if_pos h1]
              intro w38 e38
              refine fi_rd (hO33.ext e38).view a2 fun _ q => ⟨_, q, ?_⟩
              exact hset e38 h0 (.inl h1)
            · rw [if_neg h1]
              refine fi_rd hO33.view a2 fun _ q => ⟨_, q, ?_⟩
              refine fi_rd hO33.view b2 fun _ q => ⟨_, q, ?_⟩
              intro w49 e49
              rw [w64 (by omega) (by omega), Bool.cond_decide]
              by_cases h2 : f1 (frA arcs k) + wtA arcs k < f1 (toA arcs k)
              · rw [if_pos h2]
                refine fi_rd (hO33.ext e49).view a2 fun _ q => ⟨_, q, ?_⟩
                exact hset e49 h0 (.inr h2)
              · rw [if_neg h2]
                exact hsame e49 fun _ => ⟨by omega, by omega⟩
          · rw [if_neg h0]
            intro w56 e56
            exact hsame e56 fun h => absurd h h0
        · rw [if_neg hc2]
          have : k = arcs.length := by omega
          subst this
          refine hJ3 (f1, y) _ _ ⟨rfl, e25, z25, hT25, hO25, hTab1, fun hy => ?_⟩ ?_
          · obtain ⟨r1, r2⟩ := hm0 hy
            simp only; rw [r1]; exact r2
          · simp only
            cases y with
            | false => rw [(hm0 rfl).1]; simp
            | true => have := hm1 rfl; simp only [if_true]; omega
    rintro _ w60 ⟨e60, z60, hT60, hO60⟩
    refine TblO.push hT60 hO60 (fun k h1 h2 => by have := hT.so.lt h2; have := f7 k h1; omega) (by omega) (by omega) fun w62 s63 w64 e62 c64 hs63 hT64 => ⟨?_, ?_⟩
    · have z62 := e62.size
      refine kc1 c64 (by omega) fun hk => ?_
      have := fT _ hk; omega
    · have z62 := e62.size; have z64 := c64.size
      have z60' := e60.size
      rw [← allL_snoc] at hT64
      refine hJ2 _ _ ⟨ext_chg ((e5.trans e60).trans e62) c64 fT, by omega, svs ++ [s7], hT64, fun k hk => ?_, fun v hv k hk => ?_⟩
      · rcases hs63 k hk with h' | h'
        · exact fT k h'
        · omega
      · by_cases e : v < svs.length
        · rw [List.getElem_append_left e] at hk
          exact fr v e k hk
        · have e1 : v = svs.length := by simp at hv; omega
          subst e1
          rw [List.getElem_append_right (Nat.le_refl _)] at hk
          simp only [Nat.sub_self, List.getElem_cons_zero] at hk
          have := f7 k hk; omega
  · rw [if_neg hc]
    have : i = n := by omega
    subst this
    exact hk t svs w5 (e2.trans e5) hT (fT.ext e2) fun v hv => (fr v hv).ext e2
end
end Go.Sh
