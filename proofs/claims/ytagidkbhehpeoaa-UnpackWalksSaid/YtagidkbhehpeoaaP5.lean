/- DistRef2, SpMaps, UnChain, UnSlices, UnClimb, HierTells, UnOpen, UnStack, SpMeet, SpBoth, SpTurned, QuFar, UnWays, QuMany, QuTable, UnRef, DistKnown, UnLaws, UnMeets: merged into one text. -/
import Derived.Test.YtagidkbhehpeoaaP4
import Derived.Test.YtagidkbhehpeoaaP2
import Derived.Test.YtagidkbhehpeoaaP3
/- The reference's table: arc by arc, till nothing is nearer. -/
set_option maxRecDepth 100000
namespace Go.Sh
open Go.RowKit

noncomputable def allL (N : Int) (arcs : List Arc) (i : Nat) : List (List Int) := (List.range i).map fun (s : Nat) => distL N arcs (s : Int)
theorem allL_len (N : Int) (arcs : List Arc) (i : Nat) : (allL N arcs i).length = i := by simp [allL]
theorem allL_get {N : Int} {arcs : List Arc} {i s : Nat} (h : s < (allL N arcs i).length) : (allL N arcs i)[s] = distL N arcs (s : Int) := by simp [allL]
theorem allL_snoc (N : Int) (arcs : List Arc) (i : Nat) : allL N arcs (i + 1) = allL N arcs i ++ [distL N arcs (i : Int)] := by simp [allL, List.range_succ]

/-- The first i arcs bring nothing nearer. -/
def Rlx (arcs : List Arc) (f : Nat → Int) (i : Nat) : Prop := ∀ k, k < i → k < arcs.length → 0 ≤ f (frA arcs k) → 0 ≤ f (toA arcs k) ∧ f (toA arcs k) ≤ f (frA arcs k) + wtA arcs k

section
variable {w : World} {N : Int} {s : SV} {arcs : List Arc}

theorem rAll_ok {n : Nat} {K : SV → World → Prop} (ok : OkMap (n : Int) arcs) (hn : n ≤ 4096) (h : View RD w s arcs) (hk : ∀ t svs w', Ext w w' → TblO w' t svs (allL (n : Int) arcs n) → Fsh w t → (∀ v (hv : v < svs.length), Fsh w svs[v]) → K t w') : sh_postroadref07_All (n : Int) s K w := by
  unfold sh_postroadref07_All
  intro b1 w2 e2 g1 g1'
  have z2 := e2.size
  have hl := h.len
  have hal := ok.len
  have hdom : ∀ u v x, EA arcs u v x → u < n → v < n := fun u v x e _ => by obtain ⟨_, _, _, _, _, _, q, _⟩ := EA_arc ok e; omega
  refine LoopT.gh (γ := Nat × List SV) (fun gh (st : SV × Int × Unit) w' => st.2.1 = gh.1 ∧ gh.1 ≤ n ∧ Ext w2 w' ∧ w2.heap.size ≤ w'.heap.size ∧ TblO w' st.1 gh.2 (allL (n : Int) arcs gh.1) ∧ Fsh w2 st.1 ∧ (∀ v (hv : v < gh.2.length), Fsh w2 gh.2[v])) (fun gh => n - gh.1) (0, [])
    ⟨rfl, Nat.zero_le _, .refl _, Nat.le_refl _, TblO.nil, fsh_nil, fun v hv => by simp at hv⟩ ?_
  rintro ⟨i, svs⟩ ⟨t, x, _⟩ w5 ⟨hx, hi, e5, z5, hT, fT, fr⟩ J1 hJ1
  simp only at hx hi hT fT fr; subst hx
  dsimp only
  rw [Bool.cond_decide]
  by_cases hc : (i : Int) < (n : Int)
  · rw [if_pos hc]
    have hi' : i < n := by omega
    have lsv := hT.len
    rw [allL_len] at lsv
    refine Join.cut (fun (x : SV × Unit) w' => Ext w2 w' ∧ w2.heap.size ≤ w'.heap.size ∧ ∃ svs', TblO w' x.1 svs' (allL (n : Int) arcs (i + 1)) ∧ Fsh w2 x.1 ∧ (∀ v (hv : v < svs'.length), Fsh w2 svs'[v])) (fun J2 hJ2 => ?_) (fun x w' ⟨q1, q2, svs', q3, q4, q5⟩ => hJ1 (i + 1, svs') _ _ ⟨wsucc (m := 2 ^ 40) (by omega) (by omega), by simp only; omega, q1, q2, q3, q4, q5⟩ (by simp only; omega))
    refine own_mk (R := RI) (bytes := 8) (by omega) (by omega) (by omega) fun s7 w8 e8 f7 hO => ?_
    simp only [Int.toNat_natCast] at hO
    rw [show RI.z = (0 : Int) from rfl, fi_rep] at hO
    have z8 := e8.size
    have m7 : ∀ {k}, s7.blk k → k < w8.heap.size := fun hk => hO.lt hk
    have n7 : ∀ {wa}, w8.heap.size ≤ wa → ¬ s7.blk wa := fun hz hk => by have := m7 hk; omega
    have kpc : ∀ {wa wb}, w8.heap.size ≤ wa.heap.size → Chg s7.blk wa wb → Keeps [b1] wa wb := fun hz c => kc1 c (by omega) fun hk => by have := f7 _ hk; omega
    have tab : ∀ {wa wb}, TblO wa t svs (allL (n : Int) arcs i) → Chg s7.blk wa wb → TblO wb t svs (allL (n : Int) arcs i) := fun hTa c => hTa.chg c (fun k h1 h2 => by have := hT.so.lt h1; have := f7 k h2; omega) fun v hv k h1 h2 => by have := hT.lt hv h1; have := f7 k h2; omega
    refine Join.cut (fun _ w' => Ext w5 w' ∧ w8.heap.size ≤ w'.heap.size ∧ TblO w' t svs (allL (n : Int) arcs i) ∧ Own RI w' s7 (fi n fun _ => -1)) (fun J hJ => ?_) ?_
    · refine LoopT.gh (γ := Nat) (fun j (st : Int × Unit) w' => st.1 = j ∧ j ≤ n ∧ Ext w5 w' ∧ w8.heap.size ≤ w'.heap.size ∧ TblO w' t svs (allL (n : Int) arcs i) ∧ Own RI w' s7 (fi n fun v => if v < j then -1 else 0)) (fun j => n - j) 0 ⟨rfl, Nat.zero_le _, e8, Nat.le_refl _, hT.ext e8, (congrArg (Own RI w8 s7) (fi_congr fun j _ => by rw [if_neg (by omega)])).mp hO⟩ ?_
      rintro j ⟨x, _⟩ w12 ⟨hx, hj, e12, z12, hT12, hO12⟩ J3 hJ3
      simp only at hx; subst hx
      dsimp only
      rw [Bool.cond_decide]
      by_cases hc2 : (j : Int) < (n : Int)
      · rw [if_pos hc2]
        refine fi_wr hO12 (by omega) fun a put => ?_
        refine put w12 _ _ hO12 fun w14 c14 hO14 => ⟨kpc z12 c14, ?_⟩
        have z14 := c14.size
        refine hJ3 (j + 1) _ _ ⟨wsucc (m := 2 ^ 40) (by omega) (by omega), by omega, ext_chg e12 c14 f7, by omega, tab hT12 c14, (congrArg (Own RI w14 s7) (fi_congr fun v _ => ?_)).mp hO14⟩ (by omega)
        by_cases hv : v = j
        · subst hv; rw [if_pos rfl, if_pos (by omega)]
        · rw [if_neg hv]
          by_cases hv2 : v < j
          · rw [if_pos hv2, if_pos (by omega)]
          · rw [if_neg hv2, if_neg (by omega)]
      · rw [if_neg hc2]
        exact hJ _ _ ⟨e12, z12, hT12, (congrArg (Own RI w12 s7) (fi_congr fun v hv => by rw [if_pos (by omega)])).mp hO12⟩
    rintro _ w16 ⟨e16, z16, hT16, hO16⟩
    refine fi_wr hO16 hi' fun a put => ?_
    refine put w16 _ _ hO16 fun w18 c18 hO18 => ⟨kpc z16 c18, ?_⟩
    have z18 := c18.size
    have e18 := ext_chg e16 c18 f7
    have hT18 := tab hT16 c18
    have hn0 : 0 ≤ (n : Int) * 2147483648 := Int.mul_nonneg (by omega) (by omega)
    obtain ⟨B, hB⟩ := Int.eq_ofNat_of_zero_le hn0
    refine Join.cut (fun _ w' => Ext w5 w' ∧ w8.heap.size ≤ w'.heap.size ∧ TblO w' t svs (allL (n : Int) arcs i) ∧ Own RI w' s7 (distL (n : Int) arcs (i : Int))) (fun J hJ => ?_) ?_
    · refine LoopT.gh (γ := (Nat → Int) × Bool) (fun gh (st : Bool × Unit) w' => st.1 = gh.2 ∧ Ext w5 w' ∧ w8.heap.size ≤ w'.heap.size ∧ TblO w' t svs (allL (n : Int) arcs i) ∧ Own RI w' s7 (fi n gh.1) ∧ Tab (EA arcs) n i 2147483648 gh.1 ∧ (gh.2 = false → Rlx arcs gh.1 arcs.length)) (fun gh => 2 * sumB B gh.1 n + (if gh.2 then 1 else 0))
        (up1 (fun _ => -1) i 0, true) ⟨rfl, e18, by omega, hT18, hO18, Tab.begin hi' (by decide), fun h => by cases h⟩ ?_
      rintro ⟨f, more⟩ ⟨x, _⟩ w22 ⟨hx, e22, z22, hT22, hO22, hTab, hrl⟩ J3 hJ3
      simp only at hx hO22 hTab hrl hJ3; subst hx
      cases x with
      | false =>
        rw [cond_false]
        refine hJ _ _ ⟨e22, z22, hT22, (congrArg (Own RI w22 s7) ?_).mp hO22⟩
        rw [distL_get ⟨by omega, hc⟩]
        simp only [Int.toNat_natCast]
        refine fi_congr fun v hv => IsD.uniq (hTab.done hdom (fun u v x e hu h0 => ?_) hv) (dst_is ok i v)
        obtain ⟨k, hk, q1, q2, q3, _⟩ := EA_arc ok e
        have := hrl rfl k hk hk (by rw [q1]; exact h0)
        rw [q1, q2, q3] at this; exact this
      | true =>
        rw [cond_true]
        refine LoopT.gh (γ := Nat × (Nat → Int) × Bool) (fun gh (st : Bool × Int × Unit) w' => st.1 = gh.2.2 ∧ st.2.1 = gh.1 ∧ gh.1 ≤ arcs.length ∧ Ext w5 w' ∧ w8.heap.size ≤ w'.heap.size ∧ TblO w' t svs (allL (n : Int) arcs i) ∧ Own RI w' s7 (fi n gh.2.1) ∧ Tab (EA arcs) n i 2147483648 gh.2.1 ∧ (gh.2.2 = false → gh.2.1 = f ∧ Rlx arcs f gh.1) ∧ (gh.2.2 = true → sumB B gh.2.1 n < sumB B f n)) (fun gh => arcs.length - gh.1)
          (0, f, false) ⟨rfl, rfl, Nat.zero_le _, e22, z22, hT22, hO22, hTab, fun _ => ⟨rfl, fun k hk => by omega⟩, fun h => by cases h⟩ ?_
        rintro ⟨k, f1, m1⟩ ⟨y, x, _⟩ w25 ⟨hy, hx, hkl, e25, z25, hT25, hO25, hTab1, hm0, hm1⟩ J4 hJ4
        simp only at hy hx hkl hO25 hTab1 hm0 hm1 hJ4; subst hy hx
        dsimp only
        rw [Bool.cond_decide]
        by_cases hc2 : (k : Int) < (s.len : Int)
        · rw [if_pos hc2]
          have hk' : k < arcs.length := by omega
          refine Join.cut (fun (x : Bool × Unit) w' => ∃ f2, Ext w5 w' ∧ w8.heap.size ≤ w'.heap.size ∧ TblO w' t svs (allL (n : Int) arcs i) ∧ Own RI w' s7 (fi n f2) ∧ Tab (EA arcs) n i 2147483648 f2 ∧ (x.1 = false → f2 = f ∧ Rlx arcs f (k + 1)) ∧ (x.1 = true → sumB B f2 n < sumB B f n)) (fun J5 hJ5 => ?_)
            (fun x w' ⟨f2, q1, q2, q3, q4, q5, q6, q7⟩ => hJ4 (k + 1, f2, x.1) _ _ ⟨rfl, wsucc (m := 2 ^ 40) (by omega) (by omega), by simp only; omega, q1, q2, q3, q4, q5, q6, q7⟩ (by simp only; omega))
          have hE := EA_of ok hk'
          obtain ⟨a1, a2⟩ := ok.fr hk'
          obtain ⟨b1', b2⟩ := ok.to hk'
          have hoa := ok.at hk'; unfold OkArc at hoa
          rw [Int.toNat_natCast] at a2 b2
          have hwt : wtA arcs k = (arcA arcs k).2.2 := rfl
          refine do_idx (h.ext ((e2.trans e5).trans e25)) hk' fun _ a0 a1' a2' => ⟨_, a0, _, a1', _, a2', ?_⟩
          rw [arcA_get hk', a1, b1', ← hwt]
          intro b31 w32 e32 g31 g31' w33 o33
          have z32 := e32.size; have z33 := o33.size
          have e33 : Ext w5 w33 := ext_off (e25.trans e32) o33 (by have := e25.size; omega)
          have hO33 : Own RI w33 s7 (fi n f1) := (hO25.ext e32).off o33 (n7 (by omega))
          have hT33 : TblO w33 t svs (allL (n : Int) arcs i) := (hT25.ext e32).chg (G := fun k => k = b31) (.of_off o33 rfl) (fun k h1 h2 => by have := hT.so.lt h1; have := e25.size; omega) fun v hv k h1 h2 => by have := hT.lt hv h1; have := e25.size; omega
          have hb1 := hTab1.bound a2; have hb2 := hTab1.bound b2
          have hsame : ∀ {w'}, Ext w33 w' → (0 ≤ f1 (frA arcs k) → 0 ≤ f1 (toA arcs k) ∧ f1 (toA arcs k) ≤ f1 (frA arcs k) + wtA arcs k) → J5 (y, ()) w' := fun {w'} e' hr => by
            have z' := e'.size
            refine hJ5 _ _ ⟨f1, e33.trans e', by omega, hT33.ext e', hO33.ext e', hTab1, fun hy => ?_, hm1⟩
            obtain ⟨r1, r2⟩ := hm0 hy
            subst r1
            refine ⟨rfl, fun j hj hjl h0 => ?_⟩
            by_cases e : j = k
            · subst e; exact hr h0
            · exact r2 j (by omega) hjl h0
          have hset : ∀ {w'}, Ext w33 w' → 0 ≤ f1 (frA arcs k) → (f1 (toA arcs k) < 0 ∨ f1 (frA arcs k) + wtA arcs k < f1 (toA arcs k)) → Idx s7.a s7.len ((toA arcs k : Nat) : Int) 1 (fun a41 => (∀ w42, Ext w' w42 → (stL w42 a41 [(.int .i64 (IntKind.i64.wrap (f1 (frA arcs k) + wtA arcs k)))] 0 (fun w43 => (Keeps [b31, b1] w42 w43 ∧ (∀ w44, Ext w43 w44 → (J5 (true, ()) w44))))))) := fun {w'} e' h0 hlt => by
            have z' := e'.size
            have hle := hTab1.lt a2 h0 (x := wtA arcs k) (by omega)
            rw [w64 (by omega) (by omega)]
            refine fi_wr (hO33.ext e') b2 fun a put => ?_
            intro w42 e42
            have z42 := e42.size
            refine put w42 _ _ ((hO33.ext e').ext e42) fun w43 c43 hO43 => ?_
            have z43 := c43.size
            refine ⟨kc2 c43 (by omega) (n7 (by omega)) (by omega) (fun hk => by have := f7 _ hk; omega), fun w44 e44 => ?_⟩
            have z44 := e44.size
            obtain ⟨q1, q2⟩ := hTab1.step a2 b2 hE (by omega) (by omega) h0 hlt
            refine hJ5 _ _ ⟨up1 f1 (toA arcs k) (f1 (frA arcs k) + wtA arcs k), (ext_chg ((e33.trans e').trans e42) c43 f7).trans e44, by omega, (tab ((hT33.ext e').ext e42) c43).ext e44, hO43.ext e44, q1, fun h => (by cases h), fun _ => ?_⟩
            have h3 := q2 B (by omega)
            cases y with
            | false => rw [(hm0 rfl).1] at h3 ⊢; exact h3
            | true => have := hm1 rfl; omega
          refine fi_rd hO33.view a2 fun _ q => ⟨_, q, ?_⟩
          rw [Bool.cond_decide]
          by_cases h0 : f1 (frA arcs k) ≥ 0
          · rw [if_pos h0]
            have hle := hTab1.lt a2 h0 (x := wtA arcs k) (by omega)
            refine fi_rd hO33.view b2 fun _ q => ⟨_, q, ?_⟩
            rw [Bool.cond_decide]
            by_cases h1 : f1 (toA arcs k) < 0
            · rw [if_pos h1]
              intro w38 e38
              refine fi_rd (hO33.ext e38).view a2 fun _ q => ⟨_, q, ?_⟩
              exact hset e38 h0 (.inl h1)
            · rw [if_neg h1]
              refine fi_rd hO33.view a2 fun _ q => ⟨_, q, ?_⟩
              refine fi_rd hO33.view b2 fun _ q => ⟨_, q, ?_⟩
              intro w49 e49
              rw [w64 (by omega) (by omega), Bool.cond_decide]
              by_cases h2 : f1 (frA arcs k) + wtA arcs k < f1 (toA arcs k)
              · rw [if_pos h2]
                refine fi_rd (hO33.ext e49).view a2 fun _ q => ⟨_, q, ?_⟩
                exact hset e49 h0 (.inr h2)
              · rw [if_neg h2]
                exact hsame e49 fun _ => ⟨by omega, by omega⟩
          · rw [if_neg h0]
            intro w56 e56
            exact hsame e56 fun h => absurd h h0
        · rw [if_neg hc2]
          have : k = arcs.length := by omega
          subst this
          refine hJ3 (f1, y) _ _ ⟨rfl, e25, z25, hT25, hO25, hTab1, fun hy => ?_⟩ ?_
          · obtain ⟨r1, r2⟩ := hm0 hy
            simp only; rw [r1]; exact r2
          · simp only
            cases y with
            | false => rw [(hm0 rfl).1]; simp
            | true => have := hm1 rfl; simp only [if_true]; omega
    rintro _ w60 ⟨e60, z60, hT60, hO60⟩
    refine TblO.push hT60 hO60 (fun k h1 h2 => by have := hT.so.lt h2; have := f7 k h1; omega) (by omega) (by omega) fun w62 s63 w64 e62 c64 hs63 hT64 => ⟨?_, ?_⟩
    · have z62 := e62.size
      refine kc1 c64 (by omega) fun hk => ?_
      have := fT _ hk; omega
    · have z62 := e62.size; have z64 := c64.size
      have z60' := e60.size
      rw [← allL_snoc] at hT64
      refine hJ2 _ _ ⟨ext_chg ((e5.trans e60).trans e62) c64 fT, by omega, svs ++ [s7], hT64, fun k hk => ?_, fun v hv k hk => ?_⟩
      · rcases hs63 k hk with h' | h'
        · exact fT k h'
        · omega
      · by_cases e : v < svs.length
        · rw [List.getElem_append_left e] at hk
          exact fr v e k hk
        · have e1 : v = svs.length := by simp at hv; omega
          subst e1
          rw [List.getElem_append_right (Nat.le_refl _)] at hk
          simp only [Nat.sub_self, List.getElem_cons_zero] at hk
          have := f7 k hk; omega
  · rw [if_neg hc]
    have : i = n := by omega
    subst this
    exact hk t svs w5 (e2.trans e5) hT (fT.ext e2) fun v hv => (fr v hv).ext e2
end
end Go.Sh

/- SpaceTop, SpaceWithin, SpaceSteps: of maps. -/
set_option maxRecDepth 100000
namespace Go.Sh
open Go.RowKit

theorem MapH.fit {n : Nat} {arcs : List Arc} {rank : List Int} {ways : List Wy} (h : MapH n arcs rank ways) (hn : n ≤ 12) : FitH rank ways := ⟨h.ok, by rw [h.n]; omega, h.b⟩

section
variable {rank : List Int} {ways : List Wy}
theorem ES_rise (ok : OkH rank ways) {top : Int} {back : Bool} {u v : Nat} {x : Int} (h : ES rank ways top back u v x) : rkA rank (u : Int) < rkA rank (v : Int) := by
  obtain ⟨k, hk, _, _, _, _, h5⟩ := ES_way ok h; omega
theorem wk_len (fit : FitH rank ways) {top : Int} {back : Bool} {u v : Nat} {x : Int} (h : Wk (ES rank ways top back) u v x) : x ≤ (rkA rank (v : Int) - rkA rank (u : Int)) * 1125899906842624 := by
  induction h with
  | nil => omega
  | snoc _ e ih =>
    have h1 := ES_rise fit.ok e
    obtain ⟨k, hk, _, _, h3, _⟩ := ES_way fit.ok e
    have := fit.b _ (List.getElem_mem hk)
    omega
/-- .. is, one way or the other, a walk of the map. -/
theorem wk_map {n : Nat} {arcs : List Arc} (hM : MapH n arcs rank ways) {top : Int} {s v : Nat} {d : Int} : (Wk (ES rank ways top false) s v d → Wk (EA arcs) s v d) ∧ (Wk (ES rank ways top true) s v d → Wk (EA arcs) v s d) := by
  constructor
  · intro h
    refine h.bind fun u v x e => ?_
    obtain ⟨k, hk, k1, k2, k3, _⟩ := ES_way hM.ok e
    exact hM.so u v x ⟨_, List.getElem_mem hk, k1, k2, k3⟩
  · intro h
    refine h.rev.bind fun u v x e => ?_
    obtain ⟨k, hk, k1, k2, k3, _⟩ := ES_way hM.ok e
    exact hM.so u v x ⟨_, List.getElem_mem hk, k2, k1, k3⟩

end

section
variable {CV : CVT} {w : World}

end
end Go.Sh

/- Ways from a place down to another one, by what is above that; in plain lists. -/
set_option maxRecDepth 100000
namespace Go.Sh
open Go.RowKit

/-- A way by which a place is made up. -/
def PrevOk (rank : List Int) (ways : List Wy) (back : Bool) (f : Nat → Int) (v k : Nat) : Prop :=
  ∃ hk : k < ways.length, endV back ways[k] = (v : Int) ∧ rkA rank (endU back ways[k]) < rkA rank (v : Int) ∧ 0 ≤ f (endU back ways[k]).toNat ∧ f (endU back ways[k]).toNat + yW ways[k] = f v
/-- The least of these. -/
def IsPrev (rank : List Int) (ways : List Wy) (back : Bool) (f : Nat → Int) (v k : Nat) : Prop := PrevOk rank ways back f v k ∧ ∀ j, PrevOk rank ways back f v j → k ≤ j
/-- From a place down to s. -/
inductive Chn (rank : List Int) (ways : List Wy) (back : Bool) (f : Nat → Int) (s : Nat) : Nat → List Int → Prop
  | nil : Chn rank ways back f s s []
  | cons {v k u : Nat} {l : List Int} (hv : v ≠ s) (h : IsPrev rank ways back f v k) (hk : k < ways.length) (hu : endU back ways[k] = (u : Int)) (c : Chn rank ways back f s u l) : Chn rank ways back f s v ((k : Int) :: l)

section
variable {rank : List Int} {ways : List Wy} {back : Bool} {f : Nat → Int} {s v k : Nat} {l : List Int}
theorem end_in (ok : OkH rank ways) (hk : k < ways.length) (back : Bool) : 0 ≤ endU back ways[k] ∧ endU back ways[k] < rank.length ∧ 0 ≤ endV back ways[k] ∧ endV back ways[k] < rank.length := by
  have hf := ok.f k hk; unfold OkF at hf
  unfold endU endV
  cases back with
  | true => simp only [if_true]; omega
  | false => simp only [Bool.false_eq_true, if_false]; omega
theorem IsPrev.uniq {j : Nat} (h : IsPrev rank ways back f v k) (g : IsPrev rank ways back f v j) : k = j := Nat.le_antisymm (h.2 j g.1) (g.2 k h.1)
theorem Chn.det (h : Chn rank ways back f s v l) : ∀ {l'}, Chn rank ways back f s v l' → l = l' := by
  induction h with
  | nil =>
    intro l' g
    cases g with
    | nil => rfl
    | cons hv _ _ _ _ => exact absurd rfl hv
  | cons hv h hk hu c ih =>
    intro l' g
    cases g with
    | nil => exact absurd rfl hv
    | cons _ h' hk' hu' c' =>
      have := h.uniq h'
      subst this
      rw [hu] at hu'
      have := Int.ofNat_inj.1 hu'
      subst this
      rw [ih c']
theorem prev_ex (ok : OkH rank ways) {top : Int} (hf : ∀ v, IsD (ES rank ways top back) s v (f v)) (hpos : ∀ u v x, ES rank ways top back u v x → 0 ≤ x) (hv : v ≠ s) (h0 : 0 ≤ f v) : ∃ k, PrevOk rank ways back f v k := by
  have hw := (hf v).wk h0
  generalize hd : f v = d at hw
  cases hw with
  | nil => exact absurd rfl hv
  | @snoc u _ x y w e =>
    obtain ⟨k, hk, k1, k2, k3, _, k5⟩ := ES_way ok e
    refine ⟨k, hk, k2, by rw [k1]; omega, ?_⟩
    have hu := (hf u).min w
    have hmin := (hf v).min ((hf u).wk hu.1 |>.snoc e)
    rw [k1, Int.toNat_natCast, k3]
    exact ⟨hu.1, by omega⟩
theorem prev_least (h : ∃ k, PrevOk rank ways back f v k) : ∃ k, IsPrev rank ways back f v k := by
  classical
  obtain ⟨k, hk⟩ := h
  induction k using Nat.strongRecOn with
  | ind k ih =>
    by_cases hj : ∃ j, j < k ∧ PrevOk rank ways back f v j
    · obtain ⟨j, h1, h2⟩ := hj; exact ih j h1 h2
    · exact ⟨k, hk, fun j hj2 => Nat.le_of_not_lt fun hlt => hj ⟨j, hlt, hj2⟩⟩
theorem Chn.ex (ok : OkH rank ways) {top : Int} (hf : ∀ v, IsD (ES rank ways top back) s v (f v)) (hpos : ∀ u v x, ES rank ways top back u v x → 0 ≤ x) : ∀ (r v : Nat), rkA rank (v : Int) < r → v < rank.length → 0 ≤ f v → ∃ l, Chn rank ways back f s v l ∧ l.length < r := by
  intro r
  induction r with
  | zero =>
    intro v hr hv
    have := okR_rk ok hv; omega
  | succ r ih =>
    intro v hr hvn h0
    by_cases hv : v = s
    · subst hv; exact ⟨[], .nil, by simp⟩
    · obtain ⟨k, hk⟩ := prev_least (prev_ex ok hf hpos hv h0)
      obtain ⟨hkl, h1, h2, h3, h4⟩ := id hk.1
      obtain ⟨e1, e2, _, _⟩ := end_in ok hkl back
      obtain ⟨u, hu⟩ := Int.eq_ofNat_of_zero_le e1
      rw [hu] at h2 h3 e2
      rw [Int.toNat_natCast] at h3
      obtain ⟨l, c, hl⟩ := ih u (by omega) (by omega) h3
      exact ⟨_, .cons hv hk hkl hu c, by simp only [List.length_cons]; omega⟩

/-- Ways, one behind the other. -/
inductive WW (ways : List Wy) : Int → List Int → Int → Int → Prop
  | nil {u : Int} : WW ways u [] u 0
  | cons {k : Nat} {l : List Int} {v x : Int} (hk : k < ways.length) (c : WW ways (yT ways[k]) l v x) : WW ways (yF ways[k]) ((k : Int) :: l) v (yW ways[k] + x)
theorem WW.of_eq {u v x y : Int} (h : WW ways u l v x) (e : x = y) : WW ways u l v y := e ▸ h
theorem WW.app {u v z x y : Int} {m : List Int} (h : WW ways u l v x) (g : WW ways v m z y) : WW ways u (l ++ m) z (x + y) := by
  induction h with
  | nil => exact g.of_eq (by omega)
  | cons hk c ih => exact (WW.cons hk (ih g)).of_eq (by omega)
theorem WW.one (hk : k < ways.length) : WW ways (yF ways[k]) [(k : Int)] (yT ways[k]) (yW ways[k]) := (WW.cons hk .nil).of_eq (by omega)
theorem Chn.up (h : Chn rank ways false f s v l) (hs : f s = 0) : WW ways (s : Int) l.reverse (v : Int) (f v) := by
  induction h with
  | nil => exact WW.nil.of_eq hs.symm
  | @cons v k u l hv h hk hu c ih =>
    obtain ⟨_, h1, h2, h3, h4⟩ := h.1
    have e1 : yF ways[k] = (u : Int) := hu
    have e2 : yT ways[k] = (v : Int) := h1
    rw [hu, Int.toNat_natCast] at h4
    have := ih.app (e1 ▸ WW.one hk)
    rw [List.reverse_cons, ← h4, ← e2]
    exact this
theorem Chn.dn (h : Chn rank ways true f s v l) (hs : f s = 0) : WW ways (v : Int) l (s : Int) (f v) := by
  induction h with
  | nil => exact WW.nil.of_eq hs.symm
  | @cons v k u l hv h hk hu c ih =>
    obtain ⟨_, h1, h2, h3, h4⟩ := h.1
    have e1 : yT ways[k] = (u : Int) := hu
    have e2 : yF ways[k] = (v : Int) := h1
    rw [hu, Int.toNat_natCast] at h4
    have := WW.cons hk (e1 ▸ ih)
    rw [e2] at this
    exact this.of_eq (by omega)
theorem WW.open_ {n : Nat} {arcs : List Arc} (hM : MapH n arcs rank ways) {u v x : Int} (h : WW ways u l v x) : ∀ y, walkF arcs u y (l.flatMap (opnF ways)) = some (v, y + x) := by
  induction h with
  | nil => intro y; simp [walkF]
  | @cons k l v x hk c ih =>
    intro y
    obtain ⟨l1, d, sz, hO, _⟩ := Opn.ex hM.ok hk
    rw [List.flatMap_cons, walkF_app, opnF_of hO, hO.walk hM hk y]
    simp only
    rw [ih, Int.add_assoc]
/-- All ways of a chain lead down. -/
theorem Chn.rank_ (h : Chn rank ways back f s v l) : ∀ x ∈ l, ∃ k : Nat, x = (k : Int) ∧ ∃ hk : k < ways.length, rkA rank (endU back ways[k]) < rkA rank (endV back ways[k]) := by
  induction h with
  | nil => intro x hx; simp at hx
  | @cons v k u l hv h hk hu c ih =>
    intro x hx
    rcases List.mem_cons.1 hx with rfl | hx
    · obtain ⟨_, h1, h2, _⟩ := h.1
      exact ⟨k, rfl, hk, by rw [h1]; exact h2⟩
    · exact ih x hx

/-- The chain of a place. -/
noncomputable def chnF (rank : List Int) (ways : List Wy) (back : Bool) (s : Nat) (v : Nat) : List Int := by
  classical exact if h : ∃ l, Chn rank ways back (clF rank ways rank.length back s) s v l then h.choose else []
theorem chnF_is (fit : FitH rank ways) (hs : s < rank.length) (hv : v < rank.length) (h0 : 0 ≤ clF rank ways rank.length back s v) : Chn rank ways back (clF rank ways rank.length back s) s v (chnF rank ways back s v) ∧ (chnF rank ways back s v).length < rank.length := by
  have hrk := okR_rk fit.ok hv
  obtain ⟨l, hl, hlen⟩ := Chn.ex fit.ok (clF_is fit hs) (ES_pos fit) rank.length v (by omega) hv h0
  have hx : ∃ l, Chn rank ways back (clF rank ways rank.length back s) s v l := ⟨l, hl⟩
  have he : chnF rank ways back s v = hx.choose := by unfold chnF; rw [dif_pos hx]
  have hc := hx.choose_spec
  rw [he]
  exact ⟨hc, by rw [hc.det hl]; exact hlen⟩
theorem cl_self (fit : FitH rank ways) (hs : s < rank.length) : clF rank ways rank.length back s s = 0 := (clF_is fit hs s).uniq (IsD.self (ES_pos fit))
/-- Is there one? -/
def ClIn (rank : List Int) (ways : List Wy) (back : Bool) (s m : Int) : Prop := 0 ≤ s ∧ s < rank.length ∧ 0 ≤ m ∧ m < rank.length ∧ 0 ≤ clF rank ways rank.length back s m.toNat
noncomputable def climbL (rank : List Int) (ways : List Wy) (s m : Int) : List Int := by
  classical exact if ClIn rank ways false s m then (chnF rank ways false s.toNat m.toNat).reverse else []
noncomputable def fallL (rank : List Int) (ways : List Wy) (m t : Int) : List Int := by
  classical exact if ClIn rank ways true t m then chnF rank ways true t.toNat m.toNat else []
noncomputable def clB (rank : List Int) (ways : List Wy) (back : Bool) (s m : Int) : Bool := by
  classical exact decide (ClIn rank ways back s m)
theorem clIn_iff {s m : Int} : ClIn rank ways back s m ↔ 0 ≤ m ∧ m < rank.length ∧ 0 ≤ clF rank ways rank.length back s m.toNat := by
  unfold ClIn
  constructor
  · exact fun h => h.2.2
  · intro h
    by_cases hs : 0 ≤ s ∧ s < rank.length
    · exact ⟨hs.1, hs.2, h⟩
    · rw [clF_no hs] at h; omega
theorem clB_t {s m : Int} (h : ClIn rank ways back s m) : clB rank ways back s m = true := by unfold clB; simp [h]
theorem clB_f {s m : Int} (h : ¬ ClIn rank ways back s m) : clB rank ways back s m = false := by unfold clB; simp [h]
theorem climbL_len (fit : FitH rank ways) (s m : Int) : (climbL rank ways s m).length ≤ rank.length := by
  unfold climbL
  split
  · rename_i h
    obtain ⟨h1, h2, h3, h4, h5⟩ := h
    obtain ⟨a, rfl⟩ := Int.eq_ofNat_of_zero_le h1
    obtain ⟨b, rfl⟩ := Int.eq_ofNat_of_zero_le h3
    have := (chnF_is (back := false) fit (show a < rank.length by omega) (show b < rank.length by omega) h5).2
    simp only [Int.toNat_natCast, List.length_reverse] at this ⊢
    omega
  · simp
theorem fallL_len (fit : FitH rank ways) (m t : Int) : (fallL rank ways m t).length ≤ rank.length := by
  unfold fallL
  split
  · rename_i h
    obtain ⟨h1, h2, h3, h4, h5⟩ := h
    obtain ⟨a, rfl⟩ := Int.eq_ofNat_of_zero_le h1
    obtain ⟨b, rfl⟩ := Int.eq_ofNat_of_zero_le h3
    have := (chnF_is (back := true) fit (show a < rank.length by omega) (show b < rank.length by omega) h5).2
    simp only [Int.toNat_natCast] at this ⊢
    omega
  · simp
end
end Go.Sh

/- Slices: a copy, turned round, cut by the last. -/
set_option maxRecDepth 100000
namespace Go.Sh
open Go.RowKit

section
variable {w : World} {s : SV} {xs : List Int}
theorem Own.of_blk {α : Type} {R : Rc α} {b : Nat} {l : List α} (h : Blk w b (R.flat l)) : Own R w ⟨some ⟨b, 0, none⟩, l.length, l.length⟩ l := ⟨[], rfl, rfl, .inr ⟨b, rfl, by rw [List.append_nil]; exact h⟩⟩
theorem own_one {b : Nat} {x : Int} (h : Blk w b [.int .i64 x]) : Own RI w ⟨some ⟨b, 0, none⟩, 1, 1⟩ [x] := Own.of_blk (R := RI) (l := [x]) h
theorem View.none_nil {α : Type} {R : Rc α} {l : List α} (h : View R w s l) (hn : s.a = none) : l = [] := by
  cases l with
  | nil => rfl
  | cons x l =>
    obtain ⟨p, hp, _⟩ := h.at_ 0 x rfl
    rw [hn] at hp; cases hp

theorem Clone_ok {K : SV → World → Prop} (h : View RI w s xs) (hn : xs.length < 2 ^ 40) (hk : ∀ t w', Ext w w' → Own RI w' t xs → Fsh w t → K t w') : sh_slices_Clone_int_int s K w := by
  unfold sh_slices_Clone_int_int
  cases hs : s.a with
  | none =>
    have := h.none_nil hs
    subst this
    exact hk _ w (.refl _) Own.nil fsh_nil
  | some a =>
    simp only [Option.isNone_some, cond_false]
    intro b1 w2 e2 g1 hB
    have ho : Own RI w2 ⟨some ⟨b1, 0, none⟩, 0, 0⟩ [] := Own.of_blk (R := RI) (l := []) hB
    have z2 := e2.size
    refine Own.app (R := RI) ho (h.ext e2) (by simp only [List.length_nil]; omega) (by simp only [List.length_nil]; omega) fun t w4 c4 ht hO => ?_
    rw [List.nil_append] at hO
    have fb : ∀ k, SV.blk ⟨some ⟨b1, 0, none⟩, 0, 0⟩ k → w.heap.size ≤ k := fun k ⟨p, hp, hq⟩ => by cases hp; rw [← hq]; exact g1
    refine hk t w4 (ext_chg e2 c4 fb) hO fun k hk => ?_
    rcases ht k hk with h' | h'
    · exact fb k h'
    · omega

theorem fi_self (xs : List Int) : xs = fi xs.length fun p => xs.getD p 0 := by
  apply List.ext_getElem
  · rw [fi_len]
  · intro i h1 h2
    rw [fi_get, List.getD_eq_getElem?_getD, List.getElem?_eq_getElem h1]; rfl
theorem Reverse_ok {K : World → Prop} (h : Own RI w s xs) (hn : xs.length < 2 ^ 40) (hk : ∀ w', Chg s.blk w w' → Own RI w' s xs.reverse → K w') : sh_slices_Reverse_int_int s K w := by
  unfold sh_slices_Reverse_int_int
  have hl := h.view.len
  let n := xs.length
  let f := fun (i p : Nat) => if p < i ∨ n < p + 1 + i then xs.getD (n - 1 - p) 0 else xs.getD p 0
  have fin : ∀ i, n ≤ 2 * i + 1 → fi n (f i) = xs.reverse := fun i hi => by
    apply List.ext_getElem
    · rw [fi_len, List.length_reverse]
    · intro p h1 h2
      rw [fi_get, List.getElem_reverse]
      have hp : p < n := by rw [fi_len] at h1; exact h1
      show (if p < i ∨ n < p + 1 + i then xs.getD (n - 1 - p) 0 else xs.getD p 0) = xs[n - 1 - p]
      by_cases q : p < i ∨ n < p + 1 + i
      · rw [if_pos q, List.getD_eq_getElem?_getD, List.getElem?_eq_getElem (show n - 1 - p < xs.length by omega)]; rfl
      · rw [if_neg q, List.getD_eq_getElem?_getD, List.getElem?_eq_getElem hp]
        simp only [Option.getD_some]
        congr 1; omega
  have h0 : Own RI w s (fi n (f 0)) := by
    have : fi n (f 0) = xs := by
      conv => rhs; rw [fi_self xs]
      refine fi_congr fun p hp => ?_
      show (if p < 0 ∨ n < p + 1 + 0 then _ else _) = _
      rw [if_neg (by omega)]
    rw [this]; exact h
  refine LoopT.gh (γ := Nat) (fun i (st : Int × Int × Unit) w' => st.1 = i ∧ st.2.1 = (n : Int) - 1 - i ∧ 2 * i ≤ n + 1 ∧ Chg s.blk w w' ∧ Own RI w' s (fi n (f i))) (fun i => n + 1 - i) 0 ⟨rfl, by dsimp only; rw [hl, w64 (by omega) (by omega)]; omega, by omega, .refl _ _, h0⟩ ?_
  rintro i ⟨x, y, _⟩ w3 ⟨hx, hy, hi, c3, hO⟩ J1 hJ1
  simp only at hx hy; subst hx hy
  dsimp only
  rw [Bool.cond_decide]
  by_cases hc : (i : Int) < (n : Int) - 1 - i
  · rw [if_pos hc]
    have hin : i < n := by omega
    have hjn : n - 1 - i < n := by omega
    have hj : (n : Int) - 1 - i = ((n - 1 - i : Nat) : Int) := by omega
    rw [hj]
    have fi1 : f i i = xs.getD i 0 := if_neg (by omega)
    have fj1 : f i (n - 1 - i) = xs.getD (n - 1 - i) 0 := if_neg (by omega)
    refine fi_rd hO.view hjn fun _ a0 => ⟨_, a0, fi_rd hO.view hin fun _ a1 => ⟨_, a1, ?_⟩⟩
    rw [fi1, fj1]
    refine fi_wr hO hin fun p put w9 e9 => put w9 _ _ (hO.ext e9) fun w10 c10 hO10 => ?_
    refine fi_wr hO10 hjn fun p put w12 e12 => put w12 _ _ (hO10.ext e12) fun w13 c13 hO13 w14 e14 => ?_
    have cc : Chg s.blk w w14 := ((((c3.trans (.of_ext (F := fun _ => False) e9) fun _ _ h => h.elim).trans c10 fun _ _ h => h).trans (.of_ext (F := fun _ => False) e12) fun _ _ h => h.elim).trans c13 fun _ _ h => h).trans (.of_ext (F := fun _ => False) e14) fun _ _ h => h.elim
    refine hJ1 (i + 1) _ _ ⟨wsucc (m := 2 ^ 40) (by omega) (by omega), by dsimp only; rw [w64 (by omega) (by omega)]; omega, by omega, cc, ?_⟩ (by omega)
    have e : fi n (fun j => if j = n - 1 - i then xs.getD i 0 else if j = i then xs.getD (n - 1 - i) 0 else f i j) = fi n (f (i + 1)) := fi_congr fun j hj => by
      show _ = if j < i + 1 ∨ n < j + 1 + (i + 1) then xs.getD (n - 1 - j) 0 else xs.getD j 0
      by_cases q1 : j = n - 1 - i
      · rw [if_pos q1, if_pos (by omega), show n - 1 - j = i by omega]
      · rw [if_neg q1]
        by_cases q2 : j = i
        · subst q2; rw [if_pos rfl, if_pos (by omega)]
        · rw [if_neg q2]
          show (if j < i ∨ n < j + 1 + i then _ else _) = _
          by_cases q3 : j < i ∨ n < j + 1 + i
          · rw [if_pos q3, if_pos (by omega)]
          · rw [if_neg q3, if_neg (by omega)]
    rw [← e]; exact hO13.ext e14
  · rw [if_neg hc]
    refine hk w3 c3 ?_
    rw [← fin i (by omega)]; exact hO

/-- s[:n-1] of an owned slice. -/
theorem Own.cutL {α : Type} {R : Rc α} {l : List α} {x : α} (h : Own R w s (l ++ [x])) {K : SV → Prop} (hk : ∀ t, Own R w t l → t.a = s.a → K t) : semSlice R.sz s.a s.len s.cap none (some ((l.length : Nat) : Int)) K := by
  obtain ⟨rest, h1, h2, h3⟩ := h
  simp only [List.length_append, List.length_cons, List.length_nil] at h1 h2
  unfold semSlice
  simp only [Option.getD_some, Option.getD_none, Int.toNat_natCast, Int.toNat_zero, Nat.sub_zero, Nat.zero_mul]
  refine ⟨by omega, fun y hy => by injection hy with hy; omega, by omega, by omega, ?_⟩
  rcases h3 with ⟨_, h, _⟩ | ⟨b, hb, hB⟩
  · exact absurd h (by simp)
  · rw [if_neg (by omega), hb]
    simp only [Option.map_some, addm, Nat.add_zero]
    exact hk _ ⟨x :: rest, rfl, by simp only [List.length_cons]; omega, .inr ⟨b, rfl, by simpa using hB⟩⟩ (by rw [hb])
end
end Go.Sh

/- Ways up, and down: the program. -/
set_option maxRecDepth 100000
namespace Go.Sh
open Go.RowKit

/-- What is known of unpack's function values. -/
structure HFindCV (CV : CVT) : Prop where
  hf : ∀ h u v K w, sh_hier_Hier_Find h u v (fun x w' => K (.int .i64 x) w') w → CV (.func (.func fn_hier_Hier_Find) #[.pointer h] #[]) [.int .i64 u, .int .i64 v] K w
  ff : ∀ u v a K w, sh_unpack_Fall_c1 u v a (fun x w' => K (.int .i64 x) w') w → CV (.func (.func fn_unpack_Fall_c1) #[] #[.pointer (some a)]) [.int .i64 u, .int .i64 v] K w
structure ChainCV (CV : CVT) : Prop where
  long : ∀ k a K w, sh_unpack_chain_c1 k a (fun x w' => K (.int .i64 x) w') w → CV (.func (.func fn_unpack_chain_c1) #[] #[.pointer (some a)]) [.int .i64 k] K w
  find : ∃ CV1, HFindCV CV1 ∧ ∀ u a b c K w, sh_unpack_chain_c2 CV1 u a b c (fun x w' => K (.int .i64 x) w') w →
    CV (.func (.func fn_unpack_chain_c2) #[] #[.pointer (some a), .pointer (some b), .pointer (some c)]) [.int .i64 u] K w

/-- The way between two places, from the lower one up (down to it); below 0: there is none. -/
def uWay (ways : List Wy) (back : Bool) (u v : Int) : Int := ofN (findW ways (if back = true then v else u) (if back = true then u else v))
/-- .. if the one is lower. -/
def uGo (rank : List Int) (ways : List Wy) (back : Bool) (v u : Int) : Int := if rankF rank u ≥ rankF rank v then -1 else uWay ways back u v
section
variable {rank : List Int} {ways : List Wy} {back : Bool}
theorem rankF_in {v : Nat} (hv : v < rank.length) : rankF rank (v : Int) = rkA rank (v : Int) := by unfold rankF; rw [if_pos (by omega)]
theorem uGo_some (ok : OkH rank ways) {u v : Nat} (hu : u < rank.length) (hv : v < rank.length) (h0 : 0 ≤ uGo rank ways back v u) : ∃ k : Nat, ∃ hk : k < ways.length, uGo rank ways back v u = (k : Int) ∧ endU back ways[k] = (u : Int) ∧ endV back ways[k] = (v : Int) ∧ rkA rank (u : Int) < rkA rank (v : Int) := by
  unfold uGo at h0 ⊢
  rw [rankF_in hu, rankF_in hv] at h0 ⊢
  by_cases hr : rkA rank (u : Int) ≥ rkA rank (v : Int)
  · rw [if_pos hr] at h0; omega
  · rw [if_neg hr] at h0 ⊢
    unfold uWay at h0 ⊢
    cases hf : findW ways (if back = true then (v : Int) else u) (if back = true then (u : Int) else v) with
    | none => rw [hf] at h0; exact absurd h0 (by decide)
    | some k =>
      obtain ⟨hk, h1, h2, _⟩ := findW_some hf
      refine ⟨k, hk, rfl, ?_, ?_, by omega⟩
      · unfold endU; cases back <;> simpa using (by first | exact h1 | exact h2)
      · unfold endV; cases back <;> simpa using (by first | exact h2 | exact h1)
theorem uGo_of (ok : OkH rank ways) {u v k : Nat} (hu : u < rank.length) (hv : v < rank.length) (hk : k < ways.length) (h1 : endU back ways[k] = (u : Int)) (h2 : endV back ways[k] = (v : Int)) (h3 : rkA rank (u : Int) < rkA rank (v : Int)) : uGo rank ways back v u = (k : Int) := by
  unfold uGo
  rw [rankF_in hu, rankF_in hv, if_neg (by omega)]
  unfold uWay
  have := ok.f.find hk
  have e : findW ways (if back = true then (v : Int) else u) (if back = true then (u : Int) else v) = some k := by
    rw [← h1, ← h2]
    unfold endU endV
    cases back <;> simpa using this
  rw [e]; rfl
end

section
variable {CV : CVT} {w : World} {p : Option Addr} {rank : List Int} {ways : List Wy} {F : Nat → Prop} {back : Bool}
theorem ubefore_ok (fit : FitH rank ways) {s v : Nat} (hs : s < rank.length) (hv : v < rank.length) (hne : v ≠ s) (h0 : 0 ≤ clF rank ways rank.length back s v) {find0 long0 : Value} {reach : SV} {K : Int → Int → World → Prop}
    (h : View RE w reach (rowsL rank.length (clF rank ways rank.length back s) fun _ => true))
    (hfind : ∀ w1, Ext w w1 → ∀ u : Nat, u < rank.length → ∀ K' : Value → World → Prop, (∀ w'', Ext w1 w'' → K' (.int .i64 (uGo rank ways back v u)) w'') → CV find0 [.int .i64 (u : Int)] K' w1)
    (hlong : ∀ w1, Ext w w1 → ∀ (k : Nat) (hk : k < ways.length), ∀ K' : Value → World → Prop, (∀ w'', Ext w1 w'' → K' (.int .i64 (yW ways[k])) w'') → CV long0 [.int .i64 (k : Int)] K' w1)
    (hk : ∀ (k u : Nat) w' (hk : k < ways.length), Ext w w' → IsPrev rank ways back (clF rank ways rank.length back s) v k → endU back ways[k] = (u : Int) → K (k : Int) (u : Int) w') : sh_unpack_before CV reach (v : Int) find0 long0 K w := by
  have hn := fit.n
  have lrow := rowsL_len rank.length (clF rank ways rank.length back s) fun _ => true
  have hl := h.len
  have hb : ∀ u, u < rank.length → clF rank ways rank.length back s u < 2 ^ 62 := fun u hu => by
    rcases (clF_is (top := (rank.length : Int)) (back := back) fit hs u).ge with q | q
    · omega
    · have a := wk_len fit ((clF_is (top := (rank.length : Int)) (back := back) fit hs u).wk q)
      have := okR_rk fit.ok hu; have := okR_rk fit.ok hs
      omega
  unfold sh_unpack_before
  refine Find_ok h (by omega) fun w2 e2 => ?_
  have hfr : findR (rowsL rank.length (clF rank ways rank.length back s) fun _ => true) (v : Int) = clF rank ways rank.length back s v := findR_rows hv h0 rfl
  rw [hfr]
  generalize hL : rowsL rank.length (clF rank ways rank.length back s) (fun _ => true) = L at h lrow hl
  have hmem : ∀ e : Int × Int, e ∈ L ↔ ∃ u : Nat, u < rank.length ∧ 0 ≤ clF rank ways rank.length back s u ∧ e = ((u : Int), clF rank ways rank.length back s u) := fun e => by
    rw [← hL, rowsL_mem]
    exact ⟨fun ⟨u, a, b, _, d⟩ => ⟨u, a, b, d⟩, fun ⟨u, a, b, d⟩ => ⟨u, a, b, rfl, d⟩⟩
  let Cd := fun (e : Int × Int) (k : Nat) => ∃ hk : k < ways.length, uGo rank ways back v e.1 = (k : Int) ∧ e.2 + yW ways[k] = clF rank ways rank.length back s v
  let Bst := fun (i : Nat) (b fr : Int) => (b = -1 ∧ ∀ e ∈ L.take i, ∀ k, ¬ Cd e k) ∨ ∃ k : Nat, ∃ hk : k < ways.length, b = (k : Int) ∧ fr = endU back ways[k] ∧ PrevOk rank ways back (clF rank ways rank.length back s) v k ∧ ∀ e ∈ L.take i, ∀ j, Cd e j → k ≤ j
  refine Join.cut (fun (t : Int × Int × Unit) w' => Ext w w' ∧ Bst L.length t.1 t.2.1) (fun J hJ => ?_) ?_
  · refine LoopT.gh (γ := Nat) (fun i (st : Int × Int × Int × Unit) w' => st.2.2.1 = i ∧ i ≤ L.length ∧ Ext w w' ∧ Bst i st.1 st.2.1) (fun i => L.length - i) 0 ⟨rfl, Nat.zero_le _, e2, .inl ⟨rfl, fun e he => by simp at he⟩⟩ ?_
    rintro i ⟨b, fr, x, _⟩ w6 ⟨hx, hi, e6, hB⟩ J1 hJ1
    simp only at hx; subst hx
    dsimp only at hB ⊢
    rw [Bool.cond_decide]
    by_cases hc : (i : Int) < (reach.len : Int)
    · rw [if_pos hc]
      have hi' : i < L.length := by omega
      obtain ⟨u, hu, hu0, hLe⟩ := (hmem _).1 (List.getElem_mem hi')
      have htk : L.take (i + 1) = L.take i ++ [L[i]] := take_snoc' hi'
      refine re_idx (h.ext e6) (i := i) hi' fun _ a0 a1 => ⟨_, a0, _, a1, ?_⟩
      intro b10 w11 e11 g10 g10' w12 o12
      have z11 := e11.size; have z12 := o12.size
      have e12 : Ext w w12 := ext_off (e6.trans e11) o12 (by have := e6.size; omega)
      rw [hLe]
      have same : (∀ k, ¬ Cd L[i] k) ∨ (∃ j, Cd L[i] j ∧ 0 ≤ b ∧ b ≤ j) → ∀ w', Ext w12 w' → J1 (b, fr, IntKind.i64.wrap ((i : Int) + 1), ()) w' := fun hs w' e' => by
        refine hJ1 (i + 1) _ _ ⟨wsucc (m := 2 ^ 40) (by omega) (by omega), by omega, e12.trans e', ?_⟩ (by omega)
        dsimp only
        rcases hB with ⟨h1, h2⟩ | ⟨k, hk', h1, h2, h3, h4⟩
        · left
          refine ⟨h1, fun e he k hcd => ?_⟩
          rw [htk, List.mem_append, List.mem_singleton] at he
          rcases he with he | rfl
          · exact h2 e he k hcd
          · rcases hs with hs | ⟨j, _, hb0, _⟩
            · exact hs k hcd
            · omega
        · refine .inr ⟨k, hk', h1, h2, h3, fun e he j hcd => ?_⟩
          rw [htk, List.mem_append, List.mem_singleton] at he
          rcases he with he | rfl
          · exact h4 e he j hcd
          · rcases hs with hs | ⟨j', hcd', _, hbj⟩
            · exact absurd hcd (hs j)
            · obtain ⟨_, g1, _⟩ := hcd; obtain ⟨_, g2, _⟩ := hcd'
              rw [g1] at g2
              omega
      refine hfind w12 e12 u hu _ fun w15 e15 => ⟨_, rfl, kp1 e15 (by omega), ?_⟩
      have z15 := e15.size
      rw [Bool.cond_decide]
      by_cases hg : uGo rank ways back (v : Int) (u : Int) ≥ 0
      · rw [if_pos hg]
        intro w18 e18
        have z18 := e18.size
        obtain ⟨k, hkl, g1, g2, g3, g4⟩ := uGo_some fit.ok hu hv hg
        rw [g1]
        have hwb := fit.b _ (List.getElem_mem hkl)
        have hf := fit.ok.f k hkl; unfold OkF at hf
        have hub := hb u hu
        refine hlong w18 ((e12.trans e15).trans e18) k hkl _ fun w19 e19 => ⟨_, rfl, kp1 e19 (by omega), ?_⟩
        have e1219 := (e15.trans e18).trans e19
        rw [w64 (by omega) (by omega)]
        by_cases heq : clF rank ways rank.length back s u + yW ways[k] = clF rank ways rank.length back s v
        · rw [show ((clF rank ways rank.length back s u + yW ways[k]) == clF rank ways rank.length back s v) = true by rw [beq_iff_eq]; exact heq, cond_true]
          have hcd : Cd L[i] k := by rw [hLe]; exact ⟨hkl, g1, heq⟩
          have hpk : PrevOk rank ways back (clF rank ways rank.length back s) v k := ⟨hkl, g3, by rw [g2]; exact g4, by rw [g2, Int.toNat_natCast]; exact hu0, by rw [g2, Int.toNat_natCast]; exact heq⟩
          have take_ : (b < 0 ∨ (k : Int) < b) → ∀ w', Ext w12 w' → J1 ((k : Int), (u : Int), IntKind.i64.wrap ((i : Int) + 1), ()) w' := fun hlt w' e' => by
            refine hJ1 (i + 1) _ _ ⟨wsucc (m := 2 ^ 40) (by omega) (by omega), by omega, e12.trans e', .inr ⟨k, hkl, rfl, g2.symm, hpk, fun e he j hcd' => ?_⟩⟩ (by omega)
            rw [htk, List.mem_append, List.mem_singleton] at he
            rcases he with he | rfl
            · rcases hB with ⟨_, h2⟩ | ⟨k', _, h1, _, _, h4⟩
              · exact absurd hcd' (h2 e he j)
              · have := h4 e he j hcd'; omega
            · obtain ⟨_, g5, _⟩ := hcd'
              rw [hLe, g1] at g5; omega
          rw [Bool.cond_decide]; split
          · rename_i hb0
            exact fun w20 e20 w21 e21 => take_ (.inl hb0) w21 ((e1219.trans e20).trans e21)
          · rename_i hb0
            intro w22 e22
            rw [Bool.cond_decide]; split
            · rename_i hlt
              exact fun w23 e23 => take_ (.inr hlt) w23 ((e1219.trans e22).trans e23)
            · rename_i hlt
              exact same (.inr ⟨k, hcd, by omega, by omega⟩) w22 (e1219.trans e22)
        · rw [show ((clF rank ways rank.length back s u + yW ways[k]) == clF rank ways rank.length back s v) = false by rw [beq_eq_false_iff_ne]; exact heq, cond_false]
          intro w24 e24
          refine same (.inl fun j ⟨_, q1, q2⟩ => ?_) w24 (e1219.trans e24)
          rw [hLe, g1] at q1
          have := Int.ofNat_inj.1 q1
          subst this
          rw [hLe] at q2
          exact heq q2
      · rw [if_neg hg]
        intro w25 e25
        refine same (.inl fun j ⟨_, q1, _⟩ => ?_) w25 (e15.trans e25)
        rw [hLe] at q1
        simp only at q1; omega
    · rw [if_neg hc]
      have : i = L.length := by omega
      subst this
      exact hJ _ _ ⟨e6, hB⟩
  · rintro ⟨b, fr, _⟩ w27 ⟨e27, hB⟩
    dsimp only at hB ⊢
    have all : ∀ k, PrevOk rank ways back (clF rank ways rank.length back s) v k → ∃ e ∈ L.take L.length, Cd e k := fun k ⟨hkl, q1, q2, q3, q4⟩ => by
      obtain ⟨e1, e2', _, _⟩ := end_in fit.ok hkl back
      obtain ⟨u, hu⟩ := Int.eq_ofNat_of_zero_le e1
      rw [hu, Int.toNat_natCast] at q3 q4
      rw [hu] at q2 e2'
      rw [List.take_length]
      exact ⟨_, (hmem _).2 ⟨u, by omega, q3, rfl⟩, hkl, uGo_of fit.ok (by omega) hv hkl hu q1 q2, q4⟩
    rcases hB with ⟨_, h2⟩ | ⟨k, hkl, rfl, rfl, h3, h4⟩
    · obtain ⟨k, hkp⟩ := prev_ex fit.ok (clF_is fit hs) (ES_pos fit) hne h0
      obtain ⟨e, he, hcd⟩ := all k hkp
      exact absurd hcd (h2 e he k)
    · obtain ⟨e1, _, _, _⟩ := end_in fit.ok hkl back
      obtain ⟨u, hu⟩ := Int.eq_ofNat_of_zero_le e1
      rw [hu]
      refine hk k u w27 hkl e27 ⟨h3, fun j hj => ?_⟩ hu
      obtain ⟨e, he, hcd⟩ := all j hj
      exact h4 e he j hcd

theorem c1_ok {a : Addr} {k : Nat} {K : Int → World → Prop} (hH : HierA w p rank ways F) (ha : w.cell? a = some (.pointer p)) (hk : k < ways.length) (hK : ∀ w', Ext w w' → K (yW ways[k]) w') : sh_unpack_chain_c1 (k : Int) a K w := by
  unfold sh_unpack_chain_c1
  refine ⟨p, ha, HWay_ok hH (fun i hi hil w8 e8 => ?_) fun hno => absurd ⟨by omega, by omega⟩ hno⟩
  have : k = i := by omega
  subst this
  intro b9 w10 e10 g9 g9' w11 o11
  exact hK w11 (ext_off (e8.trans e10) o11 (by have := e8.size; omega))
theorem c2_ok {a1 a2 a3 : Addr} {u v : Int} {wv : Value} {K : Int → World → Prop} (hH : HierA w p rank ways F) (h1 : w.cell? a1 = some (.pointer p)) (h2 : w.cell? a2 = some (.int .i64 v)) (h3 : w.cell? a3 = some wv)
    (hw : ∀ w1, Ext w w1 → ∀ K' : Value → World → Prop, (∀ w'', Ext w1 w'' → K' (.int .i64 (uWay ways back u v)) w'') → CV wv [.int .i64 u, .int .i64 v] K' w1) (hK : ∀ w', Ext w w' → K (uGo rank ways back v u) w') : sh_unpack_chain_c2 CV u a1 a2 a3 K w := by
  unfold sh_unpack_chain_c2
  refine ⟨p, h1, Quiet.mk (rankF rank u) (fun w' e K' hK' => Rank_ok (hH.ext e) (hK' _ (.refl _))) ⟨p, h1, v, h2, Quiet.mk (rankF rank v) (fun w' e K' hK' => Rank_ok (hH.ext e) (hK' _ (.refl _))) fun w12 e12 => ?_⟩⟩
  unfold uGo at hK
  rw [Bool.cond_decide]; split
  · rename_i hr
    have := hK w12 e12
    rw [if_pos hr] at this; exact this
  · rename_i hr
    refine ⟨wv, e12.cell h3, v, e12.cell h2, hw w12 e12 _ fun w17 e17 => ⟨_, rfl, ?_⟩⟩
    have := hK w17 (e12.trans e17)
    rw [if_neg hr] at this; exact this

theorem chain_ok (hcv : ChainCV CV) (fit : FitH rank ways) (hH : HierA w p rank ways F) {s m : Nat} (hs : s < rank.length) (hm : m < rank.length) (h0 : 0 ≤ clF rank ways rank.length back s m) {wv : Value} {reach : SV} {K : SV → World → Prop}
    (hwv : ∃ g f c, wv = .func g f c) (h : View RE w reach (rowsL rank.length (clF rank ways rank.length back s) fun _ => true))
    (hway : ∀ CV1, HFindCV CV1 → ∀ w1, Ext w w1 → ∀ (u v : Int) (K' : Value → World → Prop), (∀ w'', Ext w1 w'' → K' (.int .i64 (uWay ways back u v)) w'') → CV1 wv [.int .i64 u, .int .i64 v] K' w1)
    (hk : ∀ t w', Ext w w' → Own RI w' t (chnF rank ways back s m) → Fsh w t → K t w') : sh_unpack_chain CV p reach (m : Int) (s : Int) wv K w := by
  obtain ⟨hC, hlen⟩ := chnF_is fit hs hm h0
  have hn := fit.n
  obtain ⟨CV1, hcv1, hc2⟩ := hcv.find
  unfold sh_unpack_chain
  intro b1 w2 e2 g1 g1' b3 w4 e4 g3 g3'
  have box : ∀ k : Prop, k → BoxV wv k := fun k hk => by obtain ⟨g, f, c, rfl⟩ := hwv; exact hk
  refine box _ ?_
  intro b5 w6 e6 g5 g5' h1 h3 h5
  have z2 := e2.size; have z4 := e4.size; have z6 := e6.size
  have e06 := (e2.trans e4).trans e6
  refine LoopT.gh (γ := Nat × List Int × List Int) (fun g (st : SV × Unit) w' => Ext w w' ∧ w6.heap.size ≤ w'.heap.size ∧ g.1 < rank.length ∧ 0 ≤ clF rank ways rank.length back s g.1 ∧ Chn rank ways back (clF rank ways rank.length back s) s g.1 g.2.2 ∧ g.2.1 ++ g.2.2 = chnF rank ways back s m ∧ Own RI w' st.1 g.2.1 ∧
    (∀ k, st.1.blk k → w6.heap.size ≤ k) ∧ Blk w' b1 [.pointer p] ∧ Blk w' b3 [.int .i64 (g.1 : Int)] ∧ Blk w' b5 [wv]) (fun g => g.2.2.length) (m, [], chnF rank ways back s m) ⟨e06, Nat.le_refl _, hm, h0, hC, rfl, Own.nil, (fun k ⟨q, hq, _⟩ => by cases hq), h1, h3, h5⟩ ?_
  rintro ⟨v, L, R⟩ ⟨t, _⟩ w9 ⟨e9, z9, hv, hv0, hCv, happ, hO, fO, h1, h3, h5⟩ J1 hJ1
  dsimp only at hv hv0 hCv happ hO fO h3 ⊢
  have c3 : ∀ {w' : World} {y : Int}, Blk w' b3 [.int .i64 y] → w'.cell? (⟨b3, 0, none⟩ : Addr) = some (.int .i64 y) := fun h => by rw [cell_blk h]; rfl
  have ne13 : b1 ≠ b3 := by omega
  have ne53 : b5 ≠ b3 := by omega
  refine ⟨_, c3 h3, ?_⟩
  have hLlen : L.length + R.length < rank.length := by rw [← List.length_append, happ]; exact hlen
  cases hCv with
  | nil =>
    rw [bne_self_eq_false, cond_false]
    rw [List.append_nil] at happ
    rw [happ] at hO
    exact hk t w9 e9 hO fun k hk => by have := fO k hk; omega
  | @cons _ k0 u0 l hne hp hkl hu c =>
    rw [show ((v : Int) != (s : Int)) = true by rw [bne_iff_ne]; omega, cond_true]
    refine ⟨_, c3 h3, ?_⟩
    have hH9 := hH.ext e9
    refine ubefore_ok (back := back) fit hs hv hne hv0 (h.ext e9) (fun w1 e1 u hu K' hK' => ?_) (fun w1 e1 k hk K' hK' => ?_) fun k u w14 hk' e14 hP hu' => ?_
    · refine hc2 _ _ _ _ _ _ (c2_ok (p := p) (back := back) (v := (v : Int)) (wv := wv) (hH9.ext e1) (by rw [cell_blk (e1.blkE h1)]; rfl) (c3 (e1.blkE h3)) (by rw [cell_blk (e1.blkE h5)]; rfl) (fun w2 e2 K2 hK2 => hway CV1 hcv1 w2 ((e9.trans e1).trans e2) _ _ K2 hK2) fun w' e' => hK' w' e')
    · exact hcv.long _ _ _ _ (c1_ok (p := p) (hH9.ext e1) (by rw [cell_blk (e1.blkE h1)]; rfl) hk fun w' e' => hK' w' e')
    · have hkk := hp.uniq hP
      subst hkk
      rw [hu] at hu'
      have := Int.ofNat_inj.1 hu'
      subst this
      obtain ⟨_, q1, q2, q3, _⟩ := hp.1
      rw [hu, Int.toNat_natCast] at q3
      have hun := (end_in fit.ok hkl back).2.1
      rw [hu] at hun
      have z14 := e14.size
      rw [Bool.cond_decide, if_neg (by omega)]
      simp only [List.length_cons] at hLlen
      refine push_ok (R := RI) (x := (k0 : Int)) (hO.ext e14) (by omega) (by omega) fun w16 s17 w18 e16 c18 hs17 hO17 => ?_
      have z16 := e16.size; have z18 := c18.size
      have nb : ∀ b, b < w6.heap.size → ¬ t.blk b := fun b hb hk => by have := fO b hk; omega
      have B1 := c18.blk ((e14.trans e16).blkE h1) (nb b1 (by omega))
      have B3 := c18.blk ((e14.trans e16).blkE h3) (nb b3 (by omega))
      have B5 := c18.blk ((e14.trans e16).blkE h5) (nb b5 (by omega))
      have f17 : ∀ k, s17.blk k → w6.heap.size ≤ k := fun k hk => by
        rcases hs17 k hk with q | q
        · exact fO k q
        · omega
      have e18 : Ext w w18 := ext_chg ((e9.trans e14).trans e16) c18 fun k hk => by have := fO k hk; omega
      refine stL_blk (b := b3) (o := 0) [.int .i64 (u0 : Int)] 0 w18 _ _ B3 (by simp) fun w19 o19 B3' => ?_
      have z19 := o19.size
      refine hJ1 (u0, L ++ [(k0 : Int)], l) _ w19 ⟨ext_off e18 o19 (by omega), by omega, by dsimp only; omega, q3, c, by rw [← happ]; simp, hO17.off o19 (fun hk => by have := f17 _ hk; omega), f17, B1.off o19 ne13, B3', B5.off o19 ne53⟩ (by simp only [List.length_cons]; omega)
end
end Go.Sh

/- HierTells. -/
set_option maxRecDepth 100000
namespace Go.Sh
open Go.RowKit

end Go.Sh

/- What a way opens to, and how deep: the reference, the program. -/
set_option maxRecDepth 100000
namespace Go.Sh
open Go.RowKit

theorem gN_some (k : Nat) : gN (some k) = (k : Int) := rfl
section
variable {rank : List Int} {ways : List Wy} {sr sy : SV} {w : World}
theorem maxI (a b : Nat) : (if (b : Int) > (a : Int) then (b : Int) else (a : Int)) = ((max a b : Nat) : Int) := by split <;> omega
end

section
variable {w : World} {p : Option Addr} {rank : List Int} {ways : List Wy} {F : Nat → Prop}
theorem DeepN_ok {k : Nat} {l : List Int} {d s : Nat} (hO : Opn ways k l d s) : ∀ n, d ≤ n → n ≤ 2 ^ 40 → ∀ (w : World) (K : Int → World → Prop), HierA w p rank ways F → (∀ w', Ext w w' → K (d : Int) w') → sh_unpack_Deep.n n p (k : Int) K w := by
  induction hO with
  | @arc k hk hm =>
    intro n hd _ w K hH hK
    obtain ⟨m, rfl⟩ : ∃ m, n = m + 1 := ⟨n - 1, by omega⟩
    unfold sh_unpack_Deep.n sh_unpack_Deep.step
    refine HWay_ok hH (fun i hi hil w7 e7 => ?_) fun hno => absurd ⟨by omega, by omega⟩ hno
    intro b8 w9 e9 g8 g8' w10 o10
    have z7 := e7.size; have z9 := e9.size; have z10 := o10.size
    have e10 : Ext w w10 := ext_off (e7.trans e9) o10 (by omega)
    rw [Bool.not_true, cond_false]
    refine HHalves_ok (hH.ext e10) (fun j hj hjl hne => ?_) fun _ w14 e14 => ⟨kp1 e14 (by omega), ?_⟩
    · have : k = j := by omega
      subst this; exact absurd hm hne
    rw [Bool.not_false, cond_true]
    exact hK w14 (e10.trans e14)
  | @mid k a b l m d e s t hk hm ha hb h1 h2 i1 i2 =>
    intro n hd h40 w K hH hK
    obtain ⟨n, rfl⟩ : ∃ m, n = m + 1 := ⟨n - 1, by omega⟩
    unfold sh_unpack_Deep.n sh_unpack_Deep.step
    refine HWay_ok hH (fun i hi hil w7 e7 => ?_) fun hno => absurd ⟨by omega, by omega⟩ hno
    intro b8 w9 e9 g8 g8' w10 o10
    have z7 := e7.size; have z9 := e9.size; have z10 := o10.size
    have e10 : Ext w w10 := ext_off (e7.trans e9) o10 (by omega)
    rw [Bool.not_true, cond_false]
    refine HHalves_ok (hH.ext e10) (fun j hj hjl hne w14 e14 => ⟨kp1 e14 (by omega), ?_⟩) fun hno => absurd (hno k rfl hk) hm
    have : k = j := by omega
    subst this
    have z14 := e14.size
    rw [ha, hb, gN_some, gN_some]
    simp only [Option.isSome_some, Bool.and_self, Bool.not_true, cond_false]
    refine i1 n (by omega) (by omega) w14 _ (hH.ext (e10.trans e14)) fun w16 e16 => ⟨kp1 e16 (by omega), ?_⟩
    have z16 := e16.size
    refine i2 n (by omega) (by omega) w16 _ (hH.ext ((e10.trans e14).trans e16)) fun w18 e18 => ⟨kp1 e18 (by omega), ?_⟩
    have := hK w18 (((e10.trans e14).trans e16).trans e18)
    rw [maxI, w64 (by omega) (by omega)]
    rw [show (1 : Int) + ((max d e : Nat) : Int) = ((1 + max d e : Nat) : Int) by omega]
    exact this
theorem Deep_ok {k : Int} {K : Int → World → Prop} (hH : HierA w p rank ways F) (hK : ∀ w', Ext w w' → K (deepF ways k) w') : sh_unpack_Deep p k K w := by
  have ok := hH.ok
  have hkk := ok.k
  by_cases hk : 0 ≤ k ∧ k < (ways.length : Int)
  · obtain ⟨k, rfl⟩ := Int.eq_ofNat_of_zero_le hk.1
    obtain ⟨l, d, s, h, hd⟩ := Opn.ex ok (show k < ways.length by omega)
    rw [deepF_of h] at hK
    exact ⟨d, DeepN_ok h d (Nat.le_refl _) (by have := ok.n; omega) w K hH hK⟩
  · rw [deepF_no hk] at hK
    refine ⟨1, ?_⟩
    unfold sh_unpack_Deep.n sh_unpack_Deep.step
    refine HWay_ok hH (fun i hi hil => absurd ⟨by omega, by omega⟩ hk) fun _ w7 e7 => ?_
    intro b8 w9 e9 g8 g8' w10 o10
    rw [Bool.not_false, cond_true]
    exact hK w10 (ext_off (e7.trans e9) o10 (by have := e7.size; omega))
end
end Go.Sh

/- Ways' arcs, by a stack. -/
set_option maxRecDepth 100000
namespace Go.Sh
open Go.RowKit

/-- How many openings a way takes. -/
noncomputable def szF (ways : List Wy) (k : Int) : Nat := by
  classical exact if h : ∃ s l d, 0 ≤ k ∧ Opn ways k.toNat l d s then h.choose else 1
section
variable {ways : List Wy}
theorem szF_of {k : Nat} {l : List Int} {d s : Nat} (h : Opn ways k l d s) : szF ways (k : Int) = s := by
  unfold szF
  have hx : ∃ s l d, 0 ≤ (k : Int) ∧ Opn ways (k : Int).toNat l d s := ⟨s, l, d, by omega, h⟩
  rw [dif_pos hx]
  obtain ⟨l', d', _, h'⟩ := hx.choose_spec
  exact (Opn.det h' h).2.2
theorem szF_pos (k : Int) : 1 ≤ szF ways k := by
  unfold szF
  split
  · rename_i h
    obtain ⟨l, d, _, h'⟩ := h.choose_spec
    have := h'.bd; omega
  · exact Nat.le_refl _
theorem sz_len : ∀ ks : List Int, ks.length ≤ (ks.map (szF ways)).sum
  | [] => Nat.zero_le _
  | k :: ks => by
    have := sz_len ks; have := szF_pos (ways := ways) k
    simp only [List.length_cons, List.map_cons, List.sum_cons]; omega
end

section
variable {w : World} {p : Option Addr} {rank : List Int} {ways : List Wy} {F : Nat → Prop}
theorem fl_snoc (S : List Int) (k : Int) : (S ++ [k]).reverse.flatMap (opnF ways) = opnF ways k ++ S.reverse.flatMap (opnF ways) := by simp
theorem open_ok {l0 : SV} {ks : List Int} {K : SV → World → Prop} (hH : HierA w p rank ways F) (h : View RI w l0 ks) (hT : (ks.map (szF ways)).sum < 2 ^ 40)
    (hk : ∀ t w', Ext w w' → Own RI w' t (ks.flatMap (opnF ways)) → Fsh w t → K t w') : sh_unpack_open p l0 K w := by
  have ok := hH.ok
  have hkl := sz_len (ways := ways) ks
  unfold sh_unpack_open
  refine Clone_ok h (by omega) fun s1 w2 e2 o1 f1 => ?_
  have z2 := e2.size
  refine Reverse_ok o1 (by omega) fun w3 c3 o3 => ?_
  have e3 : Ext w w3 := ext_chg e2 c3 f1
  refine LoopT.gh (γ := List Int × List Int) (fun g (st : SV × SV × Unit) w' => Ext w w' ∧ Own RI w' st.1 g.1 ∧ Own RI w' st.2.1 g.2 ∧ Fsh w st.1 ∧ Fsh w st.2.1 ∧ Dj st.1.blk st.2.1.blk ∧ g.1 ++ g.2.reverse.flatMap (opnF ways) = ks.flatMap (opnF ways) ∧ g.1.length + (g.2.map (szF ways)).sum ≤ (ks.map (szF ways)).sum) (fun g => (g.2.map (szF ways)).sum)
    ([], ks.reverse) ⟨e3, Own.nil, o3, fsh_nil, f1, (fun k ⟨q, hq, _⟩ => by cases hq), by simp, by simp [List.sum_reverse]⟩ ?_
  rintro ⟨L, S⟩ ⟨sL, sS, _⟩ w6 ⟨e6, oL, oS, fL, fS, dLS, hfl, hsum⟩ J1 hJ1
  dsimp only at oL oS fL fS dLS hfl hsum ⊢
  have lS := oS.view.len
  have hSl := sz_len (ways := ways) S
  rw [Bool.cond_decide]
  by_cases hc : (sS.len : Int) > 0
  · rw [if_pos hc]
    obtain ⟨S', k, rfl⟩ : ∃ S' k, S = S' ++ [k] := by
      rcases List.eq_nil_or_concat S with h | ⟨S', k, h⟩
      · rw [h] at lS; simp only [List.length_nil] at lS; omega
      · exact ⟨S', k, by rw [h, List.concat_eq_append]⟩
    simp only [List.length_append, List.length_cons, List.length_nil] at lS
    have hS1 : S'.length + 1 ≤ ((S' ++ [k]).map (szF ways)).sum := by have := hSl; simp only [List.length_append, List.length_cons, List.length_nil] at this; exact this
    have hw : IntKind.i64.wrap ((sS.len : Int) - 1) = ((S'.length : Nat) : Int) := by rw [w64 (by omega) (by omega)]; omega
    rw [hw]
    refine int_idx oS.view (i := S'.length) (by simp) fun _ a0 => ⟨_, a0, ?_⟩
    rw [List.getElem_append_right (Nat.le_refl _)]
    simp only [Nat.sub_self, List.getElem_cons_zero]
    refine oS.cutL (R := RI) fun s9 o9 ha9 => ?_
    have b9 : ∀ j, s9.blk j ↔ sS.blk j := fun j => by unfold SV.blk; rw [ha9]
    rw [fl_snoc] at hfl
    rw [List.map_append, List.sum_append] at hsum
    simp only [List.map_cons, List.map_nil, List.sum_cons, List.sum_nil, Nat.add_zero] at hsum
    have hms : ((S' ++ [k]).map (szF ways)).sum = (S'.map (szF ways)).sum + szF ways k := by simp
    rw [hms] at hJ1 hSl
    simp only [List.length_append, List.length_cons, List.length_nil] at hSl
    have z6 := e6.size
    refine HHalves_ok (hH.ext e6) (fun i hi hil hm w13 e13 => ?_) fun hno w13 e13 => ?_
    · subst hi
      obtain ⟨l, d, s, hO, _⟩ := Opn.ex ok hil
      cases hO with
      | arc _ hm' => exact absurd hm' hm
      | @mid _ a b l1 l2 d1 d2 s1' s2' _ _ ha hb h1 h2 =>
      have hO : Opn ways i _ _ _ := .mid hil hm ha hb h1 h2
      rw [ha, hb, gN_some, gN_some]
      simp only [Option.isSome_some, Bool.and_self, cond_true]
      intro b14 w15 e15 g14 hB
      have z13 := e13.size; have z15 := e15.size
      have v14 : View RI w15 ⟨some ⟨b14, 0, none⟩, 2, 2⟩ [(b : Int), (a : Int)] := (Own.of_blk (R := RI) (l := [(b : Int), (a : Int)]) hB).view
      have q1 := szF_of hO; have q2 := szF_of h1; have q3 := szF_of h2
      refine Own.app (R := RI) ((o9.ext e13).ext e15) v14 (by simp only [List.length_cons, List.length_nil]; omega) (by simp only [List.length_cons, List.length_nil]; omega) fun s16 w17 c17 h16 o16 => ?_
      have e15' := (e6.trans e13).trans e15
      refine hJ1 (L, S' ++ [(b : Int), (a : Int)]) _ w17 ⟨ext_chg e15' c17 fun j hj => fS j ((b9 j).1 hj), ((oL.ext e13).ext e15).chg c17 fun j h1 h2 => dLS j h1 ((b9 j).1 h2), o16, fL, fun j hj => ?_, fun j h1 h2 => ?_, ?_, ?_⟩ ?_
      · rcases h16 j hj with q | q
        · exact fS j ((b9 j).1 q)
        · omega
      · rcases h16 j h2 with q | q
        · exact dLS j h1 ((b9 j).1 q)
        · have := oL.lt h1; omega
      · rw [← hfl]
        have e1 := opnF_of hO; have e2 := opnF_of h1; have e3 := opnF_of h2
        rw [e1]
        simp [e2, e3]
      · simp only [List.map_append, List.map_cons, List.map_nil, List.sum_append, List.sum_cons, List.sum_nil, Nat.add_zero]
        omega
      · simp only [List.map_append, List.map_cons, List.map_nil, List.sum_append, List.sum_cons, List.sum_nil, Nat.add_zero]
        omega
    · rw [cond_false]
      have z13 := e13.size
      refine HWay_ok (hH.ext (e6.trans e13)) (fun i hi hil w24 e24 => ?_) fun hno2 w24 e24 => ?_
      · subst hi
        have hm := hno i rfl hil
        intro b25 w26 e26 g25 g25' w27 o27
        have z24 := e24.size; have z26 := e26.size; have z27 := o27.size
        have e27 : Ext w w27 := ext_off (((e6.trans e13).trans e24).trans e26) o27 (by omega)
        rw [cond_true]
        have oL27 := (oL.ext ((e13.trans e24).trans e26)).off o27 fun hj => by have := oL.lt hj; omega
        have o927 := (o9.ext ((e13.trans e24).trans e26)).off o27 fun hj => by have := o9.lt hj; omega
        have hO : Opn ways i _ _ _ := .arc hil hm
        have q1 := szF_of hO
        refine push_ok (R := RI) (x := yA ways[i]) oL27 (by omega) (by omega) fun w29 s30 w31 e29 c31 h30 o30 => ⟨kc1 c31 (by have := e29.size; omega) fun hj => by have := oL.lt hj; omega, ?_⟩
        have z29 := e29.size
        refine hJ1 (L ++ [yA ways[i]], S') _ w31 ⟨ext_chg (e27.trans e29) c31 fL, o30, (o927.ext e29).chg c31 fun j h1 h2 => dLS j h2 ((b9 j).1 h1), fun j hj => ?_, fun j hj => fS j ((b9 j).1 hj), fun j h1 h2 => ?_, ?_, ?_⟩ ?_
        · rcases h30 j hj with q | q
          · exact fL j q
          · omega
        · rcases h30 j h1 with q | q
          · exact dLS j q ((b9 j).1 h2)
          · have := o9.lt h2; omega
        · rw [← hfl, opnF_of hO]; simp
        · simp only [List.length_append, List.length_cons, List.length_nil]; omega
        · simp only; omega
      · intro b25 w26 e26 g25 g25' w27 o27
        have z24 := e24.size; have z26 := e26.size; have z27 := o27.size
        have e27 : Ext w w27 := ext_off (((e6.trans e13).trans e24).trans e26) o27 (by omega)
        rw [cond_false]
        have oL27 := (oL.ext ((e13.trans e24).trans e26)).off o27 fun hj => by have := oL.lt hj; omega
        have o927 := (o9.ext ((e13.trans e24).trans e26)).off o27 fun hj => by have := o9.lt hj; omega
        have hz := szF_pos (ways := ways) k
        refine hJ1 (L, S') _ w27 ⟨e27, oL27, o927, fL, fun j hj => fS j ((b9 j).1 hj), fun j h1 h2 => dLS j h1 ((b9 j).1 h2), ?_, by simp only; omega⟩ (by simp only; omega)
        rw [← hfl, opnF_no (by omega)]; rfl
  · rw [if_neg hc]
    have : S = [] := List.eq_nil_of_length_eq_zero (by omega)
    subst this
    simp only [List.reverse_nil, List.flatMap_nil, List.append_nil] at hfl
    rw [hfl] at oL
    exact hk sL w6 e6 oL fL

theorem sz_fit (ok : OkH rank ways) (hr : rank.length ≤ 14) (k : Int) : szF ways k ≤ 16384 := by
  by_cases hk : 0 ≤ k ∧ k < (ways.length : Int)
  · obtain ⟨k, rfl⟩ := Int.eq_ofNat_of_zero_le hk.1
    obtain ⟨l, d, s, h, hd⟩ := Opn.ex ok (show k < ways.length by omega)
    rw [szF_of h]
    have := h.bd
    have : 2 ^ d ≤ 2 ^ 14 := Nat.pow_le_pow_right (by decide) (by omega)
    omega
  · unfold szF
    rw [dif_neg]
    · decide
    · rintro ⟨s, l, d, h0, h⟩
      exact hk ⟨h0, by have := h.lt; omega⟩
theorem szs_fit (ok : OkH rank ways) (hr : rank.length ≤ 14) : ∀ ks : List Int, (ks.map (szF ways)).sum ≤ 16384 * ks.length
  | [] => Nat.zero_le _
  | k :: ks => by
    have := szs_fit ok hr ks; have := sz_fit ok hr k
    simp only [List.map_cons, List.sum_cons, List.length_cons]; omega
theorem opn_len (ok : OkH rank ways) (hr : rank.length ≤ 14) (k : Int) : (opnF ways k).length ≤ 16384 := by
  by_cases hk : 0 ≤ k ∧ k < (ways.length : Int)
  · obtain ⟨k, rfl⟩ := Int.eq_ofNat_of_zero_le hk.1
    obtain ⟨l, d, s, h, hd⟩ := Opn.ex ok (show k < ways.length by omega)
    rw [opnF_of h]
    have := h.bd
    have : 2 ^ d ≤ 2 ^ 14 := Nat.pow_le_pow_right (by decide) (by omega)
    omega
  · rw [opnF_no hk]; decide
theorem Open_ok {k : Int} {K : SV → World → Prop} (hH : HierA w p rank ways F) (hr : rank.length ≤ 14) (hk : ∀ t w', Ext w w' → Own RI w' t (opnF ways k) → Fsh w t → K t w') : sh_unpack_Open p k K w := by
  unfold sh_unpack_Open
  intro b1 w2 e2 g1 hB
  have z2 := e2.size
  have hs := sz_fit hH.ok hr k
  refine open_ok (hH.ext e2) (own_one hB).view (by simp only [List.map_cons, List.map_nil, List.sum_cons, List.sum_nil]; omega) fun t w4 e4 o4 f4 => ?_
  rw [List.flatMap_cons, List.flatMap_nil, List.append_nil] at o4
  exact hk t w4 (e2.trans e4) o4 fun j hj => by have := f4 j hj; omega

/-! ### One hierarchy is known -/
def roofR : List Int := [1, 0, 2]
def roofW : List Wy := [(0, 1, 2, -1, 5), (1, 2, 3, -1, 3), (0, 2, 5, 1, -1)]
theorem roof_ok : OkH roofR roofW := by
  refine ⟨by decide, by decide, ⟨by decide, by decide⟩, fun i hi => ?_, fun y hy => ?_⟩
  · have : i = 0 ∨ i = 1 ∨ i = 2 := by simp [roofW] at hi; omega
    rcases this with rfl | rfl | rfl
    · show OkF 3 [] (0, 1, 2, -1, 5)
      unfold OkF; decide
    · show OkF 3 [(0, 1, 2, -1, 5)] (1, 2, 3, -1, 3)
      unfold OkF; decide
    · show OkF 3 [(0, 1, 2, -1, 5), (1, 2, 3, -1, 3)] (0, 2, 5, 1, -1)
      unfold OkF; decide
  · simp [roofW] at hy
    rcases hy with rfl | rfl | rfl <;> unfold OkW
    · rw [if_pos (by decide)]; decide
    · rw [if_pos (by decide)]; decide
    · rw [if_neg (by decide)]
      exact ⟨rfl, by decide, by decide, by decide, by decide, 0, 1, by decide, by decide, by decide⟩
theorem roof_opn : Opn roofW 2 [5, 3] 2 3 := .mid (k := 2) (a := 0) (b := 1) (l := [5]) (m := [3]) (d := 1) (e := 1) (s := 1) (t := 1) (by decide) (by decide) (by decide) (by decide) (.arc (by decide) (by decide)) (.arc (by decide) (by decide))
theorem known13_ok {K : Bool → World → Prop} (hk : ∀ w', Ext w w' → K true w') : sh_postroadlaw13_known K w := by
  unfold sh_postroadlaw13_known
  intro b1 w2 e2 g1 hB1 b3 w4 e4 g3 hB3
  have hr : View RI w4 ⟨some ⟨b1, 0, none⟩, 3, 3⟩ roofR := View.all (R := RI) (xs := roofR) (e4.blkE hB1)
  have hy : View RW w4 ⟨some ⟨b3, 0, none⟩, 3, 3⟩ roofW := View.all (R := RW) (xs := roofW) hB3
  refine HNew_ok hr hy (by decide) (by decide) (fun _ p w6 F e6 hH _ => ?_) (fun hno => absurd roof_ok hno)
  refine Open_ok (k := 2) hH (by decide) fun s7 w8 e8 o7 f7 => ?_
  rw [show opnF roofW 2 = [5, 3] from opnF_of roof_opn] at o7
  intro b9 w10 e10 g9 hB9
  have v9 : View RI w10 ⟨some ⟨b9, 0, none⟩, 2, 2⟩ [5, 3] := View.all (R := RI) (xs := [5, 3]) hB9
  refine sameI_ok (o7.ext e10).view v9 (by decide) fun w12 e12 => ?_
  rw [cond_true]
  have e612 := (e8.trans e10).trans e12
  refine Deep_ok (k := 2) (hH.ext e612) fun w14 e14 => ?_
  rw [show deepF roofW 2 = 2 from deepF_of roof_opn, show ((2 : Int) == 2) = true from rfl, cond_true]
  refine Deep_ok (k := 3) (hH.ext (e612.trans e14)) fun w16 e16 => ?_
  rw [deepF_no (by decide)]
  exact hk w16 (((e2.trans e4).trans e6).trans ((e612.trans e14).trans e16))
end
end Go.Sh

/- What two lists have in common; Meet, Both. -/
set_option maxRecDepth 100000
namespace Go.Sh
open Go.RowKit

abbrev Rc2 := Int × Int
/-- Strictly rising. -/
def Rz (l : List Rc2) : Prop := l.Pairwise fun a b => a.1 < b.1
/-- The pairs of the same place. -/
def com (xs ys : List Rc2) : List (Rc2 × Rc2) := xs.flatMap fun x => (ys.filter fun y => y.1 == x.1).map fun y => (x, y)
theorem com_nil (ys : List Rc2) : com [] ys = [] := rfl
theorem com_nil' (xs : List Rc2) : com xs [] = [] := by induction xs with | nil => rfl | cons x xs ih => simp [com]
theorem com_cons (x : Rc2) (xs ys : List Rc2) : com (x :: xs) ys = ((ys.filter fun y => y.1 == x.1).map fun y => (x, y)) ++ com xs ys := by simp [com]
theorem com_skip {y : Rc2} {xs ys : List Rc2} (h : ∀ x ∈ xs, y.1 ≠ x.1) : com xs (y :: ys) = com xs ys := by
  induction xs with
  | nil => rfl
  | cons x xs ih =>
    rw [com_cons, com_cons, ih fun z hz => h z (List.mem_cons_of_mem _ hz), List.filter_cons_of_neg (by simpa using h x List.mem_cons_self)]
theorem filter_no {x : Rc2} {ys : List Rc2} (h : ∀ y ∈ ys, y.1 ≠ x.1) : (ys.filter fun y => y.1 == x.1) = [] := by
  rw [List.filter_eq_nil_iff]; intro y hy; simpa using h y hy
theorem com_lt {x y : Rc2} {xs ys : List Rc2} (hy : Rz (y :: ys)) (h : x.1 < y.1) : com (x :: xs) (y :: ys) = com xs (y :: ys) := by
  rw [com_cons, filter_no, List.map_nil, List.nil_append]
  intro z hz
  rcases List.mem_cons.1 hz with rfl | hz
  · omega
  · have := (List.pairwise_cons.1 hy).1 z hz; omega
theorem com_gt {x y : Rc2} {xs ys : List Rc2} (hx : Rz (x :: xs)) (h : x.1 > y.1) : com (x :: xs) (y :: ys) = com (x :: xs) ys := by
  refine com_skip fun z hz => ?_
  rcases List.mem_cons.1 hz with rfl | hz
  · omega
  · have := (List.pairwise_cons.1 hx).1 z hz; omega
theorem com_eq {x y : Rc2} {xs ys : List Rc2} (hx : Rz (x :: xs)) (hy : Rz (y :: ys)) (h : x.1 = y.1) : com (x :: xs) (y :: ys) = (x, y) :: com xs ys := by
  rw [com_cons, List.filter_cons_of_pos (by simpa using h.symm), filter_no, com_skip]
  · rfl
  · intro z hz; have := (List.pairwise_cons.1 hx).1 z hz; omega
  · intro z hz; have := (List.pairwise_cons.1 hy).1 z hz; omega
theorem com_mem {xs ys : List Rc2} {p : Rc2 × Rc2} : p ∈ com xs ys ↔ p.1 ∈ xs ∧ p.2 ∈ ys ∧ p.1.1 = p.2.1 := by
  unfold com
  rw [List.mem_flatMap]
  constructor
  · rintro ⟨x, hx, hp⟩
    obtain ⟨y, hy, rfl⟩ := List.mem_map.1 hp
    rw [List.mem_filter] at hy
    exact ⟨hx, hy.1, (by simpa using hy.2 : y.1 = x.1).symm⟩
  · rintro ⟨h1, h2, h3⟩
    exact ⟨p.1, h1, List.mem_map.2 ⟨p.2, List.mem_filter.2 ⟨h2, by rw [beq_iff_eq]; exact h3.symm⟩, rfl⟩⟩
section
variable {w : World}
theorem View.tail1 {s : SV} {x : Rc2} {xs : List Rc2} (h : View RE w s (x :: xs)) (hc : s.len ≤ s.cap) {K : SV → Prop} (hk : ∀ t, View RE w t xs → t.len ≤ t.cap → K t) : semSlice 2 s.a s.len s.cap (some (1 : Int)) none K := by
  have hl := h.len
  simp only [List.length_cons] at hl
  unfold semSlice
  simp only [Option.getD_some, Option.getD_none, Int.toNat_natCast]
  refine ⟨by omega, fun x hx => (by cases hx), by omega, by omega, hk _ ⟨?_, ?_, ?_⟩ (by show s.len - 1 ≤ s.cap - 1; omega)⟩
  · show s.len - (1 : Int).toNat = xs.length
    have : (1 : Int).toNat = 1 := rfl
    omega
  · intro hne p hp
    have h1 : 1 ≤ xs.length := by cases xs with | nil => exact absurd rfl hne | cons _ _ => simp
    have : ¬ s.cap = (1 : Int).toNat := by have : (1 : Int).toNat = 1 := rfl; omega
    simp only [if_neg this] at hp
    obtain ⟨a, ha, rfl⟩ := Option.map_eq_some_iff.1 hp
    have := h.spot (by simp) a ha
    obtain ⟨b, o, sp⟩ := a
    simp only at this; subst this
    rw [addm]
  · intro i y hy
    obtain ⟨p, hp, hcell⟩ := h.at_ (i + 1) y (by simpa using hy)
    have hi := (List.getElem?_eq_some_iff.1 hy).1
    have : ¬ s.cap = (1 : Int).toNat := by have : (1 : Int).toNat = 1 := rfl; omega
    simp only [if_neg this, hp, Option.map_some]
    have hsp := h.spot (by simp) p hp
    obtain ⟨b, o, sp⟩ := p
    simp only at hsp; subst hsp
    refine ⟨_, rfl, fun j v hv => ?_⟩
    have := hcell j v hv
    rw [addm]
    simp only at this ⊢
    rw [← this]
    congr 2
    have e1 : (1 : Int).toNat = 1 := rfl
    have e2 : RE.sz = 2 := rfl
    rw [e1, e2, Nat.add_mul]; omega

/-- The pairs are given out, one by one; I tells what whoever takes them holds, F his blocks. -/
theorem common_ok {W w0 : World} {xs ys : List Rc2} {sa sb : SV} {b1 b2 : Nat} {Y0 : Int → Int → Int → Int → (Bool → World → Prop) → World → Prop} {I : List (Rc2 × Rc2) → (Nat → Prop) → World → Prop} {F0 : Nat → Prop} {K : World → Prop}
    (hx : Rz xs) (hy : Rz ys) (va : View RE W sa xs) (vb : View RE W sb ys) (ca : sa.len ≤ sa.cap) (cb : sb.len ≤ sb.cap) (e0 : Ext W w0) (hB1 : Blk w0 b1 [.slice sa.a sa.len sa.cap]) (hB2 : Blk w0 b2 [.slice sb.a sb.len sb.cap]) (g1 : W.heap.size ≤ b1) (g2 : W.heap.size ≤ b2) (hne : b1 ≠ b2)
    (hlt : ∀ d F w, I d F w → ∀ i, F i → i < w.heap.size) (hch : ∀ d F w w' G, I d F w → Chg G w w' → (∀ i, F i → ¬ G i) → I d F w')
    (hY : ∀ d F w x y r K', I d F w → Ext W w → com xs ys = d ++ (x, y) :: r → (∀ w' F', I (d ++ [(x, y)]) F' w' → Chg F w w' → (∀ i, F' i → F i ∨ w.heap.size ≤ i) → K' true w') → Y0 x.1 x.2 y.1 y.2 K' w)
    (h0 : I [] F0 w0) (hF0 : ∀ i, F0 i → W.heap.size ≤ i ∧ i ≠ b1 ∧ i ≠ b2)
    (hK : ∀ F w', I (com xs ys) F w' → Ext W w' → Chg (fun i => F0 i ∨ i = b1 ∨ i = b2) w0 w' → (∀ i, F i → F0 i ∨ w0.heap.size ≤ i) → K w') : sh_space_common_c1 Y0 ⟨b1, 0, none⟩ ⟨b2, 0, none⟩ K w0 := by
  unfold sh_space_common_c1
  have l1 := blk_lt hB1; have l2 := blk_lt hB2
  refine LoopT.gh (γ := List (Rc2 × Rc2) × List Rc2 × List Rc2 × (Nat → Prop)) (fun g (_ : Unit) w' => ∃ s1 s2, I g.1 g.2.2.2 w' ∧ Ext W w' ∧ Chg (fun i => F0 i ∨ i = b1 ∨ i = b2) w0 w' ∧ (∀ i, g.2.2.2 i → F0 i ∨ w0.heap.size ≤ i) ∧ com xs ys = g.1 ++ com g.2.1 g.2.2.1 ∧ Rz g.2.1 ∧ Rz g.2.2.1 ∧
      View RE W s1 g.2.1 ∧ View RE W s2 g.2.2.1 ∧ s1.len ≤ s1.cap ∧ s2.len ≤ s2.cap ∧ Blk w' b1 [.slice s1.a s1.len s1.cap] ∧ Blk w' b2 [.slice s2.a s2.len s2.cap]) (fun g => g.2.1.length + g.2.2.1.length) ([], xs, ys, F0)
    ⟨sa, sb, h0, e0, .refl _ _, fun i h => .inl h, rfl, hx, hy, va, vb, ca, cb, hB1, hB2⟩ ?_
  rintro ⟨d, xs', ys', F⟩ ⟨⟩ w3 ⟨s1, s2, hI, e3, c3, hF, hcom, rx, ry, v1, v2, k1, k2, hb1, hb2⟩ J1 hJ1
  simp only at hI hF hcom rx ry v1 v2
  have z3 := c3.size
  have hl1 := v1.len; have hl2 := v2.len
  have nF1 : ¬ F b1 := fun h => (hF _ h).elim (fun h => (hF0 _ h).2.1 rfl) fun h => by omega
  have nF2 : ¬ F b2 := fun h => (hF _ h).elim (fun h => (hF0 _ h).2.2 rfl) fun h => by omega
  have done : com xs' ys' = [] → K w3 := fun h => by rw [h, List.append_nil] at hcom; rw [← hcom] at hI; exact hK F w3 hI e3 c3 hF
  refine ⟨s1, by rw [cell_blk hb1]; rfl, ?_⟩
  rw [Bool.cond_decide]
  by_cases h1 : (s1.len : Int) > 0
  case neg =>
    rw [if_neg h1]
    have : xs' = [] := List.length_eq_zero_iff.1 (by omega)
    subst this
    exact done (com_nil _)
  rw [if_pos h1]
  refine ⟨s2, by rw [cell_blk hb2]; rfl, ?_⟩
  rw [Bool.cond_decide]
  by_cases h2 : (s2.len : Int) > 0
  case neg =>
    rw [if_neg h2]
    have : ys' = [] := List.length_eq_zero_iff.1 (by omega)
    subst this
    exact done (com_nil' _)
  rw [if_pos h2]
  obtain ⟨x, xs', rfl⟩ : ∃ x l, xs' = x :: l := List.exists_cons_of_ne_nil fun h => by subst h; simp at hl1; omega
  obtain ⟨y, ys', rfl⟩ : ∃ x l, ys' = x :: l := List.exists_cons_of_ne_nil fun h => by subst h; simp at hl2; omega
  refine ⟨s1, by rw [cell_blk hb1]; rfl, ?_⟩
  refine re_idx (v1.ext e3) (i := 0) (by simp) fun _ a0 a1 => ⟨_, a0, _, a1, ?_⟩
  refine ⟨s2, by rw [cell_blk hb2]; rfl, ?_⟩
  refine View.idx (R := RE) (v2.ext e3) (i := 0) (by omega) (by simp) fun a12 hsp hc12 => ?_
  obtain ⟨pb, po, ps⟩ := a12
  simp only at hsp; subst hsp
  have q0 : w3.cell? ((⟨pb, po, none⟩ : Addr).add 0) = some (.int .i64 y.1) := hc12 0 _ rfl
  have q1 : w3.cell? ((⟨pb, po, none⟩ : Addr).add 1) = some (.int .i64 y.2) := hc12 1 _ rfl
  refine ⟨_, q0, _, q1, ?_⟩
  intro b17 w18 e18 g17 g17' b19 w20 e20 g19 g19' w21 e21 w22 o22
  have z18 := e18.size; have z20 := e20.size; have z21 := e21.size; have z22 := o22.size
  have e22 : Ext w3 w22 := ext_off ((e18.trans e20).trans e21) o22 g17
  refine ⟨⟨_, e22.cell q0, _, e22.cell q1, rfl⟩, ⟨s2, by rw [cell_blk (e22.blkE hb2)]; rfl, rfl⟩, ?_⟩
  intro w23 e23 w24 o24 w25 e25
  have z23 := e23.size; have z24 := o24.size; have z25 := e25.size
  have g19 : w3.heap.size ≤ b19 := by
    rcases g19 with ⟨h, _⟩ | h
    · rcases h with h | h
      · exact h.elim
      · exact h.1
    · omega
  have e325 : Ext w3 w25 := (ext_off (e22.trans e23) o24 g19).trans e25
  have hI25 : I d F w25 := hch _ _ _ _ (fun _ => False) hI (.of_ext e325) fun _ _ h => h
  have bb1 := e325.blkE hb1; have bb2 := e325.blkE hb2
  have e25' := e3.trans e325
  have c25 := c3.trans (.of_ext (F := fun i => F0 i ∨ i = b1 ∨ i = b2) e325) fun _ _ h => h
  have kp : ∀ {w25 w28 : World} {b}, w3.heap.size ≤ w25.heap.size → b < w3.heap.size → b17 < w25.heap.size → b19 < w25.heap.size → Off b w25 w28 → Keeps [b19, b17] w25 w28 := fun {w25 w28 b} _ hb h17 h19 o => by
    refine kp_chg (.of_off (F := fun i => i = b) o rfl) fun i hi => ?_
    simp only [List.mem_cons, List.not_mem_nil, or_false] at hi
    rcases hi with rfl | rfl
    · exact ⟨h19, by omega⟩
    · exact ⟨h17, by omega⟩
  rw [Bool.cond_decide]
  simp only [List.getElem_cons_zero]
  by_cases hlt1 : x.1 < y.1
  · rw [if_pos hlt1]
    refine ⟨s1, by rw [cell_blk bb1]; rfl, ?_⟩
    refine v1.tail1 k1 fun s27 v27 k27 => ?_
    refine stL_blk (b := b1) (o := 0) _ 0 _ _ _ bb1 (by simp) fun w28 o28 hb28 => ?_
    refine ⟨kp (by omega) (by omega) (by omega) (by omega) o28, ?_⟩
    refine hJ1 (d, xs', y :: ys', F) () w28 ⟨s27, s2, hch _ _ _ _ _ hI25 (.of_off (F := fun i => i = b1) o28 rfl) fun i hi e => nF1 (e ▸ hi), ext_off e25' o28 g1, c25.trans (.of_off (F := fun i => i = b1) o28 rfl) fun i _ h => .inr (.inl h), hF, ?_, (List.pairwise_cons.1 rx).2, ry, v27, v2, k27, k2, hb28, bb2.off o28 (Ne.symm hne)⟩ (by simp)
    rw [hcom, com_lt ry hlt1]
  · rw [if_neg hlt1, Bool.cond_decide]
    by_cases hgt1 : x.1 > y.1
    · rw [if_pos hgt1]
      refine ⟨s2, by rw [cell_blk bb2]; rfl, ?_⟩
      refine v2.tail1 k2 fun s30 v30 k30 => ?_
      refine stL_blk (b := b2) (o := 0) _ 0 _ _ _ bb2 (by simp) fun w31 o31 hb31 => ?_
      refine ⟨kp (by omega) (by omega) (by omega) (by omega) o31, ?_⟩
      refine hJ1 (d, x :: xs', ys', F) () w31 ⟨s1, s30, hch _ _ _ _ _ hI25 (.of_off (F := fun i => i = b2) o31 rfl) fun i hi e => nF2 (e ▸ hi), ext_off e25' o31 g2, c25.trans (.of_off (F := fun i => i = b2) o31 rfl) fun i _ h => .inr (.inr h), hF, ?_, rx, (List.pairwise_cons.1 ry).2, v1, v30, k1, k30, bb1.off o31 hne, hb31⟩ (by simp)
      rw [hcom, com_gt rx hgt1]
    · rw [if_neg hgt1]
      have heq : x.1 = y.1 := by omega
      have hc2 := com_eq rx ry heq
      refine hY d F w25 x y (com xs' ys') _ hI25 e25' (by rw [hcom, hc2]) fun w33 F' hI33 c33 hF' => ?_
      have z33 := c33.size
      have lF : ∀ i, F i → i < w3.heap.size := fun i hi => hlt _ _ _ hI i hi
      have nb : ∀ b, w3.heap.size ≤ b → b < w25.heap.size → ¬ F b := fun b h1 _ h => by have := lF b h; omega
      refine ⟨kp_chg c33 fun i hi => ?_, ?_⟩
      · simp only [List.mem_cons, List.not_mem_nil, or_false] at hi
        rcases hi with rfl | rfl
        · exact ⟨by omega, nb _ g19 (by omega)⟩
        · exact ⟨by omega, nb _ g17 (by omega)⟩
      rw [Bool.not_true, cond_false]
      have bb1 := c33.blk bb1 nF1; have bb2 := c33.blk bb2 nF2
      have e33 : Ext W w33 := ext_chg e25' c33 fun i hi => (hF i hi).elim (fun h => (hF0 i h).1) fun h => by have := e0.size; omega
      have c33' := c25.trans c33 fun i hi h => (hF i h).elim .inl fun h' => .inl (by
        exfalso
        omega)
      have nF1' : ¬ F' b1 := fun h => (hF' _ h).elim nF1 fun h => by omega
      have nF2' : ¬ F' b2 := fun h => (hF' _ h).elim nF2 fun h => by omega
      refine ⟨s1, by rw [cell_blk bb1]; rfl, ?_⟩
      refine v1.tail1 k1 fun s35 v35 k35 => ?_
      refine ⟨s2, by rw [cell_blk bb2]; rfl, ?_⟩
      refine v2.tail1 k2 fun s38 v38 k38 => ?_
      intro w39 e39
      have z39 := e39.size
      refine stL_blk (b := b1) (o := 0) _ 0 _ _ _ (e39.blkE bb1) (by simp) fun w40 o40 hb40 => ?_
      have z40 := o40.size
      have bb2 := (e39.blkE bb2).off o40 (Ne.symm hne)
      refine ⟨kp (by omega) (by omega) (by omega) (by omega) o40, ⟨s2, by rw [cell_blk bb2]; rfl, rfl⟩, ?_⟩
      intro w41 e41
      have z41 := e41.size
      refine stL_blk (b := b2) (o := 0) _ 0 _ _ _ (e41.blkE bb2) (by simp) fun w42 o42 hb42 => ?_
      refine ⟨kp (by omega) (by omega) (by omega) (by omega) o42, fun w43 e43 => ?_⟩
      have i39 := hch _ _ _ _ (fun _ => False) hI33 (.of_ext e39) fun _ _ h => h
      have i40 := hch _ _ _ _ _ i39 (.of_off (F := fun i => i = b1) o40 rfl) fun i hi e => nF1' (e ▸ hi)
      have i41 := hch _ _ _ _ (fun _ => False) i40 (.of_ext e41) fun _ _ h => h
      have i42 := hch _ _ _ _ _ i41 (.of_off (F := fun i => i = b2) o42 rfl) fun i hi e => nF2' (e ▸ hi)
      have i43 := hch _ _ _ _ (fun _ => False) i42 (.of_ext e43) fun _ _ h => h
      have e42 : Ext W w42 := ext_off ((ext_off (e33.trans e39) o40 g1).trans e41) o42 g2
      have c39 := c33'.trans (.of_ext (F := fun i => F0 i ∨ i = b1 ∨ i = b2) e39) fun _ _ h => h
      have c40 := c39.trans (.of_off (F := fun i => i = b1) o40 rfl) fun i _ h => .inr (.inl h)
      have c41 := c40.trans (.of_ext (F := fun i => F0 i ∨ i = b1 ∨ i = b2) e41) fun _ _ h => h
      have c42 := c41.trans (.of_off (F := fun i => i = b2) o42 rfl) fun i _ h => .inr (.inr h)
      have c43 := c42.trans (.of_ext (F := fun i => F0 i ∨ i = b1 ∨ i = b2) e43) fun _ _ h => h
      refine hJ1 (d ++ [(x, y)], xs', ys', F') () w43 ⟨s35, s38, i43, e42.trans e43, c43, fun i hi => (hF' i hi).elim (hF i) fun h => by right; omega, ?_, (List.pairwise_cons.1 rx).2, (List.pairwise_cons.1 ry).2, v35, v38, k35, k38, ?_, e43.blkE hb42⟩ (by simp only [List.length_cons]; omega)
      · rw [hcom, hc2]; simp
      · exact e43.blkE ((e41.blkE hb40).off o42 hne)
end
end Go.Sh

/- Meet and Both; their reference. -/
set_option maxRecDepth 100000
namespace Go.Sh
open Go.RowKit

def meetS (s : Int × Int) (p : Rc2 × Rc2) : Int × Int := if s.2 = -1 ∨ IntKind.i64.wrap (p.1.2 + p.2.2) ≤ s.1 then (IntKind.i64.wrap (p.1.2 + p.2.2), p.1.1) else s
def meetD (d : List (Rc2 × Rc2)) : Int × Int := d.foldl meetS (-1, -1)
/-- The least sum, and where. -/
def meetF (xs ys : List Rc2) : Int × Int := meetD (com xs ys)
theorem meetD_snoc (d : List (Rc2 × Rc2)) (p : Rc2 × Rc2) : meetD (d ++ [p]) = meetS (meetD d) p := by unfold meetD; rw [List.foldl_append]; rfl
section
variable {w : World}
theorem Meet_ok {sa sb : SV} {xs ys : List Rc2} {K : Int → Int → World → Prop} (hx : Rz xs) (hy : Rz ys) (va : View RE w sa xs) (vb : View RE w sb ys) (ca : sa.len ≤ sa.cap) (cb : sb.len ≤ sb.cap)
    (hk : ∀ w', Ext w w' → K (meetF xs ys).1 (meetF xs ys).2 w') : sh_space_Meet sa sb K w := by
  unfold sh_space_Meet
  intro b1 w2 e2 g1 g1' b3 w4 e4 g3 g3' w5 o5 w6 o6 b1007 w1008 e1008 g7 g7' b1009 w1010 e1010 g9 g9' hB7 hB9
  have z2 := e2.size; have z4 := e4.size; have z5 := o5.size; have z6 := o6.size; have z8 := e1008.size; have z10 := e1010.size
  refine ⟨kp_ext (e1008.trans e1010) (by (intro b hb; simp only [List.mem_cons, List.not_mem_nil, or_false] at hb; omega)), fun hB1 hB3 D l w1013 e1013 gD hDl hl => ?_⟩
  have z13 := e1013.size
  have e6 : Ext w w6 := ext_off (ext_off (e2.trans e4) o5 g1) o6 (by omega)
  have e13 := (e6.trans e1008).trans (e1010.trans e1013)
  have n13 : b1 ≠ b3 := by omega
  refine common_ok (W := w) (w0 := w1013) (I := fun d F w' => F = (fun i => i = b1 ∨ i = b3 ∨ i = l) ∧ Blk w' b1 [.int .i64 (meetD d).1] ∧ Blk w' b3 [.int .i64 (meetD d).2] ∧ w'.heap[l]? = w1013.heap[l]?) (F0 := fun i => i = b1 ∨ i = b3 ∨ i = l)
    hx hy va vb ca cb e13 (e1013.blkE hB7) (e1013.blkE hB9) (by omega) (by omega) (by omega) ?_ ?_ ?_ ⟨rfl, e1013.blkE hB1, e1013.blkE hB3, rfl⟩ (fun i hi => by omega) ?_
  · rintro d F w' ⟨rfl, h1, h3, hL⟩ i hi
    rcases hi with rfl | rfl | rfl
    · exact blk_lt h1
    · exact blk_lt h3
    · rw [Array.getElem?_eq_getElem hl] at hL
      exact (Array.getElem?_eq_some_iff.1 hL).1
  · rintro d F w' w'' G ⟨rfl, h1, h3, hL⟩ c hG
    have ll : l < w'.heap.size := by
      rw [Array.getElem?_eq_getElem hl] at hL
      exact (Array.getElem?_eq_some_iff.1 hL).1
    exact ⟨rfl, c.blk h1 (hG _ (.inl rfl)), c.blk h3 (hG _ (.inr (.inl rfl))), by rw [c.block l ll (hG _ (.inr (.inr rfl)))]; exact hL⟩
  · rintro d F w1018 x y r K' ⟨rfl, h1, h3, hL⟩ e18 hcom hK'
    have ll : l < w1018.heap.size := by
      rw [Array.getElem?_eq_getElem hl] at hL
      exact (Array.getElem?_eq_some_iff.1 hL).1
    have l1 := blk_lt h1; have l3 := blk_lt h3
    refine ⟨hL, ?_⟩
    intro b1020 w1021 e1021 g20 g20' w1022 o1022 b1023 w1024 e1024 g23 g23' w1025 o1025 w1026 o1026
    have z21 := e1021.size; have z22 := o1022.size; have z24 := e1024.size; have z25 := o1025.size; have z26 := o1026.size
    have e25 : Ext w1018 w1025 := ext_off ((ext_off e1021 o1022 g20).trans e1024) o1025 (by omega)
    have c26 : Chg (fun i => i = b1 ∨ i = b3 ∨ i = l) w1018 w1026 := (Chg.of_ext (F := fun i => i = b1 ∨ i = b3 ∨ i = l) e25).trans (.of_off (F := fun i => i = l) o1026 rfl) fun i _ h => .inr (.inr h)
    have k1 := (e25.blkE h1).off o1026 (show b1 ≠ l by omega)
    have k3 := (e25.blkE h3).off o1026 (show b3 ≠ l by omega)
    have fin : ∀ w', Chg (fun i => i = b1 ∨ i = b3 ∨ i = l) w1018 w' → Blk w' b1 [.int .i64 (meetD (d ++ [(x, y)])).1] → Blk w' b3 [.int .i64 (meetD (d ++ [(x, y)])).2] → ∀ w'', Off l w' w'' → (w''.heap[l]? = w1013.heap[l]? → K' true w'') := fun w' c h1 h3 w'' o hh =>
      hK' w'' _ ⟨rfl, h1.off o (by omega), h3.off o (by omega), hh⟩ (c.trans (.of_off (F := fun i => i = l) o rfl) fun i _ h => .inr (.inr h)) fun i hi => .inl hi
    have write : (meetD (d ++ [(x, y)])) = (IntKind.i64.wrap (x.2 + y.2), x.1) → ∀ w1028, Ext w1026 w1028 → stL w1028 ⟨b1, 0, none⟩ [.int .i64 (IntKind.i64.wrap (x.2 + y.2))] 0 (fun w1029 => Keeps [b1023, b1020, l] w1028 w1029 ∧ ∀ w1030, Ext w1029 w1030 → stL w1030 ⟨b3, 0, none⟩ [.int .i64 x.1] 0 (fun w1031 => Keeps [b1023, b1020, l] w1030 w1031 ∧ ∀ w1032, Ext w1031 w1032 → ∀ w1033, Off l w1032 w1033 → (w1033.heap[l]? = w1013.heap[l]? → K' true w1033))) := fun hm w1028 e28 => by
      have z28 := e28.size
      refine stL_blk (b := b1) (o := 0) _ 0 _ _ _ (e28.blkE k1) (by simp) fun w1029 o29 hb1 => ?_
      have z29 := o29.size
      refine ⟨kp_chg (.of_off (F := fun i => i = b1) o29 rfl) fun i hi => ?_, fun w1030 e30 => ?_⟩
      · simp only [List.mem_cons, List.not_mem_nil, or_false] at hi; omega
      have z30 := e30.size
      refine stL_blk (b := b3) (o := 0) _ 0 _ _ _ (e30.blkE ((e28.blkE k3).off o29 (Ne.symm n13))) (by simp) fun w1031 o31 hb3 => ?_
      have z31 := o31.size
      refine ⟨kp_chg (.of_off (F := fun i => i = b3) o31 rfl) fun i hi => ?_, fun w1032 e32 => ?_⟩
      · simp only [List.mem_cons, List.not_mem_nil, or_false] at hi; omega
      have c28 := c26.trans (.of_ext (F := fun i => i = b1 ∨ i = b3 ∨ i = l) e28) fun _ _ h => h
      have c29 := c28.trans (.of_off (F := fun i => i = b1) o29 rfl) fun i _ h => .inl h
      have c30 := c29.trans (.of_ext (F := fun i => i = b1 ∨ i = b3 ∨ i = l) e30) fun _ _ h => h
      have c31 := c30.trans (.of_off (F := fun i => i = b3) o31 rfl) fun i _ h => .inr (.inl h)
      have c32 := c31.trans (.of_ext (F := fun i => i = b1 ∨ i = b3 ∨ i = l) e32) fun _ _ h => h
      exact fin w1032 c32 (by rw [hm]; exact e32.blkE ((e30.blkE hb1).off o31 n13)) (by rw [hm]; exact e32.blkE hb3)
    have ms := meetD_snoc d (x, y)
    unfold meetS at ms
    simp only at ms
    refine ⟨_, by rw [cell_blk k3]; rfl, ?_⟩
    by_cases hat : (meetD d).2 = -1
    · rw [show ((meetD d).2 == -1) = true by rw [hat]; rfl, cond_true]
      rw [if_pos (.inl hat)] at ms
      exact write ms
    · rw [show ((meetD d).2 == -1) = false by rw [beq_eq_false_iff_ne]; exact hat, cond_false]
      refine ⟨_, by rw [cell_blk k1]; rfl, ?_⟩
      rw [Bool.cond_decide]
      by_cases hle : IntKind.i64.wrap (x.2 + y.2) ≤ (meetD d).1
      · rw [if_pos hle]
        rw [if_pos (.inr hle)] at ms
        exact write ms
      · rw [if_neg hle]
        rw [if_neg (fun q => q.elim hat hle)] at ms
        exact fin w1026 c26 (by rw [ms]; exact k1) (by rw [ms]; exact k3)
  · rintro F w1042 ⟨rfl, h1, h3, hL⟩ e42 c42 _
    refine ⟨kp_chg c42 fun i hi => ?_, .inl ⟨hL, fun w1043 o43 => ?_⟩⟩
    · simp only [List.mem_cons, List.not_mem_nil, or_false] at hi; omega
    have k1 := h1.off o43 (show b1 ≠ l by omega)
    have k3 := h3.off o43 (show b3 ≠ l by omega)
    refine ⟨_, by rw [cell_blk k1]; rfl, _, by rw [cell_blk k3]; rfl, fun w1046 e46 w1047 o47 => ?_⟩
    exact hk w1047 (ext_off ((ext_off e42 o43 (by omega)).trans e46) o47 (by omega))

end
end Go.Sh

/- SpaceMeets, SpaceTurned. -/
set_option maxRecDepth 100000
namespace Go.Sh
open Go.RowKit

def sumP (p : Rc2 × Rc2) : Int := IntKind.i64.wrap (p.1.2 + p.2.2)
theorem meet_at {d : List (Rc2 × Rc2)} (h0 : ∀ p ∈ d, 0 ≤ p.1.1) : (d = [] ∧ meetD d = (-1, -1)) ∨ ∃ p ∈ d, meetD d = (sumP p, p.1.1) ∧ ∀ q ∈ d, sumP p ≤ sumP q := by
  suffices h : ∀ n, n ≤ d.length → (n = 0 ∧ meetD (d.take n) = (-1, -1)) ∨ ∃ p ∈ d.take n, meetD (d.take n) = (sumP p, p.1.1) ∧ ∀ q ∈ d.take n, sumP p ≤ sumP q by
    have := h d.length (Nat.le_refl _)
    rw [List.take_length] at this
    exact this.imp (fun ⟨a, b⟩ => ⟨List.length_eq_zero_iff.1 a, b⟩) id
  intro n
  induction n with
  | zero => intro _; exact .inl ⟨rfl, rfl⟩
  | succ n ih =>
    intro hn
    have hn' : n < d.length := by omega
    have e : d.take (n + 1) = d.take n ++ [d[n]] := by rw [List.take_add_one, List.getElem?_eq_getElem hn']; rfl
    right
    rw [e, meetD_snoc]
    unfold meetS
    rcases ih (by omega) with ⟨rfl, h2⟩ | ⟨p, hp, h2, h3⟩
    · rw [h2, if_pos (.inl rfl)]
      refine ⟨d[0], by simp, rfl, fun q hq => ?_⟩
      simp at hq; subst hq; exact Int.le_refl _
    · rw [h2]
      have hp0 := h0 p (List.mem_of_mem_take hp)
      by_cases hle : sumP d[n] ≤ sumP p
      · rw [if_pos (.inr hle)]
        refine ⟨d[n], List.mem_append_right _ (List.mem_singleton.2 rfl), rfl, fun q hq => ?_⟩
        rcases List.mem_append.1 hq with h | h
        · have := h3 q h; omega
        · rw [List.mem_singleton] at h; subst h; exact Int.le_refl _
      · rw [if_neg (fun q => q.elim (fun q => by simp only at q; omega) hle)]
        refine ⟨p, List.mem_append_left _ hp, rfl, fun q hq => ?_⟩
        rcases List.mem_append.1 hq with h | h
        · exact h3 q h
        · rw [List.mem_singleton] at h; subst h; omega

section
variable {CV : CVT} {w : World}
end
end Go.Sh

/- How far it is, by a hierarchy; QueryBy, QueryMeets. -/
set_option maxRecDepth 100000
namespace Go.Sh
open Go.RowKit

theorem Own.cap {α : Type} {R : Rc α} {w : World} {s : SV} {xs : List α} (h : Own R w s xs) : s.len ≤ s.cap := by
  obtain ⟨rest, h1, h2, _⟩ := h; omega

noncomputable def fwdL (rank : List Int) (ways : List Wy) (s : Int) : List Rc2 := rowsL rank.length (clF rank ways rank.length false s) fun _ => true
noncomputable def bckL (rank : List Int) (ways : List Wy) (t : Int) : List Rc2 := rowsL rank.length (clF rank ways rank.length true t) fun _ => true
noncomputable def whereF (rank : List Int) (ways : List Wy) (s t : Int) : Int × Int := meetF (fwdL rank ways s) (bckL rank ways t)

section
variable {CV : CVT} {w : World} {p : Option Addr} {rank : List Int} {ways : List Wy} {F : Nat → Prop}
theorem fwd_rz (s : Int) : Rz (fwdL rank ways s) := rowsL_pw _ _ _
theorem bck_rz (t : Int) : Rz (bckL rank ways t) := rowsL_pw _ _ _
theorem Where_ok (hcv : SpaceCV CV) {s t : Int} {K : Int → Int → World → Prop} (hH : HierA w p rank ways F) (fit : FitH rank ways) (hk : ∀ w', Ext w w' → K (whereF rank ways s t).1 (whereF rank ways s t).2 w') : sh_query_Where CV p s t K w := by
  unfold sh_query_Where
  refine Forward_ok hcv hH fit fun s1 w2 e2 h1 _ => ?_
  refine Back_ok hcv (hH.ext e2) fit fun s3 w4 e4 h3 _ => ?_
  exact Meet_ok (fwd_rz s) (bck_rz t) (h1.ext e4).view h3.view h1.cap h3.cap fun w' e => hk w' ((e2.trans e4).trans e)
theorem Far_ok (hcv : SpaceCV CV) {s t : Int} {K : Int → World → Prop} (hH : HierA w p rank ways F) (fit : FitH rank ways) (hk : ∀ w', Ext w w' → K (whereF rank ways s t).1 w') : sh_query_Far CV p s t K w := by
  unfold sh_query_Far
  exact Where_ok hcv hH fit hk

/-! ### One hierarchy is known -/
/-! ### As far as the map -/
theorem sum_w (fit : FitH rank ways) {s t : Nat} (hs : s < rank.length) (ht : t < rank.length) {m : Nat} (hm : m < rank.length) (h1 : 0 ≤ clF rank ways rank.length false s m) (h2 : 0 ≤ clF rank ways rank.length true t m) :
    IntKind.i64.wrap (clF rank ways rank.length false s m + clF rank ways rank.length true t m) = clF rank ways rank.length false s m + clF rank ways rank.length true t m := by
  have a := wk_len fit ((clF_is (top := (rank.length : Int)) (back := false) fit hs m).wk h1)
  have b := wk_len fit ((clF_is (top := (rank.length : Int)) (back := true) fit ht m).wk h2)
  have := okR_rk fit.ok hs; have := okR_rk fit.ok ht; have := okR_rk fit.ok hm
  have := fit.n
  exact w64 (by omega) (by omega)
theorem far_dst {n : Nat} {arcs : List Arc} (ok : OkMap (n : Int) arcs) (hM : MapH n arcs rank ways) (hn : n ≤ 12) {s t : Nat} (hs : s < n) (ht : t < n) : (whereF rank ways s t).1 = dst arcs s t := by
  have fit := hM.fit hn
  have hrn := hM.n
  have hs' : s < rank.length := by omega
  have ht' : t < rank.length := by omega
  have cf := fun m => clF_is (top := (rank.length : Int)) (back := false) fit hs' m
  have cb := fun m => clF_is (top := (rank.length : Int)) (back := true) fit ht' m
  refine IsD.uniq ?_ (dst_is ok s t)
  have mem : ∀ pq, pq ∈ com (fwdL rank ways s) (bckL rank ways t) ↔ ∃ m : Nat, m < rank.length ∧ 0 ≤ clF rank ways rank.length false s m ∧ 0 ≤ clF rank ways rank.length true t m ∧ pq = (((m : Int), clF rank ways rank.length false s m), ((m : Int), clF rank ways rank.length true t m)) := fun pq => by
    rw [com_mem]
    unfold fwdL bckL
    rw [rowsL_mem, rowsL_mem]
    constructor
    · rintro ⟨⟨a, a1, a2, _, a3⟩, ⟨b, b1, b2, _, b3⟩, h⟩
      rw [a3, b3] at h
      have : a = b := by simp only at h; omega
      subst this
      exact ⟨a, a1, a2, b2, Prod.ext a3 b3⟩
    · rintro ⟨m, m1, m2, m3, rfl⟩
      exact ⟨⟨m, m1, m2, rfl, rfl⟩, ⟨m, m1, m3, rfl, rfl⟩, rfl⟩
  have full : ∀ d, Wk (EA arcs) s t d → ∃ m : Nat, m < rank.length ∧ 0 ≤ clF rank ways rank.length false s m ∧ 0 ≤ clF rank ways rank.length true t m ∧ clF rank ways rank.length false s m + clF rank ways rank.length true t m ≤ d := fun d hd => by
    obtain ⟨m, x, z, w1, w2, hle⟩ := hM.co s t d hs ht hd
    have e1 : Wk (ES rank ways rank.length false) s m x := w1.mono fun u v q ⟨⟨y, hy, y1, y2, y3⟩, hlt⟩ => by
      obtain ⟨k, hk, rfl⟩ := List.getElem_of_mem hy
      have hf := hM.ok.f k hk; unfold OkF at hf
      rw [← y3]
      exact ES_of hM.ok hk y1 y2 (okR_rk hM.ok (show u < rank.length by omega)).2 hlt
    have e2 : Wk (ES rank ways rank.length true) t m z := w2.rev.mono fun u v q ⟨⟨y, hy, y1, y2, y3⟩, hlt⟩ => by
      obtain ⟨k, hk, rfl⟩ := List.getElem_of_mem hy
      have hf := hM.ok.f k hk; unfold OkF at hf
      rw [← y3]
      exact ES_of hM.ok hk (back := true) y2 y1 (okR_rk hM.ok (show u < rank.length by omega)).2 hlt
    have a := (cf m).min e1; have b := (cb m).min e2
    refine ⟨m, ?_, a.1, b.1, by omega⟩
    exact e1.keep (P := fun i => i < rank.length) (fun u v q e h => ES_dom fit u v q e h) hs'
  have h0 : ∀ pq ∈ com (fwdL rank ways s) (bckL rank ways t), 0 ≤ pq.1.1 := fun pq hpq => by
    obtain ⟨m, _, _, _, rfl⟩ := (mem pq).1 hpq
    simp only; omega
  unfold whereF meetF
  rcases meet_at h0 with ⟨he, hm⟩ | ⟨pq, hpq, hm, hmin⟩
  · rw [hm]
    refine .inl ⟨rfl, fun d hd => ?_⟩
    obtain ⟨m, m1, m2, m3, _⟩ := full d hd
    have := (mem _).2 ⟨m, m1, m2, m3, rfl⟩
    rw [he] at this; simp at this
  · rw [hm]
    obtain ⟨m, m1, m2, m3, rfl⟩ := (mem pq).1 hpq
    unfold sumP
    simp only
    rw [sum_w fit hs' ht' m1 m2 m3]
    refine .inr ⟨by omega, ((wk_map hM).1 ((cf m).wk m2)).trans ((wk_map hM).2 ((cb m).wk m3)), fun d hd => ?_⟩
    obtain ⟨m', q1, q2, q3, q4⟩ := full d hd
    have := hmin _ ((mem _).2 ⟨m', q1, q2, q3, rfl⟩)
    unfold sumP at this
    simp only at this
    rw [sum_w fit hs' ht' m1 m2 m3, sum_w fit hs' ht' q1 q2 q3] at this
    omega

end
end Go.Sh

/- Climb, Fall, Route, Arcs: the program. -/
set_option maxRecDepth 100000
namespace Go.Sh
open Go.RowKit

structure UnCV (CV : CVT) : Prop where
  sp : SpaceCV CV
  ch : ChainCV CV

noncomputable def routeL (rank : List Int) (ways : List Wy) (s t : Int) : List Int := if s = t ∧ 0 ≤ s ∧ s < rank.length then [] else if (whereF rank ways s t).2 < 0 then [] else climbL rank ways s (whereF rank ways s t).2 ++ fallL rank ways (whereF rank ways s t).2 t
noncomputable def routeB (rank : List Int) (ways : List Wy) (s t : Int) : Bool := decide ((s = t ∧ 0 ≤ s ∧ s < rank.length) ∨ 0 ≤ (whereF rank ways s t).2)

section
variable {CV : CVT} {w : World} {p : Option Addr} {rank : List Int} {ways : List Wy} {F : Nat → Prop}
theorem clF_ge (fit : FitH rank ways) {back : Bool} (s : Int) (v : Nat) : clF rank ways rank.length back s v = -1 ∨ 0 ≤ clF rank ways rank.length back s v := by
  by_cases hs : 0 ≤ s ∧ s < rank.length
  · obtain ⟨a, rfl⟩ := Int.eq_ofNat_of_zero_le hs.1
    exact (clF_is fit (show a < rank.length by omega) v).ge
  · exact .inl (clF_no hs v)
theorem findR_cl (fit : FitH rank ways) {back : Bool} (s m : Int) : findR (rowsL rank.length (clF rank ways rank.length back s) fun _ => true) m = if 0 ≤ m ∧ m < rank.length then clF rank ways rank.length back s m.toNat else -1 := by
  by_cases hm : 0 ≤ m ∧ m < rank.length
  · rw [if_pos hm]
    obtain ⟨v, rfl⟩ := Int.eq_ofNat_of_zero_le hm.1
    rw [Int.toNat_natCast]
    rcases clF_ge fit (back := back) s v with q | h0
    · rw [q, findR_not fun e he => ?_]
      obtain ⟨u, _, hu, _, rfl⟩ := rowsL_mem.1 he
      intro e
      have : u = v := by simp only at e; omega
      subst this; omega
    · exact findR_rows (by omega) h0 rfl
  · rw [if_neg hm]
    refine findR_not fun e he h => ?_
    obtain ⟨u, h1, _, _, rfl⟩ := rowsL_mem.1 he
    exact hm (by simp only at h; omega)
theorem findR_in (fit : FitH rank ways) {back : Bool} (s m : Int) : (findR (rowsL rank.length (clF rank ways rank.length back s) fun _ => true) m == -1) = !clB rank ways back s m := by
  rw [findR_cl fit]
  by_cases h : ClIn rank ways back s m
  · rw [clB_t h]
    obtain ⟨h1, h2, h3⟩ := clIn_iff.1 h
    rw [if_pos ⟨h1, h2⟩, show (clF rank ways rank.length back s m.toNat == -1) = false by rw [beq_eq_false_iff_ne]; omega]; rfl
  · rw [clB_f h]
    rw [clIn_iff] at h
    split
    · rename_i hm
      rcases clF_ge fit (back := back) s m.toNat with q | q
      · rw [q]; rfl
      · exact absurd ⟨hm.1, hm.2, q⟩ h
    · rfl

theorem Climb_ok (hcv : UnCV CV) {s m : Int} {K : SV → Bool → World → Prop} (hH : HierA w p rank ways F) (fit : FitH rank ways)
    (hk : ∀ t w', Ext w w' → Own RI w' t (climbL rank ways s m) → Fsh w t → K t (clB rank ways false s m) w') : sh_unpack_Climb CV p s m K w := by
  have hn := fit.n
  unfold sh_unpack_Climb
  refine Forward_ok hcv.sp hH fit fun s1 w2 e2 o1 f1 => ?_
  have lrow := rowsL_len rank.length (clF rank ways rank.length false s) fun _ => true
  refine Find_ok o1.view (by omega) fun w4 e4 => ?_
  rw [findR_in fit]
  by_cases hc : ClIn rank ways false s m
  case neg =>
    have hb : clB rank ways false s m = false := clB_f hc
    unfold climbL at hk
    rw [if_neg hc, hb] at hk
    rw [hb, Bool.not_false, cond_true]
    exact hk _ w4 (e2.trans e4) Own.nil fsh_nil
  have hb : clB rank ways false s m = true := clB_t hc
  unfold climbL at hk
  rw [if_pos hc, hb] at hk
  rw [hb, Bool.not_true, cond_false]
  obtain ⟨hs0, hs1, hm0, hm1, h0⟩ := hc
  obtain ⟨a, rfl⟩ := Int.eq_ofNat_of_zero_le hs0
  obtain ⟨b, rfl⟩ := Int.eq_ofNat_of_zero_le hm0
  rw [Int.toNat_natCast] at h0
  rw [Int.toNat_natCast, Int.toNat_natCast] at hk
  intro b5 w6 e6 g5 g5'
  have z2 := e2.size; have z4 := e4.size; have z6 := e6.size
  have e06 := (e2.trans e4).trans e6
  obtain ⟨_, hlen⟩ := chnF_is (back := false) fit (show a < rank.length by omega) (show b < rank.length by omega) h0
  refine chain_ok (back := false) hcv.ch fit (hH.ext e06) (by omega) (by omega) h0 ⟨_, _, _, rfl⟩ ((o1.ext e4).ext e6).view (fun CV1 h1 w1 e1 u v K' hK' => h1.hf p u v _ _ (HFind_ok (hH.ext (e06.trans e1)) (hK' _ (.refl _)))) fun s7 w8 e8 o7 f7 => ⟨kp1 e8 (by omega), ?_⟩
  generalize chnF rank ways false a b = ch at hlen o7 hk
  have z8 := e8.size
  intro b9 w10 e10 g9 g9' hB9
  have z10 := e10.size
  refine ⟨kp1 e10 (by omega), fun hB5 D l w13 e13 gD hDl hl => ?_⟩
  have z13 := e13.size
  have e013 := ((e06.trans e8).trans e10).trans e13
  have n59 : b5 ≠ b9 := by omega
  have n75 : ∀ k, s7.blk k → k ≠ b5 ∧ k ≠ l ∧ k ≠ D ∧ k < w13.heap.size := fun k hk => by have := f7 k hk; have := o7.lt hk; omega
  unfold sh_slices_Backward_int_int__c1
  have cB9 : ∀ {w' : World}, Blk w' b9 [.slice s7.a s7.len s7.cap] → w'.cell? (⟨b9, 0, none⟩ : Addr) = some (.slice s7.a s7.len s7.cap) := fun h => by rw [cell_blk h]; rfl
  have l7 := o7.view.len
  refine ⟨s7, cB9 (e13.blkE hB9), ?_⟩
  refine LoopT.gh (γ := Nat × SV) (fun g (st : Int × Unit) w' => st.1 = (ch.length : Int) - 1 - g.1 ∧ g.1 ≤ ch.length ∧ Ext w w' ∧ w13.heap.size ≤ w'.heap.size ∧ Blk w' b5 [.slice g.2.a g.2.len g.2.cap] ∧ Own RI w' g.2 (ch.reverse.take g.1) ∧ (∀ k, g.2.blk k → w13.heap.size ≤ k) ∧ w'.heap[l]? = w13.heap[l]? ∧ w'.heap[D]? = w13.heap[D]? ∧ Blk w' b9 [.slice s7.a s7.len s7.cap] ∧ Own RI w' s7 ch) (fun g => ch.length - g.1)
    (0, ⟨none, 0, 0⟩) ⟨by dsimp only; rw [l7, w64 (by omega) (by omega)]; omega, Nat.zero_le _, e013, Nat.le_refl _, e13.blkE hB5, Own.nil, (fun k ⟨q, hq, _⟩ => by cases hq), rfl, rfl, e13.blkE hB9, (o7.ext e10).ext e13⟩ ?_
  rintro ⟨d, so⟩ ⟨x, _⟩ w16 ⟨hx, hd, e16, z16, hB5, hO, fO, hl16, hD16, hB9, o7⟩ J1 hJ1
  dsimp only at hx hd hB5 hO fO ⊢
  subst hx
  rw [Bool.cond_decide]
  by_cases hc : (ch.length : Int) - 1 - d ≥ 0
  · rw [if_pos hc]
    refine ⟨s7, cB9 hB9, ?_⟩
    have hi : ch.length - 1 - d < ch.length := by omega
    rw [show (ch.length : Int) - 1 - d = ((ch.length - 1 - d : Nat) : Int) by omega]
    refine int_idx o7.view hi fun _ a0 => ⟨_, a0, ?_⟩
    refine ⟨hl16, fun w18 o18 => ?_⟩
    have z18 := o18.size
    have B5 := hB5.off o18 (show b5 ≠ l by omega)
    refine ⟨so, by rw [cell_blk B5]; rfl, ?_⟩
    have hO18 := hO.off o18 fun h => by have := fO _ h; omega
    have hlt : (ch.reverse.take d).length < 2 ^ 40 := by rw [List.length_take]; omega
    refine push_ok (R := RI) (x := ch[ch.length - 1 - d]) hO18 (by omega) (by omega) fun w21 s22 w23 e21 c23 hs22 hO22 => ?_
    have z21 := e21.size; have z23 := c23.size
    refine ⟨kc1 c23 (by omega) fun h => by have := fO _ h; omega, ?_⟩
    have f22 : ∀ k, s22.blk k → w13.heap.size ≤ k := fun k hk => by
      rcases hs22 k hk with q | q
      · exact fO k q
      · omega
    refine stL_blk (b := b5) (o := 0) _ 0 _ _ _ (c23.blk (e21.blkE B5) fun h => by have := fO _ h; omega) (by simp) fun w24 o24 B5' => ?_
    have z24 := o24.size
    refine ⟨kp_chg (.of_off (F := fun i => i = b5) o24 rfl) fun i hi => by simp only [List.mem_cons, List.not_mem_nil, or_false] at hi; omega, fun w25 o25 hl25 => ?_⟩
    have z25 := o25.size
    rw [Bool.not_true, cond_false]
    have e18 : Ext w w18 := ext_off e16 o18 (by omega)
    have e23 : Ext w w23 := ext_chg (e18.trans e21) c23 fun k hk => by have := fO k hk; have := e013.size; omega
    have e25 : Ext w w25 := ext_off (ext_off e23 o24 (by omega)) o25 (by omega)
    have D25 : w25.heap[D]? = w13.heap[D]? := by
      rw [o25.block D (by omega), o24.block D (by omega), c23.block D (by omega) (fun h => by have := fO _ h; omega), e21.blk (by omega), o18.block D (by omega)]; exact hD16
    have B9' : Blk w25 b9 [.slice s7.a s7.len s7.cap] := ((c23.blk (e21.blkE (hB9.off o18 (show b9 ≠ l by omega))) fun h => by have := fO _ h; omega).off o24 (Ne.symm n59)).off o25 (by omega)
    have o7' : Own RI w25 s7 ch := (((((o7.off o18 fun h => (n75 _ h).2.1 rfl).ext e21).chg c23 fun k h1 h2 => by have := n75 k h1; have := fO k h2; omega).off o24 fun h => (n75 _ h).1 rfl).off o25 fun h => (n75 _ h).2.1 rfl)
    refine hJ1 (d + 1, s22) _ w25 ⟨by dsimp only; rw [w64 (by omega) (by omega)]; omega, by dsimp only; omega, e25, by omega, B5'.off o25 (by omega), ?_, f22, hl25, D25, B9', o7'⟩ (by dsimp only; omega)
    have e : ch.reverse.take (d + 1) = ch.reverse.take d ++ [ch[ch.length - 1 - d]] := by
      rw [take_snoc' (by rw [List.length_reverse]; omega), List.getElem_reverse]
    rw [e]
    exact (hO22.off o24 fun h => by have := f22 _ h; omega).off o25 fun h => by have := f22 _ h; omega
  · rw [if_neg hc]
    have : d = ch.length := by omega
    subst this
    rw [List.take_of_length_le (by rw [List.length_reverse]; exact Nat.le_refl _)] at hO
    refine ⟨fun c hc => by simp only [List.mem_cons, List.not_mem_nil, or_false] at hc; subst hc; exact hD16, .inl ⟨hl16, fun w27 o27 => ⟨so, by rw [cell_blk (hB5.off o27 (show b5 ≠ l by omega))]; rfl, fun w29 o29 => ?_⟩⟩⟩
    have z27 := o27.size
    refine hk so w29 (ext_off (ext_off e16 o27 (by omega)) o29 (by omega)) ((hO.off o27 fun h => by have := fO _ h; omega).off o29 fun h => by have := fO _ h; omega) fun k hk => by have := fO k hk; have := e013.size; omega

theorem Fall_ok (hcv : UnCV CV) {m t : Int} {K : SV → Bool → World → Prop} (hH : HierA w p rank ways F) (fit : FitH rank ways)
    (hk : ∀ s w', Ext w w' → Own RI w' s (fallL rank ways m t) → Fsh w s → K s (clB rank ways true t m) w') : sh_unpack_Fall CV p m t K w := by
  have hn := fit.n
  unfold sh_unpack_Fall
  intro b1 w2 e2 g1 g1'
  have z2 := e2.size
  refine Back_ok hcv.sp (hH.ext e2) fit fun s3 w4 e4 o3 f3 => ⟨kp1 e4 (by omega), ?_⟩
  have z4 := e4.size
  have lrow := rowsL_len rank.length (clF rank ways rank.length true t) fun _ => true
  refine Find_ok o3.view (by omega) fun w6 e6 => ⟨kp1 e6 (by omega), ?_⟩
  have z6 := e6.size
  have e06 := (e2.trans e4).trans e6
  rw [findR_in fit]
  by_cases hc : ClIn rank ways true t m
  case neg =>
    have hb : clB rank ways true t m = false := clB_f hc
    unfold fallL at hk
    rw [if_neg hc, hb] at hk
    rw [hb, Bool.not_false, cond_true]
    exact hk _ w6 e06 Own.nil fsh_nil
  have hb : clB rank ways true t m = true := clB_t hc
  unfold fallL at hk
  rw [if_pos hc, hb] at hk
  rw [hb, Bool.not_true, cond_false]
  obtain ⟨hs0, hs1, hm0, hm1, h0⟩ := hc
  obtain ⟨a, rfl⟩ := Int.eq_ofNat_of_zero_le hs0
  obtain ⟨b, rfl⟩ := Int.eq_ofNat_of_zero_le hm0
  rw [Int.toNat_natCast] at h0
  rw [Int.toNat_natCast, Int.toNat_natCast] at hk
  intro hB1
  refine chain_ok (back := true) hcv.ch fit (hH.ext e06) (by omega) (by omega) h0 ⟨_, _, _, rfl⟩ (o3.ext e6).view (fun CV1 h1 w1 e1 u v K' hK' => h1.ff u v _ _ _ ⟨p, by rw [cell_blk (e1.blkE hB1)]; rfl, HFind_ok (hH.ext (e06.trans e1)) (hK' _ (.refl _))⟩) fun s7 w8 e8 o7 f7 => ?_
  exact hk s7 w8 (e06.trans e8) o7 fun k hk => by have := f7 k hk; omega

/-- Where climbs meet. -/
theorem where_in (fit : FitH rank ways) {s t : Int} (h : 0 ≤ (whereF rank ways s t).2) : ClIn rank ways false s (whereF rank ways s t).2 ∧ ClIn rank ways true t (whereF rank ways s t).2 ∧
    (whereF rank ways s t).1 = clF rank ways rank.length false s (whereF rank ways s t).2.toNat + clF rank ways rank.length true t (whereF rank ways s t).2.toNat := by
  have h0 : ∀ pq ∈ com (fwdL rank ways s) (bckL rank ways t), 0 ≤ pq.1.1 := fun pq hpq => by
    have := (com_mem.1 hpq).1
    unfold fwdL at this
    obtain ⟨v, _, _, _, he⟩ := rowsL_mem.1 this
    rw [he]; simp only; omega
  have hw : whereF rank ways s t = meetD (com (fwdL rank ways s) (bckL rank ways t)) := rfl
  rcases meet_at h0 with ⟨_, hm⟩ | ⟨pq, hpq, hm, _⟩
  · rw [hw, hm] at h; exact absurd h (by decide)
  · obtain ⟨c1, c2, c3⟩ := com_mem.1 hpq
    unfold fwdL at c1; unfold bckL at c2
    obtain ⟨a, a1, a2, _, a3⟩ := rowsL_mem.1 c1
    obtain ⟨b, b1, b2, _, b3⟩ := rowsL_mem.1 c2
    rw [a3, b3] at c3
    have : a = b := by simp only at c3; omega
    subst this
    rw [hw, hm]
    unfold sumP
    rw [a3, b3]
    simp only [Int.toNat_natCast]
    have i1 : ClIn rank ways false s (a : Int) := clIn_iff.2 ⟨by omega, by omega, by rw [Int.toNat_natCast]; exact a2⟩
    have i2 : ClIn rank ways true t (a : Int) := clIn_iff.2 ⟨by omega, by omega, by rw [Int.toNat_natCast]; exact b2⟩
    refine ⟨i1, i2, ?_⟩
    obtain ⟨s', rfl⟩ := Int.eq_ofNat_of_zero_le i1.1
    obtain ⟨t', rfl⟩ := Int.eq_ofNat_of_zero_le i2.1
    exact sum_w fit (by have := i1.2.1; omega) (by have := i2.2.1; omega) a1 a2 b2
theorem routeL_len (fit : FitH rank ways) (s t : Int) : (routeL rank ways s t).length ≤ 2 * rank.length := by
  unfold routeL
  split
  · simp
  · split
    · simp
    · rw [List.length_append]
      have := climbL_len fit s (whereF rank ways s t).2
      have := fallL_len fit (whereF rank ways s t).2 t
      omega
theorem Route_ok (hcv : UnCV CV) {s t : Int} {K : SV → Bool → World → Prop} (hH : HierA w p rank ways F) (fit : FitH rank ways)
    (hk : ∀ r w', Ext w w' → Own RI w' r (routeL rank ways s t) → Fsh w r → K r (routeB rank ways s t) w') : sh_unpack_Route CV p s t K w := by
  have hn := fit.n
  unfold sh_unpack_Route
  refine Join.cut (fun _ w' => w' = w ∧ ¬ (s = t ∧ 0 ≤ s ∧ s < rank.length)) (fun J hJ => ?_) ?_
  · by_cases hst : s = t
    · rw [show (s == t) = true by rw [beq_iff_eq]; exact hst, cond_true]
      refine Rank_ok hH ?_
      have hneg := rankF_neg hH.ok (v := s)
      rw [Bool.cond_decide]; split
      · rename_i h
        have hin : 0 ≤ s ∧ s < rank.length := Classical.byContradiction fun q => by have := hneg.2 q; omega
        unfold routeL routeB at hk
        rw [if_pos ⟨hst, hin⟩, decide_eq_true (.inl ⟨hst, hin⟩)] at hk
        exact hk _ w (.refl _) Own.nil fsh_nil
      · rename_i h
        exact hJ _ _ ⟨rfl, fun q => hneg.1 (by omega) q.2⟩
    · rw [show (s == t) = false by rw [beq_eq_false_iff_ne]; exact hst, cond_false]
      exact hJ _ _ ⟨rfl, fun q => hst q.1⟩
  · rintro _ w5 ⟨rfl, hno⟩
    unfold routeL routeB at hk
    rw [if_neg hno] at hk
    refine Where_ok hcv.sp hH fit fun w8 e8 => ?_
    refine Climb_ok hcv (hH.ext e8) fit fun s9 w11 e11 o9 f9 => ?_
    by_cases hm : 0 ≤ (whereF rank ways s t).2
    · obtain ⟨i1, i2, _⟩ := where_in fit hm
      rw [if_neg (by omega), decide_eq_true (.inr hm)] at hk
      rw [show clB rank ways false s (whereF rank ways s t).2 = true from clB_t i1, Bool.not_true, cond_false, show ((whereF rank ways s t).2 == -1) = false by rw [beq_eq_false_iff_ne]; omega, cond_false]
      refine Fall_ok hcv (hH.ext (e8.trans e11)) fit fun s12 w14 e14 o12 f12 => ?_
      have l1 := climbL_len fit s (whereF rank ways s t).2
      have l2 := fallL_len fit (whereF rank ways s t).2 t
      have z8 := e8.size; have z11 := e11.size; have z14 := e14.size
      refine Own.app (R := RI) (o9.ext e14) o12.view (by omega) (by omega) fun s15 w16 c16 h15 o15 => ?_
      refine hk s15 w16 (ext_chg ((e8.trans e11).trans e14) c16 fun k hk => by have := f9 k hk; omega) o15 fun k hk => ?_
      rcases h15 k hk with q | q
      · have := f9 k q; omega
      · omega
    · rw [if_pos (by omega), decide_eq_false (fun q => q.elim hno hm)] at hk
      have hni : ¬ ClIn rank ways false s (whereF rank ways s t).2 := fun h => hm h.2.2.1
      rw [show clB rank ways false s (whereF rank ways s t).2 = false from clB_f hni, Bool.not_false, cond_true]
      exact hk _ w11 (e8.trans e11) Own.nil fsh_nil
theorem Arcs_ok (hcv : UnCV CV) {s t : Int} {K : SV → Int → Bool → World → Prop} (hH : HierA w p rank ways F) (fit : FitH rank ways) (hr : rank.length ≤ 14)
    (hk : ∀ r w', Ext w w' → Own RI w' r ((routeL rank ways s t).flatMap (opnF ways)) → Fsh w r → K r (if routeB rank ways s t = true then (whereF rank ways s t).1 else -1) (routeB rank ways s t) w') : sh_unpack_Arcs CV p s t K w := by
  unfold sh_unpack_Arcs
  refine Route_ok hcv hH fit fun s1 w3 e3 o1 f1 => ?_
  cases hb : routeB rank ways s t with
  | false =>
    rw [Bool.not_false, cond_true]
    rw [hb] at hk
    have he : routeL rank ways s t = [] := by
      unfold routeB at hb
      rw [decide_eq_false_iff_not, not_or] at hb
      unfold routeL
      rw [if_neg hb.1, if_pos (by omega)]
    rw [he] at hk
    exact hk _ w3 e3 Own.nil fsh_nil
  | true =>
    rw [Bool.not_true, cond_false]
    rw [hb] at hk
    have hl := routeL_len fit s t
    have hs := szs_fit fit.ok hr (routeL rank ways s t)
    have z3 := e3.size
    refine open_ok (hH.ext e3) o1.view (by omega) fun s4 w5 e5 o4 f4 => ?_
    refine Far_ok hcv.sp (hH.ext (e3.trans e5)) fit fun w7 e7 => ?_
    exact hk s4 w7 ((e3.trans e5).trans e7) (o4.ext e7) fun k hk => by have := f4 k hk; omega
end
end Go.Sh

/- To many, and from many. -/
set_option maxRecDepth 100000
namespace Go.Sh
open Go.RowKit

section
variable {CV : CVT} {w : World} {p : Option Addr} {rank : List Int} {ways : List Wy} {F : Nat → Prop}

/-- Sums of what both lists have are of numbers. -/
theorem com_nn (fit : FitH rank ways) {s t : Int} {pq : Rc2 × Rc2} (h : pq ∈ com (fwdL rank ways s) (bckL rank ways t)) : 0 ≤ pq.1.1 ∧ 0 ≤ sumP pq := by
  obtain ⟨c1, c2, c3⟩ := com_mem.1 h
  unfold fwdL at c1; unfold bckL at c2
  obtain ⟨a, a1, a2, _, a3⟩ := rowsL_mem.1 c1
  obtain ⟨b, b1, b2, _, b3⟩ := rowsL_mem.1 c2
  rw [a3, b3] at c3
  have : a = b := by simp only at c3; omega
  subst this
  have hs : 0 ≤ s ∧ s < rank.length := by
    by_cases q : 0 ≤ s ∧ s < rank.length
    · exact q
    · rw [clF_no q] at a2; omega
  have ht : 0 ≤ t ∧ t < rank.length := by
    by_cases q : 0 ≤ t ∧ t < rank.length
    · exact q
    · rw [clF_no q] at b2; omega
  obtain ⟨s, rfl⟩ := Int.eq_ofNat_of_zero_le hs.1
  obtain ⟨t, rfl⟩ := Int.eq_ofNat_of_zero_le ht.1
  unfold sumP
  rw [a3, b3]
  simp only
  rw [sum_w fit (by omega) (by omega) a1 a2 b2]
  exact ⟨by omega, by omega⟩
end
end Go.Sh

/- Tables; QueryMany, QueryTables. -/
set_option maxRecDepth 100000
namespace Go.Sh
open Go.RowKit

section
variable {w0 w w' : World} {s : SV} {svs : List SV} {L : List (List Int)}
end

section
variable {CV : CVT} {w : World} {p : Option Addr} {rank : List Int} {ways : List Wy} {F : Nat → Prop} {sr sy : SV}
end
end Go.Sh

/- Climb, Fall, Route, Arcs: the reference. -/
set_option maxRecDepth 100000
namespace Go.Sh
open Go.RowKit

section
variable {w : World} {rank : List Int} {ways : List Wy} {sr sy : SV} {back : Bool}
theorem fm_len (ok : OkH rank ways) (hr : rank.length ≤ 14) : ∀ l : List Int, (l.flatMap (opnF ways)).length ≤ 16384 * l.length
  | [] => Nat.zero_le _
  | k :: l => by
    have := fm_len ok hr l; have := opn_len ok hr k
    simp only [List.flatMap_cons, List.length_append, List.length_cons]; omega
end
end Go.Sh

/- The reference's answers out of the table; what is known. -/
set_option maxRecDepth 100000
namespace Go.Sh
open Go.RowKit

section
variable {CV : CVT} {w : World} {N : Int} {s : SV} {arcs : List Arc}

section
variable {t : SV} {svs : List SV} {n : Nat}
end

end
end Go.Sh

/- UnpackRoutes, UnpackSelf, UnpackWalks, UnpackMeets. -/
set_option maxRecDepth 100000
namespace Go.Sh
open Go.RowKit

section
variable {CV : CVT} {w : World} {rank : List Int} {ways : List Wy} {sr sy : SV}
theorem where_no (fit : FitH rank ways) {s t : Int} (h : (whereF rank ways s t).2 < 0) : (whereF rank ways s t).1 = -1 := by
  have h0 : ∀ pq ∈ com (fwdL rank ways s) (bckL rank ways t), 0 ≤ pq.1.1 := fun pq hpq => by
    have := (com_mem.1 hpq).1
    unfold fwdL at this
    obtain ⟨v, _, _, _, he⟩ := rowsL_mem.1 this
    rw [he]; simp only; omega
  have hw : whereF rank ways s t = meetD (com (fwdL rank ways s) (bckL rank ways t)) := rfl
  rcases meet_at h0 with ⟨_, hm⟩ | ⟨pq, hpq, hm, _⟩
  · rw [hw, hm]
  · rw [hw, hm] at h
    have := h0 pq hpq
    simp only at h; omega
theorem where_self (fit : FitH rank ways) {s : Nat} (hs : s < rank.length) : (whereF rank ways (s : Int) (s : Int)).1 = 0 := by
  have h0 : ∀ pq ∈ com (fwdL rank ways (s : Int)) (bckL rank ways (s : Int)), 0 ≤ pq.1.1 := fun pq hpq => by
    have := (com_mem.1 hpq).1
    unfold fwdL at this
    obtain ⟨v, _, _, _, he⟩ := rowsL_mem.1 this
    rw [he]; simp only; omega
  have hw : whereF rank ways (s : Int) (s : Int) = meetD (com (fwdL rank ways (s : Int)) (bckL rank ways (s : Int))) := rfl
  have c1 : clF rank ways rank.length false (s : Int) s = 0 := cl_self fit hs
  have c2 : clF rank ways rank.length true (s : Int) s = 0 := cl_self fit hs
  have mem : (((s : Int), 0), ((s : Int), 0)) ∈ com (fwdL rank ways (s : Int)) (bckL rank ways (s : Int)) := by
    rw [com_mem]
    unfold fwdL bckL
    rw [rowsL_mem, rowsL_mem]
    exact ⟨⟨s, hs, by rw [c1]; exact Int.le_refl _, rfl, by rw [c1]⟩, ⟨s, hs, by rw [c2]; exact Int.le_refl _, rfl, by rw [c2]⟩, rfl⟩
  rcases meet_at h0 with ⟨he, _⟩ | ⟨pq, hpq, hm, hmin⟩
  · rw [he] at mem; simp at mem
  · have h1 := hmin _ mem
    have h2 := (com_nn fit hpq).2
    have e0 : sumP (((s : Int), 0), ((s : Int), 0)) = 0 := by show IntKind.i64.wrap ((0 : Int) + 0) = 0; decide
    rw [e0] at h1
    rw [hw, hm]
    simp only; omega
theorem where_ge (fit : FitH rank ways) {s t : Int} (h : 0 ≤ (whereF rank ways s t).2) : 0 ≤ (whereF rank ways s t).1 := by
  obtain ⟨i1, i2, he⟩ := where_in fit h
  have := i1.2.2.2.2; have := i2.2.2.2.2
  omega

/-- A climb's ways. -/
theorem climb_ww (fit : FitH rank ways) {s m : Int} (h : ClIn rank ways false s m) : WW ways s (climbL rank ways s m) m (clF rank ways rank.length false s m.toNat) ∧ ∀ x ∈ climbL rank ways s m, ∃ k : Nat, x = (k : Int) ∧ ∃ hk : k < ways.length, rkA rank (yF ways[k]) < rkA rank (yT ways[k]) := by
  have h' := h
  obtain ⟨h1, h2, h3, h4, h5⟩ := h
  obtain ⟨a, rfl⟩ := Int.eq_ofNat_of_zero_le h1
  obtain ⟨b, rfl⟩ := Int.eq_ofNat_of_zero_le h3
  rw [Int.toNat_natCast] at h5
  obtain ⟨hC, _⟩ := chnF_is (back := false) fit (show a < rank.length by omega) (show b < rank.length by omega) h5
  unfold climbL
  rw [if_pos h', Int.toNat_natCast, Int.toNat_natCast]
  exact ⟨hC.up (cl_self fit (by omega)), fun x hx => hC.rank_ x (List.mem_reverse.1 hx)⟩
theorem fall_ww (fit : FitH rank ways) {m t : Int} (h : ClIn rank ways true t m) : WW ways m (fallL rank ways m t) t (clF rank ways rank.length true t m.toNat) ∧ ∀ x ∈ fallL rank ways m t, ∃ k : Nat, x = (k : Int) ∧ ∃ hk : k < ways.length, rkA rank (yT ways[k]) < rkA rank (yF ways[k]) := by
  have h' := h
  obtain ⟨h1, h2, h3, h4, h5⟩ := h
  obtain ⟨a, rfl⟩ := Int.eq_ofNat_of_zero_le h1
  obtain ⟨b, rfl⟩ := Int.eq_ofNat_of_zero_le h3
  rw [Int.toNat_natCast] at h5
  obtain ⟨hC, _⟩ := chnF_is (back := true) fit (show a < rank.length by omega) (show b < rank.length by omega) h5
  unfold fallL
  rw [if_pos h', Int.toNat_natCast, Int.toNat_natCast]
  exact ⟨hC.dn (cl_self fit (by omega)), fun x hx => hC.rank_ x hx⟩
end
end Go.Sh

/- UnpackWalks, UnpackMeets. -/
set_option maxRecDepth 100000
namespace Go.Sh
open Go.RowKit

section
variable {CV : CVT} {w : World} {rank : List Int} {ways : List Wy} {sr sy : SV}
/-- A route's ways. -/
theorem route_ww (fit : FitH rank ways) {s t : Int} (h : routeB rank ways s t = true) : WW ways s (routeL rank ways s t) t (whereF rank ways s t).1 := by
  unfold routeB at h
  rw [decide_eq_true_iff] at h
  unfold routeL
  by_cases hst : s = t ∧ 0 ≤ s ∧ s < rank.length
  · rw [if_pos hst]
    obtain ⟨rfl, h0, h1⟩ := hst
    obtain ⟨a, rfl⟩ := Int.eq_ofNat_of_zero_le h0
    rw [where_self fit (by omega)]
    exact .nil
  · rw [if_neg hst]
    have hm := h.resolve_left hst
    rw [if_neg (by omega)]
    obtain ⟨i1, i2, he⟩ := where_in fit hm
    rw [he]
    exact (climb_ww fit i1).1.app (fall_ww fit i2).1
theorem UnpackWalks_ok (hcv : UnCV CV) {n0 a0 : Int} {s : SV} {arcs0 : List Arc} {K : Bool → World → Prop} (h : View RD w s arcs0) (ha : 0 ≤ a0 ∧ a0 < 256) (hk : ∀ w', Ext w w' → K true w') : sh_postroadlaw13_UnpackWalks CV n0 s a0 K w := by
  unfold sh_postroadlaw13_UnpackWalks
  refine Of07_ok h fun x1 s2 w3 arcs e3 h1 h12 ok _ hA fA => ?_
  intro b4 w5 e5 g4 g4' w6 o6
  have z3 := e3.size; have z5 := e5.size; have z6 := o6.size
  have e36 : Ext w3 w6 := ext_off e5 o6 g4
  obtain ⟨n, rfl⟩ := Int.eq_ofNat_of_zero_le (show 0 ≤ x1 by omega)
  refine Of9_ok (hA.ext e36).view ok (by omega) fun s7 s8 w9 rank ways e9 hR hW fR fW dRW hM => ⟨kp1 e9 (by omega), ?_⟩
  have z9 := e9.size
  have e09 := (e3.trans e36).trans e9
  have hok := hM.ok
  have fit := hM.fit (by omega)
  have hrn := hM.n
  refine HNew_ok hR.view hW.view (by have := hok.n; omega) (by have := hok.k; omega) (fun _ p w11 F e11 hH hF => ⟨kp1 e11 (by omega), ?_⟩) fun hno => absurd hok hno
  have z11 := e11.size
  have e011 := e09.trans e11
  refine rAll_ok ok (by omega) ((hA.ext e36).ext (e9.trans e11)).view fun s12 svs w13 e13 hT fT fS => ⟨kp1 e13 (by omega), ?_⟩
  have z13 := e13.size
  have e013 := e011.trans e13
  rw [if_neg (by omega)]
  obtain ⟨u, hu, hue⟩ : ∃ v : Nat, v < n ∧ (IntKind.i64.wrap a0).tmod (n : Int) = (v : Int) := by
    have : 0 ≤ (IntKind.i64.wrap a0).tmod (n : Int) ∧ (IntKind.i64.wrap a0).tmod (n : Int) < n := by
      rw [w64 (by omega) (by omega), Int.tmod_eq_emod_of_nonneg ha.1]
      exact ⟨Int.emod_nonneg _ (by omega), Int.emod_lt_of_pos _ (by omega)⟩
    obtain ⟨v, hv⟩ := Int.eq_ofNat_of_zero_le this.1
    exact ⟨v, by omega, hv⟩
  rw [hue]
  have hlen : svs.length = n := by rw [hT.len, allL_len]
  have rd2 : ∀ {w' : World} (_ : Ext w13 w') {a b : Nat} (_ : a < n) (_ : b < n) {K : Addr → SV → Addr → Int → Prop}, (∀ x s y, w'.cell? x = some (.slice s.a s.len s.cap) → w'.cell? y = some (.int .i64 (dst arcs a b)) → K x s y (dst arcs a b)) →
      Idx s12.a s12.len (a : Int) 1 (fun x => ∃ s : SV, w'.cell? x = some (.slice s.a s.len s.cap) ∧ Idx s.a s.len (b : Int) 1 (fun y => ∃ z : Int, w'.cell? y = some (.int .i64 z) ∧ K x s y z)) := fun {w'} e {a b} ha hb {K} hK => by
    refine slot_idx (hT.ext e).so.view (i := a) (by omega) fun x hx => ⟨svs[a], hx, ?_⟩
    have hrow := (hT.ext e).row a (by omega) (by rw [allL_len]; exact ha)
    rw [allL_get, distL_get (by omega), Int.toNat_natCast, Int.toNat_natCast] at hrow
    exact fi_rd hrow.view hb fun y hy => ⟨_, hy, hK x _ y hx hy⟩
  refine Join.cut (fun _ w' => Ext w13 w') (fun J hJ => ?_) fun _ w38 e38 => known13_ok fun w40 e40 => ⟨kp1 e40 (by have := e38.size; omega), hk w40 ((e013.trans e38).trans e40)⟩
  refine LoopT.gh (γ := Nat) (fun i (st : Int × Unit) w' => st.1 = i ∧ i ≤ n ∧ Ext w13 w') (fun i => n - i) 0 ⟨rfl, Nat.zero_le _, .refl _⟩ ?_
  rintro i ⟨x, _⟩ w17 ⟨hx, hi, e17⟩ J1 hJ1
  dsimp only at hx ⊢
  subst hx
  have z17 := e17.size
  rw [Bool.cond_decide]
  by_cases hc : (i : Int) < (n : Int)
  · rw [if_pos hc]
    have hin : i < n := by omega
    refine Join.cut (fun _ w' => Ext w13 w') (fun J2 hJ2 => ?_) fun _ w36 e36 => hJ1 (i + 1) _ _ ⟨wsucc (m := 2 ^ 40) (by omega) (by omega), by omega, e36⟩ (by omega)
    refine Arcs_ok hcv (hH.ext (e13.trans e17)) fit (by omega) fun s19 w22 e22 o19 _ => ⟨kp1 e22 (by omega), ?_⟩
    have z22 := e22.size
    have e22' := e17.trans e22
    have hfar := far_dst ok hM (by omega) hu hin
    have hdec : routeB rank ways (u : Int) (i : Int) = decide (dst arcs u i ≥ 0) := by
      unfold routeB
      congr 1
      rw [← hfar]
      apply propext
      constructor
      · rintro (⟨h, h0, h1⟩ | h)
        · have : u = i := by omega
          subst this
          rw [where_self fit (by omega)]; exact Int.le_refl _
        · exact where_ge fit h
      · intro h
        by_cases hw : 0 ≤ (whereF rank ways (u : Int) (i : Int)).2
        · exact .inr hw
        · have := where_no fit (s := (u : Int)) (t := (i : Int)) (by omega); omega
    have hd : (if routeB rank ways (u : Int) (i : Int) = true then (whereF rank ways (u : Int) (i : Int)).1 else -1) = dst arcs u i := by
      by_cases h0 : dst arcs u i ≥ 0
      · rw [hdec, decide_eq_true h0, if_pos rfl, hfar]
      · rw [hdec, decide_eq_false h0, if_neg (by decide)]
        rcases dst_ge ok u i with q | q <;> omega
    rw [hd]
    refine rd2 e22' hu hin fun _ _ _ _ _ => ?_
    rw [hdec, beq_self_eq_true, Bool.not_true, cond_false]
    refine rd2 e22' hu hin fun _ _ _ _ _ => ?_
    rw [bne_self_eq_false, cond_false]
    have l19 := o19.view.len
    have hll := fm_len hok (by omega) (routeL rank ways (u : Int) (i : Int))
    have hrl := routeL_len fit (u : Int) (i : Int)
    by_cases h0 : dst arcs u i ≥ 0
    · have hb : routeB rank ways (u : Int) (i : Int) = true := by rw [hdec, decide_eq_true h0]
      rw [decide_eq_true h0, Bool.not_true, cond_false]
      have hww := (route_ww fit hb).open_ hM 0
      rw [hfar, Int.zero_add] at hww
      have hwk : walkR (n : Int) arcs (u : Int) ((routeL rank ways (u : Int) (i : Int)).flatMap (opnF ways)) = some ((i : Int), dst arcs u i) := by
        unfold walkR
        rw [if_pos ⟨ok, by omega, by omega⟩]; exact hww
      refine rWalk_ok (((hA.ext e36).ext (e9.trans e11)).ext (e13.trans e22')).view o19.view (by omega) (fun v dd hv w34 e34 => ⟨kp1 e34 (by omega), ?_⟩) fun hno => by rw [hwk] at hno; cases hno
      rw [hwk] at hv
      injection hv with hv; injection hv with hv1 hv2
      subst hv1 hv2
      simp only [Bool.not_true, cond_false, bne_self_eq_false]
      by_cases hui : u = i
      · subst hui
        rw [beq_self_eq_true, cond_true]
        have : routeL rank ways (u : Int) (u : Int) = [] := by unfold routeL; rw [if_pos ⟨rfl, by omega, by omega⟩]
        rw [this, List.flatMap_nil, List.length_nil] at l19
        rw [l19, show (((0 : Nat) : Int) != 0) = false from rfl, cond_false]
        exact hJ2 _ _ (e22'.trans e34)
      · rw [show ((u : Int) == (i : Int)) = false by rw [beq_eq_false_iff_ne]; omega, cond_false]
        exact hJ2 _ _ (e22'.trans e34)
    · rw [decide_eq_false h0, Bool.not_false, cond_true]
      have hb : routeB rank ways (u : Int) (i : Int) = false := by rw [hdec, decide_eq_false h0]
      have he : routeL rank ways (u : Int) (i : Int) = [] := by
        unfold routeB at hb
        rw [decide_eq_false_iff_not, not_or] at hb
        unfold routeL
        rw [if_neg hb.1, if_pos (by omega)]
      rw [he, List.flatMap_nil, List.length_nil] at l19
      rw [l19, show (((0 : Nat) : Int) != 0) = false from rfl, cond_false]
      exact hJ2 _ _ e22'
  · rw [if_neg hc]; exact hJ _ _ e17

end
end Go.Sh
