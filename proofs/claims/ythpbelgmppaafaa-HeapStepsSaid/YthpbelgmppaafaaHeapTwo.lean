/- HeapTwo, HeapPops. -/
import Derived.Test.YthpbelgmppaafaaHeapLaw
set_option maxRecDepth 100000
namespace Go.Sh
open Go.RowKit

def RD : Rc (Int × Int × Int) where
  sz := 3
  enc e := [.int .i64 e.1, .int .i64 e.2.1, .int .i64 e.2.2]
  len _ := rfl
  pos := by decide
  z := (0, 0, 0)
  one := by intro x v hv; simp at hv; rcases hv with rfl | rfl | rfl <;> rfl

theorem do_idx {w : World} {s : SV} {ds : List (Int × Int × Int)} (h : View RD w s ds) {i : Nat} (hl : i < ds.length) {K : Addr → Prop}
    (hk : ∀ a, w.cell? (a.add 0) = some (.int .i64 ds[i].1) → w.cell? (a.add 1) = some (.int .i64 ds[i].2.1) → w.cell? (a.add 2) = some (.int .i64 ds[i].2.2) → K a) : Idx s.a s.len (i : Int) 3 K := by
  refine View.idx (R := RD) h (by omega) (by simpa using hl) fun a _ hc => ?_
  simp only [Int.toNat_natCast] at hc
  exact hk a (hc 0 _ rfl) (hc 1 _ rfl) (hc 2 _ rfl)

def Dj (F G : Nat → Prop) : Prop := ∀ k, F k → ¬ G k
theorem Dj.symm {F G : Nat → Prop} (h : Dj F G) : Dj G F := fun k hg hf => h k hf hg
theorem Dj.grow {F F' G : Nat → Prop} {n : Nat} (h : Dj F G) (hf : ∀ k, F' k → F k ∨ n ≤ k) (hg : ∀ k, G k → k < n) : Dj F' G := fun k hk hG => by
  rcases hf k hk with h' | h'
  · exact h k h' hG
  · have := hg k hG; omega

/-- Made since w0. -/
def Since (w0 : World) (F : Nat → Prop) : Prop := ∀ k, F k → w0.heap.size ≤ k
theorem Since.grow {w0 w : World} {F F' : Nat → Prop} (h : Since w0 F) (e : Ext w0 w) (hf : ∀ k, F' k → F k ∨ w.heap.size ≤ k) : Since w0 F' := fun k hk => by
  rcases hf k hk with h' | h'
  · exact h k h'
  · have := e.size; omega
theorem Since.ext {w0 w w' : World} {F : Nat → Prop} (h : Since w0 F) (e : Ext w0 w) (c : Chg F w w') : Ext w0 w' :=
  ((Chg.of_ext (F := F) e).trans c (fun _ _ h => h)).ext fun i hi hF => by have := h i hF; omega

theorem wsucc {n m : Nat} (h : n < m) (hm : m < 2 ^ 62) : IntKind.i64.wrap ((n : Int) + 1) = ((n + 1 : Nat) : Int) := by
  rw [w64 (by omega) (by omega)]; omega

theorem rid_perm {L : List (Int × Int)} (hn : (L.map (·.1)).Nodup) {m : Int × Int} (h : m ∈ L) : L.Perm (m :: rid L m.1) := by
  have hnd : L.Nodup := by
    rw [List.nodup_iff_pairwise_ne, List.pairwise_map] at hn
    rw [List.nodup_iff_pairwise_ne]
    exact hn.imp fun hne e => hne (by rw [e])
  rw [List.perm_ext_iff_of_nodup hnd]
  · intro y
    simp only [rid, List.mem_cons, List.mem_filter, bne_iff_ne]
    constructor
    · intro hy
      by_cases he : y.1 = m.1
      · left
        obtain ⟨i, hi, rfl⟩ := List.getElem_of_mem hy
        obtain ⟨j, hj, rfl⟩ := List.getElem_of_mem h
        have hij : i = j := by
          rw [List.nodup_iff_pairwise_ne, List.pairwise_iff_getElem] at hn
          rcases Nat.lt_trichotomy i j with h' | h' | h'
          · exact absurd (by rw [List.getElem_map, List.getElem_map]; exact he) (hn i j (by simpa using hi) (by simpa using hj) h')
          · exact h'
          · exact absurd (by rw [List.getElem_map, List.getElem_map]; exact he.symm) (hn j i (by simpa using hj) (by simpa using hi) h')
        subst hij; rfl
      · exact .inr ⟨hy, he⟩
    · rintro (rfl | ⟨hy, _⟩)
      · exact h
      · exact hy
  · rw [List.nodup_cons]
    exact ⟨by simp [rid, List.mem_filter], hnd.filter _⟩
theorem rid_len1 {L : List (Int × Int)} (hn : (L.map (·.1)).Nodup) {m : Int × Int} (h : m ∈ L) : (rid L m.1).length + 1 = L.length := by
  rw [(rid_perm hn h).length_eq]; simp
theorem rid_not {L : List (Int × Int)} {id key : Int} : (id, key) ∉ rid L id := by simp [rid, List.mem_filter]

theorem HeapPops_ok {w : World} {l : SV} {ds : List (Int × Int × Int)} {K : Bool → World → Prop} (h : View RD w l ds) (hk : ∀ w', Ext w w' → K true w') : sh_postroadlaw03_HeapPops l K w := by
  unfold sh_postroadlaw03_HeapPops
  have hlen := h.len
  rw [Bool.cond_decide]
  by_cases hl : (l.len : Int) > 60
  · rw [if_pos hl]; exact known_ok hk
  · rw [if_neg hl]
    refine New_ok (by decide) (by decide) fun p w4 F4 e4 h4 f4 => ?_
    refine Join.cut (fun _ w1 => Ext w w1 ∧ ∃ L F, HeapA w1 p 9 L F ∧ Since w F) (fun J hJ => ?_) ?_
    · refine LoopT.gh (γ := Nat × List (Int × Int) × (Nat → Prop)) (fun gh (s : Int × Unit) w1 => s.1 = gh.1 ∧ gh.1 ≤ ds.length ∧ Ext w w1 ∧ HeapA w1 p 9 gh.2.1 gh.2.2 ∧ Since w gh.2.2) (fun gh => ds.length - gh.1) (0, [], F4) ⟨rfl, Nat.zero_le _, e4, h4, f4⟩ ?_
      rintro ⟨i, L, F⟩ ⟨x, _⟩ w1 ⟨hx, hi, e1, h1, f1⟩ J1 hJ1
      simp only at hx hi h1 f1
      subst hx
      rw [Bool.cond_decide]
      by_cases hlt : (i : Int) < (l.len : Int)
      · rw [if_pos hlt]
        refine do_idx (h.ext e1) (by omega) fun a a0 a1 a2 => ⟨_, a0, _, a1, _, a2, ?_⟩
        refine did_ok h1 fun w2 F2 c2 f2 h2 => ?_
        refine hJ1 (i + 1, _, F2) _ _ ⟨wsucc (m := ds.length + 1) (by omega) (by omega), by simp only; omega, f1.ext e1 c2, h2, f1.grow e1 f2⟩ (by simp only; omega)
      · rw [if_neg hlt]
        exact hJ _ _ ⟨e1, L, F, h1, f1⟩
    · rintro _ w18 ⟨e18, L, F, h18, f18⟩
      refine Join.cut (fun _ w1 => Ext w w1 ∧ ∃ F, HeapA w1 p 9 [] F ∧ Since w F) (fun J hJ => ?_) ?_
      · refine LoopT.gh (γ := List (Int × Int) × (Nat → Prop)) (fun gh _ w1 => Ext w w1 ∧ HeapA w1 p 9 gh.1 gh.2 ∧ Since w gh.2) (fun gh => gh.1.length) (L, F) ⟨e18, h18, f18⟩ ?_
        rintro ⟨L, F⟩ _ w1 ⟨e1, h1, f1⟩ J1 hJ1
        simp only at h1 f1
        have hle := h1.le
        refine Len_ok h1 ?_
        rw [Bool.cond_decide]
        by_cases hl0 : (L.length : Int) > 0
        · rw [if_pos hl0]
          have hne : L ≠ [] := fun e => by subst e; simp at hl0
          refine Len_ok h1 ?_
          refine First_ok h1 hne fun m w2 hm e2 => ?_
          refine Pop_ok (h1.ext e2) hne fun m' w3 F3 hm' c3 f3 h3 => ?_
          have := hm.uniq hm'
          subst this
          refine Key_ok h3 (fun key hin => absurd hin rid_not) fun _ => ?_
          have hn1 := rid_len1 h1.nodup hm.1
          simp only [bne_self_eq_false, cond_false, Bool.not_true]
          refine Len_ok h3 ?_
          rw [w64 (by omega) (by omega), show ((((rid L m.1).length : Nat) : Int) != (L.length : Int) - 1) = false by simp; omega]
          simp only [cond_false]
          have e12 := e1.trans e2
          exact hJ1 (rid L m.1, F3) () w3 ⟨f1.ext e12 c3, h3, f1.grow e12 f3⟩ (by simp only; omega)
        · rw [if_neg hl0]
          have : L = [] := List.eq_nil_of_length_eq_zero (by omega)
          subst this
          exact hJ () w1 ⟨e1, F, h1, f1⟩
      · rintro _ w2 ⟨e2, F2, h2, f2⟩
        refine Pop_no h2 ?_
        exact known_ok fun w' e' => hk w' (e2.trans e')

theorem HeapTwo_ok {w : World} {la lb : SV} {as bs : List (Int × Int × Int)} {K : Bool → World → Prop} (ha : View RD w la as) (hb : View RD w lb bs) (hk : ∀ w', Ext w w' → K true w') : sh_postroadlaw03_HeapTwo la lb K w := by
  unfold sh_postroadlaw03_HeapTwo
  have hla := ha.len
  have hlb := hb.len
  rw [Bool.cond_decide]
  by_cases hl : (la.len : Int) > 40
  · rw [if_pos hl]; exact known_ok hk
  rw [if_neg hl, Bool.cond_decide]
  by_cases hl' : (lb.len : Int) > 40
  · rw [if_pos hl']; exact known_ok hk
  rw [if_neg hl']
  refine New_ok (by decide) (by decide) fun px w4 Fx e4 hx fx => ?_
  refine New_ok (by decide) (by decide) fun py w6 Fy e6 hy fy => ?_
  refine New_ok (by decide) (by decide) fun pz w8 Fz e8 hz fz => ?_
  have s4 := e4.size
  have s6 := e6.size
  refine Join.cut (fun _ w1 => Ext w w1) (fun J hJ => ?_) (fun _ w1 e1 => known_ok fun w' e' => hk w' (e1.trans e'))
  refine LoopT.gh (γ := Nat × (List (Int × Int) × List (Int × Int)) × (Nat → Prop) × (Nat → Prop) × (Nat → Prop))
    (fun gh (s : Int × Unit) w1 => s.1 = gh.1 ∧ gh.1 ≤ 40 ∧ Ext w w1 ∧ HeapA w1 px 9 gh.2.1.1 gh.2.2.1 ∧ HeapA w1 py 9 gh.2.1.1 gh.2.2.2.1 ∧ HeapA w1 pz 9 gh.2.1.2 gh.2.2.2.2 ∧ Since w gh.2.2.1 ∧ Since w gh.2.2.2.1 ∧ Since w gh.2.2.2.2 ∧
      Dj gh.2.2.1 gh.2.2.2.1 ∧ Dj gh.2.2.1 gh.2.2.2.2 ∧ Dj gh.2.2.2.1 gh.2.2.2.2) (fun gh => 40 - gh.1) (0, ([], []), Fx, Fy, Fz)
    ⟨rfl, Nat.zero_le _, (e4.trans e6).trans e8, (hx.ext e6).ext e8, hy.ext e8, hz, fx, fun k hk => Nat.le_trans s4 (fy k hk), fun k hk => Nat.le_trans (Nat.le_trans s4 s6) (fz k hk),
      fun k hk hk' => by have := hx.lt hk; have := fy k hk'; omega, fun k hk hk' => by have := hx.lt hk; have := fz k hk'; omega, fun k hk hk' => by have := hy.lt hk; have := fz k hk'; omega⟩ ?_
  rintro ⟨i, ⟨L, M⟩, Gx, Gy, Gz⟩ ⟨x, _⟩ w1 ⟨hxi, hi, e1, kx, ky, kz, sx, sy, sz, dxy, dxz, dyz⟩ J1 hJ1
  simp only at hxi hi kx ky kz sx sy sz dxy dxz dyz
  subst hxi
  refine Join.cut (fun _ w2 => w2 = w1 ∧ (i < as.length ∨ i < bs.length)) (fun J2 hJ2 => ?_) ?_
  · rw [Bool.cond_decide]
    by_cases hc1 : (i : Int) < (la.len : Int)
    · rw [if_pos hc1]; exact hJ2 _ _ ⟨rfl, .inl (by omega)⟩
    · rw [if_neg hc1, Bool.cond_decide]
      by_cases hc2 : (i : Int) < (lb.len : Int)
      · rw [if_pos hc2]; exact hJ2 _ _ ⟨rfl, .inr (by omega)⟩
      · rw [if_neg hc2]; exact hJ _ _ e1
  · rintro _ w2 ⟨rfl, hor⟩
    have nxt : ∀ w3 L3 M3 Gx3 Gy3 Gz3, Ext w w3 → HeapA w3 px 9 L3 Gx3 → HeapA w3 py 9 L3 Gy3 → HeapA w3 pz 9 M3 Gz3 → Since w Gx3 → Since w Gy3 → Since w Gz3 → Dj Gx3 Gy3 → Dj Gx3 Gz3 → Dj Gy3 Gz3 → J1 (IntKind.i64.wrap ((i : Int) + 1), ()) w3 :=
      fun w3 L3 M3 Gx3 Gy3 Gz3 q1 q2 q3 q4 q5 q6 q7 q8 q9 q10 =>
        hJ1 (i + 1, (L3, M3), Gx3, Gy3, Gz3) _ _ ⟨wsucc (m := 41) (by omega) (by omega), by simp only; omega, q1, q2, q3, q4, q5, q6, q7, q8, q9, q10⟩ (by simp only; omega)
    refine Join.cut (fun _ w3 => ∃ L3 M3 Gx3 Gy3 Gz3, Ext w w3 ∧ HeapA w3 px 9 L3 Gx3 ∧ HeapA w3 py 9 L3 Gy3 ∧ HeapA w3 pz 9 M3 Gz3 ∧ Since w Gx3 ∧ Since w Gy3 ∧ Since w Gz3 ∧ Dj Gx3 Gy3 ∧ Dj Gx3 Gz3 ∧ Dj Gy3 Gz3)
      (fun J3 hJ3 => ?_) (fun _ w3 ⟨L3, M3, Gx3, Gy3, Gz3, q1, q2, q3, q4, q5, q6, q7, q8, q9, q10⟩ => nxt w3 L3 M3 Gx3 Gy3 Gz3 q1 q2 q3 q4 q5 q6 q7 q8 q9 q10)
    refine Join.cut (fun _ w3 => ∃ M3 Gz3, Ext w w3 ∧ HeapA w3 px 9 L Gx ∧ HeapA w3 py 9 L Gy ∧ HeapA w3 pz 9 M3 Gz3 ∧ Since w Gz3 ∧ Dj Gx Gz3 ∧ Dj Gy Gz3) (fun J4 hJ4 => ?_) ?_
    · rw [Bool.cond_decide]
      by_cases hc : (i : Int) < (lb.len : Int)
      · rw [if_pos hc]
        refine do_idx (hb.ext e1) (by omega) fun a a0 a1 a2 => ⟨_, a0, _, a1, _, a2, ?_⟩
        refine did_ok kz fun w3 F3 c3 f3 h3 => ?_
        exact hJ4 _ _ ⟨_, F3, sz.ext e1 c3, kx.chg c3 dxz, ky.chg c3 dyz, h3, sz.grow e1 f3, (dxz.symm.grow f3 fun k hk => kx.lt hk).symm, (dyz.symm.grow f3 fun k hk => ky.lt hk).symm⟩
      · rw [if_neg hc]
        exact hJ4 _ _ ⟨M, Gz, e1, kx, ky, kz, sz, dxz, dyz⟩
    · rintro _ w3 ⟨M3, Gz3, e3, kx3, ky3, kz3, sz3, dxz3, dyz3⟩
      rw [Bool.cond_decide]
      by_cases hc : (i : Int) ≥ (la.len : Int)
      · rw [if_pos hc]
        exact hJ3 _ _ ⟨L, M3, Gx, Gy, Gz3, e3, kx3, ky3, kz3, sx, sy, sz3, dxy, dxz3, dyz3⟩
      · rw [if_neg hc]
        refine do_idx (ha.ext e3) (by omega) fun a a0 a1 a2 => ⟨_, a0, _, a1, _, a2, ?_⟩
        refine did_ok kx3 fun w5 F5 c5 f5 h5 => ?_
        have e5 := sx.ext e3 c5
        refine do_idx (ha.ext e5) (by omega) fun a a0 a1 a2 => ⟨_, a0, _, a1, _, a2, ?_⟩
        have ky5 := ky3.chg c5 dxy.symm
        have kz5 := kz3.chg c5 dxz3.symm
        have d5y := dxy.grow f5 fun k hk => ky3.lt hk
        have d5z := dxz3.grow f5 fun k hk => kz3.lt hk
        refine did_ok ky5 fun w7 F7 c7 f7 h7 => ?_
        have e7 := sy.ext e5 c7
        have h57 := h5.chg c7 d5y
        simp only [bne_self_eq_false, cond_false, beq_self_eq_true, Bool.not_true]
        refine Len_ok h57 (Len_ok h7 ?_)
        simp only [bne_self_eq_false, cond_false]
        exact hJ3 _ _ ⟨_, M3, F5, F7, Gz3, e7, h57, h7, kz5.chg c7 dyz3.symm, sx.grow e3 f5, sy.grow e5 f7, sz3, (d5y.symm.grow f7 fun k hk => h5.lt hk).symm, d5z, dyz3.grow f7 fun k hk => kz5.lt hk⟩
end Go.Sh
