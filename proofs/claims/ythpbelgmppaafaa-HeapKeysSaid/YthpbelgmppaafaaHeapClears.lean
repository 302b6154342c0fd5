/- HeapClears. -/
import Derived.Test.YthpbelgmppaafaaHeapSorts
set_option maxRecDepth 100000
namespace Go.Sh
open Go.RowKit

theorem minE_perm {L M : List (Int × Int)} (h : L.Perm M) : minE L = minE M := by
  by_cases hl : L = []
  · subst hl; rw [List.nil_perm.1 h]
  · obtain ⟨m, hm⟩ := minE_some hl
    have := minE_least hm
    rw [hm]
    exact (Least.min ⟨h.mem_iff.1 this.1, fun y hy => this.2 y (h.mem_iff.2 hy)⟩).symm

theorem HeapClears_ok {w : World} {ks : SV} {xs : List Int} {out : Int} {K : Bool → World → Prop} (h : View RI w ks xs) (ho : 0 ≤ out) (ho2 : out < 256) (hk : ∀ w', Ext w w' → K true w') : sh_postroadlaw03_HeapClears ks out K w := by
  unfold sh_postroadlaw03_HeapClears
  have hlen := h.len
  rw [Bool.cond_decide]
  by_cases hl : (ks.len : Int) > 100
  · rw [if_pos hl]; exact known_ok hk
  rw [if_neg hl, hlen]
  by_cases hz : xs.length = 0
  · rw [show ((xs.length : Int) == 0) = true by simp [hz]]; exact known_ok hk
  rw [show ((xs.length : Int) == 0) = false by simpa using hz]
  simp only [cond_false]
  refine New_ok (by omega) (by omega) fun p w6 Fp e6 hp fp => ?_
  refine New_ok (by omega) (by omega) fun q w8 Fq e8 hq fq => ?_
  rw [Int.toNat_natCast] at hp hq
  have s6 := e6.size
  have dpq : Dj Fp Fq := fun k hk hk' => by have := hp.lt hk; have := fq k hk'; omega
  have fq' : Since w Fq := fun k hk => Nat.le_trans s6 (fq k hk)
  refine Join.cut (fun _ w1 => Ext w w1 ∧ ∃ L F, HeapA w1 p xs.length L F ∧ Since w F ∧ HeapA w1 q xs.length [] Fq ∧ Dj F Fq) (fun J hJ => ?_) ?_
  · refine LoopT.gh (γ := Nat × List (Int × Int) × (Nat → Prop)) (fun gh (s : Int × Unit) w1 => s.1 = gh.1 ∧ gh.1 ≤ xs.length ∧ Ext w w1 ∧ HeapA w1 p xs.length gh.2.1 gh.2.2 ∧ Since w gh.2.2 ∧ HeapA w1 q xs.length [] Fq ∧ Dj gh.2.2 Fq)
      (fun gh => xs.length - gh.1) (0, [], Fp) ⟨rfl, Nat.zero_le _, e6.trans e8, hp.ext e8, fp, hq, dpq⟩ ?_
    rintro ⟨i, L, F⟩ ⟨x, _⟩ w1 ⟨hx, hi, e1, h1, f1, hq1, d1⟩ J1 hJ1
    simp only at hx hi h1 f1 d1 ⊢
    subst hx
    rw [Bool.cond_decide]
    by_cases hlt : (i : Int) < (xs.length : Int)
    · rw [if_pos hlt]
      have hw : IntKind.i64.wrap (IntKind.i64.wrap ((xs.length : Int) - 1) - (i : Int)) = ((xs.length - 1 - i : Nat) : Int) := by
        rw [w64 (n := (xs.length : Int) - 1) (by omega) (by omega), w64 (by omega) (by omega)]; omega
      rw [hw]
      refine Set_ok h1 (by omega) (by simp only [Int.toNat_natCast]; omega) fun w2 F2 c2 f2 h2 => ?_
      exact hJ1 (i + 1, _, F2) _ _ ⟨wsucc (m := xs.length + 1) (by omega) (by omega), by simp only; omega, f1.ext e1 c2, h2, f1.grow e1 f2, hq1.chg c2 d1.symm, d1.grow f2 fun k hk => hq1.lt hk⟩ (by simp only; omega)
    · rw [if_neg hlt]
      exact hJ _ _ ⟨e1, L, F, h1, f1, hq1, d1⟩
  · rintro _ w16 ⟨e16, L, F, h16, f16, hq16, d16⟩
    refine Clear_ok h16 fun w17 F17 c17 f17 h17 => ?_
    have e17 := f16.ext e16 c17
    have s17 := f16.grow e16 f17
    have hq17 := hq16.chg c17 d16.symm
    have d17 := d16.grow f17 fun k hk => hq16.lt hk
    rw [if_neg (by omega)]
    obtain ⟨k, hkn, hkk⟩ : ∃ k : Nat, k < xs.length ∧ (IntKind.i64.wrap out).tmod (xs.length : Int) = (k : Int) := by
      rw [w64 (by omega) (by omega)]
      refine ⟨(out.tmod (xs.length : Int)).toNat, ?_, ?_⟩
      · have := Int.tmod_lt_of_pos out (b := (xs.length : Int)) (by omega)
        have := Int.tmod_nonneg (xs.length : Int) ho
        omega
      · have := Int.tmod_nonneg (xs.length : Int) ho
        omega
    rw [hkk]
    refine Join.cut (fun _ w1 => Ext w w1 ∧ ∃ M Fp Fq, HeapA w1 p xs.length (((k : Int), xs.getD k 0) :: M) Fp ∧ HeapA w1 q xs.length M Fq ∧ Since w Fp ∧ Since w Fq ∧ Dj Fp Fq ∧ M.length + 1 = xs.length) (fun J hJ => ?_) ?_
    · refine LoopT.gh (γ := Nat × (Nat → Prop) × (Nat → Prop)) (fun gh (s : Int × Unit) w1 => s.1 = gh.1 ∧ gh.1 ≤ xs.length ∧ Ext w w1 ∧ HeapA w1 p xs.length (enumL xs gh.1) gh.2.1 ∧ HeapA w1 q xs.length (rid (enumL xs gh.1) (k : Int)) gh.2.2 ∧ Since w gh.2.1 ∧ Since w gh.2.2 ∧ Dj gh.2.1 gh.2.2)
        (fun gh => xs.length - gh.1) (0, F17, Fq) ⟨rfl, Nat.zero_le _, e17, h17, hq17, s17, fq', d17⟩ ?_
      rintro ⟨i, Gp, Gq⟩ ⟨x, _⟩ w1 ⟨hx, hi, e1, h1, hq1, f1, g1, d1⟩ J1 hJ1
      simp only at hx hi h1 hq1 f1 g1 d1 ⊢
      subst hx
      rw [Bool.cond_decide]
      by_cases hlt : (i : Int) < (xs.length : Int)
      · rw [if_pos hlt]
        have hi2 : i < xs.length := by omega
        have hgd : xs.getD i 0 = xs[i] := by simp [List.getD_eq_getElem?_getD, List.getElem?_eq_getElem hi2]
        have hno : ∀ e ∈ enumL xs i, e.1 ≠ (i : Int) := fun e he => by
          obtain ⟨j, hj, rfl⟩ := enumL_mem.1 he
          simp only; omega
        refine Join.cut (fun _ w2 => ∃ Gp2 Gq2, Ext w w2 ∧ HeapA w2 p xs.length (enumL xs (i + 1)) Gp2 ∧ HeapA w2 q xs.length (rid (enumL xs (i + 1)) (k : Int)) Gq2 ∧ Since w Gp2 ∧ Since w Gq2 ∧ Dj Gp2 Gq2) (fun J2 hJ2 => ?_)
          (fun _ w2 ⟨Gp2, Gq2, q1, q2, q3, q4, q5, q6⟩ => hJ1 (i + 1, Gp2, Gq2) _ _ ⟨wsucc (m := xs.length + 1) (by omega) (by omega), by simp only; omega, q1, q2, q3, q4, q5, q6⟩ (by simp only; omega))
        rw [← hlen]
        refine int_idx (h.ext e1) hi2 fun a ha => ⟨_, ha, ?_⟩
        refine Set_ok h1 (by omega) (by simpa using hi2) fun w2 F2 c2 f2 h2 => ?_
        have e2 := f1.ext e1 c2
        have s2 := f1.grow e1 f2
        have hq2 := hq1.chg c2 d1.symm
        have d2 := d1.grow f2 fun k hk => hq1.lt hk
        rw [rid_none hno] at h2
        have h2' : HeapA w2 p xs.length (enumL xs (i + 1)) F2 := h2.perm (by rw [enumL_succ, hgd]; exact (List.perm_append_singleton _ _).symm)
        by_cases hik : i = k
        · rw [show (((i : Int)) != (k : Int)) = false by simp; omega]
          simp only [cond_false]
          refine hJ2 _ _ ⟨F2, Gq, e2, h2', ?_, s2, g1, d2⟩
          rw [enumL_succ]
          unfold rid at hq2 ⊢
          rw [List.filter_append, List.filter_cons_of_neg (by simp; omega)]
          simpa using hq2
        · rw [show (((i : Int)) != (k : Int)) = true by simp; omega]
          simp only [cond_true]
          refine int_idx (h.ext e2) hi2 fun a ha => ⟨_, ha, ?_⟩
          refine Set_ok hq2 (by omega) (by simpa using hi2) fun w3 F3 c3 f3 h3 => ?_
          have hno2 : ∀ e ∈ rid (enumL xs i) (k : Int), e.1 ≠ (i : Int) := fun e he => hno e (List.mem_filter.1 he).1
          rw [rid_none hno2] at h3
          refine hJ2 _ _ ⟨F2, F3, g1.ext e2 c3, h2'.chg c3 d2, h3.perm ?_, s2, g1.grow e2 f3, (d2.symm.grow f3 fun k hk => h2'.lt hk).symm⟩
          rw [enumL_succ]
          unfold rid
          rw [List.filter_append, List.filter_cons_of_pos (by simp; omega), hgd]
          exact (List.perm_append_singleton _ _).symm
      · rw [if_neg hlt]
        have : i = xs.length := by omega
        subst this
        have hin : ((k : Int), xs.getD k 0) ∈ enumL xs xs.length := enumL_mem.2 ⟨k, hkn, rfl⟩
        have hnd := h1.nodup
        refine hJ _ _ ⟨e1, rid (enumL xs xs.length) (k : Int), Gp, Gq, h1.perm (rid_perm hnd hin), hq1, f1, g1, d1, ?_⟩
        have := rid_len1 hnd hin
        simp only at this
        rw [this]; simp [enumL]
    · rintro _ w34 ⟨e34, M, Gp, Gq, h34, hq34, f34, g34, d34, hM⟩
      refine Len_ok h34 ?_
      rw [show ((((((k : Int), xs.getD k 0) :: M).length : Nat) : Int) != (xs.length : Int)) = false by simp; omega]
      simp only [cond_false]
      have hrid : rid (((k : Int), xs.getD k 0) :: M) (k : Int) = M := by
        unfold rid
        rw [List.filter_cons_of_neg (by simp), List.filter_eq_self]
        intro e he
        have := h34.nodup
        simp only [List.map_cons, List.nodup_cons] at this
        simp only [bne_iff_ne]
        exact fun e1 => this.1 (List.mem_map.2 ⟨e, he, e1⟩)
      refine Drop_ok h34 (fun key _ w38 F38 c38 f38 h38 => ?_) (fun hno => absurd List.mem_cons_self (hno _))
      rw [hrid] at h38
      simp only [Bool.not_true, cond_false]
      have e38 := f34.ext e34 c38
      have s38 := f34.grow e34 f38
      have hq38 := hq34.chg c38 d34.symm
      have d38 := d34.grow f38 fun k hk => hq34.lt hk
      have hno : ∀ key, ((k : Int), key) ∉ M := fun key hin => by
        have := h34.nodup
        simp only [List.map_cons, List.nodup_cons] at this
        exact this.1 (List.mem_map.2 ⟨_, hin, rfl⟩)
      refine Drop_ok h38 (fun key hin => absurd hin (hno key)) (fun _ => ?_)
      simp only [cond_false]
      refine Join.cut (fun _ w1 => Ext w w1 ∧ ∃ F, HeapA w1 p xs.length [] F ∧ Since w F) (fun J hJ => ?_) ?_
      · refine LoopT.gh (γ := List (Int × Int) × (Nat → Prop) × (Nat → Prop)) (fun gh _ w1 => Ext w w1 ∧ HeapA w1 p xs.length gh.1 gh.2.1 ∧ HeapA w1 q xs.length gh.1 gh.2.2 ∧ Since w gh.2.1 ∧ Since w gh.2.2 ∧ Dj gh.2.1 gh.2.2) (fun gh => gh.1.length)
          (M, F38, Gq) ⟨e38, h38, hq38, s38, g34, d38⟩ ?_
        rintro ⟨L1, Hp, Hq⟩ _ w1 ⟨e1, h1, hq1, f1, g1, d1⟩ J1 hJ1
        simp only at h1 hq1 f1 g1 d1 ⊢
        refine Len_ok hq1 ?_
        rw [Bool.cond_decide]
        by_cases hl0 : (L1.length : Int) > 0
        · rw [if_pos hl0]
          have hne : L1 ≠ [] := fun e => by subst e; simp at hl0
          refine Pop_ok h1 hne fun m w2 F2 hm c2 f2 h2 => ?_
          have e2 := f1.ext e1 c2
          have hq2 := hq1.chg c2 d1.symm
          have d2 := d1.grow f2 fun k hk => hq1.lt hk
          refine Pop_ok hq2 hne fun m' w3 F3 hm' c3 f3 h3 => ?_
          have := hm.uniq hm'
          subst this
          simp only [bne_self_eq_false, cond_false, beq_self_eq_true, Bool.not_true]
          exact hJ1 (rid L1 m.1, F2, F3) () w3 ⟨g1.ext e2 c3, h2.chg c3 d2, h3, f1.grow e1 f2, g1.grow e2 f3, (d2.symm.grow f3 fun k hk => h2.lt hk).symm⟩ (rid_len hm.1)
        · rw [if_neg hl0]
          have : L1 = [] := List.eq_nil_of_length_eq_zero (by omega)
          subst this
          exact hJ _ _ ⟨e1, Hp, h1, f1⟩
      · rintro _ w56 ⟨e56, F56, h56, f56⟩
        refine Len_ok h56 ?_
        simp only [List.length_nil, show (((0 : Nat) : Int) == 0) = true from rfl, cond_true]
        exact known_ok fun w' e' => hk w' (e56.trans e')
end Go.Sh
