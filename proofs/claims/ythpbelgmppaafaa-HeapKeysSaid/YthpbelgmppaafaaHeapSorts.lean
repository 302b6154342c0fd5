/- HeapSorts. -/
import Derived.Test.YthpbelgmppaafaaHeapTwo
set_option maxRecDepth 100000
namespace Go.Sh
open Go.RowKit

theorem int_idx {w : World} {s : SV} {xs : List Int} (h : View RI w s xs) {i : Nat} (hl : i < xs.length) {K : Addr → Prop}
    (hk : ∀ a, w.cell? a = some (.int .i64 xs[i]) → K a) : Idx s.a s.len (i : Int) 1 K := by
  refine View.idx (R := RI) h (by omega) (by simpa using hl) fun a ha hc => hk a ?_
  simp only [Int.toNat_natCast] at hc
  have := hc 0 _ rfl
  rwa [show a.add 0 = a by rw [add_add _ ha]; obtain ⟨b, o, sp⟩ := a; simp at ha; simp [ha]] at this

/-- The first i with their keys. -/
def enumL (xs : List Int) (i : Nat) : List (Int × Int) := (List.range i).map fun (j : Nat) => ((j : Int), xs.getD j 0)
theorem enumL_succ (xs : List Int) (i : Nat) : enumL xs (i + 1) = enumL xs i ++ [((i : Int), xs.getD i 0)] := by
  simp [enumL, List.range_succ]
theorem enumL_mem {xs : List Int} {i : Nat} {e : Int × Int} : e ∈ enumL xs i ↔ ∃ j : Nat, j < i ∧ e = ((j : Int), xs.getD j 0) := by
  simp only [enumL, List.mem_map, List.mem_range]
  constructor
  · rintro ⟨j, hj, rfl⟩; exact ⟨j, hj, rfl⟩
  · rintro ⟨j, hj, rfl⟩; exact ⟨j, hj, rfl⟩
theorem rid_none {L : List (Int × Int)} {id : Int} (h : ∀ e ∈ L, e.1 ≠ id) : rid L id = L := by
  unfold rid
  rw [List.filter_eq_self]
  intro e he; simpa using h e he

theorem HeapSorts_ok {w : World} {ks : SV} {xs : List Int} {K : Bool → World → Prop} (h : View RI w ks xs) (hk : ∀ w', Ext w w' → K true w') : sh_postroadlaw03_HeapSorts ks K w := by
  unfold sh_postroadlaw03_HeapSorts
  have hlen := h.len
  rw [Bool.cond_decide]
  by_cases hl : (ks.len : Int) > 200
  · rw [if_pos hl]; exact known_ok hk
  rw [if_neg hl, hlen]
  refine New_ok (by omega) (by omega) fun p w4 F4 e4 h4 f4 => ?_
  rw [Int.toNat_natCast] at h4
  refine Join.cut (fun _ w1 => Ext w w1 ∧ ∃ F, HeapA w1 p xs.length (enumL xs xs.length) F ∧ Since w F) (fun J hJ => ?_) ?_
  · refine LoopT.gh (γ := Nat × (Nat → Prop)) (fun gh (s : Int × Unit) w1 => s.1 = gh.1 ∧ gh.1 ≤ xs.length ∧ Ext w w1 ∧ HeapA w1 p xs.length (enumL xs gh.1) gh.2 ∧ Since w gh.2) (fun gh => xs.length - gh.1) (0, F4) ⟨rfl, Nat.zero_le _, e4, h4, f4⟩ ?_
    rintro ⟨i, F⟩ ⟨x, _⟩ w1 ⟨hx, hi, e1, h1, f1⟩ J1 hJ1
    simp only at hx hi h1 f1 ⊢
    subst hx
    rw [Bool.cond_decide]
    by_cases hlt : (i : Int) < (xs.length : Int)
    · rw [if_pos hlt]
      have hi2 : i < xs.length := by omega
      have hw : IntKind.i64.wrap (IntKind.i64.wrap ((xs.length : Int) - 1) - (i : Int)) = ((xs.length - 1 - i : Nat) : Int) := by
        rw [w64 (n := (xs.length : Int) - 1) (by omega) (by omega), w64 (by omega) (by omega)]; omega
      rw [hw, ← hlen]
      refine int_idx (h.ext e1) (by omega) fun a ha => ⟨_, ha, ?_⟩
      have hno : ∀ e ∈ enumL xs i, e.1 ≠ (i : Int) := fun e he => by
        obtain ⟨j, hj, rfl⟩ := enumL_mem.1 he
        simp only; omega
      refine Set_ok h1 (by omega) (by simpa using hi2) fun w2 F2 c2 f2 h2 => ?_
      have e2 := f1.ext e1 c2
      refine int_idx (h.ext e2) hi2 fun a ha => ⟨_, ha, ?_⟩
      refine Set_ok h2 (by omega) (by simpa using hi2) fun w3 F3 c3 f3 h3 => ?_
      have s2 := f1.grow e1 f2
      rw [rid_none hno] at h3
      have hr : ∀ v, rid (((i : Int), v) :: enumL xs i) (i : Int) = enumL xs i := fun v => by
        have := rid_none hno
        unfold rid at this ⊢
        rw [List.filter_cons_of_neg (by simp)]
        exact this
      rw [hr] at h3
      refine hJ1 (i + 1, F3) _ _ ⟨wsucc (m := xs.length + 1) (by omega) (by omega), by simp only; omega, s2.ext e2 c3, ?_, s2.grow e2 f3⟩ (by simp only; omega)
      refine h3.perm ?_
      rw [enumL_succ, show xs.getD i 0 = xs[i] by simp [List.getD_eq_getElem?_getD, List.getElem?_eq_getElem hi2]]
      exact (List.perm_append_singleton _ _).symm
    · rw [if_neg hlt]
      have : i = xs.length := by omega
      subst this
      exact hJ _ _ ⟨e1, F, h1, f1⟩
  · rintro _ w18 ⟨e18, F, h18, f18⟩
    refine Own.mk (R := RI) (bytes := 8) (by omega) (by omega) (by omega) fun b w20 e20 hb hO => ?_
    rw [Int.toNat_natCast] at hO ⊢
    generalize hsv : (⟨some ⟨b, 0, none⟩, xs.length, xs.length⟩ : SV) = sv at *
    have hsb : ∀ k, sv.blk k → k = b := fun k hk => by
      subst hsv; obtain ⟨q, hq, rfl⟩ := hk; cases hq; rfl
    have hbw : w.heap.size ≤ b := by have := e18.size; omega
    refine Join.cut (fun _ w1 => Ext w w1 ∧ ∃ F, HeapA w1 p xs.length [] F ∧ Since w F) (fun J hJ => ?_) ?_
    · -- what is popped rises
      refine LoopT.gh (γ := Nat × List (Int × Int) × (Nat → Prop) × List Int)
        (fun gh (s : Int × Int × Unit) w1 => s.2.1 = gh.1 ∧ gh.1 + gh.2.1.length = xs.length ∧ Ext w w1 ∧ HeapA w1 p xs.length gh.2.1 gh.2.2.1 ∧ Since w gh.2.2.1 ∧ ¬ gh.2.2.1 b ∧ Own RI w1 sv gh.2.2.2 ∧ gh.2.2.2.length = xs.length ∧
          (∀ e ∈ gh.2.1, e ∈ enumL xs xs.length ∧ gh.2.2.2[e.1.toNat]? = some 0) ∧ (s.1 = -1 ∨ ∃ j : Nat, j < xs.length ∧ s.1 = j ∧ ∀ e ∈ gh.2.1, eLt e ((j : Int), xs.getD j 0) = false ∧ e.1 ≠ j)) (fun gh => gh.2.1.length)
        (0, enumL xs xs.length, F, List.replicate xs.length 0) ⟨rfl, by simp [enumL], e18.trans e20, h18.ext e20, f18, fun hF => by have := h18.lt hF; omega, hO, by simp, fun e he => ⟨he, ?_⟩, .inl rfl⟩ ?_
      · obtain ⟨j, hj, rfl⟩ := enumL_mem.1 he
        simp [hj]
      · rintro ⟨i, L, G, seen⟩ ⟨was, x, _⟩ w1 ⟨hx, hi, e1, h1, g1, gb, hS, hsl, hL, hwas⟩ J1 hJ1
        simp only at hx hi h1 g1 gb hS hsl hL hwas ⊢
        subst hx
        rw [Bool.cond_decide]
        by_cases hlt : (i : Int) < (xs.length : Int)
        · rw [if_pos hlt]
          have hne : L ≠ [] := fun e => by subst e; simp at hi; omega
          refine Pop_ok h1 hne fun m w2 F2 hm c2 f2 h2 => ?_
          have e2 := g1.ext e1 c2
          have s2 := g1.grow e1 f2
          obtain ⟨hin, hseen⟩ := hL m hm.1
          obtain ⟨j, hj, rfl⟩ := enumL_mem.1 hin
          simp only at hseen ⊢
          have hS2 : Own RI w2 sv seen := hS.chg c2 fun k hk hG => by rw [hsb k hk] at hG; exact gb hG
          have hsj : seen[j]'(by omega) = 0 := by
            rw [Int.toNat_natCast, List.getElem?_eq_getElem (by omega)] at hseen; injection hseen
          have hgd : xs.getD j 0 = xs[j] := by simp [List.getD_eq_getElem?_getD, List.getElem?_eq_getElem hj]
          refine Join.cut (fun _ w3 => w3 = w2) (fun J2 hJ2 => ?_) ?_
          · simp only [Bool.not_true, cond_false]
            rw [Bool.cond_decide, if_neg (by omega), Bool.cond_decide, if_neg (by omega)]
            refine int_idx (hS2.view) (by omega) fun a ha => ⟨_, ha, ?_⟩
            rw [hsj, Bool.cond_decide, if_neg (by omega), ← hlen]
            refine int_idx (h.ext e2) hj fun a ha => ⟨_, ha, ?_⟩
            rw [hgd]
            simp only [bne_self_eq_false, cond_false]
            rcases hwas with rfl | ⟨q, hq, rfl, hall⟩
            · rw [Bool.cond_decide, if_neg (by omega)]
              exact hJ2 _ _ rfl
            · obtain ⟨hlt2, hneq⟩ := hall _ hm.1
              have hgq : xs.getD q 0 = xs[q] := by simp [List.getD_eq_getElem?_getD, List.getElem?_eq_getElem hq]
              rw [hgd, hgq] at hlt2
              simp only at hneq
              unfold eLt at hlt2
              simp at hlt2
              rw [Bool.cond_decide, if_pos (by omega)]
              refine int_idx (h.ext e2) hq fun a ha => ⟨_, ha, ?_⟩
              rw [Bool.cond_decide, if_neg (by omega)]
              refine int_idx (h.ext e2) hq fun a ha => ⟨_, ha, ?_⟩
              cases hb : (xs[j] == xs[q]) with
              | true =>
                simp only [cond_true]
                have : xs[j] = xs[q] := by simpa using hb
                have := hlt2.2 this
                rw [Bool.cond_decide, if_neg (by omega)]
                exact hJ2 _ _ rfl
              | false =>
                simp only [cond_false]
                exact hJ2 _ _ rfl
          · rintro _ w3 rfl
            refine hS2.put (i := (j : Int)) (by omega) (by simpa using (by omega : j < seen.length)) fun b' hb' hput => ?_
            refine hput 1 w3 _ hS2 fun w4 o4 O4 => ?_
            have hbb : b' = b := hsb b' ⟨_, hb', rfl⟩
            subst hbb
            have nb2 : ¬ F2 b' := fun hF => by
              rcases f2 b' hF with h' | h'
              · exact gb h'
              · have := hS.lt ⟨_, hb', rfl⟩; simp at this; omega
            have c4 : Chg (fun k => k = b') w3 w4 := .of_off o4 rfl
            have hn1 := rid_len1 h1.nodup hm.1
            simp only at hn1
            refine hJ1 (i + 1, rid L (j : Int), F2, seen.set j 1) _ _ ⟨wsucc (m := xs.length + 1) (by omega) (by omega), by simp only; omega, ?_, h2.chg c4 (fun k hk e => nb2 (e ▸ hk)), s2, nb2, by simpa using O4, by simpa using hsl, fun e he => ?_, .inr ⟨j, hj, rfl, fun e he => ?_⟩⟩ (by simp only; omega)
            · exact ((Chg.of_ext (F := fun k => k = b') e2).trans c4 (fun _ _ h => h)).ext fun k hk e => by omega
            · simp only [rid, List.mem_filter, bne_iff_ne] at he
              obtain ⟨h5, h6⟩ := hL e he.1
              refine ⟨h5, ?_⟩
              obtain ⟨q, hq, rfl⟩ := enumL_mem.1 h5
              have hqj : q ≠ j := fun e => he.2 (by rw [e])
              simp only [Int.toNat_natCast] at h6 ⊢
              rw [List.getElem?_set_ne (Ne.symm hqj)]; exact h6
            · simp only [rid, List.mem_filter, bne_iff_ne] at he
              exact ⟨hm.2 e he.1, he.2⟩
        · rw [if_neg hlt]
          have : L = [] := List.eq_nil_of_length_eq_zero (by omega)
          subst this
          exact hJ _ _ ⟨e1, G, h1, g1⟩
    · rintro _ w43 ⟨e43, F43, h43, f43⟩
      refine Pop_no h43 ?_
      simp only [Bool.not_false, cond_true]
      refine Len_ok h43 ?_
      simp only [List.length_nil, show (((0 : Nat) : Int) == 0) = true from rfl, cond_true]
      exact known_ok fun w' e' => hk w' (e43.trans e')
end Go.Sh
