/- Which place is taken next. -/
import Derived.Test.YtoomennincfkgaaRefLeft
set_option maxRecDepth 100000
namespace Go.Sh
open Go.RowKit

/-- How many differ, as the code counts. -/
def cntI (x : Int) (ys : List Int) (c : Int) : Int := ys.foldl (fun c y => if x ≠ y then IntKind.i64.wrap (c + 1) else c) c
def cntP (xs ys : List Int) : Int := xs.foldl (fun c x => cntI x ys c) 0
def insF (L : List Wy) (n v : Nat) : List Int := selL (fun u => hasF L u v) n
def outsF (L : List Wy) (n v : Nat) : List Int := selL (fun u => hasF L v u) n
def costF (n : Nat) (inn : Nat → Int) (L : List Wy) (lost : Nat → Int) (v : Int) : Int :=
  if isF n inn v = true then IntKind.i64.wrap (IntKind.i64.wrap (IntKind.i64.wrap (cntP (insF L n v.toNat) (outsF L n v.toNat) - (insF L n v.toNat).length) - (outsF L n v.toNat).length) + lost v.toNat) else 0
section
variable {w w' : World} {n : Nat} {sI sL sO : SV} {inn lost : Nat → Int} {L : List Wy}
theorem isF_true {v : Int} (h : isF n inn v = true) : ∃ k : Nat, v = (k : Int) ∧ k < n ∧ inn k = 1 := by
  unfold isF at h
  rw [decide_eq_true_iff] at h
  exact ⟨v.toNat, by omega, by omega, h.2.2⟩
theorem isF_of {k : Nat} (h : k < n) (hi : inn k = 1) : isF n inn (k : Int) = true := by
  unfold isF
  rw [decide_eq_true_iff]
  exact ⟨by omega, by omega, by rw [Int.toNat_natCast]; exact hi⟩

theorem Cost_ok {v : Int} {K : Int → World → Prop} (h : LeftV w n sI sL sO inn L lost) (hK : ∀ w', Ext w w' → K (costF n inn L lost v) w') : sh_postroadref08_Cost n sI sL sO v K w := by
  unfold sh_postroadref08_Cost
  intro b1 w2 e2 g1 g1'
  have z2 := e2.size
  have hn := h.n40
  refine is_ok (h.ext e2) fun w4 e4 => ⟨kp_ext e4 (by (intro b hb; simp only [List.mem_cons, List.not_mem_nil, or_false] at hb; omega)), ?_⟩
  have z4 := e4.size
  by_cases hi : isF n inn v = true
  · rw [hi, Bool.not_true, cond_false]
    obtain ⟨k, rfl, hk, _⟩ := isF_true hi
    refine Ins_ok (h.ext (e2.trans e4)) fun s5 w6 e6 o5 f5 => ⟨kp_ext e6 (by (intro b hb; simp only [List.mem_cons, List.not_mem_nil, or_false] at hb; omega)), ?_⟩
    have z6 := e6.size
    refine Outs_ok (h.ext ((e2.trans e4).trans e6)) fun s7 w8 e8 o7 f7 => ⟨kp_ext e8 (by (intro b hb; simp only [List.mem_cons, List.not_mem_nil, or_false] at hb; omega)), ?_⟩
    have v5 := (o5.ext e8).view
    have v7 := o7.view
    have l5 := v5.len; have l7 := v7.len
    have e8' := ((e2.trans e4).trans e6).trans e8
    have hc := fun w' e => hK w' e
    unfold costF at hc
    rw [if_pos hi, Int.toNat_natCast] at hc
    unfold insF outsF at hc
    have b5 := selL_len (fun u => hasF L u k) n
    have b7 := selL_len (fun u => hasF L k u) n
    generalize selL (fun u => hasF L u k) n = xs at v5 l5 hc b5
    generalize selL (fun u => hasF L k u) n = ys at v7 l7 hc b7
    refine Join.cut (fun (x : Int × Unit) w' => Ext w8 w' ∧ x.1 = cntP xs ys) (fun J hJ => ?_) ?_
    · refine LoopT.gh (γ := Nat) (fun i (st : Int × Int × Unit) w' => st.2.1 = i ∧ i ≤ xs.length ∧ Ext w8 w' ∧ st.1 = (xs.take i).foldl (fun c x => cntI x ys c) 0) (fun i => xs.length - i) 0 ⟨rfl, Nat.zero_le _, .refl _, rfl⟩ ?_
      rintro i ⟨c, x, _⟩ w12 ⟨hx, hi, e12, hcc⟩ J1 hJ1
      simp only at hx hcc
      subst hx
      dsimp only
      rw [Bool.cond_decide]
      by_cases hci : (i : Int) < (s5.len : Int)
      · rw [if_pos hci]
        have hi' : i < xs.length := by omega
        refine Join.cut (fun (y : Int × Unit) w' => Ext w8 w' ∧ y.1 = (xs.take (i + 1)).foldl (fun c x => cntI x ys c) 0) (fun J hJ => ?_) ?_
        · refine LoopT.gh (γ := Nat) (fun j (st : Int × Int × Unit) w' => st.2.1 = j ∧ j ≤ ys.length ∧ Ext w8 w' ∧ st.1 = cntI xs[i] (ys.take j) c) (fun j => ys.length - j) 0 ⟨rfl, Nat.zero_le _, e12, rfl⟩ ?_
          rintro j ⟨d, x, _⟩ w16 ⟨hx, hj, e16, hd⟩ J2 hJ2
          simp only at hx hd
          subst hx
          dsimp only
          rw [Bool.cond_decide]
          by_cases hcj : (j : Int) < (s7.len : Int)
          · rw [if_pos hcj]
            have hj' : j < ys.length := by omega
            refine Join.cut (fun (y : Int × Unit) w' => Ext w8 w' ∧ y.1 = cntI xs[i] (ys.take (j + 1)) c) (fun J hJ => ?_) ?_
            · refine int_idx (v5.ext e16) hi' fun _ a0 => ⟨_, a0, ?_⟩
              refine int_idx (v7.ext e16) hj' fun _ a0 => ⟨_, a0, ?_⟩
              intro w22 e22
              have e1 : cntI xs[i] (ys.take (j + 1)) c = if xs[i] ≠ ys[j] then IntKind.i64.wrap (d + 1) else d := by
                rw [take_snoc' hj', hd]; unfold cntI; rw [List.foldl_append]; rfl
              by_cases hne : xs[i] ≠ ys[j]
              · rw [show (xs[i] != ys[j]) = true by simpa using hne, cond_true]
                exact hJ _ _ ⟨e16.trans e22, by rw [e1, if_pos hne]⟩
              · rw [show (xs[i] != ys[j]) = false by simpa using hne, cond_false]
                exact hJ _ _ ⟨e16.trans e22, by rw [e1, if_neg hne]⟩
            · rintro ⟨y, _⟩ w24 ⟨e24, hy⟩
              exact hJ2 (j + 1) _ _ ⟨wsucc (m := 2 ^ 40) (by omega) (by omega), by omega, e24, hy⟩ (by omega)
          · rw [if_neg hcj]
            have : j = ys.length := by omega
            subst this
            rw [List.take_length] at hd
            exact hJ _ _ ⟨e16, by rw [take_snoc' hi', List.foldl_append, ← hcc]; exact hd⟩
        · rintro ⟨y, _⟩ w26 ⟨e26, hy⟩
          exact hJ1 (i + 1) _ _ ⟨wsucc (m := 2 ^ 40) (by omega) (by omega), by omega, e26, hy⟩ (by omega)
      · rw [if_neg hci]
        have : i = xs.length := by omega
        subst this
        rw [List.take_length] at hcc
        exact hJ _ _ ⟨e12, hcc⟩
    · rintro ⟨x, _⟩ w28 ⟨e28, hx⟩
      simp only at hx; subst hx
      refine fi_rd (h.o.ext (e8'.trans e28)) hk fun a ha => ⟨_, ha, ?_⟩
      rw [l5, l7]
      exact hc _ (e8'.trans e28)
  · rw [Bool.not_eq_true] at hi
    rw [hi, Bool.not_false, cond_true]
    have := hK w4 (e2.trans e4)
    unfold costF at this
    rw [hi, if_neg (by decide)] at this; exact this
theorem Cost_quiet {v : Int} {K : Int → Prop} (h : LeftV w n sI sL sO inn L lost) (hk : K (costF n inn L lost v)) :
    Quiet Int (fun r => .int .i64 r) (fun K16 w17' => sh_postroadref08_Cost n sI sL sO v (fun x14 w17 => K16 x14 w17) w17') w K :=
  Quiet.mk _ (fun w' e _ hK' => Cost_ok (h.ext e) fun w'' e'' => hK' w'' e'') hk

theorem Next_ok {K : Int → World → Prop} (h : LeftV w n sI sL sO inn L lost)
    (hK : ∀ x w', Ext w w' → (x = -1 ∧ ∀ v, v < n → inn v ≠ 1) ∨ (∃ v : Nat, v < n ∧ inn v = 1 ∧ x = (v : Int)) → K x w') : sh_postroadref09_Next n sI sL sO K w := by
  unfold sh_postroadref09_Next
  intro b1 w2 e2 g1 g1'
  have z2 := e2.size
  have hn := h.n40
  refine Places_ok (h.ext e2) fun s3 w4 ps e4 o3 f3 hpl hpm => ⟨kp_ext e4 (by (intro b hb; simp only [List.mem_cons, List.not_mem_nil, or_false] at hb; omega)), ?_⟩
  have v3 := o3.view
  have l3 := v3.len
  have e24 := e2.trans e4
  refine LoopT.gh (γ := Nat) (fun i (st : Int × Int × Unit) w' => st.2.1 = i ∧ i ≤ ps.length ∧ Ext w4 w' ∧ ((i = 0 ∧ st.1 = -1) ∨ ∃ v : Nat, v < n ∧ inn v = 1 ∧ st.1 = (v : Int))) (fun i => ps.length - i) 0 ⟨rfl, Nat.zero_le _, .refl _, .inl ⟨rfl, rfl⟩⟩ ?_
  rintro i ⟨c, x, _⟩ w7 ⟨hx, hi, e7, hb⟩ J1 hJ1
  simp only at hx hb
  subst hx
  dsimp only
  rw [Bool.cond_decide]
  by_cases hc : (i : Int) < (s3.len : Int)
  · rw [if_pos hc]
    have hi' : i < ps.length := by omega
    have hpi := (hpm ps[i]).1 (List.getElem_mem hi')
    refine Join.cut (fun (y : Int × Unit) w' => Ext w4 w' ∧ ∃ v : Nat, v < n ∧ inn v = 1 ∧ y.1 = (v : Int)) (fun J hJ => ?_) ?_
    · rw [Bool.cond_decide]
      by_cases hneg : c < 0
      · rw [if_pos hneg]
        intro w9 e9
        exact int_idx (v3.ext (e7.trans e9)) hi' fun _ a0 => ⟨_, a0, hJ _ _ ⟨e7.trans e9, hpi⟩⟩
      · rw [if_neg hneg]
        have hb' : ∃ v : Nat, v < n ∧ inn v = 1 ∧ c = (v : Int) := hb.elim (fun q => by omega) id
        refine int_idx (v3.ext e7) hi' fun _ a0 => ⟨_, a0, ?_⟩
        refine Cost_quiet (h.ext (e24.trans e7)) (Cost_quiet (h.ext (e24.trans e7)) fun w22 e22 => ?_)
        rw [Bool.cond_decide]
        split
        · exact int_idx (v3.ext (e7.trans e22)) hi' fun _ a0 => ⟨_, a0, hJ _ _ ⟨e7.trans e22, hpi⟩⟩
        · exact hJ _ _ ⟨e7.trans e22, hb'⟩
    · rintro ⟨y, _⟩ w26 ⟨e26, hy⟩
      exact hJ1 (i + 1) _ _ ⟨wsucc (m := 2 ^ 40) (by omega) (by omega), by omega, e26, .inr hy⟩ (by omega)
  · rw [if_neg hc]
    refine hK c w7 (e24.trans e7) (hb.imp (fun ⟨h0, h1⟩ => ⟨h1, fun v hv hin => ?_⟩) id)
    have := List.length_pos_of_mem ((hpm (v : Int)).2 ⟨v, hv, hin, rfl⟩)
    omega
end
end Go.Sh
