/- Is there a way around? -/
import Derived.Test.YtoomennincfkgaaRefNext
set_option maxRecDepth 100000
namespace Go.Sh
open Go.RowKit

theorem Acc.wr {w0 w : World} {n0 n i : Nat} {s : SV} {f : Nat → Int} (h : Acc RI w0 n0 w s (fi n f)) (hi : i < n) {K : Addr → Prop}
    (hk : ∀ a, (∀ (w1 : World) (v : Int) (K' : World → Prop), Ext w w1 → (∀ w', Chg s.blk w1 w' → Acc RI w0 n0 w' s (fi n (up1 f i v)) → K' w') → stL w1 a [.int .i64 v] 0 K') → K a) :
    Idx s.a s.len (i : Int) 1 K :=
  fi_wr h.o hi fun a put => hk a fun w1 v K' e hK' => put w1 v K' (h.o.ext e) fun w' c hO => hK' w' c
    ⟨ext_chg (h.e.trans e) c fun k hk => Nat.le_trans h.m (h.f k hk), h.m, Nat.le_trans h.z (Nat.le_trans e.size c.size), hO, h.f⟩

section
variable {w w' : World} {n : Nat} {sI sL sO : SV} {inn lost : Nat → Int} {L : List Wy}
/-- The edges without a place. -/
def EO (L : List Wy) (v : Nat) (i j : Nat) (x : Int) : Prop := EL L i j x ∧ i ≠ v ∧ j ≠ v

theorem Near_ok {u0 v0 most M : Int} {v : Nat} {K : Bool → World → Prop} (h : LeftV w n sI sL sO inn L lost) (hM : 0 ≤ M) (hB : (n : Int) * M ≤ 1152921504606846976) (he : ∀ y ∈ L, Ends (fun u => u < n) M y)
    (hK : ∀ b w', Ext w w' → (b = true → ∃ (a c : Nat) (d : Int), u0 = (a : Int) ∧ v0 = (c : Int) ∧ d ≤ most ∧ Wk (EO L v) a c d) → K b w') : sh_postroadref08_Near n sI sL sO u0 v0 v most K w := by
  unfold sh_postroadref08_Near
  intro b1 w2 e2 g1 g1'
  have z2 := e2.size
  have hn := h.n40; have hk40 := h.k; have hl := h.l.len
  have no : ∀ w', Ext w w' → K false w' := fun w' e => hK false w' e fun q => by cases q
  refine is_ok (h.ext e2) fun w4 e4 => ⟨kp_ext e4 (by (intro b hb; simp only [List.mem_cons, List.not_mem_nil, or_false] at hb; omega)), ?_⟩
  have z4 := e4.size
  by_cases hu : isF n inn u0 = true
  case neg => rw [Bool.not_eq_true] at hu; rw [hu, Bool.not_false, cond_true]; exact no _ (e2.trans e4)
  rw [hu, Bool.not_true, cond_false]
  refine is_ok (h.ext (e2.trans e4)) fun w6 e6 => ⟨kp_ext e6 (by (intro b hb; simp only [List.mem_cons, List.not_mem_nil, or_false] at hb; omega)), ?_⟩
  have z6 := e6.size
  have e06 := (e2.trans e4).trans e6
  by_cases hv : isF n inn v0 = true
  case neg => rw [Bool.not_eq_true] at hv; rw [hv, Bool.not_false, cond_true]; exact no _ e06
  rw [hv, Bool.not_true, cond_false]
  obtain ⟨a, rfl, ha, _⟩ := isF_true hu
  obtain ⟨c, rfl, hc, _⟩ := isF_true hv
  by_cases h1 : (a : Int) = (v : Int)
  · rw [show ((a : Int) == (v : Int)) = true by rw [beq_iff_eq]; exact h1, cond_true]; exact no _ e06
  rw [show ((a : Int) == (v : Int)) = false by rw [beq_eq_false_iff_ne]; exact h1, cond_false]
  by_cases h2 : (c : Int) = (v : Int)
  · rw [show ((c : Int) == (v : Int)) = true by rw [beq_iff_eq]; exact h2, cond_true]; exact no _ e06
  rw [show ((c : Int) == (v : Int)) = false by rw [beq_eq_false_iff_ne]; exact h2, cond_false]
  refine own_mk (R := RI) (by omega) (by omega) (by omega) fun s7 w8 e8 f8 o8 => ?_
  have z8 := e8.size
  rw [Int.toNat_natCast, show RI.z = (0 : Int) from rfl, fi_rep] at o8
  have hA : Acc RI w w6.heap.size w8 s7 (fi n fun _ => 0) := ⟨e06.trans e8, e06.size, z8, o8, f8⟩
  have h7 := o8.view.len
  rw [fi_len] at h7
  refine Join.cut (fun _ w' => Acc RI w w6.heap.size w' s7 (fi n fun _ => -1)) (fun J hJ => ?_) ?_
  · refine LoopT.gh (γ := Nat) (fun i (st : Int × Unit) w' => st.1 = i ∧ i ≤ n ∧ Acc RI w w6.heap.size w' s7 (fi n fun j => if j < i then -1 else 0)) (fun i => n - i) 0 ⟨rfl, Nat.zero_le _, by simpa using hA⟩ ?_
    rintro i ⟨x, _⟩ w12 ⟨hx, hi, hA⟩ J1 hJ1
    simp only at hx; subst hx
    dsimp only
    have z12 := hA.z
    rw [Bool.cond_decide]
    by_cases hci : (i : Int) < (n : Int)
    · rw [if_pos hci]
      refine hA.wr (show i < n by omega) fun p put => put w12 (-1) _ (.refl _) fun w14 c14 hA1 => ⟨hA.kp (.refl _) c14 (by (intro b hb; simp only [List.mem_cons, List.not_mem_nil, or_false] at hb; omega)), ?_⟩
      refine hJ1 (i + 1) _ _ ⟨wsucc (m := 2 ^ 40) (by omega) (by omega), by omega, ?_⟩ (by omega)
      rw [show fi n (fun j => if j < i + 1 then (-1 : Int) else 0) = fi n (up1 (fun j => if j < i then (-1 : Int) else 0) i (-1)) from fi_congr fun j hj => by
        unfold up1
        by_cases e : j = i
        · subst e; simp
        · rw [if_neg e]; dsimp only; by_cases q : j < i
          · rw [if_pos q, if_pos (by omega)]
          · rw [if_neg q, if_neg (by omega)]]
      exact hA1
    · rw [if_neg hci]
      have : i = n := by omega
      subst this
      refine hJ _ _ ?_
      rw [show fi i (fun _ => (-1 : Int)) = fi i (fun j => if j < i then (-1 : Int) else 0) from fi_congr fun j hj => by rw [if_pos hj]]
      exact hA
  · rintro _ w16 hA
    have z16 := hA.z
    refine hA.wr ha fun p put => put w16 0 _ (.refl _) fun w18 c18 hA1 => ⟨hA.kp (.refl _) c18 (by (intro b hb; simp only [List.mem_cons, List.not_mem_nil, or_false] at hb; omega)), ?_⟩
    have hT : Tab (EO L v) n a M (up1 (fun _ => -1) a 0) := Tab.begin ha hM
    refine Join.cut (fun _ w' => ∃ f, Acc RI w w6.heap.size w' s7 (fi n f) ∧ Tab (EO L v) n a M f) (fun J hJ => ?_) ?_
    · obtain ⟨Bn, hBn⟩ := Int.eq_ofNat_of_zero_le (show 0 ≤ (n : Int) * M from Int.mul_nonneg (by omega) hM)
      refine LoopT.gh (γ := Bool × (Nat → Int)) (fun g (st : Bool × Unit) w' => st.1 = g.1 ∧ Acc RI w w6.heap.size w' s7 (fi n g.2) ∧ Tab (EO L v) n a M g.2) (fun g => 2 * sumB Bn g.2 n + (if g.1 = true then 1 else 0)) (true, _) ⟨rfl, hA1, hT⟩ ?_
      rintro ⟨go, f⟩ ⟨x, _⟩ w22 ⟨hx, hA, hT⟩ J1 hJ1
      simp only at hx hA hT
      subst hx
      dsimp only
      cases x with
      | false => rw [cond_false]; exact hJ _ _ ⟨f, hA, hT⟩
      | true =>
        rw [cond_true]
        refine LoopT.gh (γ := Nat × (Nat → Int)) (fun g (st : Bool × Int × Unit) w' => st.2.1 = g.1 ∧ g.1 ≤ L.length ∧ Acc RI w w6.heap.size w' s7 (fi n g.2) ∧ Tab (EO L v) n a M g.2 ∧ sumB Bn g.2 n + (if st.1 = true then 1 else 0) ≤ sumB Bn f n) (fun g => L.length - g.1) (0, f) ⟨rfl, Nat.zero_le _, hA, hT, by simp⟩ ?_
        rintro ⟨i, f'⟩ ⟨fl, x, _⟩ w25 ⟨hx, hi, hA, hT, hS⟩ J2 hJ2
        simp only at hx hi hA hT hS
        subst hx
        dsimp only
        have z25 := hA.z
        rw [Bool.cond_decide]
        by_cases hci : (i : Int) < (sL.len : Int)
        · rw [if_pos hci]
          have hi' : i < L.length := by omega
          refine Join.cut (fun (y : Bool × Unit) w' => ∃ f'', Acc RI w w6.heap.size w' s7 (fi n f'') ∧ Tab (EO L v) n a M f'' ∧ sumB Bn f'' n + (if y.1 = true then 1 else 0) ≤ sumB Bn f n) (fun J3 hJ3 => ?_) ?_
          · refine way_idx (h.l.ext hA.e) hi' fun _ _ a0 a1 a2 a3 a4 => ⟨_, a0, _, a1, _, a2, _, a3, _, a4, ?_⟩
            intro b33 w34 e34 g33 g33' w35 o35
            have z34 := e34.size; have z35 := o35.size
            have hA1 := hA.off' e34 o35 g33
            obtain ⟨⟨p, hp, hp1⟩, ⟨q, hq, hq1⟩, _, hw0, hwM⟩ := he _ (List.getElem_mem hi')
            have e25 : Ext w25 w35 := ext_off e34 o35 g33
            have keep : ∀ w58, Ext w35 w58 → J3 (fl, ()) w58 := fun w58 e58 => hJ3 _ _ ⟨f', hA1.ext e58, hT, hS⟩
            by_cases k1 : yF L[i] = (v : Int)
            · rw [show (yF L[i] != (v : Int)) = false by rw [bne_eq_false_iff_eq]; exact k1, cond_false]; exact keep
            rw [show (yF L[i] != (v : Int)) = true by rw [bne_iff_ne]; exact k1, cond_true]
            by_cases k2 : yT L[i] = (v : Int)
            · rw [show (yT L[i] != (v : Int)) = false by rw [bne_eq_false_iff_eq]; exact k2, cond_false]; exact keep
            rw [show (yT L[i] != (v : Int)) = true by rw [bne_iff_ne]; exact k2, cond_true]
            have hE : EO L v p q (yW L[i]) := ⟨⟨L[i], List.getElem_mem hi', hp1, hq1, rfl⟩, by omega, by omega⟩
            rw [hp1, hq1]
            refine fi_rd hA1.o.view hp fun _ r1 => ⟨_, r1, ?_⟩
            rw [Bool.cond_decide]
            by_cases hfp : f' p ≥ 0
            case neg => rw [if_neg hfp]; exact keep
            rw [if_pos hfp]
            have hlt := hT.lt hp hfp hwM
            have hwr : IntKind.i64.wrap (f' p + yW L[i]) = f' p + yW L[i] := w64 (by omega) (by omega)
            refine fi_rd hA1.o.view hq fun _ r2 => ⟨_, r2, ?_⟩
            rw [Bool.cond_decide]
            by_cases hfq : f' q < 0
            · rw [if_pos hfq]
              intro w40 e40
              refine fi_rd (hA1.ext e40).o.view hp fun _ r3 => ⟨_, r3, ?_⟩
              refine (hA1.ext e40).wr hq fun _ put w44 e44 => put w44 _ _ e44 fun w45 c45 hA2 => ?_
              have z40 := e40.size; have z44 := e44.size
              refine ⟨hA.kp ((e25.trans e40).trans e44) c45 (by (intro b hb; simp only [List.mem_cons, List.not_mem_nil, or_false] at hb; omega)), fun w46 e46 => ?_⟩
              rw [hwr] at hA2
              have hS1 := hT.step hp hq hE hw0 hwM hfp (.inl hfq)
              have hS2 := hS1.2 Bn (by omega)
              refine hJ3 _ _ ⟨_, hA2.ext e46, hS1.1, ?_⟩
              simp only [if_pos]
              split at hS <;> omega
            · rw [if_neg hfq]
              refine fi_rd hA1.o.view hp fun _ r3 => ⟨_, r3, ?_⟩
              refine fi_rd hA1.o.view hq fun _ r4 => ⟨_, r4, ?_⟩
              intro w51 e51
              rw [hwr, Bool.cond_decide]
              by_cases hless : f' p + yW L[i] < f' q
              · rw [if_pos hless]
                refine fi_rd (hA1.ext e51).o.view hp fun _ r3 => ⟨_, r3, ?_⟩
                refine (hA1.ext e51).wr hq fun _ put w55 e55 => put w55 _ _ e55 fun w56 c56 hA2 => ?_
                have z51 := e51.size; have z55 := e55.size
                refine ⟨hA.kp ((e25.trans e51).trans e55) c56 (by (intro b hb; simp only [List.mem_cons, List.not_mem_nil, or_false] at hb; omega)), fun w57 e57 => ?_⟩
                rw [hwr] at hA2
                have hS1 := hT.step hp hq hE hw0 hwM hfp (.inr hless)
                have hS2 := hS1.2 Bn (by omega)
                refine hJ3 _ _ ⟨_, hA2.ext e57, hS1.1, ?_⟩
                simp only [if_pos]
                split at hS <;> omega
              · rw [if_neg hless]; exact keep _ e51
          · rintro ⟨y, _⟩ w62 ⟨f'', hA2, hT2, hS2⟩
            exact hJ2 (i + 1, f'') _ _ ⟨wsucc (m := 2 ^ 40) (by omega) (by omega), by simp only; omega, hA2, hT2, hS2⟩ (by simp only; omega)
        · rw [if_neg hci]
          refine hJ1 (fl, f') _ _ ⟨rfl, hA, hT⟩ ?_
          simp only [if_pos]
          split at hS <;> simp_all <;> omega
    · rintro _ w64 ⟨f, hA, hT⟩
      refine fi_rd hA.o.view hc fun _ r1 => ⟨_, r1, ?_⟩
      rw [Bool.cond_decide]
      by_cases hf : f c ≥ 0
      · rw [if_pos hf]
        refine fi_rd hA.o.view hc fun _ r2 => ⟨_, r2, ?_⟩
        refine hK _ _ hA.e fun q => ⟨a, c, f c, rfl, rfl, of_decide_eq_true q, ?_⟩
        rcases hT.r c hc with e | ⟨_, hw, _⟩
        · omega
        · exact hw
      · rw [if_neg hf]; exact no _ hA.e
end
end Go.Sh
