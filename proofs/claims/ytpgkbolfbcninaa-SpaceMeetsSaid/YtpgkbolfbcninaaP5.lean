/- SpRef, SpKnown, SpTurned: merged into one text. -/
import Derived.Test.YtpgkbolfbcninaaP4
/- The reference of space: Fit, Climb, Rows, Above, Same. -/
set_option maxRecDepth 100000
namespace Go.Sh
open Go.RowKit

def endU (back : Bool) (y : Wy) : Int := if back = true then yT y else yF y
def endV (back : Bool) (y : Wy) : Int := if back = true then yF y else yT y
section
variable {rank : List Int} {ways : List Wy} {top : Int} {back : Bool}
theorem rk_ne (ok : OkH rank ways) {a b : Nat} (ha : a < rank.length) (hb : b < rank.length) (hne : a ≠ b) : rkA rank (a : Int) ≠ rkA rank (b : Int) := fun e => by
  rw [← rk_get ha, ← rk_get hb] at e
  have := List.pairwise_iff_getElem.1 (List.nodup_iff_pairwise_ne.1 ok.r.2)
  rcases Nat.lt_or_gt_of_ne hne with h | h
  · exact this a b ha hb h e
  · exact this b a hb ha h e.symm
theorem ES_of (ok : OkH rank ways) {k : Nat} (hk : k < ways.length) {u v : Nat} (hu : endU back ways[k] = (u : Int)) (hv : endV back ways[k] = (v : Int)) (ht : rkA rank (u : Int) < top) (hlt : rkA rank (v : Int) > rkA rank (u : Int)) :
    ES rank ways top back u v (yW ways[k]) := by
  have hf := ok.f k hk; unfold OkF at hf
  cases back with
  | true =>
    have hu : yT ways[k] = (u : Int) := hu
    have hv : yF ways[k] = (v : Int) := hv
    refine ⟨by omega, (yF ways[k], yW ways[k], (k : Int)), ?_, hv, rfl⟩
    unfold edS
    rw [if_pos ht, if_pos rfl, ← hu]
    refine dnF_of ok hk fun h => ?_
    unfold IsUp at h; rw [hu, hv] at h; omega
  | false =>
    have hu : yF ways[k] = (u : Int) := hu
    have hv : yT ways[k] = (v : Int) := hv
    refine ⟨by omega, (yT ways[k], yW ways[k], (k : Int)), ?_, hv, rfl⟩
    unfold edS
    rw [if_pos ht, if_neg (by decide), ← hu]
    refine upF_of ok hk ?_
    unfold IsUp; rw [hu, hv]; omega
theorem ES_way (ok : OkH rank ways) {u v : Nat} {x : Int} (h : ES rank ways top back u v x) : ∃ k, ∃ hk : k < ways.length, endU back ways[k] = (u : Int) ∧ endV back ways[k] = (v : Int) ∧ yW ways[k] = x ∧ rkA rank (u : Int) < top ∧ rkA rank (v : Int) > rkA rank (u : Int) := by
  obtain ⟨hu, e, he, hv, hx⟩ := h
  unfold edS at he
  split at he
  · rename_i ht
    split at he
    · rename_i hb
      subst hb
      obtain ⟨k, hk, h1, h2, rfl⟩ := dnF_mem he
      have hv : yF ways[k] = (v : Int) := hv
      have hf := ok.f k hk; unfold OkF at hf
      refine ⟨k, hk, h1, hv, hx, ht, ?_⟩
      unfold IsUp at h2
      rw [h1, hv] at h2
      have := rk_ne ok (show v < rank.length by omega) hu (by omega)
      omega
    · rename_i hb
      rw [Bool.not_eq_true] at hb
      subst hb
      obtain ⟨k, hk, h1, h2, rfl⟩ := upF_mem he
      have hv : yT ways[k] = (v : Int) := hv
      refine ⟨k, hk, h1, hv, hx, ht, ?_⟩
      unfold IsUp at h2
      rw [h1, hv] at h2; exact h2
  · simp at he
end

section
variable {w : World} {rank : List Int} {ways : List Wy} {sr sy : SV}

theorem Fit_ok {K : Bool → World → Prop} (hr : View RI w sr rank) (hy : View RW w sy ways) (hk : ∀ b w', Ext w w' → (b = true → FitH rank ways ∧ rank.length ≤ 14 ∧ ways.length ≤ 80) → K b w') : sh_postroadref11_Fit sr sy K w := by
  unfold sh_postroadref11_Fit
  intro b1 w2 e2 g1 g1'
  have z2 := e2.size
  have lr := hr.len; have ly := hy.len
  have no : ∀ w', Ext w w' → K false w' := fun w' e => hk false w' e fun q => by cases q
  rw [Bool.cond_decide]; split
  · exact no _ e2
  rename_i h1
  rw [Bool.cond_decide]; split
  · exact no _ e2
  rename_i h2
  refine rCheck_ok (hr.ext e2) (hy.ext e2) fun w4 e4 => ⟨kp1 e4 (by omega), ?_⟩
  by_cases ok : ¬ OkH rank ways
  · rw [show (chkF rank ways != 0) = true by simpa using (chkF_no ok).1, cond_true]
    exact no _ (e2.trans e4)
  rw [Classical.not_not] at ok
  rw [chkF_ok ok, bne_self_eq_false, cond_false]
  refine LoopT.gh (γ := Nat) (fun i (st : Int × Unit) w' => st.1 = i ∧ i ≤ ways.length ∧ Ext w w' ∧ ∀ j (hj : j < ways.length), j < i → yW ways[j] ≤ 1125899906842624) (fun i => ways.length - i) 0 ⟨rfl, Nat.zero_le _, e2.trans e4, fun j hj h => by omega⟩ ?_
  rintro i ⟨x, _⟩ w7 ⟨hx, hi, e7, hb⟩ J1 hJ1
  simp only at hx; subst hx
  dsimp only
  rw [Bool.cond_decide]
  by_cases hc : (i : Int) < (sy.len : Int)
  · rw [if_pos hc]
    have hi' : i < ways.length := by omega
    refine way_idx (hy.ext e7) hi' fun a ha _ _ a2 _ _ => ⟨yW ways[i], ?_, ?_⟩
    · obtain ⟨b, o, sp⟩ := a
      simp only at ha; subst ha
      rw [addm] at a2 ⊢; rw [addm]; exact a2
    rw [Bool.cond_decide]
    by_cases hw : yW ways[i] > 1125899906842624
    · rw [if_pos hw]; exact no _ e7
    · rw [if_neg hw]
      refine hJ1 (i + 1) _ _ ⟨wsucc (m := 2 ^ 40) (by omega) (by omega), by omega, e7, fun j hj hji => ?_⟩ (by omega)
      by_cases e : j = i
      · subst e; omega
      · exact hb j hj (by omega)
  · rw [if_neg hc]
    refine hk true w7 e7 fun _ => ⟨⟨ok, by omega, fun y hy' => ?_⟩, by omega, by omega⟩
    obtain ⟨j, hj, rfl⟩ := List.getElem_of_mem hy'
    exact hb j hj (by omega)

theorem rSame_ok {a b : SV} {xs : List (Int × Int)} {K : Bool → World → Prop} (ha : View RE w a xs) (hb : View RE w b xs) (hn : xs.length < 2 ^ 40) (hk : ∀ w', Ext w w' → K true w') : sh_postroadref11_Same a b K w := by
  unfold sh_postroadref11_Same
  have la := ha.len; have lb := hb.len
  rw [show ((a.len : Int) != (b.len : Int)) = false by rw [bne_eq_false_iff_eq]; omega, cond_false]
  refine LoopT.gh (γ := Nat) (fun i (st : Int × Unit) w' => st.1 = i ∧ i ≤ xs.length ∧ Ext w w') (fun i => xs.length - i) 0 ⟨rfl, Nat.zero_le _, .refl _⟩ ?_
  rintro i ⟨x, _⟩ w3 ⟨hx, hi, e3⟩ J1 hJ1
  simp only at hx; subst hx
  rw [Bool.cond_decide]
  by_cases hc : (i : Int) < (a.len : Int)
  · rw [if_pos hc]
    have hi' : i < xs.length := by omega
    refine re_idx (ha.ext e3) hi' fun _ a0 a1 => ⟨_, a0, _, a1, ?_⟩
    refine re_idx (hb.ext e3) hi' fun _ a0 a1 => ⟨_, a0, _, a1, ?_⟩
    intro w12 e12
    simp only [beq_self_eq_true, Bool.and_self, Bool.not_true, cond_false]
    exact hJ1 (i + 1) _ _ ⟨wsucc (m := 2 ^ 40) (by omega) (by omega), by omega, e3.trans e12⟩ (by omega)
  · rw [if_neg hc]; exact hk w3 e3
theorem rSame_quiet {a b : SV} {xs : List (Int × Int)} {K : Bool → Prop} (ha : View RE w a xs) (hb : View RE w b xs) (hn : xs.length < 2 ^ 40) (hk : K true) :
    Quiet Bool (fun r => .bool r) (fun K62 w63' => sh_postroadref11_Same a b (fun t60 w63 => K62 t60 w63) w63') w K :=
  Quiet.mk true (fun _ e _ hK' => rSame_ok (ha.ext e) (hb.ext e) hn hK') hk

/-- A way is of no more use. -/
def RlxS (rank : List Int) (top : Int) (back : Bool) (f : Nat → Int) (y : Wy) : Prop :=
  ∀ u v : Nat, endU back y = (u : Int) → endV back y = (v : Int) → 0 ≤ f u → rkA rank (u : Int) < top → rkA rank (v : Int) > rkA rank (u : Int) → 0 ≤ f v ∧ f v ≤ f u + yW y

theorem rClimb_ok {s top : Int} {back : Bool} {K : SV → World → Prop} (hr : View RI w sr rank) (hy : View RW w sy ways) (fit : FitH rank ways)
    (hk : ∀ t w', Ext w w' → Own RI w' t (fi rank.length (clF rank ways top back s)) → Fsh w t → K t w') : sh_postroadref11_Climb sr sy s top back K w := by
  unfold sh_postroadref11_Climb
  intro b1 w2 e2 g1 g1'
  have z2 := e2.size
  have lr := hr.len; have ly := hy.len; have hn := fit.n; have hkl := fit.ok.k
  have rdR : ∀ {w' : World} {K' : Addr → Prop} {u : Nat}, Ext w w' → u < rank.length → (∀ a, w'.cell? a = some (.int .i64 (rkA rank (u : Int))) → K' a) → Idx sr.a rank.length (u : Int) 1 K' := fun {w'} {K'} {u} e hu hK' => by
    have := int_idx (K := K') (hr.ext e) hu fun a ha => hK' a (by rw [rk_get hu] at ha; exact ha)
    rw [lr] at this; exact this
  rw [lr]
  refine own_mk (R := RI) (by omega) (by omega) (by omega) fun s3 w4 e4 f4 o4 => ?_
  have z4 := e4.size
  rw [Int.toNat_natCast, show RI.z = (0 : Int) from rfl, fi_rep] at o4
  have hA : Acc RI w w2.heap.size w4 s3 (fi rank.length fun _ => 0) := ⟨e2.trans e4, e2.size, z4, o4, f4⟩
  refine Join.cut (fun _ w' => Acc RI w w2.heap.size w' s3 (fi rank.length fun _ => -1)) (fun J hJ => ?_) ?_
  · refine LoopT.gh (γ := Nat) (fun i (st : Int × Unit) w' => st.1 = i ∧ i ≤ rank.length ∧ Acc RI w w2.heap.size w' s3 (fi rank.length fun j => if j < i then -1 else 0)) (fun i => rank.length - i) 0 ⟨rfl, Nat.zero_le _, by simpa using hA⟩ ?_
    rintro i ⟨x, _⟩ w12 ⟨hx, hi, hA⟩ J1 hJ1
    simp only at hx; subst hx
    dsimp only
    have z12 := hA.z
    rw [Bool.cond_decide]
    by_cases hci : (i : Int) < (rank.length : Int)
    · rw [if_pos hci]
      refine hA.wr (show i < rank.length by omega) fun p put => put w12 (-1) _ (.refl _) fun w14 c14 hA1 => ⟨hA.kp (.refl _) c14 (by (intro b hb; simp only [List.mem_cons, List.not_mem_nil, or_false] at hb; omega)), ?_⟩
      refine hJ1 (i + 1) _ _ ⟨wsucc (m := 2 ^ 40) (by omega) (by omega), by omega, ?_⟩ (by omega)
      rw [show fi rank.length (fun j => if j < i + 1 then (-1 : Int) else 0) = fi rank.length (up1 (fun j => if j < i then (-1 : Int) else 0) i (-1)) from fi_congr fun j hj => by
        unfold up1
        by_cases e : j = i
        · subst e; simp
        · rw [if_neg e]; dsimp only; by_cases q : j < i
          · rw [if_pos q, if_pos (by omega)]
          · rw [if_neg q, if_neg (by omega)]]
      exact hA1
    · rw [if_neg hci]
      have : i = rank.length := by omega
      subst this
      refine hJ _ _ ?_
      rw [show fi rank.length (fun _ => (-1 : Int)) = fi rank.length (fun j => if j < rank.length then (-1 : Int) else 0) from fi_congr fun j hj => by rw [if_pos hj]]
      exact hA
  · rintro _ w12 hA
    have z12 := hA.z
    have out : ¬ (0 ≤ s ∧ s < rank.length) → K s3 w12 := fun hs => hk s3 w12 hA.e (by
      rw [show fi rank.length (clF rank ways top back s) = fi rank.length (fun _ => -1) from fi_congr fun j _ => clF_no hs j]
      exact hA.o) fun k hk => by have := hA.f k hk; omega
    rw [Bool.cond_decide]; split
    · exact out (by omega)
    rename_i h0
    rw [Bool.cond_decide]; split
    · exact out (by omega)
    rename_i h1
    obtain ⟨a, rfl⟩ := Int.eq_ofNat_of_zero_le (show 0 ≤ s by omega)
    have ha : a < rank.length := by omega
    refine hA.wr ha fun p put => put w12 0 _ (.refl _) fun w14 c14 hA1 => ⟨hA.kp (.refl _) c14 (by (intro b hb; simp only [List.mem_cons, List.not_mem_nil, or_false] at hb; omega)), ?_⟩
    have ok := edS_ok (top := top) (back := back) fit
    have hM : (0 : Int) ≤ 1125899906842624 := by decide
    have hT : Tab (ES rank ways top back) rank.length a 1125899906842624 (up1 (fun _ => -1) a 0) := Tab.begin ha hM
    have hBn : (rank.length : Int) * 1125899906842624 ≤ ((2305843009213693952 : Nat) : Int) := by omega
    refine LoopT.gh (γ := Bool × (Nat → Int)) (fun g (st : Bool × Unit) w' => st.1 = g.1 ∧ Acc RI w w2.heap.size w' s3 (fi rank.length g.2) ∧ Tab (ES rank ways top back) rank.length a 1125899906842624 g.2 ∧ (g.1 = false → ∀ y ∈ ways, RlxS rank top back g.2 y)) (fun g => 2 * sumB 2305843009213693952 g.2 rank.length + (if g.1 = true then 1 else 0)) (true, _) ⟨rfl, hA1, hT, fun q => by cases q⟩ ?_
    rintro ⟨go, f⟩ ⟨x, _⟩ w17 ⟨hx, hA, hT, hR⟩ J1 hJ1
    simp only at hx hA hT hR
    subst hx
    dsimp only
    cases x with
    | false =>
      rw [cond_false]
      refine hk s3 w17 hA.e ?_ fun k hk => by have := hA.f k hk; omega
      rw [show fi rank.length (clF rank ways top back a) = fi rank.length f from fi_congr fun v hv => (clF_is fit ha v).uniq (hT.done (ES_dom fit) (fun u v x he hu hf => by
        obtain ⟨k, hk, k1, k2, k3, k4, k5⟩ := ES_way fit.ok he
        have := hR rfl _ (List.getElem_mem hk) u v k1 k2 hf k4 k5
        rw [k3] at this; exact this) hv)]
      exact hA.o
    | true =>
      rw [cond_true]
      refine LoopT.gh (γ := Nat × (Nat → Int)) (fun g (st : Bool × Int × Unit) w' => st.2.1 = g.1 ∧ g.1 ≤ ways.length ∧ Acc RI w w2.heap.size w' s3 (fi rank.length g.2) ∧ Tab (ES rank ways top back) rank.length a 1125899906842624 g.2 ∧ sumB 2305843009213693952 g.2 rank.length + (if st.1 = true then 1 else 0) ≤ sumB 2305843009213693952 f rank.length ∧
          (st.1 = false → ∀ j (hj : j < ways.length), j < g.1 → RlxS rank top back g.2 ways[j])) (fun g => ways.length - g.1) (0, f) ⟨rfl, Nat.zero_le _, hA, hT, by simp, fun _ j hj h => by simp at h⟩ ?_
      rintro ⟨i, f'⟩ ⟨fl, x, _⟩ w20 ⟨hx, hi, hA, hT, hS, hR⟩ J2 hJ2
      simp only at hx hi hA hT hS hR
      subst hx
      dsimp only
      have z20 := hA.z
      rw [Bool.cond_decide]
      by_cases hci : (i : Int) < (sy.len : Int)
      · rw [if_pos hci]
        have hi' : i < ways.length := by omega
        have hokf := fit.ok.f i hi'; unfold OkF at hokf
        have hwM := fit.b _ (List.getElem_mem hi')
        refine Join.cut (fun (y : Bool × Unit) w' => ∃ f'', Acc RI w w2.heap.size w' s3 (fi rank.length f'') ∧ Tab (ES rank ways top back) rank.length a 1125899906842624 f'' ∧ sumB 2305843009213693952 f'' rank.length + (if y.1 = true then 1 else 0) ≤ sumB 2305843009213693952 f rank.length ∧
            (y.1 = false → ∀ j (hj : j < ways.length), j < i + 1 → RlxS rank top back f'' ways[j])) (fun J3 hJ3 => ?_) ?_
        · refine way_idx (hy.ext hA.e) hi' fun _ _ a0 _ _ _ _ => ⟨_, a0, ?_⟩
          refine way_idx (hy.ext hA.e) hi' fun _ _ _ a1 _ _ _ => ⟨_, a1, ?_⟩
          refine Join.cut (fun (y : Int × Int × Unit) w' => w' = w20 ∧ y.1 = endU back ways[i] ∧ y.2.1 = endV back ways[i]) (fun J4 hJ4 => ?_) ?_
          · cases back with
            | true =>
              rw [cond_true]
              refine way_idx (hy.ext hA.e) hi' fun _ _ _ a1 _ _ _ => ⟨_, a1, ?_⟩
              exact way_idx (hy.ext hA.e) hi' fun _ _ a0 _ _ _ _ => ⟨_, a0, hJ4 _ _ ⟨rfl, rfl, rfl⟩⟩
            | false => rw [cond_false]; exact hJ4 _ _ ⟨rfl, rfl, rfl⟩
          · rintro ⟨xu, xv, _⟩ w32 ⟨rfl, hxu, hxv⟩
            simp only at hxu hxv
            have hUV : 0 ≤ xu ∧ xu < rank.length ∧ 0 ≤ xv ∧ xv < rank.length := by
              rw [hxu, hxv]
              cases back with
              | true =>
                show 0 ≤ yT ways[i] ∧ _ ∧ 0 ≤ yF ways[i] ∧ _
                exact ⟨by omega, by show yT ways[i] < _; omega, by omega, by show yF ways[i] < _; omega⟩
              | false =>
                show 0 ≤ yF ways[i] ∧ _ ∧ 0 ≤ yT ways[i] ∧ _
                exact ⟨by omega, by show yF ways[i] < _; omega, by omega, by show yT ways[i] < _; omega⟩
            obtain ⟨u, rfl⟩ := Int.eq_ofNat_of_zero_le hUV.1
            obtain ⟨v, rfl⟩ := Int.eq_ofNat_of_zero_le hUV.2.2.1
            have hu : u < rank.length := by omega
            have hv : v < rank.length := by omega
            have keep : RlxS rank top back f' ways[i] → ∀ w58, Ext w32 w58 → J3 (fl, ()) w58 := fun hrl w58 e58 => hJ3 _ _ ⟨f', hA.ext e58, hT, hS, fun hfl j hj hji => by
              by_cases e : j = i
              · subst e; exact hrl
              · exact hR hfl j hj (by omega)⟩
            have rl : (0 ≤ f' u → rkA rank (u : Int) < top → rkA rank (v : Int) > rkA rank (u : Int) → 0 ≤ f' v ∧ f' v ≤ f' u + yW ways[i]) → RlxS rank top back f' ways[i] := fun h u' v' hu' hv' => by
              have e1 : u' = u := by omega
              have e2 : v' = v := by omega
              subst e1 e2; exact h
            dsimp only
            refine fi_rd hA.o.view hu fun _ r1 => ⟨_, r1, ?_⟩
            rw [Bool.cond_decide]
            by_cases hfu : f' u ≥ 0
            case neg => rw [if_neg hfu]; exact keep (rl fun q => absurd q hfu)
            rw [if_pos hfu]
            refine rdR hA.e hu fun _ r2 => ⟨_, r2, ?_⟩
            rw [Bool.cond_decide]
            by_cases ht : rkA rank (u : Int) < top
            case neg => rw [if_neg ht]; exact keep (rl fun _ q => absurd q ht)
            rw [if_pos ht]
            refine rdR hA.e hv fun _ r3 => ⟨_, r3, ?_⟩
            refine rdR hA.e hu fun _ r4 => ⟨_, r4, ?_⟩
            rw [Bool.cond_decide]
            by_cases hlt : rkA rank (v : Int) > rkA rank (u : Int)
            case neg => rw [if_neg hlt]; exact keep (rl fun _ _ q => absurd q hlt)
            rw [if_pos hlt]
            have hE := ES_of fit.ok hi' hxu.symm hxv.symm ht hlt
            have hw0 : 0 ≤ yW ways[i] := by omega
            have hbd := hT.lt hu hfu hwM
            have hwr : IntKind.i64.wrap (f' u + yW ways[i]) = f' u + yW ways[i] := w64 (by omega) (by omega)
            have rdW : ∀ {w'} {K' : Addr → Prop}, Ext w32 w' → (∀ a, w'.cell? ((a.add 2).add 0) = some (.int .i64 (yW ways[i])) → K' a) → Idx sy.a sy.len (i : Int) 5 K' := fun {w'} {K'} e hK' =>
              way_idx (hy.ext (hA.e.trans e)) hi' fun a ha _ _ a2 _ _ => hK' a (by
                obtain ⟨b, o, sp⟩ := a
                simp only at ha; subst ha
                rw [addm] at a2 ⊢; rw [addm]; exact a2)
            have write : (f' v < 0 ∨ f' u + yW ways[i] < f' v) → ∀ w43, Ext w32 w43 → ∀ {K' : Addr → Prop}, (∀ a, (∀ w49, Ext w43 w49 → stL w49 a [.int .i64 (f' u + yW ways[i])] 0 (fun w50 => Keeps [b1] w49 w50 ∧ ∀ w51, Ext w50 w51 → J3 (true, ()) w51)) → K' a) → Idx s3.a s3.len (v : Int) 1 K' := fun hcase w43 e43 {K'} hK' => by
              refine (hA.ext e43).wr hv fun a put => hK' a fun w49 e49 => put w49 _ _ e49 fun w50 c50 hA2 => ?_
              have z43 := e43.size; have z49 := e49.size
              refine ⟨hA.kp (e43.trans e49) c50 (by (intro b hb; simp only [List.mem_cons, List.not_mem_nil, or_false] at hb; omega)), fun w51 e51 => ?_⟩
              have hS1 := hT.step hu hv hE hw0 hwM hfu hcase
              have hS2 := hS1.2 2305843009213693952 hBn
              refine hJ3 _ _ ⟨_, hA2.ext e51, hS1.1, ?_, fun q => by cases q⟩
              simp only [if_pos]
              split at hS <;> omega
            refine fi_rd hA.o.view hv fun _ r5 => ⟨_, r5, ?_⟩
            rw [Bool.cond_decide]
            by_cases hfv : f' v < 0
            · rw [if_pos hfv]
              intro w43 e43
              refine fi_rd (hA.ext e43).o.view hu fun _ r6 => ⟨_, r6, ?_⟩
              refine rdW e43 fun _ r7 => ⟨_, r7, ?_⟩
              rw [hwr]
              exact write (.inl hfv) w43 e43 fun a h => h
            · rw [if_neg hfv]
              refine fi_rd hA.o.view hu fun _ r6 => ⟨_, r6, ?_⟩
              refine rdW (.refl _) fun _ r7 => ⟨_, r7, ?_⟩
              refine fi_rd hA.o.view hv fun _ r8 => ⟨_, r8, ?_⟩
              intro w58 e58
              rw [hwr, Bool.cond_decide]
              by_cases hless : f' u + yW ways[i] < f' v
              · rw [if_pos hless]
                refine fi_rd (hA.ext e58).o.view hu fun _ r6 => ⟨_, r6, ?_⟩
                refine rdW e58 fun _ r7 => ⟨_, r7, ?_⟩
                rw [hwr]
                exact write (.inr hless) w58 e58 fun a h => h
              · rw [if_neg hless]
                exact keep (rl fun _ _ _ => ⟨by omega, by omega⟩) w58 e58
        · rintro ⟨y, _⟩ w71 ⟨f'', q1, q2, q3, q4⟩
          exact hJ2 (i + 1, f'') _ _ ⟨wsucc (m := 2 ^ 40) (by omega) (by omega), by simp only; omega, q1, q2, q3, q4⟩ (by simp only; omega)
      · rw [if_neg hci]
        have : i = ways.length := by omega
        subst this
        refine hJ1 (fl, f') _ _ ⟨rfl, hA, hT, fun hfl y hy' => ?_⟩ ?_
        · obtain ⟨j, hj, rfl⟩ := List.getElem_of_mem hy'
          exact hR hfl j hj hj
        · simp only [if_pos]
          split at hS <;> simp_all <;> omega

theorem rRows_ok {d : SV} {f : Nat → Int} {low high : Int} {K : SV → World → Prop} (hr : View RI w sr rank) (hd : View RI w d (fi rank.length f)) (hn : rank.length < 2 ^ 40)
    (hk : ∀ s w', Ext w w' → Own RE w' s (rowsL rank.length f fun u => decide (low ≤ rkA rank (u : Int) ∧ rkA rank (u : Int) < high)) → Fsh w s → K s w') : sh_postroadref11_Rows sr sy d low high K w := by
  unfold sh_postroadref11_Rows
  intro b1 w2 e2 g1 g1'
  have z2 := e2.size
  have ld := hd.len
  rw [fi_len] at ld
  refine LoopT.gh (γ := Nat) (fun i (st : SV × Int × Unit) w' => st.2.1 = i ∧ i ≤ rank.length ∧ Acc RE w w2.heap.size w' st.1 (rowsL i f fun u => decide (low ≤ rkA rank (u : Int) ∧ rkA rank (u : Int) < high))) (fun i => rank.length - i) 0 ⟨rfl, Nat.zero_le _, Acc.nil e2 z2 (Nat.le_refl _)⟩ ?_
  rintro i ⟨s, x, _⟩ w5 ⟨hx, hi, hA⟩ J1 hJ1
  simp only at hx hA; subst hx
  dsimp only
  have z5 := hA.z
  have hgl := rowsL_len i f fun u => decide (low ≤ rkA rank (u : Int) ∧ rkA rank (u : Int) < high)
  rw [Bool.cond_decide]
  by_cases hc : (i : Int) < (d.len : Int)
  · rw [if_pos hc]
    have hi' : i < rank.length := by omega
    refine Join.cut (fun (y : SV × Unit) w' => Acc RE w w2.heap.size w' y.1 (rowsL (i + 1) f fun u => decide (low ≤ rkA rank (u : Int) ∧ rkA rank (u : Int) < high))) (fun J hJ => ?_) ?_
    · rw [rowsL_succ] at hJ
      refine fi_rd (hd.ext hA.e) hi' fun _ r1 => ⟨_, r1, ?_⟩
      rw [Bool.cond_decide]
      by_cases h1 : f i ≥ 0
      case neg => rw [if_neg h1]; rw [if_neg (fun q => h1 q.1)] at hJ; exact hJ _ _ hA
      rw [if_pos h1]
      refine int_idx (hr.ext hA.e) hi' fun _ r2 => ⟨_, r2, ?_⟩
      rw [rk_get hi', Bool.cond_decide]
      by_cases h2 : rkA rank (i : Int) ≥ low
      case neg => rw [if_neg h2]; rw [if_neg (fun q => h2 (of_decide_eq_true q.2).1)] at hJ; exact hJ _ _ hA
      rw [if_pos h2]
      refine int_idx (hr.ext hA.e) hi' fun _ r2 => ⟨_, r2, ?_⟩
      rw [rk_get hi', Bool.cond_decide]
      by_cases h3 : rkA rank (i : Int) < high
      case neg => rw [if_neg h3]; rw [if_neg (fun q => h3 (of_decide_eq_true q.2).2)] at hJ; exact hJ _ _ hA
      rw [if_pos h3]
      refine fi_rd (hd.ext hA.e) hi' fun _ r1 => ⟨_, r1, ?_⟩
      rw [if_pos ⟨h1, decide_eq_true ⟨h2, h3⟩⟩] at hJ
      refine hA.push (R := RE) (x := ((i : Int), f i)) (by omega) (by omega) fun w16 s17 w18 e16 c18 _ hA1 => ?_
      have z16 := e16.size
      exact ⟨hA.kp e16 c18 (by (intro b hb; simp only [List.mem_cons, List.not_mem_nil, or_false] at hb; omega)), hJ _ _ hA1⟩
    · rintro ⟨s', _⟩ w20 hA'
      exact hJ1 (i + 1) _ _ ⟨wsucc (m := 2 ^ 40) (by omega) (by omega), by omega, hA'⟩ (by omega)
  · rw [if_neg hc]
    have : i = rank.length := by omega
    subst this
    exact hk s w5 hA.e hA.o fun k hk => by have := hA.f k hk; omega

theorem okR_rk (ok : OkH rank ways) {u : Nat} (hu : u < rank.length) : 0 ≤ rkA rank (u : Int) ∧ rkA rank (u : Int) < rank.length := by
  rw [← rk_get hu]; exact ok.r.1 _ (List.getElem_mem hu)

theorem rAbove_ok {s : Int} {back : Bool} {K : SV → World → Prop} (hr : View RI w sr rank) (hy : View RW w sy ways) (fit : FitH rank ways)
    (hk : ∀ t w', Ext w w' → Own RE w' t (rowsL rank.length (clF rank ways rank.length back s) fun _ => true) → Fsh w t → K t w') : sh_postroadref11_Above sr sy s back K w := by
  unfold sh_postroadref11_Above
  have hn := fit.n
  intro b1 w2 e2 g1 g1' w4 e4
  have z2 := e2.size; have z4 := e4.size
  have lr := hr.len
  rw [lr]
  refine rClimb_ok (hr.ext (e2.trans e4)) (hy.ext (e2.trans e4)) fit fun t w5 e5 hO f5 => ⟨kp1 e5 (by omega), fun w7 e7 => ?_⟩
  have z5 := e5.size; have z7 := e7.size
  refine rRows_ok (hr.ext (((e2.trans e4).trans e5).trans e7)) (hO.ext e7).view (by omega) fun s6 w8 e8 hO8 f8 => ⟨kp1 e8 (by omega), fun w9 e9 => ?_⟩
  rw [rowsL_congr (q' := fun _ => true) fun v hv => decide_eq_true (by have := okR_rk fit.ok hv; omega)] at hO8
  exact hk s6 w9 (((((e2.trans e4).trans e5).trans e7).trans e8).trans e9) (hO8.ext e9) (f8.ext ((((e2.trans e4).trans e5).trans e7)))
end
end Go.Sh

/- What is known of one hierarchy; SpaceClimbs, SpaceRanks. -/
set_option maxRecDepth 100000
namespace Go.Sh
open Go.RowKit

/-- Distances, shown by hand. -/
theorem isD_by {E : Nat → Nat → Int → Prop} {s : Nat} {f : Nat → Int} (hs : f s = 0) (hw : ∀ v, 0 ≤ f v → Wk E s v (f v)) (hf : ∀ v, f v = -1 ∨ 0 ≤ f v) (hr : ∀ u v x, E u v x → 0 ≤ f u → 0 ≤ f v ∧ f v ≤ f u + x) (v : Nat) : IsD E s v (f v) := by
  have key : ∀ v d, Wk E s v d → 0 ≤ f v ∧ f v ≤ d := by
    intro v d hw
    induction hw with
    | nil => rw [hs]; omega
    | snoc _ e ih =>
      have := hr _ _ _ e ih.1
      exact ⟨this.1, by omega⟩
  rcases hf v with h | h
  · exact .inl ⟨h, fun d hd => by have := (key v d hd).1; omega⟩
  · exact .inr ⟨h, hw v h, fun d hd => (key v d hd).2⟩

theorem findR_mem {l : List (Int × Int)} (hp : l.Pairwise fun a b => a.1 < b.1) {e : Int × Int} (he : e ∈ l) : findR l e.1 = e.2 := by
  obtain ⟨j, hj, rfl⟩ := List.getElem_of_mem he
  refine findR_take hj (fun i hi hij h => ?_) rfl
  have := List.pairwise_iff_getElem.1 hp i j hi hj hij
  omega
theorem findR_not {l : List (Int × Int)} {v : Int} (h : ∀ e ∈ l, e.1 ≠ v) : findR l v = -1 := findR_none fun j hj => h _ (List.getElem_mem hj)
theorem findR_rows {n : Nat} {f : Nat → Int} {q : Nat → Bool} {v : Nat} (hv : v < n) (h0 : 0 ≤ f v) (hq : q v = true) : findR (rowsL n f q) (v : Int) = f v :=
  findR_mem (e := ((v : Int), f v)) (rowsL_pw n f q) (rowsL_mem.2 ⟨v, hv, h0, hq, rfl⟩)

theorem sorted_ext1 {l : List (Int × Int)} (hp : l.Pairwise fun a b => a.1 < b.1) {x : Int × Int} (h : ∀ e, e ∈ l ↔ e = x) : l = [x] := by
  cases l with
  | nil => have := (h x).2 rfl; simp at this
  | cons a l =>
    have ha := (h a).1 List.mem_cons_self
    subst ha
    cases l with
    | nil => rfl
    | cons b l =>
      have hb := (h b).1 (by simp)
      have := (List.pairwise_cons.1 hp).1 b List.mem_cons_self
      rw [hb] at this; omega
def lineR : List Int := [0, 1, 2]
def lineW : List Wy := [(0, 1, 2, -1, 0), (1, 2, 3, -1, 1)]
theorem line_ok : OkH lineR lineW := by
  refine ⟨by decide, by decide, ⟨by decide, by decide⟩, fun i hi => ?_, fun y hy => ?_⟩
  · have : i = 0 ∨ i = 1 := by simp [lineW] at hi; omega
    rcases this with rfl | rfl
    · show OkF 3 [] (0, 1, 2, -1, 0)
      unfold OkF; decide
    · show OkF 3 [(0, 1, 2, -1, 0)] (1, 2, 3, -1, 1)
      unfold OkF; decide
  · simp [lineW] at hy
    rcases hy with rfl | rfl <;> unfold OkW <;> rw [if_pos (by decide)] <;> decide
theorem line_fit : FitH lineR lineW := ⟨line_ok, by decide, fun y hy => by
  simp [lineW] at hy
  rcases hy with rfl | rfl <;> decide⟩
theorem line_e {top : Int} {u v : Nat} {x : Int} (h : ES lineR lineW top false u v x) : (u = 0 ∧ v = 1 ∧ x = 2 ∧ 0 < top) ∨ (u = 1 ∧ v = 2 ∧ x = 3 ∧ 1 < top) := by
  obtain ⟨k, hk, k1, k2, k3, k4, _⟩ := ES_way line_ok h
  have : k = 0 ∨ k = 1 := by simp [lineW] at hk; omega
  rcases this with rfl | rfl
  · left
    have k1 : (0 : Int) = (u : Int) := k1
    have k2 : (1 : Int) = (v : Int) := k2
    have k3 : (2 : Int) = x := k3
    have : u = 0 := by omega
    subst this
    have k4 : (0 : Int) < top := k4
    exact ⟨rfl, by omega, k3.symm, k4⟩
  · right
    have k1 : (1 : Int) = (u : Int) := k1
    have k2 : (2 : Int) = (v : Int) := k2
    have k3 : (3 : Int) = x := k3
    have : u = 1 := by omega
    subst this
    have k4 : (1 : Int) < top := k4
    exact ⟨rfl, by omega, k3.symm, k4⟩
theorem line_01 {top : Int} (h : 0 < top) : ES lineR lineW top false 0 1 2 := ES_of line_ok (k := 0) (by decide) (u := 0) (v := 1) rfl rfl h (by decide)
theorem line_12 {top : Int} (h : 1 < top) : ES lineR lineW top false 1 2 3 := ES_of line_ok (k := 1) (by decide) (u := 1) (v := 2) rfl rfl h (by decide)
def lin3 (v : Nat) : Int := if v = 0 then 0 else if v = 1 then 2 else if v = 2 then 5 else -1
def lin1 (v : Nat) : Int := if v = 0 then 0 else if v = 1 then 2 else -1
theorem cl_lin3 (v : Nat) : clF lineR lineW 3 false 0 v = lin3 v := by
  refine (clF_is line_fit (s := 0) (by decide) v).uniq (isD_by (f := lin3) rfl (fun v h => ?_) (fun v => ?_) (fun u v x e h => ?_) v)
  · unfold lin3 at h ⊢
    split at h
    · subst_vars; exact .nil
    · split at h
      · subst_vars; exact .edge (line_01 (by decide))
      · split at h
        · subst_vars; exact ((Wk.edge (line_01 (by decide))).snoc (line_12 (by decide)))
        · omega
  · unfold lin3
    split
    · exact .inr (by decide)
    · split
      · exact .inr (by decide)
      · split
        · exact .inr (by decide)
        · exact .inl rfl
  · rcases line_e e with ⟨rfl, rfl, rfl, _⟩ | ⟨rfl, rfl, rfl, _⟩ <;> exact ⟨by decide, by decide⟩
theorem cl_lin1 (v : Nat) : clF lineR lineW 1 false 0 v = lin1 v := by
  refine (clF_is line_fit (s := 0) (by decide) v).uniq (isD_by (f := lin1) rfl (fun v h => ?_) (fun v => ?_) (fun u v x e h => ?_) v)
  · unfold lin1 at h ⊢
    split at h
    · subst_vars; exact .nil
    · split at h
      · subst_vars; exact .edge (line_01 (by decide))
      · omega
  · unfold lin1
    split
    · exact .inr (by decide)
    · split
      · exact .inr (by decide)
      · exact .inl rfl
  · rcases line_e e with ⟨rfl, rfl, rfl, _⟩ | ⟨rfl, rfl, rfl, h⟩
    · exact ⟨by decide, by decide⟩
    · omega
theorem rowsL_f {n : Nat} {f g : Nat → Int} {q : Nat → Bool} (h : ∀ v, f v = g v) : rowsL n f q = rowsL n g q := by rw [funext h]

section
variable {CV : CVT} {w : World}
theorem known11_ok (hcv : SpaceCV CV) {K : Bool → World → Prop} (hk : ∀ w', Ext w w' → K true w') : sh_postroadlaw11_known CV K w := by
  unfold sh_postroadlaw11_known sh_postroadlaw11_line
  intro b1 w2 e2 g1 g1' b3 w4 e4 g3 hB3 b5 w6 e6 g5 hB5 w7 o7
  have z2 := e2.size; have z4 := e4.size
  have n3 : b3 ≠ b1 := by omega
  have l5 := blk_lt hB5
  have n5 : b5 ≠ b1 := by omega
  have hr : View RI w7 ⟨some ⟨b3, 0, none⟩, 3, 3⟩ lineR := View.all (R := RI) (xs := lineR) ((e6.blkE hB3).off o7 n3)
  have hy : View RW w7 ⟨some ⟨b5, 0, none⟩, 2, 2⟩ lineW := View.all (R := RW) (xs := lineW) (hB5.off o7 n5)
  have e7 : Ext w w7 := ext_off ((e2.trans e4).trans e6) o7 g1
  refine HNew_ok hr hy (by decide) (by decide) (fun _ p w5 F e5 hH _ => ?_) (fun hno => absurd line_ok hno)
  refine Within_ok hcv (s := 0) hH line_fit fun s6 s7 w8 e8 h6 h7 f6 f7 _ => ?_
  refine Forward_ok hcv (s := 0) (hH.ext e8) line_fit fun s9 w10 e10 h9 f9 => ?_
  have e10' := (e7.trans e5).trans (e8.trans e10)
  rw [rowsL_f cl_lin1, show rowsL lineR.length lin1 (fun u => decide (rkA lineR (u : Int) < 1)) = [(0, 0)] by decide] at h6
  rw [rowsL_f cl_lin1, show rowsL lineR.length lin1 (fun u => decide (rkA lineR (u : Int) ≥ 1)) = [(1, 2)] by decide] at h7
  rw [show ((lineR.length : Nat) : Int) = 3 from rfl, rowsL_f cl_lin3, show rowsL lineR.length lin3 (fun _ => true) = [(0, 0), (1, 2), (2, 5)] by decide] at h9
  intro b11 w12 e12 g11 hB11
  refine rSame_ok (h9.ext e12).view (View.all (R := RE) (xs := [(0, 0), (1, 2), (2, 5)]) hB11) (by decide) fun w14 e14 => ?_
  rw [cond_true]
  intro b15 w16 e16 g15 hB15
  refine rSame_ok (h6.ext ((e10.trans e12).trans (e14.trans e16))).view (View.all (R := RE) (xs := [(0, 0)]) hB15) (by decide) fun w18 e18 => ?_
  rw [cond_true]
  intro b19 w20 e20 g19 hB19
  refine rSame_ok (h7.ext (((e10.trans e12).trans (e14.trans e16)).trans (e18.trans e20))).view (View.all (R := RE) (xs := [(1, 2)]) hB19) (by decide) fun w22 e22 => ?_
  exact hk w22 (((e10'.trans e12).trans (e14.trans e16)).trans ((e18.trans e20).trans e22))

theorem SpaceClimbs_ok (hcv : SpaceCV CV) {sr sy : SV} {rank : List Int} {ways : List Wy} {top : Int} {back : Bool} {K : Bool → World → Prop} (hr : View RI w sr rank) (hy : View RW w sy ways) (hk : ∀ w', Ext w w' → K true w') : sh_postroadlaw11_SpaceClimbs CV sr sy top back K w := by
  unfold sh_postroadlaw11_SpaceClimbs
  intro b1 w2 e2 g1 g1'
  have z2 := e2.size
  have lr := hr.len; have ly := hy.len
  have kn : ∀ {wa}, w2.heap.size ≤ wa.heap.size → Ext w wa → sh_postroadlaw11_known CV (fun t w8 => Keeps [b1] wa w8 ∧ K t w8) wa := fun {wa} hz ea =>
    known11_ok hcv fun w6 e6 => ⟨kp1 e6 (by omega), hk w6 (ea.trans e6)⟩
  refine Fit_ok (hr.ext e2) (hy.ext e2) fun b w4 e4 hb => ⟨kp1 e4 (by omega), ?_⟩
  have z4 := e4.size
  have e04 := e2.trans e4
  cases b with
  | false => rw [Bool.not_false, cond_true]; exact kn (by omega) e04
  | true =>
  rw [Bool.not_true, cond_false]
  obtain ⟨fit, hn, hm⟩ := hb rfl
  refine HNew_ok (hr.ext e04) (hy.ext e04) (by omega) (by omega) (fun _ p w8 F e8 hH _ => ⟨kp1 e8 (by omega), ?_⟩) fun hno => absurd fit.ok hno
  have z8 := e8.size
  have e08 := e04.trans e8
  refine Join.cut (fun _ w' => Ext w w' ∧ w2.heap.size ≤ w'.heap.size) (fun J hJ => ?_) fun _ w49 ⟨e49, z49⟩ => kn z49 e49
  refine LoopT.gh (γ := Nat) (fun i (st : Int × Unit) w' => st.1 = (i : Int) - 1 ∧ i ≤ rank.length + 2 ∧ Ext w8 w') (fun i => rank.length + 2 - i) 0 ⟨rfl, Nat.zero_le _, .refl _⟩ ?_
  rintro i ⟨x, _⟩ w12 ⟨hx, hi, e12⟩ J1 hJ1
  simp only at hx; subst hx
  dsimp only
  rw [Bool.cond_decide]
  by_cases hc : (i : Int) - 1 ≤ (sr.len : Int)
  · rw [if_pos hc]
    generalize hs : (i : Int) - 1 = s
    have z12 := e12.size
    have hbig : ∀ {f q}, (rowsL rank.length f q).length < 2 ^ 40 := fun {f q} => by have := rowsL_len rank.length f q; omega
    refine Within_ok hcv (hH.ext e12) fit fun s13 s14 w15 e15 h13 h14 _ _ _ => ⟨kp1 e15 (by omega), ?_⟩
    have z15 := e15.size
    have e15' := e12.trans e15
    refine rClimb_ok (hr.ext (e08.trans e15')) (hy.ext (e08.trans e15')) fit fun s16 w17 e17 h16 f16 => ⟨kp1 e17 (by omega), fun w19 e19 => ?_⟩
    have z17 := e17.size; have z19 := e19.size
    have e19' := (e15'.trans e17).trans e19
    refine Forward_ok hcv (hH.ext e19') fit fun s18 w20 e20 h18 _ => ⟨kp1 e20 (by omega), fun w22 e22 => ?_⟩
    have z20 := e20.size; have z22 := e22.size
    have e22' := (e19'.trans e20).trans e22
    refine rAbove_ok (hr.ext (e08.trans e22')) (hy.ext (e08.trans e22')) fit fun s21 w23 e23 h21 _ => ⟨kp1 e23 (by omega), ?_⟩
    have z23 := e23.size
    refine rSame_quiet (h18.ext (e22.trans e23)).view h21.view hbig ?_
    rw [Bool.not_true, cond_false]
    intro w30 e30
    have z30 := e30.size
    have e30' := (e22'.trans e23).trans e30
    refine Back_ok hcv (hH.ext e30') fit fun s29 w31 e31 h29 _ => ⟨kp1 e31 (by omega), fun w33 e33 => ?_⟩
    have z31 := e31.size; have z33 := e33.size
    have e33' := (e30'.trans e31).trans e33
    refine rAbove_ok (hr.ext (e08.trans e33')) (hy.ext (e08.trans e33')) fit fun s32 w34 e34 h32 _ => ⟨kp1 e34 (by omega), ?_⟩
    have z34 := e34.size
    refine rSame_quiet (h29.ext (e33.trans e34)).view h32.view hbig ?_
    intro w39 e39
    have z39 := e39.size
    rw [Bool.not_true, cond_false]
    have e39' := (e33'.trans e34).trans e39
    have e1739 := (((e19.trans e20).trans e22).trans ((e23.trans e30).trans (e31.trans e33))).trans (e34.trans e39)
    refine rRows_ok (hr.ext (e08.trans e39')) (h16.ext e1739).view (by omega) fun s40 w41 e41 h40 _ => ⟨kp1 e41 (by omega), ?_⟩
    have z41 := e41.size
    rw [rowsL_congr (q' := fun u => decide (rkA rank (u : Int) < top)) fun v hv => by
      have := okR_rk fit.ok hv
      rw [decide_eq_decide]; split <;> omega] at h40
    refine rSame_ok (h13.ext ((e17.trans e1739).trans e41)).view h40.view hbig fun w43 e43 => ⟨kp1 e43 (by omega), ?_⟩
    have z43 := e43.size
    rw [Bool.not_true, cond_false]
    have e43' := (e41.trans e43)
    refine rRows_ok (hr.ext ((e08.trans e39').trans e43')) (h16.ext (e1739.trans e43')).view (by omega) fun s44 w45 e45 h44 _ => ⟨kp1 e45 (by omega), ?_⟩
    have z45 := e45.size
    rw [rowsL_congr (q' := fun u => decide (rkA rank (u : Int) ≥ top)) fun v hv => by
      have := okR_rk fit.ok hv
      rw [decide_eq_decide]; split <;> omega] at h44
    refine rSame_ok (h14.ext ((e17.trans e1739).trans (e43'.trans e45))).view h44.view hbig fun w47 e47 => ⟨kp1 e47 (by omega), ?_⟩
    rw [Bool.not_true, cond_false]
    refine hJ1 (i + 1) _ _ ⟨by rw [← hs, w64 (by omega) (by omega)]; omega, by omega, (e39'.trans e43').trans (e45.trans e47)⟩ (by omega)
  · rw [if_neg hc]
    exact hJ _ _ ⟨e08.trans e12, by have := e12.size; omega⟩

theorem ES_mono {rank : List Int} {ways : List Wy} (ok : OkH rank ways) {top top' : Int} {back : Bool} (h : top ≤ top') {u v : Nat} {x : Int} (he : ES rank ways top back u v x) : ES rank ways top' back u v x := by
  obtain ⟨k, hk, k1, k2, k3, k4, k5⟩ := ES_way ok he
  rw [← k3]
  exact ES_of ok hk k1 k2 (by omega) k5

theorem SpaceRanks_ok (hcv : SpaceCV CV) {sr sy : SV} {rank : List Int} {ways : List Wy} {v0 top0 : Int} {back : Bool} {K : Bool → World → Prop} (hr : View RI w sr rank) (hy : View RW w sy ways) (ht : 0 ≤ top0 ∧ top0 < 256) (hk : ∀ w', Ext w w' → K true w') : sh_postroadlaw11_SpaceRanks CV sr sy v0 top0 back K w := by
  unfold sh_postroadlaw11_SpaceRanks
  intro b1 w2 e2 g1 g1'
  have z2 := e2.size
  have lr := hr.len; have ly := hy.len
  have kn : ∀ {wa}, w2.heap.size ≤ wa.heap.size → Ext w wa → sh_postroadlaw11_known CV (fun t w8 => Keeps [b1] wa w8 ∧ K t w8) wa := fun {wa} hz ea =>
    known11_ok hcv fun w6 e6 => ⟨kp1 e6 (by omega), hk w6 (ea.trans e6)⟩
  have htm : 0 ≤ (IntKind.i64.wrap top0).tmod 16 ∧ (IntKind.i64.wrap top0).tmod 16 < 16 := by
    rw [w64 (by omega) (by omega), Int.tmod_eq_emod_of_nonneg ht.1]; omega
  generalize (IntKind.i64.wrap top0).tmod 16 = t at htm ⊢
  rw [show IntKind.i64.wrap (t + 1) = t + 1 from w64 (by omega) (by omega)]
  refine Fit_ok (hr.ext e2) (hy.ext e2) fun b w4 e4 hb => ⟨kp1 e4 (by omega), ?_⟩
  have z4 := e4.size
  have e04 := e2.trans e4
  cases b with
  | false => rw [Bool.not_false, cond_true]; exact kn (by omega) e04
  | true =>
  rw [Bool.not_true, cond_false]
  obtain ⟨fit, hn, hm⟩ := hb rfl
  refine HNew_ok (hr.ext e04) (hy.ext e04) (by omega) (by omega) (fun _ p w8 F e8 hH _ => ⟨kp1 e8 (by omega), ?_⟩) fun hno => absurd fit.ok hno
  have z8 := e8.size
  have e08 := e04.trans e8
  have hbig : ∀ {f q}, (rowsL rank.length f q).length < 2 ^ 40 := fun {f q} => by have := rowsL_len rank.length f q; omega
  refine Within_ok hcv hH fit fun s9 s10 w11 e11 h9 h10 _ _ _ => ⟨kp1 e11 (by omega), ?_⟩
  have z11 := e11.size
  refine Within_ok hcv (hH.ext e11) fit fun s12 s13 w14 e14 h12 _ _ _ _ => ⟨kp1 e14 (by omega), ?_⟩
  have z14 := e14.size
  have e014 := (e08.trans e11).trans e14
  have v9 := (h9.ext e14).view
  have v12 := h12.view
  have l9 := v9.len
  have fx : ∀ v : Nat, v < rank.length → 0 ≤ clF rank ways t back v0 v → rkA rank (v : Int) < t → 0 ≤ findR (rowsL rank.length (clF rank ways (t + 1) back v0) fun u => decide (rkA rank (u : Int) < t + 1)) (v : Int) ∧
      findR (rowsL rank.length (clF rank ways (t + 1) back v0) fun u => decide (rkA rank (u : Int) < t + 1)) (v : Int) ≤ clF rank ways t back v0 v := fun v hv h0 hlt => by
    have hp : 0 ≤ v0 ∧ v0 < rank.length := by
      by_cases q : 0 ≤ v0 ∧ v0 < rank.length
      · exact q
      · rw [clF_no q] at h0; omega
    obtain ⟨s, rfl⟩ := Int.eq_ofNat_of_zero_le hp.1
    have w1 := (clF_is (top := t) (back := back) fit (show s < rank.length by omega) v).wk h0
    have w2 := (clF_is (top := t + 1) (back := back) fit (show s < rank.length by omega) v).min (w1.mono fun _ _ _ e => ES_mono fit.ok (by omega) e)
    rw [findR_rows hv w2.1 (decide_eq_true (by omega))]
    exact w2
  refine Join.cut (fun _ w' => Ext w14 w') (fun J hJ => ?_) ?_
  · refine LoopT.gh (γ := Nat) (fun i (st : Int × Unit) w' => st.1 = i ∧ i ≤ (rowsL rank.length (clF rank ways t back v0) fun u => decide (rkA rank (u : Int) < t)).length ∧ Ext w14 w') (fun i => (rowsL rank.length (clF rank ways t back v0) fun u => decide (rkA rank (u : Int) < t)).length - i) 0 ⟨rfl, Nat.zero_le _, .refl _⟩ ?_
    rintro i ⟨x, _⟩ w18 ⟨hx, hi, e18⟩ J1 hJ1
    simp only at hx; subst hx
    dsimp only
    have z18 := e18.size
    have hbg := @hbig (clF rank ways t back v0) (fun u => decide (rkA rank (u : Int) < t))
    rw [Bool.cond_decide]
    by_cases hc : (i : Int) < (s9.len : Int)
    · rw [if_pos hc]
      have hi' : i < (rowsL rank.length (clF rank ways t back v0) fun u => decide (rkA rank (u : Int) < t)).length := by omega
      obtain ⟨v, hv, hv0, hvq, hve⟩ := rowsL_mem.1 (List.getElem_mem hi')
      obtain ⟨q1, q2⟩ := fx v hv hv0 (of_decide_eq_true hvq)
      refine re_idx (v9.ext e18) hi' fun _ a0 _ => ⟨_, a0, ?_⟩
      rw [hve]
      refine Find_ok (v12.ext e18) hbig fun w22 e22 => ⟨kp1 e22 (by omega), ?_⟩
      rw [Bool.cond_decide, if_neg (by dsimp only; omega)]
      refine re_idx (v9.ext (e18.trans e22)) hi' fun _ _ a1 => ⟨_, a1, ?_⟩
      rw [hve, Bool.cond_decide, if_neg (by dsimp only; omega)]
      exact hJ1 (i + 1) _ _ ⟨wsucc (m := 2 ^ 40) (by omega) (by omega), by omega, e18.trans e22⟩ (by omega)
    · rw [if_neg hc]; exact hJ _ _ e18
  · rintro _ w26 e26
    have z26 := e26.size
    refine Rank_ok (hH.ext ((e11.trans e14).trans e26)) ⟨kp1 (.refl _) (by omega), ?_⟩
    rw [Bool.cond_decide]
    by_cases hge : rankF rank v0 ≥ t
    · rw [if_pos hge]
      have hp : 0 ≤ v0 ∧ v0 < rank.length := by
        have := rankF_neg fit.ok (v := v0)
        omega
      obtain ⟨s, rfl⟩ := Int.eq_ofNat_of_zero_le hp.1
      have hs : s < rank.length := by omega
      have hrk : rankF rank (s : Int) = rkA rank (s : Int) := by unfold rankF; rw [if_pos hp]
      rw [hrk] at hge
      have hcl : ∀ v, clF rank ways t back s v = if v = s then 0 else -1 := fun v => by
        refine (clF_is fit hs v).uniq (isD_by (f := fun v => if v = s then 0 else -1) (by simp) (fun v h => ?_) (fun v => ?_) (fun u v x e h => ?_) v)
        · by_cases q : v = s
          · subst q; simp only [if_pos]; exact .nil
          · simp only [if_neg q] at h; omega
        · by_cases q : v = s
          · exact .inr (by rw [if_pos q]; decide)
          · exact .inl (if_neg q)
        · obtain ⟨k, hk, k1, k2, k3, k4, k5⟩ := ES_way fit.ok e
          by_cases q : u = s
          · subst q; omega
          · simp only [if_neg q] at h; omega
      have h9nil : (rowsL rank.length (clF rank ways t back s) fun u => decide (rkA rank (u : Int) < t)) = [] := by
        rw [List.eq_nil_iff_forall_not_mem]
        intro e he
        obtain ⟨v, hv, hv0, hvq, _⟩ := rowsL_mem.1 he
        rw [hcl] at hv0
        by_cases q : v = s
        · subst q; have := of_decide_eq_true hvq; omega
        · rw [if_neg q] at hv0; omega
      have hL10 : (rowsL rank.length (clF rank ways t back s) fun u => decide (rkA rank (u : Int) ≥ t)) = [((s : Int), 0)] := by
        have hpw := rowsL_pw rank.length (clF rank ways t back s) fun u => decide (rkA rank (u : Int) ≥ t)
        have hmem : ∀ e, e ∈ (rowsL rank.length (clF rank ways t back s) fun u => decide (rkA rank (u : Int) ≥ t)) ↔ e = ((s : Int), 0) := fun e => by
          rw [rowsL_mem]
          constructor
          · rintro ⟨v, hv, hv0, hvq, rfl⟩
            rw [hcl] at hv0 ⊢
            by_cases q : v = s
            · subst q; rw [if_pos rfl]
            · rw [if_neg q] at hv0; omega
          · rintro rfl
            have h0 : clF rank ways t back (s : Int) s = 0 := by rw [hcl s]; simp
            exact ⟨s, hs, by omega, decide_eq_true hge, by rw [h0]⟩
        cases hl : (rowsL rank.length (clF rank ways t back s) fun u => decide (rkA rank (u : Int) ≥ t)) with
        | nil => rw [hl] at hmem; have := (hmem ((s : Int), 0)).2 rfl; simp at this
        | cons a l =>
          rw [hl] at hmem hpw
          have ha := (hmem a).1 List.mem_cons_self
          subst ha
          cases l with
          | nil => rfl
          | cons b l =>
            have hb := (hmem b).1 (by simp)
            have := (List.pairwise_cons.1 hpw).1 b List.mem_cons_self
            rw [hb] at this; simp only at this; omega
      rw [h9nil] at l9
      rw [l9, show (((([] : List (Int × Int)).length : Nat) : Int) == 0) = true from rfl, cond_true]
      intro b29 w30 e30 g29 hB29
      have z30 := e30.size
      have hO10 := h10
      rw [hL10] at hO10
      refine rSame_ok (hO10.ext ((e14.trans e26).trans e30)).view (View.all (R := RE) (xs := [((s : Int), 0)]) hB29) (by simp) fun w32 e32 => ⟨kp1 e32 (by omega), ?_⟩
      have z32 := e32.size
      rw [cond_true]
      exact kn (by omega) (((e014.trans e26).trans e30).trans e32)
    · rw [if_neg hge]; exact kn (by omega) (e014.trans e26)
end
end Go.Sh

/- SpaceMeets, SpaceTurned. -/
set_option maxRecDepth 100000
namespace Go.Sh
open Go.RowKit

def sumP (p : Rc2 × Rc2) : Int := IntKind.i64.wrap (p.1.2 + p.2.2)
theorem meet_at {d : List (Rc2 × Rc2)} (h0 : ∀ p ∈ d, 0 ≤ p.1.1) : (d = [] ∧ meetD d = (-1, -1)) ∨ ∃ p ∈ d, meetD d = (sumP p, p.1.1) ∧ ∀ q ∈ d, sumP p ≤ sumP q := by
  suffices h : ∀ n, n ≤ d.length → (n = 0 ∧ meetD (d.take n) = (-1, -1)) ∨ ∃ p ∈ d.take n, meetD (d.take n) = (sumP p, p.1.1) ∧ ∀ q ∈ d.take n, sumP p ≤ sumP q by
    have := h d.length (Nat.le_refl _)
    rw [List.take_length] at this
    exact this.imp (fun ⟨a, b⟩ => ⟨List.length_eq_zero_iff.1 a, b⟩) id
  intro n
  induction n with
  | zero => intro _; exact .inl ⟨rfl, rfl⟩
  | succ n ih =>
    intro hn
    have hn' : n < d.length := by omega
    have e : d.take (n + 1) = d.take n ++ [d[n]] := by rw [List.take_add_one, List.getElem?_eq_getElem hn']; rfl
    right
    rw [e, meetD_snoc]
    unfold meetS
    rcases ih (by omega) with ⟨rfl, h2⟩ | ⟨p, hp, h2, h3⟩
    · rw [h2, if_pos (.inl rfl)]
      refine ⟨d[0], by simp, rfl, fun q hq => ?_⟩
      simp at hq; subst hq; exact Int.le_refl _
    · rw [h2]
      have hp0 := h0 p (List.mem_of_mem_take hp)
      by_cases hle : sumP d[n] ≤ sumP p
      · rw [if_pos (.inr hle)]
        refine ⟨d[n], List.mem_append_right _ (List.mem_singleton.2 rfl), rfl, fun q hq => ?_⟩
        rcases List.mem_append.1 hq with h | h
        · have := h3 q h; omega
        · rw [List.mem_singleton] at h; subst h; exact Int.le_refl _
      · rw [if_neg (fun q => q.elim (fun q => by simp only at q; omega) hle)]
        refine ⟨p, List.mem_append_left _ hp, rfl, fun q hq => ?_⟩
        rcases List.mem_append.1 hq with h | h
        · exact h3 q h
        · rw [List.mem_singleton] at h; subst h; omega

theorem sorted_ext {α : Type} {f : α → Int} : ∀ {l l' : List α}, (l.Pairwise fun a b => f a < f b) → (l'.Pairwise fun a b => f a < f b) → (∀ a, a ∈ l ↔ a ∈ l') → l = l'
  | [], [], _, _, _ => rfl
  | [], b :: l', _, _, h => by have := (h b).2 List.mem_cons_self; simp at this
  | a :: l, [], _, _, h => by have := (h a).1 List.mem_cons_self; simp at this
  | a :: l, b :: l', h1, h2, h => by
    obtain ⟨p1, p2⟩ := List.pairwise_cons.1 h1
    obtain ⟨q1, q2⟩ := List.pairwise_cons.1 h2
    have hab : a = b := by
      rcases List.mem_cons.1 ((h a).1 List.mem_cons_self) with e | e
      · exact e
      · rcases List.mem_cons.1 ((h b).2 List.mem_cons_self) with e' | e'
        · exact e'.symm
        · have := q1 a e; have := p1 b e'; omega
    subst hab
    rw [sorted_ext p2 q2 fun c => ?_]
    constructor
    · intro hc
      rcases List.mem_cons.1 ((h c).1 (List.mem_cons_of_mem _ hc)) with e | e
      · subst e; have := p1 c hc; omega
      · exact e
    · intro hc
      rcases List.mem_cons.1 ((h c).2 (List.mem_cons_of_mem _ hc)) with e | e
      · subst e; have := q1 c hc; omega
      · exact e

theorem com_swap {xs ys : List Rc2} (hx : Rz xs) (hy : Rz ys) : com ys xs = (com xs ys).map Prod.swap := by
  refine sorted_ext (f := fun p => p.1.1) (com_pw hy hx) ?_ fun p => ?_
  · rw [List.pairwise_map]
    refine (com_pw hx hy).imp_of_mem fun {a b} ha hb hab => ?_
    have h1 := (com_mem.1 ha).2.2; have h2 := (com_mem.1 hb).2.2
    show a.2.1 < b.2.1
    omega
  · rw [com_mem, List.mem_map]
    constructor
    · rintro ⟨h1, h2, h3⟩
      exact ⟨(p.2, p.1), com_mem.2 ⟨h2, h1, h3.symm⟩, rfl⟩
    · rintro ⟨q, hq, rfl⟩
      obtain ⟨h1, h2, h3⟩ := com_mem.1 hq
      exact ⟨h2, h1, h3.symm⟩
theorem fold_swap : ∀ {d : List (Rc2 × Rc2)} {s : Int × Int}, (∀ p ∈ d, p.1.1 = p.2.1) → (d.map Prod.swap).foldl meetS s = d.foldl meetS s
  | [], _, _ => rfl
  | p :: d, s, h => by
    rw [List.map_cons, List.foldl_cons, List.foldl_cons]
    have e : meetS s p.swap = meetS s p := by
      unfold meetS
      rw [show p.swap.1.2 + p.swap.2.2 = p.1.2 + p.2.2 from Int.add_comm _ _, show p.swap.1.1 = p.1.1 from (h p List.mem_cons_self).symm]
    rw [e]
    exact fold_swap fun q hq => h q (List.mem_cons_of_mem _ hq)
theorem meetF_swap {xs ys : List Rc2} (hx : Rz xs) (hy : Rz ys) : meetF ys xs = meetF xs ys := by
  unfold meetF meetD
  rw [com_swap hx hy]
  exact fold_swap fun p hp => (com_mem.1 hp).2.2
theorem bothF_swap {xs ys : List Rc2} (hx : Rz xs) (hy : Rz ys) : bothF ys xs = bothF xs ys := by
  unfold bothF bothD
  rw [com_swap hx hy, List.map_map]
  refine List.map_congr_left fun p hp => ?_
  exact (com_mem.1 hp).2.2.symm
theorem com_self {xs : List Rc2} (hx : Rz xs) : com xs xs = xs.map fun x => (x, x) := by
  refine sorted_ext (f := fun p => p.1.1) (com_pw hx hx) (by rw [List.pairwise_map]; exact hx) fun p => ?_
  rw [com_mem, List.mem_map]
  constructor
  · rintro ⟨h1, h2, h3⟩
    obtain ⟨i, hi, e1⟩ := List.getElem_of_mem h1
    obtain ⟨j, hj, e2⟩ := List.getElem_of_mem h2
    have hij : i = j := by
      rcases Nat.lt_trichotomy i j with h | h | h
      · have := List.pairwise_iff_getElem.1 hx i j hi hj h; rw [e1, e2] at this; omega
      · exact h
      · have := List.pairwise_iff_getElem.1 hx j i hj hi h; rw [e1, e2] at this; omega
    subst hij
    exact ⟨p.1, h1, Prod.ext rfl (e1.symm.trans e2)⟩
  · rintro ⟨x, hx, rfl⟩
    exact ⟨hx, hx, rfl⟩

section
variable {CV : CVT} {w : World}
def Fine (xs : List Rc2) : Prop := ∀ e ∈ xs, 0 ≤ e.1 ∧ 0 ≤ e.2 ∧ e.2 ≤ 1152921504606846976
theorem Rises_ok {s : SV} {xs : List Rc2} {K : Bool → World → Prop} (h : View RE w s xs) (hn : xs.length < 2 ^ 40) (hk : ∀ b w', Ext w w' → (b = true → Rz xs ∧ Fine xs) → K b w') : sh_postroadref11_Rises s K w := by
  unfold sh_postroadref11_Rises
  have hl := h.len
  have no : ∀ w', Ext w w' → K false w' := fun w' e => hk false w' e fun q => by cases q
  refine LoopT.gh (γ := Nat) (fun i (st : Int × Unit) w' => st.1 = i ∧ i ≤ xs.length ∧ Ext w w' ∧ (∀ j (hj : j < xs.length), j < i → 0 ≤ xs[j].1 ∧ 0 ≤ xs[j].2 ∧ xs[j].2 ≤ 1152921504606846976) ∧ ∀ j (hj : j + 1 < xs.length), j + 1 < i → xs[j].1 < xs[j + 1].1) (fun i => xs.length - i) 0 ⟨rfl, Nat.zero_le _, .refl _, fun j hj h => by omega, fun j hj h => by omega⟩ ?_
  rintro i ⟨x, _⟩ w3 ⟨hx, hi, e3, hf, hr⟩ J1 hJ1
  simp only at hx; subst hx
  dsimp only
  rw [Bool.cond_decide]
  by_cases hc : (i : Int) < (s.len : Int)
  · rw [if_pos hc]
    have hi' : i < xs.length := by omega
    refine Join.cut (fun _ w' => Ext w w' ∧ (0 ≤ xs[i].1 ∧ 0 ≤ xs[i].2 ∧ xs[i].2 ≤ 1152921504606846976) ∧ ∀ j (hj : j + 1 = i), xs[j].1 < xs[i].1) (fun J hJ => ?_) ?_
    · refine re_idx (h.ext e3) hi' fun _ a0 _ => ⟨_, a0, ?_⟩
      rw [Bool.cond_decide]; split
      · intro w7 e7; exact no _ (e3.trans e7)
      rename_i q1
      refine re_idx (h.ext e3) hi' fun _ _ a1 => ⟨_, a1, ?_⟩
      rw [Bool.cond_decide]; split
      · intro w7 e7; exact no _ (e3.trans e7)
      rename_i q2
      refine re_idx (h.ext e3) hi' fun _ _ a1 => ⟨_, a1, ?_⟩
      rw [Bool.cond_decide]; split
      · intro w7 e7; exact no _ (e3.trans e7)
      rename_i q3
      rw [Bool.cond_decide]
      by_cases h0 : (i : Int) > 0
      · rw [if_pos h0]
        refine re_idx (h.ext e3) hi' fun _ a0 _ => ⟨_, a0, ?_⟩
        rw [show IntKind.i64.wrap ((i : Int) - 1) = ((i - 1 : Nat) : Int) by rw [w64 (by omega) (by omega)]; omega]
        refine re_idx (h.ext e3) (show i - 1 < xs.length by omega) fun _ a0 _ => ⟨_, a0, ?_⟩
        intro w18 e18
        rw [Bool.cond_decide]; split
        · exact no _ (e3.trans e18)
        rename_i q4
        refine hJ _ _ ⟨e3.trans e18, ⟨by omega, by omega, by omega⟩, fun j hj => ?_⟩
        have : j = i - 1 := by omega
        subst this
        omega
      · rw [if_neg h0]
        intro w19 e19
        exact hJ _ _ ⟨e3.trans e19, ⟨by omega, by omega, by omega⟩, fun j hj => by omega⟩
    · rintro _ w21 ⟨e21, q1, q2⟩
      refine hJ1 (i + 1) _ _ ⟨wsucc (m := 2 ^ 40) (by omega) (by omega), by omega, e21, fun j hj hji => ?_, fun j hj hji => ?_⟩ (by omega)
      · by_cases e : j = i
        · subst e; exact q1
        · exact hf j hj (by omega)
      · by_cases e : j + 1 = i
        · subst e; exact q2 j rfl
        · exact hr j hj (by omega)
  · rw [if_neg hc]
    refine hk true w3 e3 fun _ => ⟨?_, fun e he => ?_⟩
    · have step : ∀ (d j : Nat) (hj : j + d + 1 < xs.length), xs[j].1 < xs[j + d + 1].1 := by
        intro d
        induction d with
        | zero => intro j hj; exact hr j hj (by omega)
        | succ d ih => intro j hj; have h1 := ih j (by omega); have h2 := hr (j + d + 1) hj (by omega); exact Int.lt_trans h1 h2
      exact List.pairwise_iff_getElem.2 fun a b ha hb hab => by
        obtain ⟨d, rfl⟩ : ∃ d, b = a + d + 1 := ⟨b - a - 1, by omega⟩
        exact step d a hb
    · obtain ⟨j, hj, rfl⟩ := List.getElem_of_mem he
      exact hf j hj (by omega)

theorem rFind11_ok {s : SV} {xs : List (Int × Int)} {v : Int} {K : Int → World → Prop} (h : View RE w s xs) (hn : xs.length < 2 ^ 40) (hk : ∀ w', Ext w w' → K (findR xs v) w') : sh_postroadref11_Find s v K w := by
  unfold sh_postroadref11_Find
  have hl := h.len
  refine LoopT.gh (γ := Nat) (fun i (st : Int × Unit) w' => st.1 = i ∧ i ≤ xs.length ∧ Ext w w' ∧ ∀ j (hj : j < xs.length), j < i → xs[j].1 ≠ v) (fun i => xs.length - i) 0 ⟨rfl, Nat.zero_le _, .refl _, fun j hj h => by omega⟩ ?_
  rintro i ⟨x, _⟩ w3 ⟨hx, hi, e3, hno⟩ J1 hJ1
  simp only at hx; subst hx
  dsimp only
  rw [Bool.cond_decide]
  by_cases hc : (i : Int) < (s.len : Int)
  · rw [if_pos hc]
    have hi' : i < xs.length := by omega
    refine re_idx (h.ext e3) hi' fun _ a0 _ => ⟨_, a0, ?_⟩
    by_cases hv : xs[i].1 = v
    · rw [show (xs[i].1 == v) = true by rw [beq_iff_eq]; exact hv, cond_true]
      refine re_idx (h.ext e3) hi' fun _ _ a1 => ⟨_, a1, ?_⟩
      have := hk w3 e3
      rw [findR_take hi' hno hv] at this; exact this
    · rw [show (xs[i].1 == v) = false by rw [beq_eq_false_iff_ne]; exact hv, cond_false]
      refine hJ1 (i + 1) _ _ ⟨wsucc (m := 2 ^ 40) (by omega) (by omega), by omega, e3, fun j hj hji => ?_⟩ (by omega)
      by_cases e : j = i
      · subst e; exact hv
      · exact hno j hj (by omega)
  · rw [if_neg hc]
    have := hk w3 e3
    rw [findR_none fun j hj => hno j hj (by omega)] at this; exact this

theorem rBoth_ok {sa sb : SV} {xs ys : List Rc2} {K : SV → World → Prop} (va : View RE w sa xs) (vb : View RE w sb ys) (na : xs.length ≤ 60) (nb : ys.length ≤ 60)
    (hk : ∀ s w', Ext w w' → Own RI w' s (bothF xs ys) → Fsh w s → K s w') : sh_postroadref11_Both sa sb K w := by
  unfold sh_postroadref11_Both
  have la := va.len; have lb := vb.len
  have blen : ∀ i j, (bothD (comI xs ys i j)).length ≤ 3660 := fun i j => by
    unfold bothD comI
    rw [List.length_map, List.length_append]
    have h1 := com_len (xs.take i) ys
    have h2 : (xs.take i).length * ys.length ≤ 60 * 60 := Nat.mul_le_mul (by rw [List.length_take]; omega) nb
    cases xs[i]? with
    | none => simp; omega
    | some x =>
      simp only [List.length_map]
      have h3 := List.length_filter_le (fun y : Rc2 => y.1 == x.1) (ys.take j)
      rw [List.length_take] at h3
      omega
  refine LoopT.gh (γ := Nat) (fun i (st : SV × Int × Unit) w' => st.2.1 = i ∧ i ≤ xs.length ∧ Acc RI w w.heap.size w' st.1 (bothD (com (xs.take i) ys))) (fun i => xs.length - i) 0 ⟨rfl, Nat.zero_le _, Acc.nil (.refl _) (Nat.le_refl _) (Nat.le_refl _)⟩ ?_
  rintro i ⟨s, x, _⟩ w3 ⟨hx, hi, hA⟩ J1 hJ1
  simp only at hx hA; subst hx
  dsimp only
  rw [Bool.cond_decide]
  by_cases hc : (i : Int) < (sa.len : Int)
  · rw [if_pos hc]
    have hi' : i < xs.length := by omega
    refine Join.cut (fun (x : SV × Unit) w' => Acc RI w w.heap.size w' x.1 (bothD (com (xs.take (i + 1)) ys))) (fun J2 hJ2 => ?_) ?_
    · refine LoopT.gh (γ := Nat) (fun j (st : SV × Int × Unit) w' => st.2.1 = j ∧ j ≤ ys.length ∧ Acc RI w w.heap.size w' st.1 (bothD (comI xs ys i j))) (fun j => ys.length - j) 0 ⟨rfl, Nat.zero_le _, by rw [comI_zero]; exact hA⟩ ?_
      clear hA
      rintro j ⟨s, x, _⟩ w7 ⟨hx, hj, hA⟩ J3 hJ3
      simp only at hx hA; subst hx
      dsimp only
      rw [Bool.cond_decide]
      by_cases hcj : (j : Int) < (sb.len : Int)
      · rw [if_pos hcj]
        have hj' : j < ys.length := by omega
        refine Join.cut (fun (x : SV × Unit) w' => Acc RI w w.heap.size w' x.1 (bothD (comI xs ys i (j + 1)))) (fun J4 hJ4 => ?_) ?_
        · rw [comI_succ hi' hj'] at hJ4
          refine re_idx (va.ext hA.e) hi' fun _ a0 _ => ⟨_, a0, ?_⟩
          refine re_idx (vb.ext hA.e) hj' fun _ a0 _ => ⟨_, a0, ?_⟩
          intro w13 e13
          by_cases heq : xs[i].1 = ys[j].1
          · rw [show (xs[i].1 == ys[j].1) = true by rw [beq_iff_eq]; exact heq, cond_true]
            rw [if_pos heq, show bothD (comI xs ys i j ++ [(xs[i], ys[j])]) = bothD (comI xs ys i j) ++ [xs[i].1] by simp [bothD]] at hJ4
            refine re_idx (va.ext (hA.e.trans e13)) hi' fun _ a0 _ => ⟨_, a0, ?_⟩
            have := blen i j
            exact (hA.ext e13).push (R := RI) (x := xs[i].1) (by omega) (by omega) fun w17 s18 w19 e17 c19 _ hA1 => hJ4 _ _ hA1
          · rw [show (xs[i].1 == ys[j].1) = false by rw [beq_eq_false_iff_ne]; exact heq, cond_false]
            rw [if_neg heq] at hJ4
            exact hJ4 _ _ (hA.ext e13)
        · rintro ⟨s', _⟩ w20 hA'
          exact hJ3 (j + 1) _ _ ⟨wsucc (m := 2 ^ 40) (by omega) (by omega), by omega, hA'⟩ (by omega)
      · rw [if_neg hcj]
        have : j = ys.length := by omega
        subst this
        rw [comI_full hi'] at hA
        exact hJ2 _ _ hA
    · rintro ⟨s', _⟩ w22 hA'
      exact hJ1 (i + 1) _ _ ⟨wsucc (m := 2 ^ 40) (by omega) (by omega), by omega, hA'⟩ (by omega)
  · rw [if_neg hc]
    have : i = xs.length := by omega
    subst this
    rw [List.take_length] at hA
    exact hk s w3 hA.e hA.o hA.f

theorem SpaceMeets_ok (hcv : SpaceCV CV) {sa sb : SV} {xs ys : List Rc2} {v : Int} {K : Bool → World → Prop} (va : View RE w sa xs) (ca : sa.len ≤ sa.cap) (vb : View RE w sb ys) (cb : sb.len ≤ sb.cap) (hk : ∀ w', Ext w w' → K true w') : sh_postroadlaw11_SpaceMeets CV sa sb v K w := by
  unfold sh_postroadlaw11_SpaceMeets
  have la := va.len; have lb := vb.len
  have kn : ∀ {wa}, Ext w wa → sh_postroadlaw11_known CV (fun t w8 => K t w8) wa := fun {wa} ea => known11_ok hcv fun w6 e6 => hk w6 (ea.trans e6)
  rw [Bool.cond_decide]; split
  · exact kn (.refl _)
  rename_i na
  rw [Bool.cond_decide]; split
  · exact kn (.refl _)
  rename_i nb
  have na' : xs.length ≤ 60 := by omega
  have nb' : ys.length ≤ 60 := by omega
  refine Rises_ok va (by omega) fun b w6 e6 hb => ?_
  cases b with
  | false => rw [Bool.not_false, cond_true]; exact kn e6
  | true =>
  rw [Bool.not_true, cond_false]
  obtain ⟨rx, fx⟩ := hb rfl
  refine Rises_ok (vb.ext e6) (by omega) fun b w10 e10 hb => ?_
  have e010 := e6.trans e10
  cases b with
  | false => rw [Bool.not_false, cond_true]; exact kn e010
  | true =>
  rw [Bool.not_true, cond_false]
  obtain ⟨ry, fy⟩ := hb rfl
  have h2 : xs.length * ys.length ≤ 60 * 60 := Nat.mul_le_mul na' nb'
  refine Meet_ok rx ry (va.ext e010) (vb.ext e010) ca cb fun w15 e15 => ?_
  have e015 := e010.trans e15
  refine rMeet_ok (va.ext e015) (vb.ext e015) (by omega) (by omega) fun w18 e18 => ?_
  have e018 := e015.trans e18
  have hrm := (rm_eq (com_pw rx ry) fun p hp => (fx _ (com_mem.1 hp).1).1).1
  rw [show rmD (com xs ys) = meetF xs ys from hrm, show ((meetF xs ys).1 == (meetF xs ys).1) = true from beq_self_eq_true _, cond_true, show ((meetF xs ys).2 == (meetF xs ys).2) = true from beq_self_eq_true _, cond_true]
  refine Both_ok rx ry (va.ext e018) (vb.ext e018) ca cb (by omega) fun s19 w20 e20 hO19 _ => ?_
  have e020 := e018.trans e20
  refine rBoth_ok (va.ext e020) (vb.ext e020) na' nb' fun s21 w22 e22 hO21 _ => ?_
  have e022 := e020.trans e22
  have hbl := bothF_len xs ys
  refine sameI_ok (hO19.ext e22).view hO21.view (by omega) fun w24 e24 => ?_
  rw [cond_true]
  have e024 := e022.trans e24
  refine Find_ok (va.ext e024) (by omega) fun w26 e26 => ?_
  refine rFind11_ok (va.ext (e024.trans e26)) (by omega) fun w28 e28 => ?_
  rw [show (findR xs v == findR xs v) = true from beq_self_eq_true _, cond_true]
  exact kn ((e024.trans e26).trans e28)

theorem SpaceTurned_ok (hcv : SpaceCV CV) {sa sb : SV} {xs ys : List Rc2} {K : Bool → World → Prop} (va : View RE w sa xs) (ca : sa.len ≤ sa.cap) (vb : View RE w sb ys) (cb : sb.len ≤ sb.cap) (hk : ∀ w', Ext w w' → K true w') : sh_postroadlaw11_SpaceTurned CV sa sb K w := by
  unfold sh_postroadlaw11_SpaceTurned
  have la := va.len; have lb := vb.len
  have kn : ∀ {wa}, Ext w wa → sh_postroadlaw11_known CV (fun t w8 => K t w8) wa := fun {wa} ea => known11_ok hcv fun w6 e6 => hk w6 (ea.trans e6)
  rw [Bool.cond_decide]; split
  · exact kn (.refl _)
  rename_i na
  rw [Bool.cond_decide]; split
  · exact kn (.refl _)
  rename_i nb
  have na' : xs.length ≤ 60 := by omega
  have nb' : ys.length ≤ 60 := by omega
  refine Rises_ok va (by omega) fun b w6 e6 hb => ?_
  cases b with
  | false => rw [Bool.not_false, cond_true]; exact kn e6
  | true =>
  rw [Bool.not_true, cond_false]
  obtain ⟨rx, fx⟩ := hb rfl
  refine Rises_ok (vb.ext e6) (by omega) fun b w10 e10 hb => ?_
  have e010 := e6.trans e10
  cases b with
  | false => rw [Bool.not_false, cond_true]; exact kn e010
  | true =>
  rw [Bool.not_true, cond_false]
  obtain ⟨ry, fy⟩ := hb rfl
  have h2 : xs.length * ys.length ≤ 60 * 60 := Nat.mul_le_mul na' nb'
  have h2' : ys.length * xs.length ≤ 60 * 60 := Nat.mul_le_mul nb' na'
  have h2a : xs.length * xs.length ≤ 60 * 60 := Nat.mul_le_mul na' na'
  refine Meet_ok rx ry (va.ext e010) (vb.ext e010) ca cb fun w15 e15 => ?_
  have e015 := e010.trans e15
  refine Meet_ok ry rx (vb.ext e015) (va.ext e015) cb ca fun w18 e18 => ?_
  have e018 := e015.trans e18
  rw [meetF_swap rx ry]
  refine Both_ok rx ry (va.ext e018) (vb.ext e018) ca cb (by omega) fun s19 w20 e20 hO19 f19 => ?_
  have e020 := e018.trans e20
  rw [show ((meetF xs ys).1 != (meetF xs ys).1) = false from bne_self_eq_false _, cond_false, show ((meetF xs ys).2 != (meetF xs ys).2) = false from bne_self_eq_false _, cond_false]
  refine Both_ok ry rx (vb.ext e020) (va.ext e020) cb ca (by omega) fun s21 w22 e22 hO21 _ => ?_
  have e022 := e020.trans e22
  rw [bothF_swap rx ry] at hO21
  have hbl := bothF_len xs ys
  refine sameI_ok (hO19.ext e22).view hO21.view (by omega) fun w24 e24 => ?_
  rw [Bool.not_true, cond_false]
  have e024 := e022.trans e24
  have h0 : ∀ p ∈ com xs ys, 0 ≤ p.1.1 := fun p hp => (fx _ (com_mem.1 hp).1).1
  have hat := meet_at h0
  have l19 := hO19.view.len
  have hlb : (bothF xs ys).length = (com xs ys).length := by unfold bothF bothD; rw [List.length_map]
  rw [show (((s19.len : Int) == 0) == ((meetF xs ys).2 == -1)) = true by
    rw [beq_iff_eq, Bool.eq_iff_iff, beq_iff_eq, beq_iff_eq]
    rcases hat with ⟨h, h'⟩ | ⟨p, hp, h', _⟩
    · unfold meetF; rw [h', l19, hlb, h]; exact ⟨fun _ => rfl, fun _ => rfl⟩
    · unfold meetF
      rw [h']
      have := List.length_pos_of_mem hp
      have := h0 p hp
      simp only
      constructor <;> intro q <;> omega, Bool.not_true, cond_false]
  have v19 := ((hO19.ext e22).ext e24).view
  refine Join.cut (fun _ w' => Ext w24 w') (fun J hJ => ?_) ?_
  · refine LoopT.gh (γ := Nat) (fun i (st : Int × Unit) w' => st.1 = i ∧ i ≤ (bothF xs ys).length ∧ Ext w24 w') (fun i => (bothF xs ys).length - i) 0 ⟨rfl, Nat.zero_le _, .refl _⟩ ?_
    rintro i ⟨x, _⟩ w28 ⟨hx, hi, e28⟩ J1 hJ1
    simp only at hx; subst hx
    dsimp only
    rw [Bool.cond_decide]
    by_cases hc : (i : Int) < (s19.len : Int)
    · rw [if_pos hc]
      have hi' : i < (bothF xs ys).length := by omega
      obtain ⟨p, hp, hpe⟩ := List.mem_map.1 (show (bothF xs ys)[i] ∈ (com xs ys).map fun p => p.1.1 from List.getElem_mem hi')
      obtain ⟨p1, p2, p3⟩ := com_mem.1 hp
      have f1 := findR_mem rx p1
      have f2 := findR_mem ry p2
      refine int_idx (v19.ext e28) hi' fun _ a0 => ⟨_, a0, ?_⟩
      refine Find_quiet (va.ext (e024.trans e28)) (by omega) ?_
      refine int_idx (v19.ext e28) hi' fun _ a0 => ⟨_, a0, ?_⟩
      refine Find_quiet (vb.ext (e024.trans e28)) (by omega) ?_
      intro w41 e41
      rw [← hpe, f1, p3, f2, Bool.cond_decide, if_neg ?_]
      · exact hJ1 (i + 1) _ _ ⟨wsucc (m := 2 ^ 40) (by omega) (by omega), by omega, e28.trans e41⟩ (by omega)
      · rcases hat with ⟨h, _⟩ | ⟨q, hq, h', hmin⟩
        · rw [h] at hp; simp at hp
        · have := hmin p hp
          unfold meetF
          rw [h']
          unfold sumP at this ⊢
          simp only
          omega
    · rw [if_neg hc]; exact hJ _ _ e28
  · rintro _ w43 e43
    have e043 := e024.trans e43
    refine Meet_ok rx rx (va.ext e043) (va.ext e043) ca ca fun w46 e46 => ?_
    have e046 := e043.trans e46
    have hself := com_self rx
    have hlen : (bothF xs xs).length = xs.length := by unfold bothF bothD; rw [hself]; simp
    have both : ∀ {wa}, Ext w wa → sh_space_Both sa sa (fun s47 w48 => cond ((s47.len : Int) == (sa.len : Int)) (sh_postroadlaw11_known CV (fun t49 w50 => K t49 w50) w48) (K false w48)) wa := fun {wa} ea => by
      refine Both_ok rx rx (va.ext ea) (va.ext ea) ca ca (by omega) fun s47 w48 e48 hO47 _ => ?_
      have := hO47.view.len
      rw [show ((s47.len : Int) == (sa.len : Int)) = true by rw [beq_iff_eq]; omega, cond_true]
      exact kn (ea.trans e48)
    by_cases hz : xs = []
    · rw [show ((sa.len : Int) == 0) = true by rw [beq_iff_eq, la, hz]; rfl, cond_true]
      have hm : meetF xs xs = (-1, -1) := by rw [hz]; rfl
      rw [hm, show ((-1 : Int) == -1) = true from rfl, cond_true]
      exact both e046
    · have hpos : 0 < xs.length := List.length_pos_iff.2 hz
      rw [show ((sa.len : Int) == 0) = false by rw [beq_eq_false_iff_ne]; omega, cond_false, Bool.cond_decide, if_pos (by omega)]
      refine Find_ok (va.ext e046) (by omega) fun w58 e58 => ?_
      have hat2 := meet_at (d := com xs xs) fun p hp => (fx _ (com_mem.1 hp).1).1
      rw [show ((meetF xs xs).1 == IntKind.i64.wrap (2 * findR xs (meetF xs xs).2)) = true by
        rw [beq_iff_eq]
        rcases hat2 with ⟨h, _⟩ | ⟨p, hp, h', _⟩
        · rw [hself] at h
          have := congrArg List.length h
          simp at this
          exact absurd this hz
        · have hp' := hp
          rw [hself] at hp'
          obtain ⟨x, hx, rfl⟩ := List.mem_map.1 hp'
          unfold meetF
          rw [h']
          simp only
          rw [findR_mem rx hx]
          unfold sumP
          simp only
          rw [Int.two_mul], cond_true]
      exact both (e046.trans e58)
end
end Go.Sh
