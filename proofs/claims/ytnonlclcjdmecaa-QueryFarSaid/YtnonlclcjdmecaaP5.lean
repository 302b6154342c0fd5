/- QuLook5, QuTable, QuTables, DistKnown, QuFars: merged into one text. -/
import Derived.Test.YtnonlclcjdmecaaP4
/- The program's Look. -/
set_option maxRecDepth 100000
namespace Go.Sh
open Go.RowKit

/-- What is known of the searches' function values. -/
structure LookCV (CV : CVT) : Prop where
  up : ∀ h v K w, sh_hier_Hier_Up h v (fun s w' => K (.slice s.a s.len s.cap) w') w → CV (.func (.func fn_hier_Hier_Up) #[.pointer h] #[]) [.int .i64 v] K w
  dn : ∀ h v K w, sh_hier_Hier_Down h v (fun s w' => K (.slice s.a s.len s.cap) w') w → CV (.func (.func fn_hier_Hier_Down) #[.pointer h] #[]) [.int .i64 v] K w

structure PSg where
  q : Option Addr
  r : Nat
  F : Nat → Prop
  L : List (Int × Int)
def upB (p : Option Addr) : Value := .func (.func fn_hier_Hier_Up) #[.pointer p] #[]
def dnB (p : Option Addr) : Value := .func (.func fn_hier_Hier_Down) #[.pointer p] #[]
/-- Both searches in memory. -/
structure LSt (p : Option Addr) (w w11 w' : World) (b5 b7 b9 n : Nat) (x : BS) (A B : PSg) : Prop where
  e : Ext w w'
  z : w11.heap.size ≤ w'.heap.size
  b9 : Blk w' b9 (nArr b5 b7)
  sA : PSr w' b5 n x.fa x.oa (upB p) A.q A.r A.F A.L
  sB : PSr w' b7 n x.fb x.ob (dnB p) B.q B.r B.F B.L
  rA : w11.heap.size ≤ A.r
  rB : w11.heap.size ≤ B.r
  fA : ∀ k, A.F k → w11.heap.size ≤ k
  fB : ∀ k, B.F k → w11.heap.size ≤ k
  d1 : A.r ≠ B.r
  d2 : ¬ A.F B.r
  d3 : ¬ B.F A.r
  d4 : ∀ k, A.F k → ¬ B.F k
theorem LSt.ext {p : Option Addr} {w w11 w' w'' : World} {b5 b7 b9 n : Nat} {x : BS} {A B : PSg} (h : LSt p w w11 w' b5 b7 b9 n x A B) (e : Ext w' w'') : LSt p w w11 w'' b5 b7 b9 n x A B :=
  ⟨h.e.trans e, Nat.le_trans h.z e.size, e.blkE h.b9, h.sA.ext e, h.sB.ext e, h.rA, h.rB, h.fA, h.fB, h.d1, h.d2, h.d3, h.d4⟩

section
variable {CV : CVT} {w : World} {p : Option Addr} {rank : List Int} {ways : List Wy} {FH : Nat → Prop}
theorem Look_ok (hcv : LookCV CV) {s t : Int} {K : Int → Int → World → Prop} (hH : HierA w p rank ways FH) (fit : FitH rank ways)
    (hno : ¬ (0 ≤ s ∧ s < rank.length ∧ 0 ≤ t ∧ t < rank.length) → K (-1) 0 w)
    (hk : ∀ (a b : Nat) (x : BS) (w' : World), s = a → t = b → a < rank.length → b < rank.length → Ext w w' → BRun rank.length (eA rank ways) (eB rank ways) (BS.start a b) x → BStop rank.length x → K x.best x.steps w') : sh_query_Look CV p s t K w := by
  have hn := fit.n
  unfold sh_query_Look
  refine Rank_ok hH ?_
  rw [Bool.cond_decide]; split
  · rename_i h; rw [rankF_neg hH.ok] at h; exact hno fun q => h ⟨q.1, q.2.1⟩
  rename_i h1
  rw [rankF_neg hH.ok, Classical.not_not] at h1
  refine Rank_ok hH ?_
  rw [Bool.cond_decide]; split
  · rename_i h; rw [rankF_neg hH.ok] at h; exact hno fun q => h q.2.2
  rename_i h2
  rw [rankF_neg hH.ok, Classical.not_not] at h2
  obtain ⟨a, rfl⟩ := Int.eq_ofNat_of_zero_le h1.1
  obtain ⟨b, rfl⟩ := Int.eq_ofNat_of_zero_le h2.1
  have ha : a < rank.length := by omega
  have hb : b < rank.length := by omega
  intro b5 w6 e6 g5 g5' b7 w8 e8 g7 g7' h5 h7 b9 w10 e10 g9 g9' w11 o11 h9
  have z6 := e6.size; have z8 := e8.size; have z10 := e10.size; have z11 := o11.size
  have e11 : Ext w w11 := ext_off ((e6.trans e8).trans e10) o11 (by omega)
  have H5 : Blk w11 b5 [.pointer none, .map none, upB p] := (e10.blkE h5).off o11 (by omega)
  have H7 : Blk w11 b7 [.pointer none, .map none, dnB p] := (e10.blkE h7).off o11 (by omega)
  have n57 : b5 ≠ b7 := by omega
  have n59 : b5 ≠ b9 := by omega
  have n79 : b7 ≠ b9 := by omega
  have l5 : b5 < w11.heap.size := by omega
  have l7 : b7 < w11.heap.size := by omega
  have l9 : b9 < w11.heap.size := by omega
  have h9 : Blk w11 b9 (nArr b5 b7) := h9
  refine Join.cut (fun _ w' => ∃ A B, LSt p w w11 w' b5 b7 b9 rank.length (BS.start a b) A B) (fun J hJ => ?_) ?_
  · refine LoopT.gh (γ := Nat) (fun i (st : Int × Unit) w' => st.1 = i ∧ i ≤ 2 ∧ Ext w w' ∧ w11.heap.size ≤ w'.heap.size ∧ Blk w' b9 (nArr b5 b7) ∧ (i = 0 → Blk w' b5 [.pointer none, .map none, upB p] ∧ Blk w' b7 [.pointer none, .map none, dnB p]) ∧
      (i = 1 → ∃ A : PSg, PSr w' b5 rank.length (fun _ => -1) (up1 (fun _ => -1) a 0) (upB p) A.q A.r A.F A.L ∧ w11.heap.size ≤ A.r ∧ (∀ k, A.F k → w11.heap.size ≤ k) ∧ Blk w' b7 [.pointer none, .map none, dnB p]) ∧
      (i = 2 → ∃ A B, LSt p w w11 w' b5 b7 b9 rank.length (BS.start a b) A B)) (fun i => 2 - i) 0 ⟨rfl, by decide, e11, Nat.le_refl _, h9, fun _ => ⟨H5, H7⟩, fun h => absurd h (by decide), fun h => absurd h (by decide)⟩ ?_
    rintro i ⟨x, _⟩ w15 ⟨hx, hi, e15, z15, h9, i0, i1, i2⟩ J1 hJ1
    simp only at hx; subst hx
    dsimp only
    rw [Bool.cond_decide]
    by_cases hc : (i : Int) < 2
    · rw [if_pos hc]
      have hi01 : i = 0 ∨ i = 1 := by omega
      rcases hi01 with rfl | rfl
      · obtain ⟨q5, q7⟩ := i0 rfl
        refine ⟨by decide, by decide, (a : Int), rfl, ?_⟩
        refine lookInit_ok (cs := nArr b5 b7) (bk := b5) hH e15 (by omega) h9 rfl ⟨by decide, by decide⟩ q5 n59 (by omega) ha fun w41 q r F L c41 P hr hF => ?_
        have z41 := c41.size
        refine hJ1 1 _ _ ⟨by dsimp only; exact wsucc (m := 2 ^ 40) (by omega) (by omega), by decide, ext_chg e15 c41 fun k hk => by omega, by omega, c41.blk h9 fun h => n59 h.symm, fun h => absurd h (by decide), fun _ => ⟨⟨q, r, F, L⟩, P, by dsimp only; omega, fun k hk => by have := hF k hk; omega, c41.blk q7 fun h => n57 h.symm⟩, fun h => absurd h (by decide)⟩ (by decide)
      · obtain ⟨A, q5, hrA, hFA, q7⟩ := i1 rfl
        obtain ⟨_, lr5, lF5⟩ := q5.lt
        refine ⟨by decide, by decide, (b : Int), rfl, ?_⟩
        refine lookInit_ok (cs := nArr b5 b7) (bk := b7) hH e15 (by omega) h9 rfl ⟨by decide, by decide⟩ q7 n79 (by omega) hb fun w41 q r F L c41 P hr hF => ?_
        have z41 := c41.size
        have e41 : Ext w w41 := ext_chg e15 c41 fun k hk => by omega
        have h941 := c41.blk h9 fun h => n79 h.symm
        refine hJ1 2 _ _ ⟨by dsimp only; exact wsucc (m := 2 ^ 40) (by omega) (by omega), by decide, e41, by omega, h941, fun h => absurd h (by decide), fun h => absurd h (by decide), fun _ => ⟨A, ⟨q, r, F, L⟩, e41, by omega, h941, ?_, P, hrA, by dsimp only; omega, hFA, fun k hk => by have := hF k hk; omega, ?_, fun h => ?_, fun h => ?_, fun k k1 k2 => ?_⟩⟩ (by decide)
        · exact q5.chg c41 n57 (by omega) fun k hk => by have := hFA k hk; omega
        · dsimp only; omega
        · have := lF5 _ h; dsimp only at this; omega
        · have := hF _ h; omega
        · have := hF k k2; have := lF5 k k1; omega
    · rw [if_neg hc]
      exact hJ _ _ (i2 (by omega))
  rintro _ w43 ⟨A0, B0, hS0⟩
  have oka : EdOk rank.length 1125899906842624 (eA rank ways) := edS_ok fit
  have okb : EdOk rank.length 1125899906842624 (eB rank ways) := edS_ok fit
  refine Join.cut (fun (t : Int × Int × Unit) w' => K t.1 t.2.1 w') (fun J hJ => ?_) fun _ _ h => h
  refine LoopT.gh (γ := BS × PSg × PSg) (fun g st w' => st = (g.1.best, (g.1.steps : Int), ()) ∧ BRun rank.length (eA rank ways) (eB rank ways) (BS.start a b) g.1 ∧ LSt p w w11 w' b5 b7 b9 rank.length g.1 g.2.1 g.2.2) (fun g => 2 * rank.length - g.1.steps) (BS.start a b, A0, B0) ⟨rfl, .nil, hS0⟩ ?_
  rintro ⟨x, A, B⟩ st w47 ⟨rfl, hrun, hS⟩ J1 hJ1
  dsimp only at hrun hS ⊢
  have inv := (BInv.begin (n := rank.length) (ea := eA rank ways) (eb := eB rank ways) (M := 1125899906842624) ha hb (by decide)).run oka okb hrun
  have hbest : x.best = -1 ∨ 0 ≤ x.best := inv.best.imp (·.1) (·.1)
  have at0 : ∀ {w' : World}, Blk w' b9 (nArr b5 b7) → w'.cell? ((⟨b9, 0, none⟩ : Addr).add ((0 : Int).toNat * 1)) = some (.pointer (some ⟨b5, 0, none⟩)) := fun h => by rw [addm, cell_blk h]; rfl
  have at1 : ∀ {w' : World}, Blk w' b9 (nArr b5 b7) → w'.cell? ((⟨b9, 0, none⟩ : Addr).add ((1 : Int).toNat * 1)) = some (.pointer (some ⟨b7, 0, none⟩)) := fun h => by rw [addm, cell_blk h]; rfl
  have w10 : IntKind.i64.wrap ((1 : Int) - 0) = 1 := by decide
  have w11' : IntKind.i64.wrap ((1 : Int) - 1) = 0 := by decide
  have up : ∀ v : Nat, v < rank.length → upF rank ways (v : Int) = eA rank ways v := fun v hv => by
    have := edS_full (back := false) fit.ok hv
    rw [if_neg (by decide)] at this; exact this.symm
  have dn : ∀ v : Nat, v < rank.length → dnF rank ways (v : Int) = eB rank ways v := fun v hv => by
    have := edS_full (back := true) fit.ok hv
    rw [if_pos rfl] at this; exact this.symm
  have stp : ∀ {y : BS}, BStep rank.length (eA rank ways) (eB rank ways) x y → y.steps = x.steps + 1 ∧ x.steps < 2 * rank.length := fun {y} h => by
    have inv' := inv.step oka okb h
    have h1 := h.steps
    have := inv'.st; have := cntR_le y.fa rank.length; have := cntR_le y.fb rank.length
    omega
  have hw : ∀ {y : BS}, BStep rank.length (eA rank ways) (eB rank ways) x y → IntKind.i64.wrap ((x.steps : Int) + 1) = (y.steps : Int) := fun {y} h => by
    obtain ⟨q1, q2⟩ := stp h
    rw [q1]; exact wsucc (m := 2 ^ 40) (by omega) (by omega)
  refine ⟨by decide, by decide, _, at0 hS.b9, ?_⟩
  refine first_ok hS.sA hbest fun d1 t1 w51 e51 hp => ?_
  have hS51 := hS.ext e51
  refine ⟨by decide, by decide, _, at1 hS51.b9, ?_⟩
  refine first_ok hS51.sB hbest fun d2 t2 w55 e55 hq => ?_
  have hS55 := hS51.ext e55
  have z55 := hS55.z
  obtain ⟨lA1, lA2, lA3⟩ := hS55.sA.lt
  obtain ⟨lB1, lB2, lB3⟩ := hS55.sB.lt
  refine Join.cut (fun (k : Int × Unit) w' => w' = w55 ∧ ((k.1 = 0 ∧ ∃ v, Avl rank.length x.oa x.best v ∧ ∀ u, Avl rank.length x.ob x.best u → x.oa v ≤ x.ob u) ∨ (k.1 = 1 ∧ ∃ v, Avl rank.length x.ob x.best v ∧ ∀ u, Avl rank.length x.oa x.best u → x.ob v < x.oa u))) (fun J6 hJ6 => ?_) ?_
  · rcases hp with ⟨rfl, v, hv, rfl⟩ | ⟨rfl, hpn⟩ <;> rcases hq with ⟨rfl, u, hu, rfl⟩ | ⟨rfl, hqn⟩
    · simp only [Bool.not_true, cond_false, cond_true]
      rw [Bool.cond_decide]; split
      · rename_i hlt
        exact hJ6 _ _ ⟨rfl, .inr ⟨rfl, u, hu, fun v' hv' => by rw [hv'.uniq hv]; exact hlt⟩⟩
      · rename_i hlt
        exact hJ6 _ _ ⟨rfl, .inl ⟨rfl, v, hv, fun u' hu' => by rw [hu'.uniq hu]; omega⟩⟩
    · simp only [Bool.not_true, cond_false]
      exact hJ6 _ _ ⟨rfl, .inl ⟨rfl, v, hv, fun u' hu' => absurd hu' (hqn u')⟩⟩
    · simp only [Bool.not_true, Bool.not_false, cond_false, cond_true]
      exact hJ6 _ _ ⟨rfl, .inr ⟨rfl, u, hu, fun v' hv' => absurd hv' (hpn v')⟩⟩
    · simp only [Bool.not_false, cond_true]
      exact hJ _ _ (hk a b x w55 rfl rfl ha hb hS55.e hrun ⟨hpn, hqn⟩)
  · rintro ⟨k, _⟩ w58 ⟨rfl, hk⟩
    simp only at hk
    rcases hk with ⟨rfl, v, hv, hle⟩ | ⟨rfl, v, hv, hle⟩
    · have st := BStep.a (ea := eA rank ways) (eb := eB rank ways) hv hle
      have hst := stp st
      dsimp only
      rw [hw st]
      have hsum : 0 ≤ x.fb v → IntKind.i64.wrap (x.fb v + x.oa v) = x.fb v + x.oa v := fun h0 => by
        have q1 : x.oa v < 2 ^ 62 := inv.a.lo oka hv.1.1
        have q2 : x.fb v < 2 ^ 62 := inv.b.lf okb hv.1.1
        have := hv.1.2.1
        exact w64 (by omega) (by omega)
      refine lookStep_ok (cs := nArr b5 b7) (b := b5) (b' := b7) (again := fun y => J1 (y, ((x.goA (eA rank ways) v).steps : Int), ())) (ed := eA rank ways v) hS55.b9 rfl (by rw [w10]; rfl) ⟨by decide, by decide⟩ (by rw [w10]; exact ⟨by decide, by decide⟩) hS55.sA hS55.sB ⟨by have := hS55.rA; omega, fun h => by have := hS55.fA _ h; omega⟩ ⟨by have := hS55.rA; omega, fun h => by have := hS55.fA _ h; omega⟩
        ⟨Ne.symm hS55.d1, hS55.d2⟩ (fun k hk => ⟨fun e => hS55.d3 (e ▸ hk), fun h => hS55.d4 k h hk⟩) hS55.e (by have := hS55.rA; have := e11.size; omega) (fun k hk => by have := hS55.fA k hk; have := e11.size; omega) hv.1 (by omega) hbest (oka.l v hv.1.1) (fun e he => ?_) hsum
        (fun w1 e1 K' hK' => hcv.up p _ _ _ (Up_ok (hH.ext e1) fun t w'' e h f => hK' t w'' e (by rw [up v hv.1.1] at h; exact h) f)) fun w' F1 L1 e' z' f1 k9 kA kB => ?_
      · obtain ⟨q0, q1, q2, q3⟩ := oka.e v hv.1.1 e he
        have q4 : x.oa v < 2 ^ 62 := inv.a.lo oka hv.1.1
        have := hv.1.2.1
        exact ⟨q0, q1, w64 (by omega) (by omega), by omega⟩
      · refine hJ1 (x.goA (eA rank ways) v, ⟨A.q, A.r, F1, L1⟩, B) _ w' ⟨rfl, hrun.snoc st, ⟨e', by omega, k9, kA, kB, hS55.rA, hS55.rB, fun k hk => ?_, hS55.fB, hS55.d1, fun h => ?_, hS55.d3, fun k h1 h2 => ?_⟩⟩ (by dsimp only; omega)
        · rcases f1 k hk with h | h
          · exact hS55.fA k h
          · omega
        · rcases f1 _ h with h | h
          · exact hS55.d2 h
          · exact absurd (Nat.lt_of_lt_of_le lB2 h) (Nat.lt_irrefl _)
        · rcases f1 _ h1 with h | h
          · exact hS55.d4 k h h2
          · have := lB3 k h2; omega
    · have st := BStep.b (ea := eA rank ways) (eb := eB rank ways) hv hle
      have hst := stp st
      dsimp only
      rw [hw st]
      have hsum : 0 ≤ x.fa v → IntKind.i64.wrap (x.fa v + x.ob v) = x.fa v + x.ob v := fun h0 => by
        have q1 : x.ob v < 2 ^ 62 := inv.b.lo okb hv.1.1
        have q2 : x.fa v < 2 ^ 62 := inv.a.lf oka hv.1.1
        have := hv.1.2.1
        exact w64 (by omega) (by omega)
      refine lookStep_ok (cs := nArr b5 b7) (b := b7) (b' := b5) (again := fun y => J1 (y, ((x.goB (eB rank ways) v).steps : Int), ())) (ed := eB rank ways v) hS55.b9 rfl (by rw [w11']; rfl) ⟨by decide, by decide⟩ (by rw [w11']; exact ⟨by decide, by decide⟩) hS55.sB hS55.sA ⟨by have := hS55.rB; omega, fun h => by have := hS55.fB _ h; omega⟩ ⟨by have := hS55.rB; omega, fun h => by have := hS55.fB _ h; omega⟩
        ⟨hS55.d1, hS55.d3⟩ (fun k hk => ⟨fun e => hS55.d2 (e ▸ hk), fun h => hS55.d4 k hk h⟩) hS55.e (by have := hS55.rB; have := e11.size; omega) (fun k hk => by have := hS55.fB k hk; have := e11.size; omega) hv.1 (by omega) hbest (okb.l v hv.1.1) (fun e he => ?_) hsum
        (fun w1 e1 K' hK' => hcv.dn p _ _ _ (Down_ok (hH.ext e1) fun t w'' e h f => hK' t w'' e (by rw [dn v hv.1.1] at h; exact h) f)) fun w' F1 L1 e' z' f1 k9 kB kA => ?_
      · obtain ⟨q0, q1, q2, q3⟩ := okb.e v hv.1.1 e he
        have q4 : x.ob v < 2 ^ 62 := inv.b.lo okb hv.1.1
        have := hv.1.2.1
        exact ⟨q0, q1, w64 (by omega) (by omega), by omega⟩
      · rw [bstF_comm]
        refine hJ1 (x.goB (eB rank ways) v, A, ⟨B.q, B.r, F1, L1⟩) _ w' ⟨rfl, hrun.snoc st, ⟨e', by omega, k9, kA, kB, hS55.rA, hS55.rB, hS55.fA, fun k hk => ?_, hS55.d1, hS55.d2, fun h => ?_, fun k h1 h2 => ?_⟩⟩ (by dsimp only; omega)
        · rcases f1 k hk with h | h
          · exact hS55.fB k h
          · omega
        · rcases f1 _ h with h | h
          · exact hS55.d3 h
          · exact absurd (Nat.lt_of_lt_of_le lA2 h) (Nat.lt_irrefl _)
        · rcases f1 _ h2 with h | h
          · exact hS55.d4 k h1 h
          · have := lA3 k h1; omega
end
end Go.Sh

/- Tables; QueryMany, QueryTables. -/
set_option maxRecDepth 100000
namespace Go.Sh
open Go.RowKit

section
variable {w0 w w' : World} {s : SV} {svs : List SV} {L : List (List Int)}
end

section
variable {CV : CVT} {w : World} {p : Option Addr} {rank : List Int} {ways : List Wy} {F : Nat → Prop} {sr sy : SV}
theorem rWhere_ok {s t : Int} {K : Int → Int → World → Prop} (hr : View RI w sr rank) (hy : View RW w sy ways) (fit : FitH rank ways) (hk : ∀ w', Ext w w' → K (whereF rank ways s t).1 (whereF rank ways s t).2 w') : sh_postroadref12_Where sr sy s t K w := by
  unfold sh_postroadref12_Where
  have hn := fit.n
  intro b1 w2 e2 g1 g1' w4 e4
  have z2 := e2.size; have z4 := e4.size
  have e04 := e2.trans e4
  refine rAbove_ok (hr.ext e04) (hy.ext e04) fit fun s3 w5 e5 h3 _ => ⟨kp1 e5 (by omega), fun w7 e7 => ?_⟩
  have z5 := e5.size; have z7 := e7.size
  have e07 := (e04.trans e5).trans e7
  refine rAbove_ok (hr.ext e07) (hy.ext e07) fit fun s6 w8 e8 h6 _ => ⟨kp1 e8 (by omega), ?_⟩
  have h3' : Own RE w8 s3 (fwdL rank ways s) := (h3.ext e7).ext e8
  have h6' : Own RE w8 s6 (bckL rank ways t) := h6
  have l1 := rowsL_len rank.length (clF rank ways rank.length false s) fun _ => true
  have l2 := rowsL_len rank.length (clF rank ways rank.length true t) fun _ => true
  have hrm := (rm_eq (com_pw (fwd_rz (rank := rank) (ways := ways) s) (bck_rz (rank := rank) (ways := ways) t)) fun p hp => (com_nn fit hp).1).1
  refine Quiet.of (whereF rank ways s t) (fun w' e K' hK' => rMeet_ok (h3'.ext e).view (h6'.ext e).view (by unfold fwdL; omega) (by unfold bckL; omega) fun w'' e'' => ?_) fun w14 e14 => hk w14 ((e07.trans e8).trans e14)
  rw [hrm]; exact hK' w'' e''
end
end Go.Sh

/- QueryTables. -/
set_option maxRecDepth 100000
namespace Go.Sh
open Go.RowKit

section
variable {CV : CVT} {w : World} {p : Option Addr} {rank : List Int} {ways : List Wy} {F : Nat → Prop} {sr sy : SV}

end
end Go.Sh

/- The reference's answers out of the table; what is known. -/
set_option maxRecDepth 100000
namespace Go.Sh
open Go.RowKit

section
variable {CV : CVT} {w : World} {N : Int} {s : SV} {arcs : List Arc}

section
variable {t : SV} {svs : List SV} {n : Nat}
end

end
end Go.Sh

/- How far it is, and how both searches go: the laws. -/
set_option maxRecDepth 100000
namespace Go.Sh
open Go.RowKit

structure QueryCV (CV : CVT) : Prop where
  sp : SpaceCV CV
  lk : LookCV CV

/-- What Look tells. -/
def LookAt (rank : List Int) (ways : List Wy) (s t : Int) (x : BS) : Prop := ∃ a b : Nat, s = a ∧ t = b ∧ a < rank.length ∧ b < rank.length ∧ BRun rank.length (eA rank ways) (eB rank ways) (BS.start a b) x ∧ BStop rank.length x
noncomputable def lookF (rank : List Int) (ways : List Wy) (s t : Int) : Int × Int := by
  classical exact if h : ∃ x, LookAt rank ways s t x then (h.choose.best, (h.choose.steps : Int)) else (-1, 0)

section
variable {CV : CVT} {w : World} {p : Option Addr} {rank : List Int} {ways : List Wy} {FH : Nat → Prop} {sr sy : SV}
theorem lookF_of {s t : Int} {x : BS} (h : LookAt rank ways s t x) : lookF rank ways s t = (x.best, (x.steps : Int)) := by
  unfold lookF
  have hx : ∃ x, LookAt rank ways s t x := ⟨x, h⟩
  rw [dif_pos hx]
  obtain ⟨a, b, rfl, rfl, _, _, h3, h4⟩ := hx.choose_spec
  obtain ⟨a', b', e1, e2, _, _, k3, k4⟩ := h
  have e1 : a = a' := by omega
  have e2 : b = b' := by omega
  subst e1 e2
  rw [BRun.end_ _ h3 h4 k3 k4 (Nat.le_refl _)]
theorem lookF_no {s t : Int} (h : ¬ (0 ≤ s ∧ s < rank.length ∧ 0 ≤ t ∧ t < rank.length)) : lookF rank ways s t = (-1, 0) := by
  unfold lookF
  rw [dif_neg]
  rintro ⟨x, a, b, rfl, rfl, h1, h2, _⟩
  exact h ⟨by omega, by omega, by omega, by omega⟩
theorem Look_at (hcv : LookCV CV) {s t : Int} {K : Int → Int → World → Prop} (hH : HierA w p rank ways FH) (fit : FitH rank ways)
    (hk : ∀ w', Ext w w' → ((0 ≤ s ∧ s < rank.length ∧ 0 ≤ t ∧ t < rank.length) → ∃ x, LookAt rank ways s t x) → K (lookF rank ways s t).1 (lookF rank ways s t).2 w') : sh_query_Look CV p s t K w := by
  refine Look_ok hcv hH fit (fun hno => ?_) fun a b x w' e1 e2 ha hb e hr hS => ?_
  · have := hk w (.refl _) fun h => absurd h hno
    rw [lookF_no hno] at this; exact this
  · have h : LookAt rank ways s t x := ⟨a, b, e1, e2, ha, hb, hr, hS⟩
    have := hk w' e fun _ => ⟨x, h⟩
    rw [lookF_of h] at this; exact this
theorem rLook_at {s t : Int} {K : Int → Int → World → Prop} (hr : View RI w sr rank) (hy : View RW w sy ways) (fit : FitH rank ways)
    (hk : ∀ w', Ext w w' → K (lookF rank ways s t).1 (lookF rank ways s t).2 w') : sh_postroadref12_Look sr sy s t K w := by
  refine rLook_ok hr hy fit (fun hno w' e => ?_) fun a b x w' e1 e2 ha hb e hr hS => ?_
  · have := hk w' e
    rw [lookF_no hno] at this; exact this
  · have h : LookAt rank ways s t x := ⟨a, b, e1, e2, ha, hb, hr, hS⟩
    have := hk w' e
    rw [lookF_of h] at this; exact this
theorem QueryFar_ok (hcv : QueryCV CV) {s t : Int} {K : Bool → World → Prop} (hr : View RI w sr rank) (hy : View RW w sy ways) (hk : ∀ w', Ext w w' → K true w') : sh_postroadlaw12_QueryFar CV sr sy s t K w := by
  unfold sh_postroadlaw12_QueryFar
  intro b1 w2 e2 g1 g1'
  have z2 := e2.size
  have lr := hr.len; have ly := hy.len
  have kn : ∀ {wa}, w2.heap.size ≤ wa.heap.size → Ext w wa → sh_postroadlaw12_known CV (fun t w8 => Keeps [b1] wa w8 ∧ K t w8) wa := fun {wa} hz ea =>
    known12_ok hcv.sp fun w6 e6 => ⟨kp1 e6 (by omega), hk w6 (ea.trans e6)⟩
  refine Fit_ok (hr.ext e2) (hy.ext e2) fun b w4 e4 hb => ⟨kp1 e4 (by omega), ?_⟩
  have z4 := e4.size
  have e04 := e2.trans e4
  cases b with
  | false => rw [Bool.not_false, cond_true]; exact kn (by omega) e04
  | true =>
  rw [Bool.not_true, cond_false]
  obtain ⟨fit, hn, hm⟩ := hb rfl
  refine HNew_ok (hr.ext e04) (hy.ext e04) (by omega) (by omega) (fun _ p w8 F e8 hH _ => ⟨kp1 e8 (by omega), ?_⟩) fun hno => absurd fit.ok hno
  have z8 := e8.size
  have e08 := e04.trans e8
  refine Where_ok hcv.sp hH fit fun w11 e11 => ⟨kp1 e11 (by omega), ?_⟩
  have z11 := e11.size
  have e011 := e08.trans e11
  refine rWhere_ok (hr.ext e011) (hy.ext e011) fit fun w14 e14 => ⟨kp1 e14 (by omega), ?_⟩
  have z14 := e14.size
  refine Look_at hcv.lk (hH.ext (e11.trans e14)) fit fun w17 e17 _ => ⟨kp1 e17 (by omega), ?_⟩
  have z17 := e17.size
  have e017 := (e011.trans e14).trans e17
  refine rLook_at (hr.ext e017) (hy.ext e017) fit fun w20 e20 => ⟨kp1 e20 (by omega), ?_⟩
  have z20 := e20.size
  simp only [beq_self_eq_true, cond_true]
  refine Far_ok hcv.sp (hH.ext ((e11.trans e14).trans (e17.trans e20))) fit fun w22 e22 => ⟨kp1 e22 (by omega), ?_⟩
  have z22 := e22.size
  simp only [beq_self_eq_true, cond_true]
  exact kn (by omega) ((e017.trans e20).trans e22)

end
end Go.Sh
