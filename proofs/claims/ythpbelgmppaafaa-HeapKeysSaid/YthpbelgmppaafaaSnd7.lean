/- 'den' is sound: code, functions. -/
import Derived.Test.YthpbelgmppaafaaSnd6
import Derived.Scope
namespace Go.Sh
open Go.RowKit

theorem find_map {g : Nat → Bx → Bx} : ∀ (l : List (Nat × Bx)) (i : Nat), find (l.map fun e => (e.1, g e.1 e.2)) i = (find l i).map (g i)
  | [], i => rfl
  | (k, b) :: l, i => by
    rw [List.map_cons, find_cons, find_cons]
    by_cases h : k = i
    · subst h; simp
    · rw [if_neg h, if_neg h]; exact find_map l i

theorem roIds_of {lv : List LV} {dr : List Nat} : ∀ {bx : List (Nat × Bx)} {seen : List Nat} {k : Nat}, k ∈ roIds lv dr seen bx → ∃ d b, d ∉ seen ∧ find bx d = some b ∧ b.b = k ∧ b.m = .rw ∧ inLV lv d = false ∧ d ∉ dr
  | [], seen, k, h => by cases h
  | (d, ⟨b, cs, m⟩) :: l, seen, k, h => by
    simp only [roIds] at h
    have nxt : k ∈ roIds lv dr (d :: seen) l → ∃ d' b', d' ∉ seen ∧ find ((d, ⟨b, cs, m⟩) :: l) d' = some b' ∧ b'.b = k ∧ b'.m = .rw ∧ inLV lv d' = false ∧ d' ∉ dr := fun h => by
      obtain ⟨d', b', h1, h2, h3⟩ := roIds_of h
      simp only [List.mem_cons, not_or] at h1
      exact ⟨d', b', h1.2, by rw [find_cons, if_neg (fun e => h1.1 e.symm)]; exact h2, h3⟩
    split at h
    · rename_i hc
      rcases List.mem_cons.1 h with h | h
      · simp at hc
        exact ⟨d, _, hc.1.1, by rw [find_cons, if_pos rfl], h.symm, rfl, hc.1.2, hc.2⟩
      · exact nxt h
    · exact nxt h
theorem roIds_has {lv : List LV} {dr : List Nat} : ∀ {bx : List (Nat × Bx)} {seen : List Nat} {d : Nat} {b : Bx}, find bx d = some b → b.m = .rw → d ∉ seen → inLV lv d = false → d ∉ dr → b.b ∈ roIds lv dr seen bx
  | [], seen, d, b, h, _, _, _, _ => by cases h
  | (k, ⟨b0, cs, m⟩) :: l, seen, d, b, h, hm, hs, hl, hd => by
    rw [find_cons] at h
    simp only [roIds]
    by_cases hk : k = d
    · subst hk
      rw [if_pos rfl] at h
      have h := Option.some.inj h
      subst h
      simp only at hm
      subst hm
      have : (seen.contains k || inLV lv k || dr.contains k) = false := by simp [hs, hl, hd]
      rw [this]
      exact List.mem_cons_self
    · rw [if_neg hk] at h
      have ih := roIds_has h hm (seen := k :: seen) (by simp [hs]; exact fun e => hk e.symm) hl hd
      split
      · exact List.mem_cons_of_mem _ ih
      · exact ih

section
variable {cx : Cx} {F : Nat → Value} {n : Nat} {s s' : S} {a a' : Act} {w w' : World} {lv : List LV} {dr wr : List Nat}

theorem conc_map {g : Nat → Bx → Bx} (hg : ∀ d b, (g d b).b = b.b) (bx : List (Nat × Bx)) (x : X) : conc F (bx.map fun e => (e.1, g e.1 e.2)) x = conc F bx x := by
  cases x with
  | loc d off =>
    simp only [conc, find_map]
    cases find bx d with
    | none => rfl
    | some b => simp [hg]
  | _ => rfl

theorem inner_find (d : Nat) : find (s.inner lv dr).bx d = (find s.bx d).map fun b => { b with m := innM b.m (inLV lv d || dr.contains d) } := by
  simp only [S.inner]
  exact find_map (g := fun d b => { b with m := innM b.m (inLV lv d || dr.contains d) }) s.bx d

theorem inner_rel (h : Rel F n s a w) : Rel F n (s.inner lv dr) a w := by
  refine ⟨fun t x hx hb => ?_, h.size, h.df, fun d b hb => ?_, fun d1 d2 b1 b2 hne hb1 hb2 m1 m2 => ?_, fun k hk => ?_⟩
  · obtain ⟨h1, h2⟩ := h.sl t x hx hb
    refine ⟨by
      rw [h1]
      simp only [S.inner]
      rw [conc_map (g := fun d b => { b with m := innM b.m (inLV lv d || dr.contains d) }) (fun _ _ => rfl)], fun d off e => ?_⟩
    obtain ⟨b, hb⟩ := h2 d off e
    rw [inner_find, hb]
    exact ⟨_, rfl⟩
  · rw [inner_find] at hb
    cases hs : find s.bx d with
    | none => rw [hs] at hb; cases hb
    | some b0 =>
      rw [hs] at hb
      have hb := Option.some.inj hb
      subst hb
      obtain ⟨k1, k2, k3⟩ := h.bx d b0 hs
      refine ⟨fun hm => k1 (fun e => hm ?_), fun hm => ?_, fun hm => ?_⟩
      · simp only [e]; unfold innM; split <;> first | rfl | simp_all
      · -- still to be written: told anew, or forgotten
        have hrw : b0.m = .rw ∧ (inLV lv d || dr.contains d) = true := by
          simp only at hm
          unfold innM at hm
          split at hm
          · cases hm
          · rename_i hx
            refine ⟨hm, ?_⟩
            cases hc : (inLV lv d || dr.contains d) with
            | true => rfl
            | false => exact absurd hm (hx hc)
        simp only [S.inner, List.mem_append, not_or]
        refine ⟨fun hk => ?_, k2 hrw.1⟩
        obtain ⟨d', b', _, g1, g2, g3, g4, g5⟩ := roIds_of hk
        by_cases e : d = d'
        · subst e
          simp [g4, g5] at hrw
        · exact h.dist d d' b0 b' e hs g1 (by rw [hrw.1]; intro e; cases e) (by rw [g3]; intro e; cases e) g2.symm
      · simp only [S.inner, List.mem_append]
        simp only at hm
        unfold innM at hm
        split at hm
        · rename_i hc hrw
          simp at hc
          exact .inl (roIds_has hs hrw (by simp) hc.1 hc.2)
        · exact .inr (k3 hm)
  · rw [inner_find] at hb1 hb2
    cases hs1 : find s.bx d1 with
    | none => rw [hs1] at hb1; cases hb1
    | some c1 =>
      cases hs2 : find s.bx d2 with
      | none => rw [hs2] at hb2; cases hb2
      | some c2 =>
        rw [hs1] at hb1
        rw [hs2] at hb2
        have hb1 := Option.some.inj hb1
        have hb2 := Option.some.inj hb2
        subst hb1 hb2
        have q : ∀ (m : BM) f, innM m f ≠ .out → m ≠ .out := fun m f hm e => hm (by rw [e]; unfold innM; split <;> first | rfl | simp_all)
        exact h.dist d1 d2 c1 c2 hne hs1 hs2 (q _ _ m1) (q _ _ m2)
  · simp only [S.inner, List.mem_append] at hk
    rcases hk with hk | hk
    · obtain ⟨d', b', _, g1, g2, g3, _⟩ := roIds_of hk
      rw [← g2]
      exact blk_lt ((h.bx d' b' g1).1 (by rw [g3]; intro e; cases e))
    · exact h.ro k hk

theorem base_outer (h : Rel F n s a w) : Base s (s.inner lv dr) lv dr := by
  refine ⟨fun d b hb hl hd hm => ?_, fun b hb => List.mem_append_right _ hb, fun d b hb => ?_, fun d b hb => ?_⟩
  · cases hbm : b.m with
    | rw => exact List.mem_append_left _ (roIds_has hb hbm (by simp) hl hd)
    | ro => exact List.mem_append_right _ ((h.bx d b hb).2.2 hbm)
    | out => exact absurd hbm hm
  · rw [inner_find] at hb
    cases hs : find s.bx d with
    | none => rw [hs] at hb; cases hb
    | some b0 => rw [hs] at hb; have hb := Option.some.inj hb; subst hb; exact ⟨b0, rfl, rfl⟩
  · exact ⟨{ b with m := innM b.m (inLV lv d || dr.contains d) }, by rw [inner_find, hb]; rfl, rfl⟩
theorem base_inner (h : Rel F n s a w) : Base (s.inner lv dr) (s.inner lv dr) lv dr := by
  refine ⟨fun d b hb hl hd hm => ?_, fun b hb => hb, fun d b hb => ⟨b, hb, rfl⟩, fun d b hb => ⟨b, hb, rfl⟩⟩
  have h' := inner_rel (lv := lv) (dr := dr) h
  have hm' : b.m = .ro := by
    rw [inner_find] at hb
    cases hs : find s.bx d with
    | none => rw [hs] at hb; cases hb
    | some b0 =>
      rw [hs] at hb
      have hb := Option.some.inj hb
      subst hb
      have : (inLV lv d || dr.contains d) = false := by simp [hl, hd]
      simp only [this] at hm ⊢
      cases hb0 : b0.m with
      | rw => rfl
      | ro => rfl
      | out => rw [hb0] at hm; exact absurd rfl hm
  exact (h'.bx d b hb).2.2 hm'

theorem restore_find (d : Nat) : find (s.restore wr s').bx d = (find s'.bx d).map fun b => { b with m := restM b.m (wr.contains d) (find s.bx d) } := by
  simp only [S.restore]
  exact find_map (g := fun d b => { b with m := restM b.m (wr.contains d) (find s.bx d) }) s'.bx d

theorem restore_rel (h : Rel F n s a w) (h' : Rel F n s' a' w') (f : Fr wr (s.inner lv dr) a w s' a' w') : Rel F n (s.restore wr s') a' w' := by
  have hro : s'.ro = (s.inner lv dr).ro := f.ro
  have sub : ∀ k ∈ s.ro, k ∈ s'.ro := fun k hk => by rw [hro]; exact List.mem_append_right _ hk
  have out : ∀ (m : BM) x y, restM m x y ≠ .out → m ≠ .out := fun m x y hm e => hm (by rw [e]; rfl)
  refine ⟨fun t x hx hb => ?_, h'.size, h'.df, fun d b hb => ?_, fun d1 d2 b1 b2 hne hb1 hb2 m1 m2 => ?_, fun k hk => h'.ro k (sub k hk)⟩
  · obtain ⟨h1, h2⟩ := h'.sl t x hx hb
    refine ⟨by
      rw [h1]
      simp only [S.restore]
      rw [conc_map (g := fun d b => { b with m := restM b.m (wr.contains d) (find s.bx d) }) (fun _ _ => rfl)], fun d off e => ?_⟩
    obtain ⟨b, hb⟩ := h2 d off e
    rw [restore_find, hb]
    exact ⟨_, rfl⟩
  · rw [restore_find] at hb
    cases hs : find s'.bx d with
    | none => rw [hs] at hb; cases hb
    | some b0 =>
      rw [hs] at hb
      have hb := Option.some.inj hb
      subst hb
      obtain ⟨k1, k2, k3⟩ := h'.bx d b0 hs
      refine ⟨fun hm => k1 (out _ _ _ hm), fun hm => ?_, fun hm => ?_⟩
      · simp only at hm
        unfold restM at hm
        split at hm
        · rename_i bb cs hm0 hw hf
          obtain ⟨b1, g1, g2⟩ := f.bk d (by simpa using hw) b0 hs
          rw [inner_find, hf] at g1
          have g1 := Option.some.inj g1
          subst g1
          have := (h.bx d _ hf).2.1 rfl
          simp only at g2 this ⊢
          rw [← g2]; exact this
        · cases hm
        · cases hm
        · exact fun hk => k2 hm (sub _ hk)
      · simp only at hm
        unfold restM at hm
        split at hm
        · cases hm
        · rename_i bb cs hm0 hw hf
          obtain ⟨b1, g1, g2⟩ := f.bk d (by simpa using hw) b0 hs
          rw [inner_find, hf] at g1
          have g1 := Option.some.inj g1
          subst g1
          have := (h.bx d _ hf).2.2 rfl
          simp only at g2 this ⊢
          rw [← g2]; exact this
        · cases hm
        · rename_i hne1 hne2
          first | exact absurd hm hne1 | exact absurd hm hne2 | (simp_all; done)
  · rw [restore_find] at hb1 hb2
    cases hs1 : find s'.bx d1 with
    | none => rw [hs1] at hb1; cases hb1
    | some c1 =>
      cases hs2 : find s'.bx d2 with
      | none => rw [hs2] at hb2; cases hb2
      | some c2 =>
        rw [hs1] at hb1
        rw [hs2] at hb2
        have hb1 := Option.some.inj hb1
        have hb2 := Option.some.inj hb2
        subst hb1 hb2
        exact h'.dist d1 d2 c1 c2 hne hs1 hs2 (out _ _ _ m1) (out _ _ _ m2)

theorem restore_fr (f : Fr wr (s.inner lv dr) a w s' a' w') {W : List Nat} {s0 : S} {a0 : Act} {w0 : World} (f0 : Fr W s0 a0 w0 s a w) (hW : ∀ k ∈ wr, k ∈ W) : Fr W s0 a0 w0 (s.restore wr s') a' w' := by
  refine ⟨fun k hk => (f.tm k (fun e => hk (hW k e))).trans (f0.tm k hk), f0.ro, fun b hb => (f.hp b (List.mem_append_right _ (by rw [f0.ro]; exact hb))).trans (f0.hp b hb), fun d hd b hb => ?_⟩
  rw [restore_find] at hb
  cases hs : find s'.bx d with
  | none => rw [hs] at hb; cases hb
  | some b0 =>
    rw [hs] at hb
    have hb := Option.some.inj hb
    subst hb
    obtain ⟨b1, g1, g2⟩ := f.bk d (fun e => hd (hW d e)) b0 hs
    rw [inner_find] at g1
    cases hs2 : find s.bx d with
    | none => rw [hs2] at g1; cases g1
    | some b2 =>
      rw [hs2] at g1
      have g1 := Option.some.inj g1
      subst g1
      obtain ⟨b3, g3, g4⟩ := f0.bk d hd b2 hs2
      exact ⟨b3, g3, g4.trans g2⟩

def cv : Ex → Exit
  | .nrm => .normal
  | .exit id => .exit id
  | .goto l => .goto l
  | .ret => .ret

def CPost (cx : Cx) (n : Nat) (W : List Nat) (s0 : S) (a0 : Act) (w0 : World) (K : Ex → S → World → Prop) (e : Exit) (a' : Act) (w' : World) : Prop :=
  ∃ ex s', e = cv ex ∧ Rel cx.F n s' a' w' ∧ Fr W s0 a0 w0 s' a' w' ∧ K ex s' w'

theorem den_ok (hf : cx.P.follows .mixedOrders = true) (ok : CxOk cx) : ∀ (p : Plan) (c : Code) (s : S) (a : Act) (w : World) (K : Ex → S → World → Prop) (W : List Nat) (s0 : S) (a0 : Act) (w0 : World), (∀ k ∈ writes c, k ∈ W) → Rel cx.F n s a w → Fr W s0 a0 w0 s a w →
    den cx n p c s w K → c.wp cx.P (CPost cx n W s0 a0 w0 K) a w := by
  intro p
  induction p with
  | o =>
    intro c s a w K W s0 a0 w0 hW h f hk
    cases c with
    | region id ops draw =>
      cases draw with
      | true => simp only [den] at hk
      | false =>
        simp only [den] at hk
        refine wp_region_list (denOps_ok ok (W := W) (s0 := s0) (a0 := a0) (w0 := w0) (K := K .nrm) (fun a w ⟨s', h1, h2, h3⟩ => ⟨.nrm, s', rfl, h1, h2, h3⟩) _ s a w (fun o ho t ht => hW t ?_) h f hk)
        simp only [writes, dstsOf]
        exact List.mem_filterMap.2 ⟨o, ho, ht⟩
    | skip => simp only [den] at hk; exact wp_skip ⟨.nrm, s, rfl, h, f, hk⟩
    | label l => simp only [den] at hk; exact wp_label ⟨.nrm, s, rfl, h, f, hk⟩
    | exit id => simp only [den] at hk; exact wp_exit ⟨.exit id, s, rfl, h, f, hk⟩
    | goto l => simp only [den] at hk; exact wp_goto ⟨.goto l, s, rfl, h, f, hk⟩
    | ret => simp only [den] at hk; exact wp_ret ⟨.ret, s, rfl, h, f, hk⟩
    | _ => simp only [den] at hk
  | draw D kd ord =>
    intro c s a w K W s0 a0 w0 hW h f hk
    cases c with
    | region id ops draw =>
      cases draw with
      | false => simp only [den] at hk
      | true =>
        simp only [den] at hk
        split at hk
        · rename_i hb
          simp only [Bool.and_eq_true] at hb
          have hD : ∀ d ∈ D, d ∉ dstsOf ops := fun d hd => by
            have := List.all_eq_true.1 hb.2 d hd
            simpa using this
          have hA : ∀ (i : Nat) o, ops[i]? = some o → ∀ t, o.dst = some t → t ∈ dstsOf ops := fun i o ho t ht => by
            simp only [dstsOf]
            exact List.mem_filterMap.2 ⟨o, List.mem_of_getElem? (by rw [Array.getElem?_toList]; exact ho), ht⟩
          exact wp_region_C hf hb.1.1 hb.1.2 (R := Post cx n (dstsOf ops) s a w (K .nrm)) (fun a w ⟨s', h1, h2, h3⟩ => ⟨.nrm, s', rfl, h1, f.trans (h2.mono fun t ht => hW t ht), h3⟩) (denDraw_ok ok hD hA ord [] [] _ s a w trivial (fun _ _ => trivial) h (.refl _ _ _ _) hk)
        · exact hk.elim
    | _ => simp only [den] at hk
  | seq p q ihp ihq =>
    intro c s a w K W s0 a0 w0 hW h f hk
    cases c with
    | seq x y =>
      simp only [den] at hk
      have hWx : ∀ k ∈ writes x, k ∈ W := fun k hk => hW k (by simp only [writes]; exact List.mem_append_left _ hk)
      have hWy : ∀ k ∈ writes y, k ∈ W := fun k hk => hW k (by simp only [writes]; exact List.mem_append_right _ hk)
      refine wp_seq (wp_mono (ihp x s a w _ W s0 a0 w0 hWx h f hk) ?_)
      rintro e a' w' ⟨ex, s', rfl, h1, h2, h3⟩
      cases ex with
      | nrm => exact ihq y s' a' w' K W s0 a0 w0 hWy h1 h2 h3
      | exit id => exact ⟨.exit id, s', rfl, h1, h2, h3⟩
      | goto l => exact ⟨.goto l, s', rfl, h1, h2, h3⟩
      | ret => exact ⟨.ret, s', rfl, h1, h2, h3⟩
    | _ => simp only [den] at hk
  | join lv dr p q ihp ihq =>
    intro c s a w K W s0 a0 w0 hW h f hk
    cases c with
    | seq x y =>
      simp only [den, Join] at hk
      have hWx : ∀ k ∈ writes x, k ∈ W := fun k hk => hW k (by simp only [writes]; exact List.mem_append_left _ hk)
      have hWy : ∀ k ∈ writes y, k ∈ W := fun k hk => hW k (by simp only [writes]; exact List.mem_append_right _ hk)
      refine wp_seq (wp_mono (ihp x (s.inner lv dr) a w _ (writes x) (s.inner lv dr) a w (fun _ h => h) (inner_rel h) (Fr.refl _ _ _ _) hk) ?_)
      rintro e a' w' ⟨ex, s', rfl, h1, h2, h3⟩
      cases ex with
      | nrm =>
        obtain ⟨t, g1, g2⟩ := appTup_ok h3
        exact ihq y _ a' w' K W s0 a0 w0 hWy (bind_rel (base_outer h) h h1 h2 g2) (bind_fr (base_outer h) h2 g2 f hWx) g1
      | exit id => exact ⟨.exit id, _, rfl, restore_rel h h1 h2, restore_fr h2 f hWx, h3⟩
      | goto l => exact ⟨.goto l, _, rfl, restore_rel h h1 h2, restore_fr h2 f hWx, h3⟩
      | ret => exact ⟨.ret, _, rfl, restore_rel h h1 h2, restore_fr h2 f hWx, h3⟩
    | _ => simp only [den] at hk
  | cond p q ihp ihq =>
    intro c s a w K W s0 a0 w0 hW h f hk
    cases c with
    | cond o x y =>
      simp only [den] at hk
      have hWx : ∀ k ∈ writes x, k ∈ W := fun k hk => hW k (by simp only [writes]; exact List.mem_append_left _ hk)
      have hWy : ∀ k ∈ writes y, k ∈ W := fun k hk => hW k (by simp only [writes]; exact List.mem_append_right _ hk)
      split at hk
      · rename_i t he
        obtain ⟨g1, _⟩ := ev_ok h he
        simp only [conc, cc] at g1
        refine wp_cond (t := t) g1 ?_
        cases t with
        | true => exact ihp x s a w K W s0 a0 w0 hWx h f hk
        | false => exact ihq y s a w K W s0 a0 w0 hWy h f hk
      · exact hk.elim
    | _ => simp only [den] at hk
  | block p ihp =>
    intro c s a w K W s0 a0 w0 hW h f hk
    cases c with
    | block id x =>
      simp only [den] at hk
      refine wp_block (wp_mono (ihp x s a w _ W s0 a0 w0 hW h f hk) ?_)
      rintro e a' w' ⟨ex, s', rfl, h1, h2, h3⟩
      cases ex with
      | nrm => exact ⟨.nrm, s', rfl, h1, h2, h3⟩
      | exit j =>
        simp only [cv, Exit.inBlock]
        simp only at h3
        split at h3
        · rename_i hb
          rw [if_pos (Nat.eq_of_beq_eq_true hb)]
          exact ⟨.nrm, s', rfl, h1, h2, h3⟩
        · rename_i hb
          rw [if_neg (Nat.ne_of_beq_eq_false hb)]
          exact ⟨.exit j, s', rfl, h1, h2, h3⟩
      | goto l => exact ⟨.goto l, s', rfl, h1, h2, h3⟩
      | ret => exact ⟨.ret, s', rfl, h1, h2, h3⟩
    | _ => simp only [den] at hk
  | loop lv dr p ihp =>
    intro c s a w K W s0 a0 w0 hW h f hk
    cases c with
    | loop x =>
      simp only [den] at hk
      have hWx : ∀ k ∈ writes x, k ∈ W := fun k hk => hW k (by simpa only [writes] using hk)
      obtain ⟨t0, ⟨I, μ, hI0, hround⟩, happ0⟩ := appTup_ok hk
      have hi := inner_rel (lv := lv) (dr := dr) h
      have fi : Fr (writes x) (s.inner lv dr) a w (s.inner lv dr) a w := Fr.refl _ _ _ _
      refine wp_loop_ghost (fun m a1 w1 => ∃ t, Rel cx.F n (bind lv t (s.inner lv dr) (writes x) dr) a1 w1 ∧ Fr (writes x) (s.inner lv dr) a w (bind lv t (s.inner lv dr) (writes x) dr) a1 w1 ∧ I t w1 ∧ μ t w1 = m) (μ t0 w)
        ⟨t0, bind_rel (base_inner h) hi hi fi happ0, bind_fr (base_inner h) fi happ0 fi (fun _ h => h), hI0, rfl⟩ ?_
      rintro m a1 w1 ⟨t, h1, f1, hI, rfl⟩
      refine wp_mono (ihp x _ a1 w1 _ (writes x) (s.inner lv dr) a w (fun _ h => h) h1 f1 (hround t w1 hI)) ?_
      rintro e a' w' ⟨ex, s', rfl, h2, f2, h3⟩
      cases ex with
      | nrm =>
        obtain ⟨t', ⟨g1, g2⟩, g3⟩ := appTup_ok h3
        exact ⟨_, g2, t', bind_rel (base_inner h) hi h2 f2 g3, bind_fr (base_inner h) f2 g3 fi (fun _ h => h), g1, rfl⟩
      | exit id => exact ⟨.exit id, _, rfl, restore_rel h h2 f2, restore_fr f2 f hWx, h3⟩
      | goto l => exact ⟨.goto l, _, rfl, restore_rel h h2 f2, restore_fr f2 f hWx, h3⟩
      | ret => exact ⟨.ret, _, rfl, restore_rel h h2 f2, restore_fr f2 f hWx, h3⟩
    | _ => simp only [den] at hk
  | scope p ihp =>
    intro c s a w K W s0 a0 w0 hW h f hk
    cases c with
    | scope x =>
      simp only [den] at hk
      refine wp_scope_straight (wp_mono (ihp x s a w _ W s0 a0 w0 hW h f hk) ?_)
      rintro e a' w' ⟨ex, s', rfl, h1, h2, h3⟩
      cases ex with
      | nrm => exact ⟨.nrm, s', rfl, h1, h2, h3⟩
      | exit j => exact ⟨.exit j, s', rfl, h1, h2, h3⟩
      | goto l => exact h3.elim
      | ret => exact ⟨.ret, s', rfl, h1, h2, h3⟩
    | _ => simp only [den] at hk
  | exp ds p ihp =>
    intro c s a w K W s0 a0 w0 hW h f hk
    simp only [den] at hk
    obtain ⟨s', h1, f1, _, hk⟩ := expose_ok _ _ _ h f hk
    exact ihp c s' a w K W s0 a0 w0 hW h1 f1 hk
end
end Go.Sh
