/- 'den' is sound: code, functions. -/
import Derived.Test.YtoomennincfkgaaSnd6
import Derived.Scope
namespace Go.Sh
open Go.RowKit

theorem find_map {g : Nat → Bx → Bx} : ∀ (l : List (Nat × Bx)) (i : Nat), find (l.map fun e => (e.1, g e.1 e.2)) i = (find l i).map (g i)
  | [], i => rfl
  | (k, b) :: l, i => by
    rw [List.map_cons, find_cons, find_cons]
    by_cases h : k = i
    · subst h; simp
    · rw [if_neg h, if_neg h]; exact find_map l i

theorem roIds_of {lv : List LV} {dr : List Nat} : ∀ {bx : List (Nat × Bx)} {seen : List Nat} {k : Nat}, k ∈ roIds lv dr seen bx → ∃ d b, d ∉ seen ∧ find bx d = some b ∧ b.b = k ∧ b.m = .rw ∧ inLV lv d = false ∧ d ∉ dr
  | [], seen, k, h => by cases h
  | (d, ⟨b, cs, m⟩) :: l, seen, k, h => by
    simp only [roIds] at h
    have nxt : k ∈ roIds lv dr (d :: seen) l → ∃ d' b', d' ∉ seen ∧ find ((d, ⟨b, cs, m⟩) :: l) d' = some b' ∧ b'.b = k ∧ b'.m = .rw ∧ inLV lv d' = false ∧ d' ∉ dr := fun h => by
      obtain ⟨d', b', h1, h2, h3⟩ := roIds_of h
      simp only [List.mem_cons, not_or] at h1
      exact ⟨d', b', h1.2, by rw [find_cons, if_neg (fun e => h1.1 e.symm)]; exact h2, h3⟩
    split at h
    · rename_i hc
      rcases List.mem_cons.1 h with h | h
      · simp at hc
        exact ⟨d, _, hc.1.1, by rw [find_cons, if_pos rfl], h.symm, rfl, hc.1.2, hc.2⟩
      · exact nxt h
    · exact nxt h
theorem roIds_has {lv : List LV} {dr : List Nat} : ∀ {bx : List (Nat × Bx)} {seen : List Nat} {d : Nat} {b : Bx}, find bx d = some b → b.m = .rw → d ∉ seen → inLV lv d = false → d ∉ dr → b.b ∈ roIds lv dr seen bx
  | [], seen, d, b, h, _, _, _, _ => by cases h
  | (k, ⟨b0, cs, m⟩) :: l, seen, d, b, h, hm, hs, hl, hd => by
    rw [find_cons] at h
    simp only [roIds]
    by_cases hk : k = d
    · subst hk
      rw [if_pos rfl] at h
      have h := Option.some.inj h
      subst h
      simp only at hm
      subst hm
      have : (seen.contains k || inLV lv k || dr.contains k) = false := by simp [hs, hl, hd]
      rw [this]
      exact List.mem_cons_self
    · rw [if_neg hk] at h
      have ih := roIds_has h hm (seen := k :: seen) (by simp [hs]; exact fun e => hk e.symm) hl hd
      split
      · exact List.mem_cons_of_mem _ ih
      · exact ih

section
variable {P : Program} {n : Nat} {s s' : S} {a a' : Act} {w w' : World} {lv : List LV} {dr wr : List Nat}

theorem conc_map {g : Nat → Bx → Bx} (hg : ∀ d b, (g d b).b = b.b) (bx : List (Nat × Bx)) (x : X) : conc (bx.map fun e => (e.1, g e.1 e.2)) x = conc bx x := by
  cases x with
  | loc d off =>
    simp only [conc, find_map]
    cases find bx d with
    | none => rfl
    | some b => simp [hg]
  | _ => rfl

theorem inner_find (d : Nat) : find (s.inner lv dr).bx d = (find s.bx d).map fun b => { b with m := innM b.m (inLV lv d || dr.contains d) } := by
  simp only [S.inner]
  exact find_map (g := fun d b => { b with m := innM b.m (inLV lv d || dr.contains d) }) s.bx d

theorem inner_rel (h : Rel P n s a w) : Rel P n (s.inner lv dr) a w := by
  refine ⟨fun t x hx hb => ?_, h.size, h.df, fun D hD => ⟨List.mem_append_right _ (h.dfw D hD).1, (h.dfw D hD).2⟩, h.dfn, fun d b hb => ?_, fun d1 d2 b1 b2 hne hb1 hb2 m1 m2 => ?_, fun k hk => ?_⟩
  · obtain ⟨h1, h2⟩ := h.sl t x hx hb
    refine ⟨by
      rw [h1]
      simp only [S.inner]
      rw [conc_map (g := fun d b => { b with m := innM b.m (inLV lv d || dr.contains d) }) (fun _ _ => rfl)], fun d off e => ?_, h2.2⟩
    obtain ⟨b, hb⟩ := h2.1 d off e
    rw [inner_find, hb]
    exact ⟨_, rfl⟩
  · rw [inner_find] at hb
    cases hs : find s.bx d with
    | none => rw [hs] at hb; cases hb
    | some b0 =>
      rw [hs] at hb
      have hb := Option.some.inj hb
      subst hb
      obtain ⟨k1, k2, k3⟩ := h.bx d b0 hs
      refine ⟨fun hm => k1 (fun e => hm ?_), fun hm => ?_, fun hm => ?_⟩
      · simp only [e]; unfold innM; split <;> first | rfl | simp_all
      · -- still to be written: told anew, or forgotten
        have hrw : b0.m = .rw ∧ (inLV lv d || dr.contains d) = true := by
          simp only at hm
          unfold innM at hm
          split at hm
          · cases hm
          · rename_i hx
            refine ⟨hm, ?_⟩
            cases hc : (inLV lv d || dr.contains d) with
            | true => rfl
            | false => exact absurd hm (hx hc)
        simp only [S.inner, List.mem_append, not_or]
        refine ⟨fun hk => ?_, k2 hrw.1⟩
        obtain ⟨d', b', _, g1, g2, g3, g4, g5⟩ := roIds_of hk
        by_cases e : d = d'
        · subst e
          simp [g4, g5] at hrw
        · exact h.dist d d' b0 b' e hs g1 (by rw [hrw.1]; intro e; cases e) (by rw [g3]; intro e; cases e) g2.symm
      · simp only [S.inner, List.mem_append]
        simp only at hm
        unfold innM at hm
        split at hm
        · rename_i hc hrw
          simp at hc
          exact .inl (roIds_has hs hrw (by simp) hc.1 hc.2)
        · exact .inr (k3 hm)
  · rw [inner_find] at hb1 hb2
    cases hs1 : find s.bx d1 with
    | none => rw [hs1] at hb1; cases hb1
    | some c1 =>
      cases hs2 : find s.bx d2 with
      | none => rw [hs2] at hb2; cases hb2
      | some c2 =>
        rw [hs1] at hb1
        rw [hs2] at hb2
        have hb1 := Option.some.inj hb1
        have hb2 := Option.some.inj hb2
        subst hb1 hb2
        have q : ∀ (m : BM) f, innM m f ≠ .out → m ≠ .out := fun m f hm e => hm (by rw [e]; unfold innM; split <;> first | rfl | simp_all)
        exact h.dist d1 d2 c1 c2 hne hs1 hs2 (q _ _ m1) (q _ _ m2)
  · simp only [S.inner, List.mem_append] at hk
    rcases hk with hk | hk
    · obtain ⟨d', b', _, g1, g2, g3, _⟩ := roIds_of hk
      rw [← g2]
      exact blk_lt ((h.bx d' b' g1).1 (by rw [g3]; intro e; cases e))
    · exact h.ro k hk

theorem base_outer (h : Rel P n s a w) : Base s (s.inner lv dr) lv dr := by
  refine ⟨fun d b hb hl hd hm => ?_, fun b hb => List.mem_append_right _ hb, fun d b hb => ?_, fun d b hb => ?_⟩
  · cases hbm : b.m with
    | rw => exact List.mem_append_left _ (roIds_has hb hbm (by simp) hl hd)
    | ro => exact List.mem_append_right _ ((h.bx d b hb).2.2 hbm)
    | out => exact absurd hbm hm
  · rw [inner_find] at hb
    cases hs : find s.bx d with
    | none => rw [hs] at hb; cases hb
    | some b0 => rw [hs] at hb; have hb := Option.some.inj hb; subst hb; exact ⟨b0, rfl, rfl⟩
  · exact ⟨{ b with m := innM b.m (inLV lv d || dr.contains d) }, by rw [inner_find, hb]; rfl, rfl⟩
theorem base_inner (h : Rel P n s a w) : Base (s.inner lv dr) (s.inner lv dr) lv dr := by
  refine ⟨fun d b hb hl hd hm => ?_, fun b hb => hb, fun d b hb => ⟨b, hb, rfl⟩, fun d b hb => ⟨b, hb, rfl⟩⟩
  have h' := inner_rel (lv := lv) (dr := dr) h
  have hm' : b.m = .ro := by
    rw [inner_find] at hb
    cases hs : find s.bx d with
    | none => rw [hs] at hb; cases hb
    | some b0 =>
      rw [hs] at hb
      have hb := Option.some.inj hb
      subst hb
      have : (inLV lv d || dr.contains d) = false := by simp [hl, hd]
      simp only [this] at hm ⊢
      cases hb0 : b0.m with
      | rw => rfl
      | ro => rfl
      | out => rw [hb0] at hm; exact absurd rfl hm
  exact (h'.bx d b hb).2.2 hm'

theorem restore_find (d : Nat) : find (s.restore wr s').bx d = (find s'.bx d).map fun b => { b with m := restM b.m (wr.contains d) (find s.bx d) } := by
  simp only [S.restore]
  exact find_map (g := fun d b => { b with m := restM b.m (wr.contains d) (find s.bx d) }) s'.bx d

theorem restore_rel (h : Rel P n s a w) (h' : Rel P n s' a' w') (f : Fr wr (s.inner lv dr) a w s' a' w') (hdf : s'.df = s.df) : Rel P n (s.restore wr s') a' w' := by
  have sub : ∀ k ∈ s.ro, k ∈ s'.ro := fun k hk => f.ro _ (List.mem_append_right _ hk)
  have out : ∀ (m : BM) x y, restM m x y ≠ .out → m ≠ .out := fun m x y hm e => hm (by rw [e]; rfl)
  refine ⟨fun t x hx hb => ?_, h'.size, h'.df, fun D hD => ⟨(h.dfw D (hdf ▸ hD)).1, (h'.dfw D hD).2⟩, h'.dfn, fun d b hb => ?_, fun d1 d2 b1 b2 hne hb1 hb2 m1 m2 => ?_, fun k hk => h'.ro k (sub k hk)⟩
  · obtain ⟨h1, h2⟩ := h'.sl t x hx hb
    refine ⟨by
      rw [h1]
      simp only [S.restore]
      rw [conc_map (g := fun d b => { b with m := restM b.m (wr.contains d) (find s.bx d) }) (fun _ _ => rfl)], fun d off e => ?_, h2.2⟩
    obtain ⟨b, hb⟩ := h2.1 d off e
    rw [restore_find, hb]
    exact ⟨_, rfl⟩
  · rw [restore_find] at hb
    cases hs : find s'.bx d with
    | none => rw [hs] at hb; cases hb
    | some b0 =>
      rw [hs] at hb
      have hb := Option.some.inj hb
      subst hb
      obtain ⟨k1, k2, k3⟩ := h'.bx d b0 hs
      refine ⟨fun hm => k1 (out _ _ _ hm), fun hm => ?_, fun hm => ?_⟩
      · simp only at hm
        unfold restM at hm
        split at hm
        · rename_i bb cs hm0 hw hf
          obtain ⟨b1, g1, g2⟩ := f.bk d (by simpa using hw) b0 hs
          rw [inner_find, hf] at g1
          have g1 := Option.some.inj g1
          subst g1
          have := (h.bx d _ hf).2.1 rfl
          simp only at g2 this ⊢
          rw [← g2]; exact this
        · cases hm
        · cases hm
        · exact fun hk => k2 hm (sub _ hk)
      · simp only at hm
        unfold restM at hm
        split at hm
        · cases hm
        · rename_i bb cs hm0 hw hf
          obtain ⟨b1, g1, g2⟩ := f.bk d (by simpa using hw) b0 hs
          rw [inner_find, hf] at g1
          have g1 := Option.some.inj g1
          subst g1
          have := (h.bx d _ hf).2.2 rfl
          simp only at g2 this ⊢
          rw [← g2]; exact this
        · cases hm
        · rename_i hne1 hne2
          first | exact absurd hm hne1 | exact absurd hm hne2 | (simp_all; done)
  · rw [restore_find] at hb1 hb2
    cases hs1 : find s'.bx d1 with
    | none => rw [hs1] at hb1; cases hb1
    | some c1 =>
      cases hs2 : find s'.bx d2 with
      | none => rw [hs2] at hb2; cases hb2
      | some c2 =>
        rw [hs1] at hb1
        rw [hs2] at hb2
        have hb1 := Option.some.inj hb1
        have hb2 := Option.some.inj hb2
        subst hb1 hb2
        exact h'.dist d1 d2 c1 c2 hne hs1 hs2 (out _ _ _ m1) (out _ _ _ m2)

theorem restore_fr (f : Fr wr (s.inner lv dr) a w s' a' w') {W : List Nat} {s0 : S} {a0 : Act} {w0 : World} (f0 : Fr W s0 a0 w0 s a w) (hW : ∀ k ∈ wr, k ∈ W) : Fr W s0 a0 w0 (s.restore wr s') a' w' := by
  refine ⟨fun k hk => (f.tm k (fun e => hk (hW k e))).trans (f0.tm k hk), f0.ro, (let ⟨p, hp⟩ := f0.df; let ⟨q, hq⟩ := f.df; ⟨q ++ p, by show s'.df = _; rw [hq, List.append_assoc, ← hp]; rfl⟩), fun b hb => (f.hp b (List.mem_append_right _ (f0.ro b hb))).trans (f0.hp b hb), fun d hd b hb => ?_⟩
  rw [restore_find] at hb
  cases hs : find s'.bx d with
  | none => rw [hs] at hb; cases hb
  | some b0 =>
    rw [hs] at hb
    have hb := Option.some.inj hb
    subst hb
    obtain ⟨b1, g1, g2⟩ := f.bk d (fun e => hd (hW d e)) b0 hs
    rw [inner_find] at g1
    cases hs2 : find s.bx d with
    | none => rw [hs2] at g1; cases g1
    | some b2 =>
      rw [hs2] at g1
      have g1 := Option.some.inj g1
      subst g1
      obtain ⟨b3, g3, g4⟩ := f0.bk d hd b2 hs2
      exact ⟨b3, g3, g4.trans g2⟩

def cv : Ex → Exit
  | .nrm => .normal
  | .exit id => .exit id
  | .goto l => .goto l
  | .ret => .ret

def CPost (P : Program) (n : Nat) (W : List Nat) (s0 : S) (a0 : Act) (w0 : World) (K : Ex → S → World → Prop) (e : Exit) (a' : Act) (w' : World) : Prop :=
  ∃ ex s', e = cv ex ∧ Rel P n s' a' w' ∧ Fr W s0 a0 w0 s' a' w' ∧ K ex s' w'

/-! ### A loop over a function -/
theorem find_ptrs {bx : List (Nat × Bx)} : ∀ {l : List (Nat × X)} {t : Nat} {x : X}, find (ptrs bx l) t = some x → x ≠ .bad →
    ∃ y, find l t = some y ∧ y ≠ .bad ∧ ((NotLoc y ∧ x = y) ∨ ∃ d off b cs, y = .loc d off ∧ find bx d = some ⟨b, cs, .out⟩ ∧ x = .v (.pointer (some ⟨b, off, none⟩)))
  | [], t, x, h, _ => by cases h
  | (k, y) :: l, t, x, h, hx => by
    have key : ∀ z, find ((k, z) :: ptrs bx l) t = some x → (z ≠ .bad → y ≠ .bad ∧ ((NotLoc y ∧ z = y) ∨ ∃ d off b cs, y = .loc d off ∧ find bx d = some ⟨b, cs, .out⟩ ∧ z = .v (.pointer (some ⟨b, off, none⟩)))) →
        ∃ y', find ((k, y) :: l) t = some y' ∧ y' ≠ .bad ∧ ((NotLoc y' ∧ x = y') ∨ ∃ d off b cs, y' = .loc d off ∧ find bx d = some ⟨b, cs, .out⟩ ∧ x = .v (.pointer (some ⟨b, off, none⟩))) := fun z hz hk => by
      rw [find_cons] at hz ⊢
      split at hz
      · rename_i e
        rw [if_pos e]
        have hz := Option.some.inj hz
        subst hz
        obtain ⟨h1, h2⟩ := hk hx
        exact ⟨y, rfl, h1, h2⟩
      · rename_i e
        rw [if_neg e]
        exact find_ptrs hz hx
    cases y with
    | loc d off =>
      simp only [ptrs] at h
      split at h
      · rename_i b cs hb
        exact key _ h fun _ => ⟨fun e => (by cases e), .inr ⟨d, off, b, cs, rfl, hb, rfl⟩⟩
      · exact key _ h fun hn => absurd rfl hn
    | bad => exact key _ h fun hn => absurd rfl hn
    | v z => exact key _ h fun _ => ⟨fun e => (by cases e), .inl ⟨notLoc_v z, rfl⟩⟩
    | clo f i c => exact key _ h fun _ => ⟨fun e => (by cases e), .inl ⟨fun d o e => (by cases e), rfl⟩⟩
    | yl v E => exact key _ h fun _ => ⟨fun e => (by cases e), .inl ⟨fun d o e => (by cases e), rfl⟩⟩

/-- What the slots of a frame without boxes say. -/
def SlOk (P : Program) (sl : List (Nat × X)) (tm : Array Value) : Prop := ∀ t x, find sl t = some x → x ≠ .bad → tm[t]? = some (cc x) ∧ ArgOk P x

theorem ptrs_ok {P : Program} {n : Nat} {s : S} {a : Act} {w : World} (h : Rel P n s a w) : SlOk P (ptrs s.bx s.sl) a.tmps := fun t x hx hb => by
  obtain ⟨y, h1, h2, h3⟩ := find_ptrs hx hb
  obtain ⟨g1, g2⟩ := h.sl t y h1 h2
  rcases h3 with ⟨hn, rfl⟩ | ⟨d, off, b, cs, rfl, hf, rfl⟩
  · rw [conc_of hn] at g1; exact ⟨g1, hn, g2.2⟩
  · simp only [conc, hf] at g1
    exact ⟨g1, argOk_v _⟩

theorem SlOk.rel {P : Program} {n : Nat} {sl : List (Nat × X)} {tm : Array Value} (h : SlOk P sl tm) (hs : tm.size = n) {ro : List Nat} {w : World} (hr : ∀ b ∈ ro, b < w.heap.size) : Rel P n ⟨sl, [], ro, []⟩ { tmps := tm, defers := [] } w :=
  ⟨fun t x hx hb => by
    obtain ⟨h1, h2⟩ := h t x hx hb
    exact ⟨by rw [conc_of h2.1]; exact h1, fun d off e => absurd e (h2.1 d off), h2.2⟩, hs, rfl, fun D hD => (by cases hD), List.nodup_nil, fun d b hb => (by cases hb), fun d d' b b' _ hb => (by cases hb), hr⟩

theorem bindPs_ok {P : Program} {n : Nat} : ∀ {ps : List Nat} {vs : List Value} {sl sl' : List (Nat × X)} {tm : Array Value}, bindPs ps vs sl = some sl' → (∀ p ∈ ps, p < n) → tm.size = n → SlOk P sl tm →
    vs.length = ps.length ∧ SlOk P sl' ((ps.zip vs).foldl (fun t (p, v) => t.setIfInBounds p v) tm) ∧ ((ps.zip vs).foldl (fun t (p, v) => t.setIfInBounds p v) tm).size = n
  | [], [], sl, sl', tm, h, _, hs, ho => by simp only [bindPs, Option.some.injEq] at h; subst h; exact ⟨rfl, ho, hs⟩
  | p :: ps, v :: vs, sl, sl', tm, h, hp, hs, ho => by
    simp only [bindPs] at h
    have ho' : SlOk P ((p, .v v) :: sl) (tm.setIfInBounds p v) := fun t x hx hb => by
      rw [find_cons] at hx
      split at hx
      · rename_i e; subst e
        have hx := Option.some.inj hx
        subst hx
        have : p < tm.size := by rw [hs]; exact hp p List.mem_cons_self
        exact ⟨by simp [this, cc], argOk_v _⟩
      · rename_i e
        rw [Array.getElem?_setIfInBounds_ne e]
        exact ho t x hx hb
    obtain ⟨h1, h2, h3⟩ := bindPs_ok h (fun q hq => hp q (List.mem_cons_of_mem _ hq)) (by simp [hs]) ho'
    exact ⟨by simp [h1], by simpa using h2, by simpa using h3⟩
  | [], _ :: _, _, _, _, h, _, _, _ => by cases h
  | _ :: _, [], _, _, _, h, _, _, _ => by cases h

theorem kill_ok {P : Program} {n : Nat} {s : S} {a : Act} {w : World} (h : Rel P n s a w) : SlOk P (kill (fun _ => true) s.sl) a.tmps := fun t x hx hb => by
  obtain ⟨h1, h2⟩ := find_kill hx hb
  have hn : NotLoc x := fun d off e => by have := h2 d off e; cases this
  obtain ⟨g1, g2⟩ := h.sl t x h1 hb
  rw [conc_of hn] at g1
  exact ⟨g1, hn, g2.2⟩

theorem yl_args (v : Value) (E) (cap : Array Value) : ((X.yl v E :: cap.toList.map X.v).map cc).toArray = #[v] ++ cap := by
  apply Array.ext'
  have : cap.toList.map (cc ∘ X.v) = cap.toList := by
    rw [show (cc ∘ X.v) = id from rfl]; simp
  simp [cc, this]

theorem orE_some {f : Ex → Prop} : ∀ {l : List Ex}, orE f l → ∃ e ∈ l, f e
  | [e], h => ⟨e, by simp, h⟩
  | e :: e' :: l, h => by
    rcases h with h | h
    · exact ⟨e, by simp, h⟩
    · obtain ⟨x, h1, h2⟩ := orE_some h
      exact ⟨x, List.mem_cons_of_mem _ h1, h2⟩

theorem zip_arr (ps : Array Nat) (vs : List Value) (tm : Array Value) : (ps.zip vs.toArray).foldl (fun t (p, v) => t.setIfInBounds p v) tm = (ps.toList.zip vs).foldl (fun t (p, v) => t.setIfInBounds p v) tm := by
  rw [← Array.foldl_toList, Array.toList_zip]

theorem den_ok : ∀ (p : Plan) (cx : Cx) (r : Option Nat) (c : Code) (s : S) (a : Act) (w : World) (K : Ex → S → World → Prop) (W : List Nat) (s0 : S) (a0 : Act) (w0 : World), cx.P.follows .mixedOrders = true → CxOk cx → CVOk cx.P cx.CV → (cx.top = true → r = none) →
    (∀ k ∈ writes c, k ∈ W) → Rel cx.P n s a w → Fr W s0 a0 w0 s a w → den cx n p c s w K → c.wpIn (WF r) 0 cx.P (CPost cx.P n W s0 a0 w0 K) a w := by
  intro p
  induction p with
  | o =>
    intro cx r c s a w K W s0 a0 w0 hf ok cvo htop hW h f hk
    cases c with
    | region id ops draw =>
      cases draw with
      | true => simp only [den] at hk
      | false =>
        simp only [den] at hk
        refine wpIn_region_list (denOps_ok ok cvo (W := W) (s0 := s0) (a0 := a0) (w0 := w0) (K := K .nrm) (fun a w ⟨s', h1, h2, h3⟩ => ⟨.nrm, s', rfl, h1, h2, h3⟩) _ s a w (fun o ho t ht => hW t ?_) h f hk)
        simp only [writes, dstsOf]
        exact List.mem_filterMap.2 ⟨o, ho, ht⟩
    | skip => simp only [den] at hk; exact wpIn_skip ⟨.nrm, s, rfl, h, f, hk⟩
    | label l => simp only [den] at hk; exact wpIn_label ⟨.nrm, s, rfl, h, f, hk⟩
    | exit id => simp only [den] at hk; exact wpIn_exit ⟨.exit id, s, rfl, h, f, hk⟩
    | goto l => simp only [den] at hk; exact wpIn_goto ⟨.goto l, s, rfl, h, f, hk⟩
    | ret => simp only [den] at hk; exact wpIn_ret ⟨.ret, s, rfl, h, f, hk⟩
    | _ => simp only [den] at hk
  | draw D kd ord =>
    intro cx r c s a w K W s0 a0 w0 hf ok cvo htop hW h f hk
    cases c with
    | region id ops draw =>
      cases draw with
      | false => simp only [den] at hk
      | true =>
        simp only [den] at hk
        split at hk
        · rename_i hb
          simp only [Bool.and_eq_true] at hb
          have hD : ∀ d ∈ D, d ∉ dstsOf ops := fun d hd => by
            have := List.all_eq_true.1 hb.2 d hd
            simpa using this
          have hA : ∀ (i : Nat) o, ops[i]? = some o → ∀ t, o.dst = some t → t ∈ dstsOf ops := fun i o ho t ht => by
            simp only [dstsOf]
            exact List.mem_filterMap.2 ⟨o, List.mem_of_getElem? (by rw [Array.getElem?_toList]; exact ho), ht⟩
          exact wpIn_region_C hf hb.1.1 hb.1.2 (R := Post cx n (dstsOf ops) s a w (K .nrm)) (fun a w ⟨s', h1, h2, h3⟩ => ⟨.nrm, s', rfl, h1, f.trans (h2.mono fun t ht => hW t ht), h3⟩) (denDraw_ok ok cvo hD hA ord [] [] _ _ s a w trivial (InvZ.none _ _) (fun _ _ _ => trivial) h (.refl _ _ _ _) hk)
        · exact hk.elim
    | _ => simp only [den] at hk
  | seq p q ihp ihq =>
    intro cx r c s a w K W s0 a0 w0 hf ok cvo htop hW h f hk
    cases c with
    | seq x y =>
      simp only [den] at hk
      have hWx : ∀ k ∈ writes x, k ∈ W := fun k hk => hW k (by simp only [writes]; exact List.mem_append_left _ hk)
      have hWy : ∀ k ∈ writes y, k ∈ W := fun k hk => hW k (by simp only [writes]; exact List.mem_append_right _ hk)
      refine wpIn_seq (wpIn_mono (ihp cx r x s a w _ W s0 a0 w0 hf ok cvo htop hWx h f hk) ?_)
      rintro e a' w' ⟨ex, s', rfl, h1, h2, h3⟩
      cases ex with
      | nrm => exact ihq cx r y s' a' w' K W s0 a0 w0 hf ok cvo htop hWy h1 h2 h3
      | exit id => exact ⟨.exit id, s', rfl, h1, h2, h3⟩
      | goto l => exact ⟨.goto l, s', rfl, h1, h2, h3⟩
      | ret => exact ⟨.ret, s', rfl, h1, h2, h3⟩
    | _ => simp only [den] at hk
  | join lv dr p q ihp ihq =>
    intro cx r c s a w K W s0 a0 w0 hf ok cvo htop hW h f hk
    cases c with
    | seq x y =>
      simp only [den, Join] at hk
      have hWx : ∀ k ∈ writes x, k ∈ W := fun k hk => hW k (by simp only [writes]; exact List.mem_append_left _ hk)
      have hWy : ∀ k ∈ writes y, k ∈ W := fun k hk => hW k (by simp only [writes]; exact List.mem_append_right _ hk)
      refine wpIn_seq (wpIn_mono (ihp cx r x (s.inner lv dr) a w _ (writes x) (s.inner lv dr) a w hf ok cvo htop (fun _ h => h) (inner_rel h) (Fr.refl _ _ _ _) hk) ?_)
      rintro e a' w' ⟨ex, s', rfl, h1, h2, h3⟩
      obtain ⟨hdf, h3⟩ := h2.same (s := s.inner lv dr) h3
      cases ex with
      | nrm =>
        obtain ⟨t, g1, g2⟩ := appTup_ok h3
        exact ihq cx r y _ a' w' K W s0 a0 w0 hf ok cvo htop hWy (bind_rel (base_outer h) h h1 h2 hdf g2) (bind_fr (base_outer h) h2 g2 f hWx) g1
      | exit id => exact ⟨.exit id, _, rfl, restore_rel h h1 h2 hdf, restore_fr h2 f hWx, h3⟩
      | goto l => exact ⟨.goto l, _, rfl, restore_rel h h1 h2 hdf, restore_fr h2 f hWx, h3⟩
      | ret => exact ⟨.ret, _, rfl, restore_rel h h1 h2 hdf, restore_fr h2 f hWx, h3⟩
    | _ => simp only [den] at hk
  | cond p q ihp ihq =>
    intro cx r c s a w K W s0 a0 w0 hf ok cvo htop hW h f hk
    cases c with
    | cond o x y =>
      simp only [den] at hk
      have hWx : ∀ k ∈ writes x, k ∈ W := fun k hk => hW k (by simp only [writes]; exact List.mem_append_left _ hk)
      have hWy : ∀ k ∈ writes y, k ∈ W := fun k hk => hW k (by simp only [writes]; exact List.mem_append_right _ hk)
      split at hk
      · rename_i t he
        obtain ⟨g1, _⟩ := ev_ok h he
        simp only [conc, cc] at g1
        refine wpIn_cond (t := t) g1 ?_
        cases t with
        | true => exact ihp cx r x s a w K W s0 a0 w0 hf ok cvo htop hWx h f hk
        | false => exact ihq cx r y s a w K W s0 a0 w0 hf ok cvo htop hWy h f hk
      · exact hk.elim
    | _ => simp only [den] at hk
  | block p ihp =>
    intro cx r c s a w K W s0 a0 w0 hf ok cvo htop hW h f hk
    cases c with
    | block id x =>
      simp only [den] at hk
      refine wpIn_block (wpIn_mono (ihp cx r x s a w _ W s0 a0 w0 hf ok cvo htop hW h f hk) ?_)
      rintro e a' w' ⟨ex, s', rfl, h1, h2, h3⟩
      cases ex with
      | nrm => exact ⟨.nrm, s', rfl, h1, h2, h3⟩
      | exit j =>
        simp only [cv, Exit.inBlock]
        simp only at h3
        split at h3
        · rename_i hb
          rw [if_pos (Nat.eq_of_beq_eq_true hb)]
          exact ⟨.nrm, s', rfl, h1, h2, h3⟩
        · rename_i hb
          rw [if_neg (Nat.ne_of_beq_eq_false hb)]
          exact ⟨.exit j, s', rfl, h1, h2, h3⟩
      | goto l => exact ⟨.goto l, s', rfl, h1, h2, h3⟩
      | ret => exact ⟨.ret, s', rfl, h1, h2, h3⟩
    | _ => simp only [den] at hk
  | loop lv dr p ihp =>
    intro cx r c s a w K W s0 a0 w0 hf ok cvo htop hW h f hk
    cases c with
    | loop x =>
      simp only [den] at hk
      have hWx : ∀ k ∈ writes x, k ∈ W := fun k hk => hW k (by simpa only [writes] using hk)
      obtain ⟨t0, ⟨I, μ, hI0, hround⟩, happ0⟩ := appTup_ok hk
      have hi := inner_rel (lv := lv) (dr := dr) h
      have fi : Fr (writes x) (s.inner lv dr) a w (s.inner lv dr) a w := Fr.refl _ _ _ _
      refine wpIn_loop_ghost (fun m a1 w1 => ∃ t, Rel cx.P n (bind lv t (s.inner lv dr) (writes x) dr) a1 w1 ∧ Fr (writes x) (s.inner lv dr) a w (bind lv t (s.inner lv dr) (writes x) dr) a1 w1 ∧ I t w1 ∧ μ t w1 = m) (μ t0 w)
        ⟨t0, bind_rel (base_inner h) hi hi fi rfl happ0, bind_fr (base_inner h) fi happ0 fi (fun _ h => h), hI0, rfl⟩ ?_
      rintro m a1 w1 ⟨t, h1, f1, hI, rfl⟩
      refine wpIn_mono (ihp cx r x _ a1 w1 _ (writes x) (s.inner lv dr) a w hf ok cvo htop (fun _ h => h) h1 f1 (hround t w1 hI)) ?_
      rintro e a' w' ⟨ex, s', rfl, h2, f2, h3⟩
      obtain ⟨hdf, h3⟩ := f2.same (s := s.inner lv dr) h3
      cases ex with
      | nrm =>
        obtain ⟨t', ⟨g1, g2⟩, g3⟩ := appTup_ok h3
        exact ⟨_, g2, t', bind_rel (base_inner h) hi h2 f2 hdf g3, bind_fr (base_inner h) f2 g3 fi (fun _ h => h), g1, rfl⟩
      | exit id => exact ⟨.exit id, _, rfl, restore_rel h h2 f2 hdf, restore_fr f2 f hWx, h3⟩
      | goto l => exact ⟨.goto l, _, rfl, restore_rel h h2 f2 hdf, restore_fr f2 f hWx, h3⟩
      | ret => exact ⟨.ret, _, rfl, restore_rel h h2 f2 hdf, restore_fr f2 f hWx, h3⟩
    | _ => simp only [den] at hk
  | scope p ihp =>
    intro cx r c s a w K W s0 a0 w0 hf ok cvo htop hW h f hk
    cases c with
    | scope x =>
      simp only [den] at hk
      split at hk
      · rename_i ht
        have hr := htop ht
        subst hr
        refine wpIn_scope_top (wpIn_mono (ihp cx none x s a w _ W s0 a0 w0 hf ok cvo htop hW h f hk) ?_)
        rintro e a' w' ⟨ex, s', rfl, h1, h2, h3⟩
        cases ex with
        | nrm => exact ⟨.nrm, s', rfl, h1, h2, h3⟩
        | exit j => exact ⟨.exit j, s', rfl, h1, h2, h3⟩
        | goto l => exact h3.elim
        | ret => exact ⟨.ret, s', rfl, h1, h2, h3⟩
      · exact hk.elim
    | _ => simp only [den] at hk
  | exp ds p ihp =>
    intro cx r c s a w K W s0 a0 w0 hf ok cvo htop hW h f hk
    simp only [den] at hk
    obtain ⟨s', h1, f1, _, hk⟩ := expose_ok _ _ _ h f hk
    exact ihp cx r c s' a w K W s0 a0 w0 hf ok cvo htop hW h1 f1 hk
  | rng ds es p q ihp ihq =>
    intro cx r c s a w K W s0 a0 w0 hf ok cvo htop hW h f hk
    cases c with
    | rangeFunc g ps assign body =>
      simp only [den] at hk
      split at hk
      · rename_i gf first cap hb he
        split at hk
        · rename_i hfi hnb
          simp only [Bool.and_eq_true] at hb
          obtain ⟨⟨htp, hes⟩, hps⟩ := hb
          have hr := htop htp
          subst hr
          have hps : ∀ q ∈ ps.toList, q < n := fun q hq => by
            have := List.all_eq_true.1 hps q hq
            simpa using this
          have hfi : first = #[] := by apply Array.ext'; simpa using hfi
          subst hfi
          obtain ⟨g1, _⟩ := ev_ok h he
          simp only [conc, cc] at g1
          obtain ⟨s1, h1, f1, _, hk⟩ := expose_ok _ _ _ h f hk
          refine wpIn_rangeFunc (F := WF none) fun fn _ => ?_
          -- the record
          obtain ⟨rec, hrec⟩ : ∃ rec : Loop, rec = { state := .ready, pending := none, fn, tmps := a.tmps, params := ps, assign, body, defers := w.heap.size } := ⟨_, rfl⟩
          obtain ⟨w1, hw1⟩ : ∃ w1, (w.alloc (.deferred (some []))).alloc (.loop rec) = w1 := ⟨_, rfl⟩
          have hL1 : w1.heap[w.heap.size + 1]? = some (.loop rec) := by
            rw [← hw1]; have := World.alloc_heap_new (w.alloc (.deferred (some []))) (.loop rec); rwa [World.size_alloc] at this
          have hD1 : w1.heap[w.heap.size]? = some (.deferred (some [])) := by
            rw [← hw1]; exact (Below.heap_alloc _ _ _ (by simp)).trans (World.alloc_heap_new w _)
          have e1 : Ext w w1 := by rw [← hw1]; exact (ext_alloc w _).trans (ext_alloc _ _)
          have hlt : w.heap.size + 1 < w1.heap.size := (Array.getElem?_eq_some_iff.1 hL1).1
          have hk := hk w.heap.size (w.heap.size + 1) w1 e1 (Nat.le_refl _) (Nat.lt_succ_self _) hlt
          have hrun := run_enterLoop_outer (P := cx.P) (w := w) fn a.tmps ps assign body
          rw [← hrec, hw1] at hrun
          refine ⟨w.heap.size + 1, [markOf w.heap.size], w1, { target := .fn (.func gf) cap, args := #[.func (.yield (w.heap.size + 1)) #[] #[]] }, w1, gf,
            #[.func (.yield (w.heap.size + 1)) #[] #[]] ++ cap, w1, hrun, ?_, fun _ _ => trivial, ?_, ne_depth, ?_⟩
          · simp only [resolve, g1]
            simp [go_sem]
          · simp [invoke, go_sem, noBody_ok hnb]
          · have hcall := ok.O _ cvo gf _ _ w1 ?_ hk
            · rw [yl_args] at hcall
              refine calls_wf (hcall.mono ?_)
              intro e w7 hans
              cases e with
              | panicked c => exact hans.elim
              | outgrown => exact hans.elim
              | returned v =>
                obtain ⟨hkeep, hafter⟩ := hans
                have hro7 : ∀ b ∈ s1.ro, w7.heap[b]? = w.heap[b]? := fun b hb => (hkeep b (List.mem_cons_of_mem _ hb)).trans (e1.blk (h1.ro b hb))
                have hD7 : w7.heap[w.heap.size]? = some (.deferred (some [])) := (hkeep _ List.mem_cons_self).trans hD1
                -- the state behind it
                have post : ∀ w8, Off (w.heap.size + 1) w7 w8 → Rel cx.P n ⟨ptrs s1.bx s1.sl, [], w.heap.size :: s1.ro, w.heap.size :: s1.df⟩ { a with defers := [markOf w.heap.size] ++ a.defers } w8 ∧
                    Fr W s0 a0 w0 ⟨ptrs s1.bx s1.sl, [], w.heap.size :: s1.ro, w.heap.size :: s1.df⟩ { a with defers := [markOf w.heap.size] ++ a.defers } w8 := fun w8 ho => by
                  have hro8 : ∀ b ∈ s1.ro, w8.heap[b]? = w.heap[b]? := fun b hb => (ho.block b (by have := h1.ro b hb; omega)).trans (hro7 b hb)
                  have hD8 : w8.heap[w.heap.size]? = some (.deferred (some [])) := (ho.block _ (by omega)).trans hD7
                  have hsl := ptrs_ok h1
                  refine ⟨⟨fun t x hx hb => ?_, h1.size, ?_, fun D hD => ?_, ?_, fun d b hb => (by cases hb), fun d d' b b' _ hb => (by cases hb), fun b hb => ?_⟩, ⟨f1.tm, fun b hb => List.mem_cons_of_mem _ (f1.ro b hb), ?_, fun b hb => (hro8 b (f1.ro b hb)).trans (f1.hp b hb), fun d _ b hb => (by cases hb)⟩⟩
                  · obtain ⟨k1, k2⟩ := hsl t x hx hb
                    exact ⟨by rw [conc_of k2.1]; exact k1, fun d off e => absurd e (k2.1 d off), k2.2⟩
                  · simp [h1.df]
                  · rcases List.mem_cons.1 hD with rfl | hD
                    · exact ⟨List.mem_cons_self, hD8⟩
                    · obtain ⟨k1, k2⟩ := h1.dfw D hD
                      exact ⟨List.mem_cons_of_mem _ k1, (hro8 D k1).trans k2⟩
                  · refine List.nodup_cons.2 ⟨fun hm => ?_, h1.dfn⟩
                    have := h1.ro _ (h1.dfw _ hm).1
                    omega
                  · rcases List.mem_cons.1 hb with rfl | hb
                    · exact (Array.getElem?_eq_some_iff.1 hD8).1
                    · have hl := h1.ro b hb
                      have e := hro8 b hb
                      rw [Array.getElem?_eq_getElem hl] at e
                      exact (Array.getElem?_eq_some_iff.1 e).1
                  · obtain ⟨pre, hp⟩ := f1.df
                    exact ⟨w.heap.size :: pre, by rw [hp]; rfl⟩
                rcases hafter with ⟨hrdy, hkn⟩ | hor
                · have hl7 : w7.heap[w.heap.size + 1]? = some (.loop rec) := hrdy.trans hL1
                  have := run_endLoop (P := cx.P) hl7 (by rw [hrec]; intro e; cases e)
                  refine ⟨none, w7.putObj (w.heap.size + 1) (.loop { rec with state := .exhausted }), by rw [this, show rec.pending = none by rw [hrec]], ?_⟩
                  obtain ⟨k1, k2⟩ := post (w7.putObj (w.heap.size + 1) (.loop { rec with state := .exhausted })) (putObj_off _)
                  exact ⟨.nrm, _, rfl, k1, k2, hkn _ (putObj_off _)⟩
                · obtain ⟨ex, hmem, ⟨r0, hr0, hpd⟩, hkn⟩ := orE_some hor
                  rw [hL1] at hr0
                  injection hr0 with hr0; injection hr0 with hr0
                  subst hr0
                  have := run_endLoop (P := cx.P) hpd (by intro e; cases e)
                  refine ⟨some ex.code, _, this, ?_⟩
                  obtain ⟨k1, k2⟩ := post (w7.putObj (w.heap.size + 1) (.loop { rec with state := .exhausted, pending := some ex.code })) (putObj_off _)
                  have hq := hkn (w7.putObj (w.heap.size + 1) (.loop { rec with state := .exhausted, pending := some ex.code })) (putObj_off _)
                  cases ex with
                  | nrm => have := List.all_eq_true.1 hes _ hmem; cases this
                  | exit id => exact wpIn_exit ⟨.exit id, _, rfl, k1, k2, hq⟩
                  | goto id => exact wpIn_goto ⟨.goto id, _, rfl, k1, k2, hq⟩
                  | ret => exact wpIn_ret ⟨.ret, _, rfl, k1, k2, hq⟩
            · -- a round
              intro x hx
              rcases List.mem_cons.1 hx with rfl | hx
              · refine ⟨fun d off e => (by cases e), fun v E e => ?_⟩
                injection e with e2 e3
                subst e2 e3
                refine ⟨_, rfl, fun vs Ky w2 hE => ?_⟩
                obtain ⟨hr2, hE⟩ := hE
                have hl2 : w2.heap[w.heap.size + 1]? = some (.loop rec) := hr2.trans hL1
                have hlt2 := (Array.getElem?_eq_some_iff.1 hl2).1
                split at hE
                · rename_i sl hbind
                  obtain ⟨k1, k2, k3⟩ := bindPs_ok (P := cx.P) hbind hps h1.size (ptrs_ok h1)
                  have hy := run_yield (P := cx.P) (args := vs.toArray) hl2 (by rw [hrec]; simpa using k1)
                  rw [show rec.params = ps by rw [hrec], show rec.tmps = a.tmps by rw [hrec], zip_arr] at hy
                  rw [show rec.fn = fn by rw [hrec], show rec.assign = assign by rw [hrec], show rec.body = body by rw [hrec]] at hy
                  refine ⟨_, _, _, _, hy, roundIn_of_wpIn trivial ?_⟩
                  have okf : CxOk { cx with top := false } := ⟨ok.O, ok.Q⟩
                  have hR0 := k2.rel k3 (ro := [w.heap.size + 1]) (w := w2) (fun b hb => by simp at hb; subst hb; exact hlt2)
                  refine wpIn_mono (ihp { cx with top := false } (some (w.heap.size + 1)) assign _ _ w2 _ (writes assign) _ _ w2 hf okf cvo (fun e => by cases e) (fun _ h => h) hR0 (Fr.refl _ _ _ _) hE) ?_
                  rintro e a3 w3 ⟨ex, s3, rfl, hR3, hF3, hk3⟩
                  cases ex with
                  | nrm =>
                    have hl3 : w3.heap[w.heap.size + 1]? = some (.loop rec) := (hF3.hp _ (by simp)).trans hl2
                    refine ⟨_, run_beginRound hl3 (by rw [hrec]), ?_⟩
                    have hl4 : (w3.putObj (w.heap.size + 1) (.loop { rec with state := .busy })).heap[w.heap.size + 1]? = some (.loop { rec with state := .busy }) := World.putObj_heap_same (Array.getElem?_eq_some_iff.1 hl3).1
                    have hdf3 : a3.defers = [] := by
                      rw [hR3.df, (hF3.same hk3).1]; rfl
                    have hk3 := (hF3.same hk3).2
                    have hR4 := (kill_ok hR3).rel hR3.size (ro := [w.heap.size + 1]) (w := w3.putObj (w.heap.size + 1) (.loop { rec with state := .busy })) (fun b hb => by simp at hb; subst hb; exact (Array.getElem?_eq_some_iff.1 hl4).1)
                    rw [show ({ tmps := a3.tmps, defers := [] } : Act) = a3 by rw [← hdf3]] at hR4
                    refine wpIn_mono (ihq { cx with top := false } (some (w.heap.size + 1)) body _ a3 _ _ (writes body) _ _ _ hf okf cvo (fun e => by cases e) (fun _ h => h) hR4 (Fr.refl _ _ _ _) (hk3 _ (putObj_off _))) ?_
                    rintro e a5 w5 ⟨ex, s5, rfl, hR5, hF5, hk5⟩
                    have hl5 : w5.heap[w.heap.size + 1]? = some (.loop { rec with state := .busy }) := (hF5.hp _ (by simp)).trans hl4
                    have hlt5 := (Array.getElem?_eq_some_iff.1 hl5).1
                    have fin : ∀ jump, (Instr.endRound (w.heap.size + 1) jump).run cx.P w5 = .ok (.bool jump.isNone) (w5.putObj (w.heap.size + 1) (.loop { rec with state := if jump.isNone then .ready else .done, pending := jump })) := fun jump => by have := run_endRound (P := cx.P) jump hl5; exact this
                    have pend : ∀ c, Pend (w.heap.size + 1) c w1 (w5.putObj (w.heap.size + 1) (.loop { rec with state := .done, pending := some c })) := fun c => ⟨rec, hL1, World.putObj_heap_same hlt5⟩
                    cases ex with
                    | nrm =>
                      refine ⟨_, _, fin none, true, rfl, hk5 _ (putObj_off _) ?_⟩
                      rw [World.putObj_heap_same hlt5, hL1, hrec]
                      rfl
                    | exit id => exact ⟨_, _, fin (some (.exit id)), false, rfl, hk5 _ (putObj_off _) (pend _)⟩
                    | goto id => exact ⟨_, _, fin (some (.goto id)), false, rfl, hk5 _ (putObj_off _) (pend _)⟩
                    | ret => exact ⟨_, _, fin (some .ret), false, rfl, hk5 _ (putObj_off _) (pend _)⟩
                  | exit id => exact hk3.elim
                  | goto l => exact hk3.elim
                  | ret => exact hk3.elim
                · exact hE.elim
              · obtain ⟨v, _, rfl⟩ := List.mem_map.1 hx
                exact argOk_v v
        · exact hk.elim
      · exact hk.elim
    | _ => simp only [den] at hk
end
end Go.Sh
