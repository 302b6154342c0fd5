/- 'den' is sound: steps, regions. -/
import Derived.Test.YtoomennincfkgaaSndF
namespace Go.Sh
open Go.RowKit

/-- What is known of function values is so. -/
def CVOk (P : Program) (CV : CVT) : Prop :=
  ∀ v vs K w, CV v vs K w → ∃ g first cap, v = .func (.func g) first cap ∧ noBodyB P g = true ∧ Calls P g (first ++ vs.toArray ++ cap) w (Ans K)

structure CxOk (cx : Cx) : Prop where
  O : ∀ CV, CVOk cx.P CV → ∀ f xs K w, (∀ x ∈ xs, ArgOk cx.P x) → cx.O f CV xs K w → Calls cx.P f (xs.map cc).toArray w (Ans K)
  Q : ∀ CV, CVOk cx.P CV → ∀ f xs K w, (∀ x ∈ xs, ArgOk cx.P x) → cx.Q f CV xs w K → ∃ v, K v ∧ ∀ w', Ext w w' → Calls cx.P f (xs.map cc).toArray w' fun e w'' => e = .returned v ∧ Ext w' w''

theorem run_value {P : Program} {g : FuncId} {first cap : Array Value} (hb : noBodyB P g = true) (args : Array Value) (w : World) : (do let d ← Deferred.ofValue (.func (.func g) first cap) args; invoke d.target d.args : Sem Next).run P w = .ok (.enter g (first ++ args ++ cap)) w := by
  simp [Deferred.ofValue, invoke, noBody_ok hb]

section
variable {cx : Cx} {n : Nat} {s : S} {a : Act} {w : World} {o : Oper}

theorem locOk_of {x : X} (h : ArgOk cx.P x) (s : S) : LocOk cx.P s x := ⟨fun d off e => absurd e (h.1 d off), h.2⟩

theorem expose_ok {W : List Nat} {s0 : S} {a0 : Act} {w0 : World} : ∀ (l : List Operand) (s : S) (K : S → Prop), Rel cx.P n s a w → Fr W s0 a0 w0 s a w → expose s w l K → ∃ s', Rel cx.P n s' a w ∧ Fr W s0 a0 w0 s' a w ∧ (s'.sl = s.sl ∧ (∀ d b cs m, find s.bx d = some ⟨b, cs, m⟩ → ∃ m', find s'.bx d = some ⟨b, cs, m'⟩) ∧ s'.ro = s.ro ∧ s'.df = s.df ∧ ∀ d b', find s'.bx d = some b' → ∃ b, find s.bx d = some b ∧ b.b = b'.b ∧ (b'.m ≠ .out → b.m ≠ .out)) ∧ K s'
  | [], s, K, h, f, hk => ⟨s, h, f, ⟨rfl, fun _ _ _ m h => ⟨m, h⟩, rfl, rfl, fun _ b' h => ⟨b', h, rfl, id⟩⟩, hk⟩
  | o :: l, s, K, h, f, hk => by
    simp only [expose] at hk
    split at hk
    · rename_i d off he
      split at hk
      · rename_i b cs hb
        have hblk := (h.bx d _ hb).1 (by intro e; cases e)
        have h' : Rel cx.P n (s.setbox d ⟨b, cs, .out⟩) a w := h.setbox (w' := w) hb rfl (fun hm => absurd rfl hm) (fun hm => by cases hm) (fun hm => by cases hm) (fun hm => absurd rfl hm) (fun _ _ => rfl) (fun _ _ => rfl)
        obtain ⟨s', h1, h2, ⟨h3, h5, h6, h7, h8⟩, h4⟩ := expose_ok l _ K h' (f.setbox hb rfl (fun _ _ => rfl)) (hk hblk)
        refine ⟨s', h1, h2, ⟨h3, fun d2 b2 cs2 m2 hf => ?_, h6, h7, fun d2 b2 hf => ?_⟩, h4⟩
        · by_cases hd : d = d2
          · subst hd
            rw [hb] at hf; cases hf
            exact h5 d _ _ .out (by simp [S.setbox, find_cons])
          · exact h5 d2 _ _ m2 (by simp only [S.setbox, find_cons]; rw [if_neg hd]; exact hf)
        · obtain ⟨b3, g1, g2, g3⟩ := h8 d2 b2 hf
          simp only [S.setbox, find_cons] at g1
          by_cases hd : d = d2
          · subst hd
            rw [if_pos rfl] at g1
            have g1 := Option.some.inj g1
            subst g1
            exact ⟨_, hb, g2, fun hm => absurd rfl (g3 hm)⟩
          · rw [if_neg hd] at g1; exact ⟨b3, g1, g2, g3⟩
      · exact expose_ok l s K h f hk
    · exact expose_ok l s K h f hk

theorem guarded_ok {all : Array Oper} {W : List Nat} {s0 : S} {a0 : Act} {w0 : World} (h : Rel cx.P n s a w) (f : Fr W s0 a0 w0 s a w) {run skip : S → Prop} (hk : guarded all s o run skip) :
    (Region.wanted o (yielded all a.tmps) = true ∧ ∃ s', Rel cx.P n s' a w ∧ Fr W s0 a0 w0 s' a w ∧ (s'.bx = s.bx ∧ s'.ro = s.ro) ∧ run s') ∨ (Region.wanted o (yielded all a.tmps) = false ∧ ∃ s', Rel cx.P n s' a w ∧ Fr W s0 a0 w0 s' a w ∧ (s'.bx = s.bx ∧ s'.ro = s.ro) ∧ skip s') := by
  unfold guarded at hk
  unfold Region.wanted
  cases hg : o.guard with
  | none => rw [hg] at hk; exact .inl ⟨rfl, s, h, f, ⟨rfl, rfl⟩, hk⟩
  | some g =>
    obtain ⟨j, want⟩ := g
    rw [hg] at hk
    simp only at hk ⊢
    split at hk
    · rename_i t ht
      split at hk
      · rename_i b hb
        have hbt := (h.sl t _ hb (by intro e; cases e)).1
        have hy : yielded all a.tmps j = some b := by
          unfold yielded
          unfold gslot at ht
          split at ht
          · rename_i oj hoj
            rw [hoj]
            simp only [Option.bind_some, ht]
            rw [hbt]
            rfl
          · cases ht
        rw [hy]
        have h' := h.again hb
        have f' := f.again t (.v (.bool b))
        cases b <;> cases want <;> simp only [] at hk
        · exact .inl ⟨rfl, _, h', f', ⟨rfl, rfl⟩, hk⟩
        · exact .inr ⟨rfl, _, h', f', ⟨rfl, rfl⟩, hk⟩
        · exact .inr ⟨rfl, _, h', f', ⟨rfl, rfl⟩, hk⟩
        · exact .inl ⟨rfl, _, h', f', ⟨rfl, rfl⟩, hk⟩
      · rename_i hb
        have hbt := (h.sl t _ hb (by intro e; cases e)).1
        have hy : yielded all a.tmps j = none := by
          unfold yielded
          unfold gslot at ht
          split at ht
          · rename_i oj hoj
            rw [hoj]
            simp only [Option.bind_some, ht]
            rw [hbt]
            rfl
          · cases ht
        rw [hy]
        exact .inr ⟨by cases want <;> rfl, _, h.again hb, f.again t (.v undef), ⟨rfl, rfl⟩, hk⟩
      · exact hk.elim
    · exact hk.elim

theorem liveB_mem : ∀ (bx : List (Nat × Bx)) (seen : List Nat) (d : Nat) (b : Bx), find bx d = some b → b.m = .rw → d ∉ seen → b.b ∈ liveB seen bx
  | [], seen, d, b, h, _, _ => by cases h
  | (k, ⟨b0, cs, m⟩) :: l, seen, d, b, h, hm, hd => by
    rw [find_cons] at h
    simp only [liveB]
    by_cases hk : k = d
    · subst hk
      rw [if_pos rfl] at h
      have h := Option.some.inj h
      subst h
      have : seen.contains k = false := by simpa using hd
      simp only at hm
      subst hm
      rw [this]
      exact List.mem_cons_self
    · rw [if_neg hk] at h
      have ih := liveB_mem l (k :: seen) d b h hm (by simp [hd]; exact fun e => hk e.symm)
      split
      · exact List.mem_cons_of_mem _ ih
      · exact ih

theorem keepP_ok {w' : World} {K : Prop} (h : Rel cx.P n s a w) (hk : keepP s w w' K) : K ∧ Rel cx.P n s a w' ∧ (∀ b ∈ s.ro, w'.heap[b]? = w.heap[b]?) := by
  unfold keepP at hk
  have key : (∀ b ∈ liveB [] s.bx ++ s.ro, w'.heap[b]? = w.heap[b]?) → Rel cx.P n s a w' ∧ (∀ b ∈ s.ro, w'.heap[b]? = w.heap[b]?) := fun hall =>
    ⟨h.world (fun b hb => hall b (List.mem_append_right _ hb)) (fun d b hb hm => hall b.b (List.mem_append_left _ (liveB_mem _ _ d b hb hm (by simp)))), fun b hb => hall b (List.mem_append_right _ hb)⟩
  split at hk
  · rename_i he
    exact ⟨hk, key (fun b hb => by rw [he] at hb; cases hb)⟩
  · exact ⟨hk.2, key hk.1⟩

theorem Fr.kept {w' : World} {W : List Nat} {s0 : S} {a0 : Act} {w0 : World} (f : Fr W s0 a0 w0 s a w) (hr : ∀ b ∈ s.ro, w'.heap[b]? = w.heap[b]?) : Fr W s0 a0 w0 s a w' :=
  ⟨f.tm, f.ro, f.df, fun b hb => (hr b (f.ro b hb)).trans (f.hp b hb), f.bk⟩

/-- What a step leaves. -/
def Post (cx : Cx) (n : Nat) (W : List Nat) (s0 : S) (a0 : Act) (w0 : World) (K : S → World → Prop) (a' : Act) (w' : World) : Prop := ∃ s', Rel cx.P n s' a' w' ∧ Fr W s0 a0 w0 s' a' w' ∧ K s' w'

theorem lst_ok {d b : Nat} {cs cs' : List Value} {w2 : World} {W : List Nat} {s0 : S} {a0 : Act} {w0 : World} (h : Rel cx.P n s a w) (f : Fr W s0 a0 w0 s a w) (hb : find s.bx d = some ⟨b, cs, .rw⟩) (ho : Off b w w2) (hB : Blk w2 b cs') :
    Rel cx.P n (s.setbox d ⟨b, cs', .rw⟩) a w2 ∧ Fr W s0 a0 w0 (s.setbox d ⟨b, cs', .rw⟩) a w2 := by
  have hnr : b ∉ s.ro := (h.bx d _ hb).2.1 rfl
  have hro : ∀ k ∈ s.ro, w2.heap[k]? = w.heap[k]? := fun k hk => ho.block k (fun e => hnr (e ▸ hk))
  refine ⟨h.setbox hb rfl (fun _ => hB) (fun _ => hnr) (fun hm => by cases hm) (fun _ hm => by cases hm) (fun k hk => ?_) hro, f.setbox hb rfl hro⟩
  rcases hk with hk | hk | hk
  · exact ho.block k hk
  · cases hk
  · exact hk

theorem Fr.newbox {w' : World} {W : List Nat} {s0 : S} {a0 : Act} {w0 : World} (f : Fr W s0 a0 w0 s a w) (h : Rel cx.P n s a w) {d : Nat} (hd : d ∈ W) (k : Nat) (cs : List Value) (v : Value) (e : Ext w w') : Fr W s0 a0 w0 (s.newbox d k cs) (a.put (some d) v) w' := by
  refine ⟨fun t ht => ?_, f.ro, f.df, fun b hb => (e.blk (h.ro b (f.ro b hb))).trans (f.hp b hb), fun d1 hd1 b1 hb1 => ?_⟩
  · have : d ≠ t := fun e => ht (e ▸ hd)
    simp only [Act.put]
    rw [Array.getElem?_setIfInBounds_ne this]
    exact f.tm t ht
  · simp only [S.newbox, find_cons] at hb1
    split at hb1
    · rename_i e; exact absurd (e ▸ hd) hd1
    · exact f.bk d1 hd1 b1 hb1

theorem step1_ok (ok : CxOk cx) (cv : CVOk cx.P cx.CV) {r : Option Nat} {Q : Exit → Act → World → Prop} {W : List Nat} {s0 : S} {a0 : Act} {w0 : World} (h : Rel cx.P n s a w) (f : Fr W s0 a0 w0 s a w) (hd : dstOk n o.dst = true) (hW : ∀ t, o.dst = some t → t ∈ W) {K : S → World → Prop} (hk : step1 cx s o w K) :
    o.wpIn (WF r) 0 cx.P a w (Post cx n W s0 a0 w0 K) Q := by
  have hs := sem1_ok (o := o) h
  have hnd : ∀ c, o.op ≠ .defer c := fun c hc => by
    have : sem1 cx s o = .bad := by unfold sem1; rw [hc]
    unfold step1 at hk
    rw [this] at hk
    exact hk.elim
  have lift : o.wp cx.P a w (Post cx n W s0 a0 w0 K) NoExit → o.wpIn (WF r) 0 cx.P a w (Post cx n W s0 a0 w0 K) Q := wp_in hnd (fun _ _ _ h => h.elim) noexit_lets
  unfold step1 at hk
  have putv : ∀ (x : X) (w2 : World), ArgOk cx.P x → Rel cx.P n s a w2 → Fr W s0 a0 w0 s a w2 → K (s.putO o.dst x) w2 → Post cx n W s0 a0 w0 K (a.put o.dst (cc x)) w2 := fun x w2 hx h2 f2 hk => by
    have := h2.putO hd (locOk_of hx s)
    rw [conc_of hx.1] at this
    exact ⟨_, this, f2.putO hW x _, hk⟩
  cases hr : sem1 cx s o with
  | pure V =>
    rw [hr] at hk hs
    obtain ⟨x, h1, h2, h3⟩ := hs _ hk
    refine lift ?_
    unfold Oper.wp
    rw [h3 w]
    exact ⟨_, h.putO hd h2, f.putO hW x _, h1⟩
  | read R =>
    rw [hr] at hk hs
    obtain ⟨x, h1, h2, h3⟩ := hs _ hk
    refine lift ?_
    unfold Oper.wp
    rw [h3 w (Ext.refl w)]
    exact ⟨_, h.putO hd h2, f.putO hW x _, h1⟩
  | box cs =>
    rw [hr] at hk hs
    obtain ⟨T, hs⟩ := hs
    simp only at hk
    split at hk
    · rename_i d hod
      refine lift ?_
      unfold Oper.wp
      rw [hs w]
      show Post cx n W s0 a0 w0 K (a.put o.dst _) _
      rw [hod]
      have e : Ext w (w.alloc (.cells cs.toArray T)) := ⟨rfl, rfl, rfl, by simp, fun k hk => Below.heap_alloc _ _ _ hk⟩
      rw [hod] at hd
      refine ⟨_, h.newbox (by simpa [dstOk] using hd) e (Nat.le_refl _) ⟨T, ?_⟩, f.newbox h (hW d hod) _ _ _ e, hk _ _ e (Nat.le_refl _) (by simp)⟩
      show (w.heap.push _)[w.heap.size]? = _
      simp
    · exact hk.elim
  | new N =>
    rw [hr] at hk hs
    obtain ⟨x, w2, h1, h2, h3, h4⟩ := hs w _ hk
    refine lift ?_
    unfold Oper.wp
    rw [h1]
    exact putv x w2 h2 (h.ext h3) (f.ext h h3) h4
  | big B =>
    rw [hr] at hk hs
    obtain ⟨x, w2, h1, h2, _, h4⟩ := hs w _ hk
    obtain ⟨k1, k2, k3⟩ := keepP_ok h h4
    refine lift ?_
    unfold Oper.wp
    rcases h1 with h1 | ⟨h1, rfl⟩
    · rw [h1]; exact putv x w2 h2 k2 (f.kept k3) k1
    · rw [h1]; exact putv _ w2 h2 k2 (f.kept k3) k1
  | lst d b cs =>
    rw [hr] at hk hs
    obtain ⟨cs0, hb, hs⟩ := hs
    obtain ⟨w2, h1, h2, h3⟩ := hs w ((h.bx d _ hb).1 (by intro e; cases e))
    obtain ⟨g1, g2⟩ := lst_ok h f hb h2 h3
    refine lift ?_
    unfold Oper.wp
    rw [h1]
    exact ⟨_, g1.putO hd (locOk_v _), g2.putO hW _ _, hk w2 h2⟩
  | call g xs =>
    rw [hr] at hk hs
    obtain ⟨h1, h2⟩ := hs
    refine lift ?_
    unfold Oper.wp
    rw [h2 w]
    refine (ok.O _ cv g xs _ w h1 hk).mono ?_
    intro e w2 hkx
    cases e with
    | returned x =>
      obtain ⟨k1, k2, k3⟩ := keepP_ok h hkx
      exact putv (.v x) w2 (argOk_v x) k2 (f.kept k3) k1
    | _ => exact hkx.elim
  | callV v vs r' =>
    rw [hr] at hk hs
    obtain ⟨g, first, cap, rfl, hb, hcall⟩ := cv v vs _ w hk
    refine lift ?_
    unfold Oper.wp
    rw [hs w, run_value hb]
    refine hcall.mono ?_
    intro e w2 hkx
    cases e with
    | returned x =>
      obtain ⟨us, rfl, hk2⟩ := exVs_some (show exVs r' _ from hkx)
      obtain ⟨k1, k2, k3⟩ := keepP_ok h hk2
      exact putv (.v _) w2 (argOk_v _) k2 (f.kept k3) k1
    | _ => exact hkx.elim
  | yield E v vs =>
    rw [hr] at hk hs
    obtain ⟨⟨l, rfl, hE⟩, h2⟩ := hs
    obtain ⟨fn, tmps, x, y, g1, g2⟩ := hE vs _ w hk
    refine ⟨fun _ _ => trivial, ?_⟩
    show o.uponIn (WF r) 0 cx.P a _ Q ((o.semAt r a.eval).run cx.P w)
    rw [Oper.semAt_eq r _ _ hnd, h2 w]
    have hrun : (do let d ← Deferred.ofValue (.func (.yield l) #[] #[]) vs.toArray; invoke d.target d.args : Sem Next).run cx.P w = .ok (.round l fn tmps x y) w := by
      simp [Deferred.ofValue, invoke, g1]
    rw [hrun]
    refine ⟨ne_depth, (round_wf g2).mono fun e w2 hkx => ?_⟩
    cases e with
    | returned x =>
      obtain ⟨b, rfl, hk2⟩ := hkx
      obtain ⟨k1, k2, k3⟩ := keepP_ok h hk2
      exact putv (.v _) w2 (argOk_v _) k2 (f.kept k3) k1
    | _ => exact hkx.elim
  | bad => rw [hr] at hk; exact hk.elim

theorem denOps_ok (ok : CxOk cx) (cv : CVOk cx.P cx.CV) {r : Option Nat} {all : Array Oper} {W : List Nat} {s0 : S} {a0 : Act} {w0 : World} {Q : Exit → Act → World → Prop} {K : S → World → Prop} (hQ : ∀ a w, Post cx n W s0 a0 w0 K a w → Q .normal a w) :
    ∀ (l : List Oper) (s : S) (a : Act) (w : World), (∀ o ∈ l, ∀ t, o.dst = some t → t ∈ W) → Rel cx.P n s a w → Fr W s0 a0 w0 s a w → denOps cx n all l s w K → wpListIn (WF r) 0 cx.P all Q l a w
  | [], s, a, w, _, h, f, hk => hQ a w ⟨s, h, f, hk⟩
  | o :: l, s, a, w, hl, h, f, hk => by
    simp only [denOps] at hk
    have hW := hl o List.mem_cons_self
    have hl' : ∀ o ∈ l, ∀ t, o.dst = some t → t ∈ W := fun o' ho' => hl o' (List.mem_cons_of_mem _ ho')
    unfold wpListIn
    split at hk
    · rename_i hd
      rcases guarded_ok h f hk with ⟨hw, s1, h1, f1, _, hr⟩ | ⟨hw, s1, h1, f1, _, hr⟩
      · rw [if_pos hw]
        obtain ⟨s2, h2, f2, _, hr⟩ := expose_ok _ _ _ h1 f1 hr
        exact Oper.wpIn_mono (fun a' w' ⟨s3, h3, f3, hk3⟩ => denOps_ok ok cv hQ l s3 a' w' hl' h3 f3 hk3) (step1_ok ok cv h2 f2 hd hW hr)
      · rw [if_neg (by rw [hw]; exact Bool.false_ne_true)]
        exact ⟨fun _ _ => trivial, denOps_ok ok cv hQ l _ _ _ hl' (h1.putO hd (locOk_v _)) (f1.putO hW _ _) hr⟩
    · exact hk.elim
end
end Go.Sh
