/- 'den' is sound: regions that draw; what is told at a join. -/
import Derived.Test.YtoomennincfkgaaSnd5
import Derived.Deep.LoopGhost
namespace Go.Sh
open Go.RowKit

section
variable {cx : Cx} {n : Nat} {s : S} {a : Act} {w : World} {o : Oper}

theorem post_ext {W : List Nat} {s0 : S} {a0 : Act} {w0 : World} {w' : World} (h : Rel cx.P n s a w) (f : Fr W s0 a0 w0 s a w) (e : Ext w w') : Rel cx.P n s a w' ∧ Fr W s0 a0 w0 s a w' := ⟨h.ext e, f.ext h e⟩

theorem loc_ok (h : Rel cx.P n s a w) {D : List Nat} {R : World → (X → Prop) → Prop} (hl : locB s D o = true) (hr : sem1 cx s o = .read R) :
    ∃ d' b', (∃ t x off, o.op = .load t x ∧ ev s x = some (.loc d' off)) ∧ find s.bx d' = some b' ∧ b'.m ≠ .out ∧ (∀ d ∈ D, ∃ y, find s.bx d = some y ∧ y.m = .rw ∧ d ≠ d') ∧
      ∀ K, R w K → ∃ x, K x ∧ LocOk cx.P s x ∧ ∀ w', Blk w' b'.b b'.cs → (execOp a.eval o).run cx.P w' = .ok (.value (conc s.bx x)) w' := by
  unfold locB at hl
  split at hl
  · rename_i t x hop
    split at hl
    · rename_i d' off e
      split at hl
      · cases hl
      · rename_i b' hout hb'
        have hm : b'.m ≠ .out := by
          intro e; obtain ⟨b0, cs0, m0⟩ := b'; simp only at e; subst e; exact hout _ _ rfl
        refine ⟨d', b', ⟨t, x, off, hop, e⟩, hb', hm, fun d hd => ?_, fun K hk => ?_⟩
        · have := List.all_eq_true.1 hl d hd
          split at this
          · rename_i hne hf; exact ⟨_, hf, rfl, Nat.ne_of_beq_eq_false hne⟩
          · cases this
        · obtain ⟨h1, _⟩ := ev_ok h e
          simp only [conc, hb'] at h1
          unfold sem1 at hr
          rw [hop] at hr
          simp only [e] at hr
          rw [hb'] at hr
          split at hr
          · rename_i hbb; exact absurd (Option.some.inj hbb) (hout _ _)
          · rename_i b cs m hm2 hbb
            injection hbb with hbb
            subst hbb
            split at hr
            · rename_i hag
              split at hr
              · rename_i l _
                split at hr
                · rename_i hsz
                  simp only [Bool.and_eq_true] at hsz
                  injection hr with hr
                  subst hr
                  refine ⟨_, hk, locOk_v _, fun w' hB => ?_⟩
                  obtain ⟨i, hi, hsz1⟩ := sizeB_ok hsz.1
                  have hl := loadCells_blk (P := cx.P) hB off l.length (Nat.le_of_ble_eq_true hsz.2)
                  simp [execOp, hop, h1, Instr.loadAt, Instr.sureAddr, loadVar, isAgg_run t (und_of_agg hag), hag, sizeOf, typeInfo, hi, hsz1, hl, conc_v]
                · cases hr
              · cases hr
            · rename_i hag
              split at hr
              · rename_i v hv
                split at hr
                · rename_i hun
                  injection hr with hr
                  subst hr
                  refine ⟨_, hk, locOk_v _, fun w' hB => ?_⟩
                  have hc := cell_blk hB off
                  rw [hv] at hc
                  simp [execOp, hop, h1, Instr.loadAt, Instr.sureAddr, loadVar, isAgg_run t hun, hag, hc, conc_v]
                · cases hr
              · cases hr
          · cases hr
      · cases hl
    · cases hl
  · cases hl

/-- What the guards stand for. -/
def GR (s : S) : List (Nat × Gd) → List (Nat × (World → Prop)) → Prop
  | [], [] => True
  | (j, .mem g) :: gs, p :: ps => p = (j, g) ∧ GR s gs ps
  | (j, .box d) :: gs, p :: ps => (p.1 = j ∧ ∃ b cs m, find s.bx d = some ⟨b, cs, m⟩ ∧ p.2 = fun w => Blk w b cs) ∧ GR s gs ps
  | (j, .dead) :: gs, p :: ps => p.1 = j ∧ GR s gs ps
  | _, _ => False

theorem GR.move {s s' : S} : ∀ {gs : List (Nat × Gd)} {ps : List (Nat × (World → Prop))}, GR s gs ps → (∀ d, freeG d gs = false → ∀ b cs m, find s.bx d = some ⟨b, cs, m⟩ → ∃ m', find s'.bx d = some ⟨b, cs, m'⟩) → GR s' gs ps
  | [], [], _, _ => trivial
  | (_, .mem g) :: gs, p :: ps, h, hm => ⟨h.1, GR.move h.2 fun d hd => hm d hd⟩
  | (_, .dead) :: gs, p :: ps, h, hm => ⟨h.1, GR.move h.2 fun d hd => hm d hd⟩
  | (j, .box d) :: gs, p :: ps, h, hm => by
    obtain ⟨⟨h0, b, cs, m, h1, h2⟩, h3⟩ := h
    have hdd : freeG d ((j, .box d) :: gs) = false := by simp [freeG]
    obtain ⟨m', h4⟩ := hm d hdd b cs m h1
    refine ⟨⟨h0, b, cs, m', h4, h2⟩, GR.move h3 fun d2 hd2 => hm d2 ?_⟩
    simp only [freeG]
    cases Nat.beq d2 d with
    | true => rfl
    | false => exact hd2

theorem GR.free {s s' : S} {d : Nat} {gs : List (Nat × Gd)} {ps : List (Nat × (World → Prop))} (h : GR s gs ps) (hd : freeG d gs = true) (hs : ∀ d2, d ≠ d2 → find s'.bx d2 = find s.bx d2) : GR s' gs ps :=
  h.move fun d2 hd2 b cs m hf => by
    have : d ≠ d2 := by intro e; subst e; rw [hd] at hd2; cases hd2
    exact ⟨m, by rw [hs d2 this]; exact hf⟩
theorem GR.kill {s s' : S} {d : Nat} (hs : ∀ d2, d ≠ d2 → find s'.bx d2 = find s.bx d2) : ∀ {gs : List (Nat × Gd)} {ps : List (Nat × (World → Prop))}, GR s gs ps → GR s' (killG d gs) ps
  | [], [], _ => trivial
  | (_, .mem g) :: gs, p :: ps, h => ⟨h.1, GR.kill hs h.2⟩
  | (_, .dead) :: gs, p :: ps, h => ⟨h.1, GR.kill hs h.2⟩
  | (j, .box d') :: gs, p :: ps, h => by
    obtain ⟨⟨h0, b, cs, m, h1, h2⟩, h3⟩ := h
    simp only [killG]
    split
    · exact ⟨h0, GR.kill hs h3⟩
    · rename_i hb
      exact ⟨⟨h0, b, cs, m, by rw [hs d' (Nat.ne_of_beq_eq_false hb)]; exact h1, h2⟩, GR.kill hs h3⟩

theorem guards_ok {s : S} {w : World} {ops : Array Oper} {i : Nat} (h : Rel cx.P n s a w) : ∀ {gs : List (Nat × Gd)} {ps : List (Nat × (World → Prop))} {K : Prop}, GR s gs ps → guards (masksFrom ops.toList []) i s w gs K → (∀ g ∈ ps, anc ops i g.1 = false → g.2 w) ∧ K
  | [], [], _, _, hk => ⟨fun g hg => (by cases hg), hk⟩
  | (j, .mem g) :: gs, p :: ps, K, hg, hk => by
    simp only [guards] at hk
    split at hk
    · rename_i ha
      obtain ⟨h1, h2⟩ := guards_ok h hg.2 hk
      exact ⟨fun g' hg' hn => by
        rcases List.mem_cons.1 hg' with rfl | hg'
        · rw [hg.1] at hn; rw [anc, ha] at hn; cases hn
        · exact h1 g' hg' hn, h2⟩
    · obtain ⟨h1, h2⟩ := guards_ok h hg.2 hk.2
      exact ⟨fun g' hg' hn => by rcases List.mem_cons.1 hg' with rfl | hg'; rw [hg.1]; exact hk.1; exact h1 g' hg' hn, h2⟩
  | (j, .dead) :: gs, p :: ps, K, hg, hk => by
    simp only [guards] at hk
    split at hk
    · rename_i ha
      obtain ⟨h1, h2⟩ := guards_ok h hg.2 hk
      exact ⟨fun g' hg' hn => by
        rcases List.mem_cons.1 hg' with rfl | hg'
        · rw [hg.1] at hn; rw [anc, ha] at hn; cases hn
        · exact h1 g' hg' hn, h2⟩
    · exact hk.elim
  | (j, .box d) :: gs, p :: ps, K, hg, hk => by
    obtain ⟨⟨e0, b, cs, m, e1, e2⟩, e3⟩ := hg
    simp only [guards, e1] at hk
    split at hk
    · rename_i ha
      obtain ⟨h1, h2⟩ := guards_ok h e3 hk
      exact ⟨fun g' hg' hn => by
        rcases List.mem_cons.1 hg' with rfl | hg'
        · rw [e0] at hn; rw [anc, ha] at hn; cases hn
        · exact h1 g' hg' hn, h2⟩
    · cases m with
      | out => exact hk.elim
      | rw =>
        obtain ⟨h1, h2⟩ := guards_ok h e3 hk
        exact ⟨fun g' hg' hn => by rcases List.mem_cons.1 hg' with rfl | hg'; rw [e2]; exact (h.bx d _ e1).1 (by intro e; cases e); exact h1 g' hg' hn, h2⟩
      | ro =>
        obtain ⟨h1, h2⟩ := guards_ok h e3 hk
        exact ⟨fun g' hg' hn => by rcases List.mem_cons.1 hg' with rfl | hg'; rw [e2]; exact (h.bx d _ e1).1 (by intro e; cases e); exact h1 g' hg' hn, h2⟩

theorem rdbox_ok (h : Rel cx.P n s a w) {d : Nat} {R : World → (X → Prop) → Prop} (hl : rdB s o = some (some d)) (hr : sem1 cx s o = .read R) :
    ∃ b cs m, find s.bx d = some ⟨b, cs, m⟩ ∧ m ≠ .out ∧
      ∀ K, R w K → ∃ x, K x ∧ LocOk cx.P s x ∧ ∀ w', Blk w' b cs → (execOp a.eval o).run cx.P w' = .ok (.value (conc s.bx x)) w' := by
  have : locB s [] o = true ∧ ∃ t x off, o.op = .load t x ∧ ev s x = some (.loc d off) := by
    unfold rdB at hl
    split at hl
    · rename_i t x hop
      split at hl
      · injection hl with hl; cases hl
      · rename_i d' off e
        split at hl
        · injection hl with hl; cases hl
        · rename_i b' hout hb'
          injection hl with hl; injection hl with hl; subst hl
          refine ⟨?_, t, x, off, hop, e⟩
          unfold locB
          rw [hop]
          simp only [e]
          split
          · rename_i b0 cs0 hb0; rw [hb0] at hb'; injection hb' with hb'; exact absurd hb'.symm (fun e => hout _ _ e)
          · rfl
          · rename_i hnn; rw [hb'] at hnn; cases hnn
        · cases hl
      · cases hl
    · cases hl
  obtain ⟨hlb, t, x, off, hop, e⟩ := this
  obtain ⟨d', b', ⟨t', x', off', hop', e'⟩, hb', hm', _, hrun⟩ := loc_ok h hlb hr
  have hdd : d' = d := by
    rw [hop] at hop'
    injection hop' with h1 h2
    subst h2
    rw [e] at e'
    injection e' with e'
    injection e' with e' _
    exact e'.symm
  subst hdd
  exact ⟨b'.b, b'.cs, b'.m, hb', hm', hrun⟩

theorem rd_core {t : TypeId} {x : Operand} (hop : o.op = .load t x) {p : Addr} (g1 : a.eval x = .pointer (some p)) {R : World → (X → Prop) → Prop}
    (hr : (match isAggB cx.P t with
      | true => (match leaves cx.P 10 t with
        | some l => (match sizeB cx.P t l.length with
          | true => OpR.read fun w K => rdL w p l 0 (fun vs => K (.v (.agg vs.toArray)))
          | false => .bad)
        | none => .bad)
      | false => (match leafOf cx.P t with
        | some σ => .read fun w K => ∃ x : σ.T, w.cell? p = some (σ.enc x) ∧ K (.v (σ.enc x))
        | none => .bad)) = .read R) :
    ∀ w2 K, R w2 K → ∃ x, K x ∧ LocOk cx.P s x ∧ Sees cx.P (execOp a.eval o) (conc s.bx x) w2 := by
  intro w2 K hk
  split at hr
  · rename_i hag
    split at hr
    · rename_i l _
      split at hr
      · rename_i hsz
        injection hr with hr
        subst hr
        obtain ⟨vs, h1, h2, h3⟩ := rdL_ok _ _ _ hk
        refine ⟨_, h1, locOk_v _, fun w' hE => ?_⟩
        obtain ⟨i, hi, hsz⟩ := sizeB_ok hsz
        have hl := run_loadCells_list (P := cx.P) w' p vs (fun j v hv => hE.cell (by have := h3 j v hv; simpa using this))
        rw [h2] at hl
        simp [execOp, hop, g1, Instr.loadAt, Instr.sureAddr, loadVar, isAgg_run t (und_of_agg hag), hag, sizeOf, typeInfo, hi, hsz, hl, conc_v]
      · cases hr
    · cases hr
  · rename_i hag
    split at hr
    · rename_i σ hl
      injection hr with hr
      subst hr
      obtain ⟨x, hx, hk⟩ := hk
      refine ⟨_, hk, locOk_v _, fun w' hE => ?_⟩
      simp [execOp, hop, g1, Instr.loadAt, Instr.sureAddr, loadVar, isAgg_run t (und_of_leaf hl), hag, hE.cell hx, conc_v]
    · cases hr

theorem rd_ok (h : Rel cx.P n s a w) {R : World → (X → Prop) → Prop} (hl : rdB s o = some none) (hr : sem1 cx s o = .read R) :
    ∀ w2 K, R w2 K → ∃ x, K x ∧ LocOk cx.P s x ∧ Sees cx.P (execOp a.eval o) (conc s.bx x) w2 := by
  unfold rdB at hl
  split at hl
  · rename_i t x hop
    unfold sem1 at hr
    rw [hop] at hr
    simp only at hr
    split at hl
    · rename_i p e
      simp only [e] at hr
      exact rd_core hop (ev_ok h e).1 hr
    · rename_i d off e
      simp only [e] at hr
      split at hl
      · rename_i b cs hb
        simp only [hb] at hr
        exact rd_core hop (by rw [(ev_ok h e).1]; simp [conc, hb]) hr
      · cases hl
      · cases hl
    · cases hl
  · cases hl

theorem putO_bx (s : S) (d : Option Nat) (x : X) : (s.putO d x).bx = s.bx := by cases d <;> rfl

/-- The blocks that may come to be boxes are none that are there. -/
structure InvZ (s : S) (Z : Nat → Prop) (w : World) : Prop where
  lt : ∀ b, Z b → b < w.heap.size
  ro : ∀ b ∈ s.ro, ¬ Z b
  bx : ∀ d b, find s.bx d = some b → b.m ≠ .out → ¬ Z b.b
theorem InvZ.none (s : S) (w : World) : InvZ s (fun _ => False) w := ⟨fun _ h => h.elim, fun _ _ h => h, fun _ _ _ _ h => h⟩
theorem InvZ.less {s : S} {Z Z' : Nat → Prop} {w : World} (h : InvZ s Z w) (hz : ∀ b, Z' b → Z b) : InvZ s Z' w := ⟨fun b hb => h.lt b (hz b hb), fun b hm hb => h.ro b hm (hz b hb), fun d b hf hm hb => h.bx d b hf hm (hz _ hb)⟩
theorem InvZ.putO {s : S} {Z : Nat → Prop} {w : World} (h : InvZ s Z w) (d : Option Nat) (x : X) : InvZ (s.putO d x) Z w := by cases d <;> exact ⟨h.lt, h.ro, h.bx⟩
theorem InvZ.of {s s' : S} {Z : Nat → Prop} {w : World} (h : InvZ s Z w) (hr : s'.ro = s.ro) (hb : ∀ d b', find s'.bx d = some b' → ∃ b, find s.bx d = some b ∧ b.b = b'.b ∧ (b'.m ≠ .out → b.m ≠ .out)) : InvZ s' Z w :=
  ⟨h.lt, fun b hm => h.ro b (hr ▸ hm), fun d b' hf hm => by
    obtain ⟨b, h1, h2, h3⟩ := hb d b' hf
    rw [← h2]; exact h.bx d b h1 (h3 hm)⟩
theorem InvZ.zI {s : S} {Z : Nat → Prop} {w w' w'' : World} (h : InvZ s Z w) {a : Act} {P : Program} (hR : Rel P n s a w) (h1 : w.heap.size ≤ w'.heap.size) (h2 : w'.heap.size ≤ w''.heap.size) : InvZ s (zI Z w w') w'' := by
  refine ⟨fun b hb => ?_, fun b hm hb => ?_, fun d b hf hm hb => ?_⟩
  · rcases hb with hb | hb
    · have := h.lt b hb; omega
    · omega
  · rcases hb with hb | hb
    · exact h.ro b hm hb
    · have := hR.ro b hm; omega
  · rcases hb with hb | hb
    · exact h.bx d b hf hm hb
    · have := blk_lt ((hR.bx d b hf).1 hm); omega
theorem InvZ.newbox {s : S} {Z : Nat → Prop} {w : World} (h : InvZ s Z w) (d k : Nat) (cs : List Value) : InvZ (s.newbox d k cs) (zX Z k) w := by
  refine ⟨fun b hb => h.lt b hb.1, fun b hm hb => h.ro b hm hb.1, fun d' b hf hm hb => ?_⟩
  simp only [S.newbox, find_cons] at hf
  split at hf
  · injection hf with hf; subst hf; exact hb.2 rfl
  · exact h.bx d' b hf hm hb.1

theorem denDraw_ok (ok : CxOk cx) (cv : CVOk cx.P cx.CV) {all : Array Oper} {W : List Nat} {s0 : S} {a0 : Act} {w0 : World} {K : S → World → Prop} {kd : List Kd} {D : List Nat} (hD : ∀ d ∈ D, d ∉ W) (hall : ∀ (i : Nat) o, all[i]? = some o → ∀ t, o.dst = some t → t ∈ W) :
    ∀ (l : List Nat) (gs : List (Nat × Gd)) (ps : List (Nat × (World → Prop))) (G : Nat → World → Prop) (Z : Nat → Prop) (s : S) (a : Act) (w : World), GR s gs ps → InvZ s Z w → (∀ i w, (∀ g ∈ ps, anc all i g.1 = false → g.2 w) → G i w) → Rel cx.P n s a w → Fr W s0 a0 w0 s a w → denDraw cx n all (masksFrom all.toList []) D kd l gs Z s w K → wpC (fun b => ∃ d ∈ D, ∃ x, find s0.bx d = some x ∧ x.b = b) cx.P all (anc all) (fun i => kd.getD i .big) (Post cx n W s0 a0 w0 K) l ⟨G, Z⟩ a w
  | [], gs, ps, G, Z, s, a, w, hR, hZ, hG, h, f, hk => fun w' e => ⟨s, h.ext e, f.ext h e, hk w' e⟩
  | i :: l, gs, ps, G, Z, s, a, w, hR, hZ, hG, h, f, hk => by
    simp only [denDraw] at hk
    simp only [wpC, GZ.to, GZ.and]
    cases hi : all[i]? with
    | none => rw [hi] at hk; exact hk.elim
    | some o =>
      rw [hi] at hk
      simp only at hk ⊢
      have hW := hall i o hi
      split at hk
      · rename_i hd
        rcases guarded_ok h f hk with ⟨hw, s1, h1, f1, hbx, hr⟩ | ⟨hw, s1, h1, f1, hbx, hr⟩
        · rw [if_pos hw]
          have hR1 : GR s1 gs ps := hR.move fun d _ b cs m hf => ⟨m, by rw [hbx.1]; exact hf⟩
          have hZ1 : InvZ s1 Z w := hZ.of hbx.2 fun d b' hf => ⟨b', by rw [← hbx.1]; exact hf, rfl, id⟩
          obtain ⟨s, h, f, ⟨_, hmv, hro, _, hbk⟩, hk⟩ := expose_ok _ _ _ h1 f1 hr
          have hZ := hZ1.of hro hbk
          have hR : GR s gs ps := hR1.move fun d _ => hmv d
          have hs := sem1_ok (o := o) h
          unfold step1D at hk
          have rec_ := fun {Z' : Nat → Prop} (s' : S) (a' : Act) (w' : World) (h' : Rel cx.P n s' a' w') (f' : Fr W s0 a0 w0 s' a' w') (hR' : GR s' gs ps) (hZ' : InvZ s' Z' w') (hk' : denDraw cx n all (masksFrom all.toList []) D kd l gs Z' s' w' K) => denDraw_ok ok cv hD hall l gs ps G Z' s' a' w' hR' hZ' hG h' f' hk'
          have hRp : ∀ {d : Option Nat} {x : X}, GR (s.putO d x) gs ps := hR.move fun d _ b cs m hf => ⟨m, by rw [putO_bx]; exact hf⟩
          have putv : ∀ {Z' : Nat → Prop} (x : X) (w2 : World), ArgOk cx.P x → Rel cx.P n s a w2 → Fr W s0 a0 w0 s a w2 → InvZ s Z' w2 → denDraw cx n all (masksFrom all.toList []) D kd l gs Z' (s.putO o.dst x) w2 K → wpC (fun b => ∃ d ∈ D, ∃ x, find s0.bx d = some x ∧ x.b = b) cx.P all (anc all) (fun i => kd.getD i .big) (Post cx n W s0 a0 w0 K) l ⟨G, Z'⟩ (a.put o.dst (cc x)) w2 := fun x w2 hx h2 f2 hZ2 hk => by
            have := h2.putO hd (locOk_of hx s)
            rw [conc_of hx.1] at this
            exact rec_ _ _ _ this (f2.putO hW x _) hRp (hZ2.putO _ _) hk
          cases hkd : kd.getD i .big with
          | pure =>
            simp only
            rw [hkd] at hk
            cases hsem : sem1 cx s o with
            | pure V =>
              rw [hsem] at hk hs
              obtain ⟨x, g1, g2, g3⟩ := hs _ hk
              exact ⟨_, g3, rec_ _ _ _ (h.putO hd g2) (f.putO hW x _) hRp (hZ.putO _ _) g1⟩
            | _ => rw [hsem] at hk; exact hk.elim
          | quiet =>
            simp only
            rw [hkd] at hk
            cases hsem : sem1 cx s o with
            | read R =>
              rw [hsem] at hk hs
              obtain ⟨x, g1, g2, g3⟩ := hs _ hk
              refine ⟨_, fun w' e => ?_, rec_ _ _ _ (h.putO hd g2) (f.putO hW x _) hRp (hZ.putO _ _) g1⟩
              unfold Oper.quietAt
              rw [g3 w' e]
              exact ⟨rfl, rfl⟩
            | call g xs =>
              rw [hsem] at hk hs
              obtain ⟨g1, g2⟩ := hs
              obtain ⟨x, k1, k3⟩ := ok.Q _ cv g xs _ w g1 hk
              refine ⟨_, fun w' e => ?_, putv (.v x) w (argOk_v x) h f hZ k1⟩
              unfold Oper.quietAt
              rw [g2 w']
              exact ⟨rfl, k3 w' e⟩
            | callV v vs r =>
              rw [hsem] at hk hs
              obtain ⟨x, k3, k1⟩ := hk
              obtain ⟨us, rfl, k2⟩ := exVs_some k1
              refine ⟨_, fun w' e => ?_, putv (.v _) w (argOk_v _) h f hZ k2⟩
              unfold Oper.quietAt
              obtain ⟨g, first, cap, rfl, hb, hcall⟩ := cv v vs _ w' (k3 w' e)
              rw [hs w', run_value hb]
              refine ⟨rfl, hcall.mono fun e w2 he => ?_⟩
              cases e with
              | returned x => exact ⟨by rw [he.1]; rfl, he.2⟩
              | _ => exact he.elim
            | _ => rw [hsem] at hk; exact hk.elim
          | rd =>
            simp only
            rw [hkd] at hk
            cases hsem : sem1 cx s o with
            | read R =>
              rw [hsem] at hk
              simp only at hk
              split at hk
              · rename_i hrb
                have hrun := rd_ok h hrb hsem
                obtain ⟨x, g1, g2, g3⟩ := hrun w _ hk
                refine ⟨_, g3, denDraw_ok ok cv hD hall l ((i, .mem (fun w' => R w' (eqX x))) :: gs) ((i, fun w' => R w' (eqX x)) :: ps) _ _ _ _ _ ⟨rfl, hRp⟩ (hZ.putO _ _) (fun i' w2 hg => ?_) (h.putO hd g2) (f.putO hW x _) g1⟩
                refine ⟨hG _ _ fun g hgm => hg g (List.mem_cons_of_mem _ hgm), fun hn => ?_⟩
                obtain ⟨y, e1, _, e3⟩ := hrun w2 _ (hg _ List.mem_cons_self hn)
                have hxy : conc s.bx y = conc s.bx x := by
                  unfold eqX at e1
                  split at e1
                  · subst e1; rfl
                  · exact e1.elim
                rw [hxy] at e3
                exact e3
              · rename_i d hrb
                obtain ⟨b, cs, m, hf, hm, hrun⟩ := rdbox_ok h hrb hsem
                obtain ⟨x, g1, g2, g3⟩ := hrun _ hk
                have hB := (h.bx d _ hf).1 hm
                refine ⟨_, fun w' e => g3 w' (e.blkE hB), denDraw_ok ok cv hD hall l ((i, .box d) :: gs) ((i, fun w' => Blk w' b cs) :: ps) _ _ _ _ _ ⟨⟨rfl, b, cs, m, by rw [putO_bx]; exact hf, rfl⟩, hRp⟩ (hZ.putO _ _) (fun i' w2 hg => ?_) (h.putO hd g2) (f.putO hW x _) g1⟩
                refine ⟨hG _ _ fun g hgm => hg g (List.mem_cons_of_mem _ hgm), fun hn => ?_⟩
                exact fun w' e => g3 w' (e.blkE (hg _ List.mem_cons_self hn))
              · exact hk.elim
            | _ => rw [hsem] at hk; exact hk.elim
          | loc =>
            simp only
            rw [hkd] at hk
            cases hsem : sem1 cx s o with
            | read R =>
              rw [hsem] at hk
              simp only at hk
              split at hk
              · rename_i hlb
                obtain ⟨d', b', _, hb', hm', hnd, hrun⟩ := loc_ok h hlb hsem
                obtain ⟨x, g1, g2, g3⟩ := hrun _ hk
                refine ⟨_, fun w' e => g3 w' ?_, rec_ _ _ _ (h.putO hd g2) (f.putO hW x _) hRp (hZ.putO _ _) g1⟩
                have hB := (h.bx d' b' hb').1 hm'
                have hl := blk_lt hB
                obtain ⟨T, hB⟩ := hB
                refine ⟨T, ?_⟩
                rw [e.block _ hl ?_]
                · exact hB
                · rintro ⟨d, hdD, x0, hx0, hxb⟩
                  obtain ⟨y, hy, hym, hne⟩ := hnd d hdD
                  obtain ⟨y0, hy0, hyb⟩ := f.bk d (hD d hdD) y hy
                  rw [hx0] at hy0; injection hy0 with hy0; subst hy0
                  exact h.dist d d' y b' hne hy hb' (by rw [hym]; intro e; cases e) hm' (by rw [← hyb, hxb])
              · exact hk.elim
            | _ => rw [hsem] at hk; exact hk.elim
          | lst =>
            simp only
            rw [hkd] at hk
            cases hsem : sem1 cx s o with
            | lst d b cs =>
              rw [hsem] at hk hs
              simp only at hk
              split at hk
              · rename_i hdD
                simp only [Bool.and_eq_true] at hdD
                obtain ⟨hdD, hfr⟩ := hdD
                have hdD : d ∈ D := by simpa using hdD
                intro w' e
                obtain ⟨h', f'⟩ := post_ext h f e
                obtain ⟨cs0, hb, hs⟩ := hs
                obtain ⟨w2, g1, g2, g3⟩ := hs w' ((h'.bx d _ hb).1 (by intro e; cases e))
                obtain ⟨k1, k2⟩ := lst_ok h' f' hb g2 g3
                obtain ⟨y0, hy0, hyb⟩ := f.bk d (hD d hdD) _ hb
                exact ⟨b, w2, ⟨d, hdD, y0, hy0, hyb⟩, g1, g2, rec_ _ _ _ (k1.putO hd (locOk_v _)) (k2.putO hW _ _) ((hR.free hfr (s' := s.setbox d ⟨b, cs, .rw⟩) fun d2 hd2 => by show find (_ :: _) d2 = _; rw [find_cons, if_neg hd2]).move fun d _ b cs m hf => ⟨m, by rw [putO_bx]; exact hf⟩) (InvZ.none _ _) (hk w' e w2 g2)⟩
              · exact hk.elim
            | _ => rw [hsem] at hk; exact hk.elim
          | new =>
            simp only
            rw [hkd] at hk
            cases hsem : sem1 cx s o with
            | box cs =>
              rw [hsem] at hk hs
              obtain ⟨T, hs⟩ := hs
              simp only at hk
              split at hk
              · rename_i d hod
                split at hk
                · rename_i hfr
                  intro w' e
                  have e2 : Ext w' (w'.alloc (.cells cs.toArray T)) := ⟨rfl, rfl, rfl, by simp, fun k hk => Below.heap_alloc _ _ _ hk⟩
                  refine ⟨_, _, hs w', e2, ?_⟩
                  rw [hod] at hd ⊢
                  obtain ⟨h', f'⟩ := post_ext h f e
                  refine wpC_mono (G' := ⟨G, zX (zI Z w (w'.alloc (.cells cs.toArray T))) w'.heap.size⟩) ⟨fun _ _ h => h, fun b hb => ⟨Or.imp id (fun ⟨h1, h2⟩ => ⟨h1, Nat.lt_of_lt_of_le h2 e2.size⟩) hb, by rcases hb with hb | hb; have := hZ.lt b hb; have := e.size; omega; omega⟩⟩ (rec_ _ _ _ (h'.newbox (by simpa [dstOk] using hd) e2 (Nat.le_refl _) ⟨T, ?_⟩) (f'.newbox h' (hW d hod) _ _ _ e2) (hR.free hfr fun d2 hd2 => by show find (_ :: _) d2 = _; rw [find_cons, if_neg hd2]) ((hZ.zI h (e.trans e2).size (Nat.le_refl _)).newbox _ _ _) (hk _ _ (e.trans e2) e.size (by simp)))
                  show (w'.heap.push _)[w'.heap.size]? = _
                  simp
                · exact hk.elim
              · exact hk.elim
            | new N =>
              rw [hsem] at hk hs
              intro w' e
              obtain ⟨x, w2, g1, g2, g3, g4⟩ := hs w' _ (hk w' e)
              obtain ⟨h', f'⟩ := post_ext h f (e.trans g3)
              exact ⟨_, w2, g1, g3, putv x w2 g2 h' f' (hZ.zI h e.size g3.size) g4⟩
            | _ => rw [hsem] at hk; exact hk.elim
          | big =>
            simp only
            rw [hkd] at hk
            cases hsem : sem1 cx s o with
            | big B =>
              rw [hsem] at hk hs
              intro w' e
              obtain ⟨h', f'⟩ := post_ext h f e
              obtain ⟨x, w2, g1, g2, _, g4⟩ := hs w' _ (hk w' e)
              obtain ⟨k1, k2, k3⟩ := keepP_ok h' g4
              unfold Oper.wp
              rcases g1 with g1 | ⟨g1, rfl⟩
              · rw [g1]; exact ⟨hG _ _ (guards_ok k2 hR k1).1, putv x w2 g2 k2 (f'.kept k3) (InvZ.none _ _) (guards_ok k2 hR k1).2⟩
              · rw [g1]; exact ⟨hG _ _ (guards_ok k2 hR k1).1, putv _ w2 g2 k2 (f'.kept k3) (InvZ.none _ _) (guards_ok k2 hR k1).2⟩
            | lst d b cs =>
              rw [hsem] at hk hs
              simp only at hk
              intro w' e
              obtain ⟨h', f'⟩ := post_ext h f e
              obtain ⟨cs0, hb, hs⟩ := hs
              obtain ⟨w2, g1, g2, g3⟩ := hs w' ((h'.bx d _ hb).1 (by intro e; cases e))
              obtain ⟨k1, k2⟩ := lst_ok h' f' hb g2 g3
              have hR2 : GR (s.setbox d ⟨b, cs, .rw⟩) (killG d gs) ps := GR.kill (fun d2 hd2 => by show find (_ :: _) d2 = _; rw [find_cons, if_neg hd2]) hR
              unfold Oper.wp
              rw [g1]
              have hgd := guards_ok k1 hR2 (hk w' e w2 g2)
              exact ⟨hG _ _ hgd.1, denDraw_ok ok cv hD hall l (killG d gs) ps G _ _ _ _ (hR2.move fun d _ b cs m hf => ⟨m, by rw [putO_bx]; exact hf⟩) (InvZ.none _ _) hG (k1.putO hd (locOk_v _)) (k2.putO hW _ _) hgd.2⟩
            | call g xs =>
              rw [hsem] at hk hs
              intro w' e
              obtain ⟨h', f'⟩ := post_ext h f e
              obtain ⟨g1, g2⟩ := hs
              unfold Oper.wp
              rw [g2 w']
              refine (ok.O _ cv g xs _ w' g1 (hk w' e)).mono ?_
              intro e w2 hkx
              cases e with
              | returned x =>
                obtain ⟨k1, k2, k3⟩ := keepP_ok h' hkx
                exact ⟨hG _ _ (guards_ok k2 hR k1).1, putv (.v x) w2 (argOk_v x) k2 (f'.kept k3) (InvZ.none _ _) (guards_ok k2 hR k1).2⟩
              | _ => exact hkx.elim
            | callV v vs r =>
              rw [hsem] at hk hs
              intro w' e
              obtain ⟨h', f'⟩ := post_ext h f e
              obtain ⟨g, first, cap, rfl, hb, hcall⟩ := cv v vs _ w' (hk w' e)
              unfold Oper.wp
              rw [hs w', run_value hb]
              refine hcall.mono ?_
              intro e w2 hkx
              cases e with
              | returned x =>
                obtain ⟨us, rfl, hk2⟩ := exVs_some (show exVs r _ from hkx)
                obtain ⟨k1, k2, k3⟩ := keepP_ok h' hk2
                exact ⟨hG _ _ (guards_ok k2 hR k1).1, putv (.v _) w2 (argOk_v _) k2 (f'.kept k3) (InvZ.none _ _) (guards_ok k2 hR k1).2⟩
              | _ => exact hkx.elim
            | _ => rw [hsem] at hk; exact hk.elim
          | alc =>
            simp only
            rw [hkd] at hk
            cases hsem : sem1 cx s o with
            | box cs =>
              rw [hsem] at hk hs
              obtain ⟨T, hs⟩ := hs
              simp only at hk
              split at hk
              · rename_i d hod
                split at hk
                · rename_i hfr
                  refine ⟨fun b => .pointer (some ⟨b, 0, none⟩), cs.toArray, T, hs, fun b w' e hz hb => ?_⟩
                  obtain ⟨h', f'⟩ := post_ext h f e
                  rw [hod] at hd ⊢
                  have hblt : b < w'.heap.size := (Array.getElem?_eq_some_iff.1 hb).1
                  refine rec_ _ _ _ (h'.newboxZ (by simpa [dstOk] using hd) ⟨T, hb⟩ (fun d2 b2 hf hm he => ?_) (fun hr => ?_)) (f'.newbox h' (hW d hod) _ _ _ (Ext.refl _)) (hR.free hfr fun d2 hd2 => by show find (_ :: _) d2 = _; rw [find_cons, if_neg hd2]) ((hZ.zI h e.size (Nat.le_refl _)).newbox _ _ _) (hk b w' e hz hblt)
                  · rcases hz with hz | hz
                    · exact hZ.bx d2 b2 hf hm (he ▸ hz)
                    · have := blk_lt ((h.bx d2 b2 hf).1 hm); omega
                  · rcases hz with hz | hz
                    · exact hZ.ro b hr hz
                    · have := h.ro b hr; omega
                · exact hk.elim
              · exact hk.elim
            | new N =>
              rw [hsem] at hk
              simp only at hk
              split at hk
              · rename_i bytes z x y hms
                obtain ⟨h0, hle, hbb, h62, hk⟩ := hk
                obtain ⟨T, hrun⟩ := ok_mks h hms h0 hle hbb h62
                refine ⟨fun b => .slice (some ⟨b, 0, none⟩) x.toNat y.toNat, (zeros z y.toNat).toArray, T, hrun, fun b w' e hz hb => ?_⟩
                obtain ⟨h', f'⟩ := post_ext h f e
                exact rec_ _ _ _ (h'.putO hd (locOk_v _)) (f'.putO hW _ _) hRp (((hZ.zI h e.size (Nat.le_refl _)).less fun _ h => h.1).putO _ _) (hk b w' e hz ⟨T, hb⟩)
              · exact hk.elim
            | _ => rw [hsem] at hk; exact hk.elim
          | bigz =>
            simp only
            rw [hkd] at hk
            cases hsem : sem1 cx s o with
            | big B =>
              rw [hsem] at hk hs
              intro w' e
              obtain ⟨h', f'⟩ := post_ext h f e
              obtain ⟨x, w2, g1, g2, _, gz, g4⟩ := hs w' _ (hk w' e)
              obtain ⟨k1, k2, k3⟩ := keepP_ok h' g4
              unfold Oper.wp
              rcases g1 with g1 | ⟨g1, rfl⟩
              · rw [g1]; exact ⟨hG _ _ (guards_ok k2 hR k1).1, gz, putv x w2 g2 k2 (f'.kept k3) (hZ.zI h e.size gz.1) (guards_ok k2 hR k1).2⟩
              · rw [g1]; exact ⟨hG _ _ (guards_ok k2 hR k1).1, gz, putv _ w2 g2 k2 (f'.kept k3) (hZ.zI h e.size gz.1) (guards_ok k2 hR k1).2⟩
            | call g xs =>
              rw [hsem] at hk hs
              intro w' e
              obtain ⟨h', f'⟩ := post_ext h f e
              obtain ⟨g1, g2⟩ := hs
              unfold Oper.wp
              rw [g2 w']
              refine (ok.O _ cv g xs _ w' g1 (hk w' e)).mono ?_
              intro e w2 hkx
              cases e with
              | returned x =>
                obtain ⟨gz, hkx⟩ := hkx
                obtain ⟨k1, k2, k3⟩ := keepP_ok h' hkx
                exact ⟨hG _ _ (guards_ok k2 hR k1).1, gz, putv (.v x) w2 (argOk_v x) k2 (f'.kept k3) (hZ.zI h e.size gz.1) (guards_ok k2 hR k1).2⟩
              | _ => exact hkx.elim
            | _ => rw [hsem] at hk; exact hk.elim
        · rw [if_neg (by rw [hw]; exact Bool.false_ne_true)]
          exact denDraw_ok ok cv hD hall l _ _ _ _ _ _ _ (hR.move fun d _ b cs m hf => ⟨m, by rw [putO_bx, hbx.1]; exact hf⟩) ((hZ.of hbx.2 fun d b' hf => ⟨b', by rw [← hbx.1]; exact hf, rfl, id⟩).putO _ _) hG (h1.putO hd (locOk_v _)) (f1.putO hW _ _) hr
      · exact hk.elim
end

/-! ### What is told -/
def AppOk (s' : S) : (lv : List LV) → Tup lv → Prop
  | [], _ => True
  | .slot k σ :: l, x => find s'.sl k = some (.v (σ.enc x.1)) ∧ AppOk s' l x.2
  | .box d σs :: l, x => (∃ b, find s'.bx d = some ⟨b, encs σs x.1, .rw⟩) ∧ AppOk s' l x.2
  | .nbox d σs :: l, x => (find s'.sl d = some (.loc d 0) ∧ find s'.bx d = some ⟨x.1.1, encs σs x.1.2, .rw⟩) ∧ AppOk s' l x.2

theorem encs_decs : ∀ {l : List Shp} {vs : List Value} {xs : ShpsT l}, decs l vs = some xs → encs l xs = vs
  | [], [], xs, _ => rfl
  | σ :: l, v :: vs, xs, h => by
    simp only [decs] at h
    split at h
    · rename_i x ys h1 h2
      injection h with h
      subst h
      simp only [encs]
      rw [Shp.enc_dec h1, encs_decs h2]
    · cases h
  | [], _ :: _, _, h => by cases h
  | _ :: _, [], _, h => by cases h

theorem appTup_ok {s' : S} : ∀ {lv : List LV} {g : Tup lv → Prop}, app lv s' g → ∃ t, g t ∧ AppOk s' lv t
  | [], g, h => ⟨(), h, trivial⟩
  | .slot k σ :: l, g, h => by
    simp only [app] at h
    split at h
    · rename_i v hv
      split at h
      · rename_i x hx
        obtain ⟨t, h1, h2⟩ := appTup_ok h
        exact ⟨(x, t), h1, by rw [Shp.enc_dec hx]; exact hv, h2⟩
      · exact h.elim
    · exact h.elim
  | .box d σs :: l, g, h => by
    simp only [app] at h
    split at h
    · rename_i b cs hb
      split at h
      · rename_i xs hx
        obtain ⟨t, h1, h2⟩ := appTup_ok h
        exact ⟨(xs, t), h1, ⟨b, by rw [encs_decs hx]; exact hb⟩, h2⟩
      · exact h.elim
    · exact h.elim
  | .nbox d σs :: l, g, h => by
    simp only [app] at h
    split at h
    · rename_i d' b cs hs hb
      split at h
      · rename_i xs hd hx
        have hd := Nat.eq_of_beq_eq_true hd
        subst hd
        obtain ⟨t, h1, h2⟩ := appTup_ok h
        exact ⟨((b, xs), t), h1, ⟨hs, by rw [encs_decs hx]; exact hb⟩, h2⟩
      · exact h.elim
    · exact h.elim

theorem find_bindBx {s' : S} {bx : List (Nat × Bx)} {wr : List Nat} (hsame : ∀ d b b', d ∉ wr → find bx d = some b → find s'.bx d = some b' → b.b = b'.b) : ∀ {lv : List LV} {t : Tup lv} {d : Nat} {b : Bx}, AppOk s' lv t → find (bindBx bx wr lv t) d = some b → find s'.bx d = some b ∧ b.m = .rw ∧ inLV lv d = true
  | [], t, d, b, _, h => by cases h
  | .slot k σ :: l, t, d, b, ha, h => by
    obtain ⟨h1, h2, h3⟩ := find_bindBx hsame ha.2 h
    exact ⟨h1, h2, by simpa [inLV] using h3⟩
  | .box d' σs :: l, t, d, b, ha, h => by
    simp only [bindBx] at h
    have nxt : find (bindBx bx wr l t.2) d = some b → find s'.bx d = some b ∧ b.m = .rw ∧ inLV (.box d' σs :: l) d = true := fun h => by
      obtain ⟨h1, h2, h3⟩ := find_bindBx hsame ha.2 h
      exact ⟨h1, h2, by simp [inLV] at h3 ⊢; exact .inr h3⟩
    split at h
    · rename_i b0 cs0 m0 hw hb0
      rw [find_cons] at h
      split at h
      · rename_i e
        subst e
        obtain ⟨b', hb'⟩ := ha.1
        have := hsame d' _ _ (by simpa using hw) hb0 hb'
        have h := Option.some.inj h
        subst h
        simp only at this
        subst this
        exact ⟨hb', rfl, by simp [inLV]⟩
      · exact nxt h
    · exact nxt h
  | .nbox d' σs :: l, t, d, b, ha, h => by
    simp only [bindBx] at h
    rw [find_cons] at h
    split at h
    · rename_i e
      subst e
      have h := Option.some.inj h
      subst h
      exact ⟨ha.1.2, rfl, by simp [inLV]⟩
    · obtain ⟨h1, h2, h3⟩ := find_bindBx hsame ha.2 h
      exact ⟨h1, h2, by simp [inLV] at h3 ⊢; exact .inr h3⟩

theorem bindBx_has {bx : List (Nat × Bx)} {wr : List Nat} : ∀ {lv : List LV} {t : Tup lv} {d : Nat}, (isN lv d = true ∨ (inLV lv d = true ∧ d ∉ wr ∧ ∃ b, find bx d = some b)) → ∃ b, find (bindBx bx wr lv t) d = some b
  | [], t, d, h => by rcases h with h | ⟨h, _⟩ <;> simp [isN, inLV] at h
  | .slot k σ :: l, t, d, h => bindBx_has (lv := l) (t := t.2) (by simpa [isN, inLV] using h)
  | .box d' σs :: l, t, d, h => by
    simp only [bindBx]
    by_cases e : d = d'
    · subst e
      rcases h with h | ⟨h, hw, b, hb⟩
      · have h' : isN l d = true := by simpa [isN] using h
        obtain ⟨b2, hb2⟩ := bindBx_has (bx := bx) (wr := wr) (lv := l) (t := t.2) (.inl h')
        split
        · rw [find_cons, if_pos rfl]; exact ⟨_, rfl⟩
        · exact ⟨b2, hb2⟩
      · have : wr.contains d = false := by simpa using hw
        rw [this, hb]
        simp only
        rw [find_cons, if_pos rfl]
        exact ⟨_, rfl⟩
    · have h' : isN l d = true ∨ (inLV l d = true ∧ d ∉ wr ∧ ∃ b, find bx d = some b) := by
        rcases h with h | ⟨h, hr⟩
        · exact .inl (by simpa [isN] using h)
        · refine .inr ⟨?_, hr⟩
          simp [inLV] at h ⊢
          rcases h with h | h
          · exact absurd h e
          · exact h
      obtain ⟨b2, hb2⟩ := bindBx_has (bx := bx) (wr := wr) (lv := l) (t := t.2) h'
      split
      · rw [find_cons, if_neg (fun x => e x.symm)]; exact ⟨b2, hb2⟩
      · exact ⟨b2, hb2⟩
  | .nbox d' σs :: l, t, d, h => by
    simp only [bindBx]
    rw [find_cons]
    by_cases e : d' = d
    · rw [if_pos e]; exact ⟨_, rfl⟩
    · rw [if_neg e]
      refine bindBx_has (lv := l) (t := t.2) ?_
      rcases h with h | ⟨h, hr⟩
      · refine .inl ?_
        simp [isN] at h ⊢
        rcases h with h | h
        · exact absurd h.symm e
        · exact h
      · refine .inr ⟨?_, hr⟩
        simp [inLV] at h ⊢
        rcases h with h | h
        · exact absurd h.symm e
        · exact h

theorem find_bindSl {s' : S} : ∀ {lv : List LV} {t : Tup lv} {k : Nat} {x : X}, AppOk s' lv t → find (bindSl lv t) k = some x → find s'.sl k = some x ∧ ((∃ v, x = .v v) ∨ (x = .loc k 0 ∧ isN lv k = true))
  | [], t, k, x, _, h => by cases h
  | .slot k' σ :: l, t, k, x, ha, h => by
    simp only [bindSl] at h
    rw [find_cons] at h
    split at h
    · rename_i e; subst e
      have h := Option.some.inj h
      subst h
      exact ⟨ha.1, .inl ⟨_, rfl⟩⟩
    · obtain ⟨h1, h2⟩ := find_bindSl ha.2 h
      exact ⟨h1, h2.imp id (fun ⟨e, h⟩ => ⟨e, by simpa [isN] using h⟩)⟩
  | .box d σs :: l, t, k, x, ha, h => by
    obtain ⟨h1, h2⟩ := find_bindSl (lv := l) (t := t.2) ha.2 h
    exact ⟨h1, h2.imp id (fun ⟨e, h⟩ => ⟨e, by simpa [isN] using h⟩)⟩
  | .nbox d σs :: l, t, k, x, ha, h => by
    simp only [bindSl] at h
    rw [find_cons] at h
    split at h
    · rename_i e; subst e
      have h := Option.some.inj h
      subst h
      exact ⟨ha.1.1, .inr ⟨rfl, by simp [isN]⟩⟩
    · obtain ⟨h1, h2⟩ := find_bindSl ha.2 h
      exact ⟨h1, h2.imp id (fun ⟨e, h⟩ => ⟨e, by simp [isN] at h ⊢; exact .inr h⟩)⟩

theorem find_filter_key {α : Type} {p : Nat → Bool} : ∀ {l : List (Nat × α)} {i : Nat} {x : α}, find (l.filter fun e => p e.1) i = some x → p i = true ∧ find l i = some x
  | [], i, x, h => by cases h
  | (k, y) :: l, i, x, h => by
    rw [find_cons]
    rw [List.filter_cons] at h
    by_cases hk : k = i
    · subst hk
      rw [if_pos rfl]
      split at h
      · rename_i hp; rw [find_cons, if_pos rfl] at h; exact ⟨hp, h⟩
      · rename_i hp
        have := find_filter_key h
        exact absurd this.1 hp
    · rw [if_neg hk]
      split at h
      · rw [find_cons, if_neg hk] at h; exact find_filter_key h
      · exact find_filter_key h
theorem find_filter_has {α : Type} {p : Nat → Bool} : ∀ {l : List (Nat × α)} {i : Nat} {x : α}, p i = true → find l i = some x → find (l.filter fun e => p e.1) i = some x
  | [], i, x, _, h => by cases h
  | (k, y) :: l, i, x, hp, h => by
    rw [find_cons] at h
    rw [List.filter_cons]
    by_cases hk : k = i
    · subst hk
      rw [if_pos rfl] at h
      simp only [hp, if_true]
      rw [find_cons, if_pos rfl]; exact h
    · rw [if_neg hk] at h
      split
      · rw [find_cons, if_neg hk]; exact find_filter_has hp h
      · exact find_filter_has hp h

/-- How an inner state stands to the outer one that is built upon. -/
structure Base (s0 si : S) (lv : List LV) (dr : List Nat) : Prop where
  kept : ∀ d b, find s0.bx d = some b → inLV lv d = false → d ∉ dr → b.m ≠ .out → b.b ∈ si.ro
  ro : ∀ b ∈ s0.ro, b ∈ si.ro
  back : ∀ d b, find si.bx d = some b → ∃ b0, find s0.bx d = some b0 ∧ b0.b = b.b
  fwd : ∀ d b, find s0.bx d = some b → ∃ b1, find si.bx d = some b1 ∧ b.b = b1.b

section
variable {P : Program} {n : Nat} {s0 si s' : S} {a a' : Act} {w w' : World} {lv : List LV} {dr wr : List Nat}

theorem bind_rel (hB : Base s0 si lv dr) (h : Rel P n s0 a w) (h' : Rel P n s' a' w') (f : Fr wr si a w s' a' w') (hdf : s'.df = s0.df) {t : Tup lv} (ha : AppOk s' lv t) : Rel P n (bind lv t s0 wr dr) a' w' := by
  have hsame : ∀ d b b', d ∉ wr → find s0.bx d = some b → find s'.bx d = some b' → b.b = b'.b := fun d b b' hd hb hb' => by
    obtain ⟨b1, h1, e1⟩ := f.bk d hd b' hb'
    obtain ⟨b0, h0, e0⟩ := hB.back d b1 h1
    rw [hb] at h0
    have h0 := Option.some.inj h0
    subst h0
    exact e0.trans e1
  have hro := f.ro
  -- the boxes
  have box : ∀ d b, find (bind lv t s0 wr dr).bx d = some b → (find s'.bx d = some b ∧ b.m = .rw) ∨ (find s0.bx d = some b ∧ d ∉ wr ∧ d ∉ dr ∧ inLV lv d = false ∧ find (bindBx s0.bx wr lv t) d = none) := fun d b hb => by
    simp only [bind] at hb
    rw [find_append] at hb
    split at hb
    · rename_i b1 h1
      have hb := Option.some.inj hb
      subst hb
      obtain ⟨g1, g2, _⟩ := find_bindBx hsame ha h1
      exact .inl ⟨g1, g2⟩
    · rename_i hn
      obtain ⟨g1, g2⟩ := find_filter_key (p := fun d => !(wr.contains d) && !(dr.contains d) && !(inLV lv d)) hb
      simp at g1
      exact .inr ⟨g2, g1.1.1, g1.1.2, g1.2, hn⟩
  have inro : ∀ d b, find s0.bx d = some b → d ∉ dr → inLV lv d = false → b.m ≠ .out → b.b ∈ s'.ro := fun d b hb h1 h2 hm => hro _ (hB.kept d b hb h2 h1 hm)
  refine ⟨fun k x hx hxb => ?_, h'.size, by rw [h'.df, hdf]; rfl, fun D hD => ⟨(h.dfw D hD).1, (h'.dfw D (by rw [hdf]; exact hD)).2⟩, h.dfn, fun d b hb => ?_, fun d1 d2 b1 b2 hne hb1 hb2 m1 m2 => ?_, fun b hb => ?_⟩
  · -- the slots
    simp only [bind] at hx
    rw [find_append] at hx
    split at hx
    · rename_i y hy
      have hx := Option.some.inj hx
      subst hx
      obtain ⟨g1, g2⟩ := find_bindSl ha hy
      obtain ⟨g3, g4⟩ := h'.sl k _ g1 hxb
      rcases g2 with ⟨v, rfl⟩ | ⟨rfl, hn⟩
      · exact ⟨g3, fun d off e => by (cases e), xok_v _⟩
      · obtain ⟨b, hb⟩ := bindBx_has (bx := s0.bx) (wr := wr) (t := t) (.inl hn)
        obtain ⟨e1, _, _⟩ := find_bindBx hsame ha hb
        have e2 : find (bind lv t s0 wr dr).bx k = some b := by simp only [bind]; rw [find_append, hb]
        refine ⟨?_, fun d off e => by (injection e with e _; subst e; exact ⟨b, e2⟩), xok_loc _ _⟩
        rw [g3]
        simp only [conc, e1, e2]
    · obtain ⟨g1, g2⟩ := find_kill hx hxb
      obtain ⟨g3, g4⟩ := find_filter_key (p := fun t => !(wr.contains t)) g1
      have hk : k ∉ wr := by simpa using g3
      obtain ⟨g5, g6⟩ := h.sl k x g4 hxb
      have tm := f.tm k hk
      cases x with
      | loc d off =>
        obtain ⟨b, hb⟩ := g6.1 d off rfl
        have g2 := g2 d off rfl
        simp at g2
        obtain ⟨⟨g2a, g2b⟩, g2c⟩ := g2
        have e : ∃ b1, find (bind lv t s0 wr dr).bx d = some b1 ∧ b1.b = b.b := by
          by_cases hl : inLV lv d = true
          · obtain ⟨b1, hb1⟩ := bindBx_has (bx := s0.bx) (wr := wr) (t := t) (.inr ⟨hl, g2a, b, hb⟩)
            obtain ⟨e1, _, _⟩ := find_bindBx hsame ha hb1
            exact ⟨b1, by simp only [bind]; rw [find_append, hb1], (hsame d b b1 g2a hb e1).symm⟩
          · refine ⟨b, ?_, rfl⟩
            have hn : find (bindBx s0.bx wr lv t) d = none := by
              cases hq : find (bindBx s0.bx wr lv t) d with
              | none => rfl
              | some b1 => exact absurd (find_bindBx hsame ha hq).2.2 hl
            simp only [bind]
            rw [find_append, hn]
            exact find_filter_has (p := fun d => !(wr.contains d) && !(dr.contains d) && !(inLV lv d)) (by simp [g2a, g2b]; simpa using hl) hb
        obtain ⟨b1, hb1, e1⟩ := e
        refine ⟨?_, fun d' off' e => by (injection e with e _; subst e; exact ⟨b1, hb1⟩), xok_loc _ _⟩
        rw [tm, g5]
        simp only [conc, hb, hb1, e1]
      | v x => exact ⟨by rw [tm, g5]; rfl, fun d off e => by (cases e), xok_v _⟩
      | yl x E => exact ⟨by rw [tm, g5]; rfl, fun d off e => by (cases e), g6.2⟩
      | clo f i x => exact ⟨by rw [tm, g5]; rfl, fun d off e => by (cases e), xok_clo _ _ _⟩
      | bad => exact absurd rfl hxb
  · rcases box d b hb with ⟨g1, g2⟩ | ⟨g1, g2, g3, g4, _⟩
    · obtain ⟨k1, k2, k3⟩ := h'.bx d b g1
      exact ⟨k1, fun hm hr => k2 hm (hro _ (hB.ro _ hr)), fun hm => by rw [g2] at hm; cases hm⟩
    · obtain ⟨k1, k2, k3⟩ := h.bx d b g1
      refine ⟨fun hm => ?_, k2, k3⟩
      obtain ⟨T, hT⟩ := k1 hm
      exact ⟨T, by rw [f.hp _ (hB.kept d b g1 g4 g3 hm)]; exact hT⟩
  · rcases box d1 b1 hb1 with ⟨g1, e1⟩ | ⟨g1, _, g3, g4, _⟩ <;> rcases box d2 b2 hb2 with ⟨k1, e2⟩ | ⟨k1, _, k3, k4, _⟩
    · exact h'.dist d1 d2 b1 b2 hne g1 k1 m1 m2
    · intro e
      exact (h'.bx d1 b1 g1).2.1 e1 (by rw [e]; exact inro d2 b2 k1 k3 k4 m2)
    · intro e
      exact (h'.bx d2 b2 k1).2.1 e2 (by rw [← e]; exact inro d1 b1 g1 g3 g4 m1)
    · exact h.dist d1 d2 b1 b2 hne g1 k1 m1 m2
  · have := h.ro b hb
    have e := f.hp b (hB.ro b hb)
    rw [Array.getElem?_eq_getElem this] at e
    exact (Array.getElem?_eq_some_iff.1 e).1

theorem bind_fr (hB : Base s0 si lv dr) (f : Fr wr si a w s' a' w') {t : Tup lv} (ha : AppOk s' lv t) {W : List Nat} {s00 : S} {a0 : Act} {w0 : World} (f0 : Fr W s00 a0 w0 s0 a w) (hW : ∀ k ∈ wr, k ∈ W) : Fr W s00 a0 w0 (bind lv t s0 wr dr) a' w' := by
  refine ⟨fun k hk => (f.tm k (fun e => hk (hW k e))).trans (f0.tm k hk), f0.ro, f0.df, fun b hb => (f.hp b (hB.ro b (f0.ro b hb))).trans (f0.hp b hb), fun d hd b hb => ?_⟩
  have hsame : ∀ d b b', d ∉ wr → find s0.bx d = some b → find s'.bx d = some b' → b.b = b'.b := fun d b b' hd hb hb' => by
    obtain ⟨b1, h1, e1⟩ := f.bk d hd b' hb'
    obtain ⟨b0, h0, e0⟩ := hB.back d b1 h1
    rw [hb] at h0
    have h0 := Option.some.inj h0
    subst h0
    exact e0.trans e1
  have hd' : d ∉ wr := fun e => hd (hW d e)
  simp only [bind] at hb
  rw [find_append] at hb
  split at hb
  · rename_i b1 h1
    have hb := Option.some.inj hb
    subst hb
    obtain ⟨g1, _, _⟩ := find_bindBx hsame ha h1
    obtain ⟨b2, h2, e2⟩ := f.bk d hd' b1 g1
    obtain ⟨b3, h3, e3⟩ := hB.back d b2 h2
    obtain ⟨b4, h4, e4⟩ := f0.bk d hd b3 h3
    exact ⟨b4, h4, e4.trans (e3.trans e2)⟩
  · obtain ⟨_, g2⟩ := find_filter_key (p := fun d => !(wr.contains d) && !(dr.contains d) && !(inLV lv d)) hb
    exact f0.bk d hd b g2
end
end Go.Sh
