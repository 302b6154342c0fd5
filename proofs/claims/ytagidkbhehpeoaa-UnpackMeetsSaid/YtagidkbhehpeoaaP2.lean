/- Snd6, Snd7, Snd8, Mem, Base, HierPure, Walks, Base2: merged into one text. -/
import Derived.Test.YtagidkbhehpeoaaP1
import Derived.Deep.LoopGhost
import Derived.Scope
/- 'den' is sound: regions that draw; what is told at a join. -/
namespace Go.Sh
open Go.RowKit

section
variable {cx : Cx} {n : Nat} {s : S} {a : Act} {w : World} {o : Oper}

theorem post_ext {W : List Nat} {s0 : S} {a0 : Act} {w0 : World} {w' : World} (h : Rel cx.P n s a w) (f : Fr W s0 a0 w0 s a w) (e : Ext w w') : Rel cx.P n s a w' ∧ Fr W s0 a0 w0 s a w' := ⟨h.ext e, f.ext h e⟩

theorem loc_ok (h : Rel cx.P n s a w) {D : List Nat} {R : World → (X → Prop) → Prop} (hl : locB s D o = true) (hr : sem1 cx s o = .read R) :
    ∃ d' b', (∃ t x off, o.op = .load t x ∧ ev s x = some (.loc d' off)) ∧ find s.bx d' = some b' ∧ b'.m ≠ .out ∧ (∀ d ∈ D, ∃ y, find s.bx d = some y ∧ y.m = .rw ∧ d ≠ d') ∧
      ∀ K, R w K → ∃ x, K x ∧ LocOk cx.P s x ∧ ∀ w', Blk w' b'.b b'.cs → (execOp a.eval o).run cx.P w' = .ok (.value (conc s.bx x)) w' := by
  unfold locB at hl
  split at hl
  · rename_i t x hop
    split at hl
    · rename_i d' off e
      split at hl
      · cases hl
      · rename_i b' hout hb'
        have hm : b'.m ≠ .out := by
          intro e; obtain ⟨b0, cs0, m0⟩ := b'; simp only at e; subst e; exact hout _ _ rfl
        refine ⟨d', b', ⟨t, x, off, hop, e⟩, hb', hm, fun d hd => ?_, fun K hk => ?_⟩
        · have := List.all_eq_true.1 hl d hd
          split at this
          · rename_i hne hf; exact ⟨_, hf, rfl, Nat.ne_of_beq_eq_false hne⟩
          · cases this
        · obtain ⟨h1, _⟩ := ev_ok h e
          simp only [conc, hb'] at h1
          unfold sem1 at hr
          rw [hop] at hr
          simp only [e] at hr
          rw [hb'] at hr
          split at hr
          · rename_i hbb; exact absurd (Option.some.inj hbb) (hout _ _)
          · rename_i b cs m hm2 hbb
            injection hbb with hbb
            subst hbb
            split at hr
            · rename_i hag
              split at hr
              · rename_i l _
                split at hr
                · rename_i hsz
                  simp only [Bool.and_eq_true] at hsz
                  injection hr with hr
                  subst hr
                  refine ⟨_, hk, locOk_v _, fun w' hB => ?_⟩
                  obtain ⟨i, hi, hsz1⟩ := sizeB_ok hsz.1
                  have hl := loadCells_blk (P := cx.P) hB off l.length (Nat.le_of_ble_eq_true hsz.2)
                  simp [execOp, hop, h1, Instr.loadAt, Instr.sureAddr, loadVar, isAgg_run t (und_of_agg hag), hag, sizeOf, typeInfo, hi, hsz1, hl, conc_v]
                · cases hr
              · cases hr
            · rename_i hag
              split at hr
              · rename_i v hv
                split at hr
                · rename_i hun
                  injection hr with hr
                  subst hr
                  refine ⟨_, hk, locOk_v _, fun w' hB => ?_⟩
                  have hc := cell_blk hB off
                  rw [hv] at hc
                  simp [execOp, hop, h1, Instr.loadAt, Instr.sureAddr, loadVar, isAgg_run t hun, hag, hc, conc_v]
                · cases hr
              · cases hr
          · cases hr
      · cases hl
    · cases hl
  · cases hl

/-- What the guards stand for. -/
def GR (s : S) : List (Nat × Gd) → List (Nat × (World → Prop)) → Prop
  | [], [] => True
  | (j, .mem g) :: gs, p :: ps => p = (j, g) ∧ GR s gs ps
  | (j, .box d) :: gs, p :: ps => (p.1 = j ∧ ∃ b cs m, find s.bx d = some ⟨b, cs, m⟩ ∧ p.2 = fun w => Blk w b cs) ∧ GR s gs ps
  | (j, .dead) :: gs, p :: ps => p.1 = j ∧ GR s gs ps
  | _, _ => False

theorem GR.move {s s' : S} : ∀ {gs : List (Nat × Gd)} {ps : List (Nat × (World → Prop))}, GR s gs ps → (∀ d, freeG d gs = false → ∀ b cs m, find s.bx d = some ⟨b, cs, m⟩ → ∃ m', find s'.bx d = some ⟨b, cs, m'⟩) → GR s' gs ps
  | [], [], _, _ => trivial
  | (_, .mem g) :: gs, p :: ps, h, hm => ⟨h.1, GR.move h.2 fun d hd => hm d hd⟩
  | (_, .dead) :: gs, p :: ps, h, hm => ⟨h.1, GR.move h.2 fun d hd => hm d hd⟩
  | (j, .box d) :: gs, p :: ps, h, hm => by
    obtain ⟨⟨h0, b, cs, m, h1, h2⟩, h3⟩ := h
    have hdd : freeG d ((j, .box d) :: gs) = false := by simp [freeG]
    obtain ⟨m', h4⟩ := hm d hdd b cs m h1
    refine ⟨⟨h0, b, cs, m', h4, h2⟩, GR.move h3 fun d2 hd2 => hm d2 ?_⟩
    simp only [freeG]
    cases Nat.beq d2 d with
    | true => rfl
    | false => exact hd2

theorem GR.free {s s' : S} {d : Nat} {gs : List (Nat × Gd)} {ps : List (Nat × (World → Prop))} (h : GR s gs ps) (hd : freeG d gs = true) (hs : ∀ d2, d ≠ d2 → find s'.bx d2 = find s.bx d2) : GR s' gs ps :=
  h.move fun d2 hd2 b cs m hf => by
    have : d ≠ d2 := by intro e; subst e; rw [hd] at hd2; cases hd2
    exact ⟨m, by rw [hs d2 this]; exact hf⟩
theorem GR.kill {s s' : S} {d : Nat} (hs : ∀ d2, d ≠ d2 → find s'.bx d2 = find s.bx d2) : ∀ {gs : List (Nat × Gd)} {ps : List (Nat × (World → Prop))}, GR s gs ps → GR s' (killG d gs) ps
  | [], [], _ => trivial
  | (_, .mem g) :: gs, p :: ps, h => ⟨h.1, GR.kill hs h.2⟩
  | (_, .dead) :: gs, p :: ps, h => ⟨h.1, GR.kill hs h.2⟩
  | (j, .box d') :: gs, p :: ps, h => by
    obtain ⟨⟨h0, b, cs, m, h1, h2⟩, h3⟩ := h
    simp only [killG]
    split
    · exact ⟨h0, GR.kill hs h3⟩
    · rename_i hb
      exact ⟨⟨h0, b, cs, m, by rw [hs d' (Nat.ne_of_beq_eq_false hb)]; exact h1, h2⟩, GR.kill hs h3⟩

theorem guards_ok {s : S} {w : World} {ops : Array Oper} {i : Nat} (h : Rel cx.P n s a w) : ∀ {gs : List (Nat × Gd)} {ps : List (Nat × (World → Prop))} {K : Prop}, GR s gs ps → guards (masksFrom ops.toList []) i s w gs K → (∀ g ∈ ps, anc ops i g.1 = false → g.2 w) ∧ K
  | [], [], _, _, hk => ⟨fun g hg => (by cases hg), hk⟩
  | (j, .mem g) :: gs, p :: ps, K, hg, hk => by
    simp only [guards] at hk
    split at hk
    · rename_i ha
      obtain ⟨h1, h2⟩ := guards_ok h hg.2 hk
      exact ⟨fun g' hg' hn => by
        rcases List.mem_cons.1 hg' with rfl | hg'
        · rw [hg.1] at hn; rw [anc, ha] at hn; cases hn
        · exact h1 g' hg' hn, h2⟩
    · obtain ⟨h1, h2⟩ := guards_ok h hg.2 hk.2
      exact ⟨fun g' hg' hn => by rcases List.mem_cons.1 hg' with rfl | hg'; rw [hg.1]; exact hk.1; exact h1 g' hg' hn, h2⟩
  | (j, .dead) :: gs, p :: ps, K, hg, hk => by
    simp only [guards] at hk
    split at hk
    · rename_i ha
      obtain ⟨h1, h2⟩ := guards_ok h hg.2 hk
      exact ⟨fun g' hg' hn => by
        rcases List.mem_cons.1 hg' with rfl | hg'
        · rw [hg.1] at hn; rw [anc, ha] at hn; cases hn
        · exact h1 g' hg' hn, h2⟩
    · exact hk.elim
  | (j, .box d) :: gs, p :: ps, K, hg, hk => by
    obtain ⟨⟨e0, b, cs, m, e1, e2⟩, e3⟩ := hg
    simp only [guards, e1] at hk
    split at hk
    · rename_i ha
      obtain ⟨h1, h2⟩ := guards_ok h e3 hk
      exact ⟨fun g' hg' hn => by
        rcases List.mem_cons.1 hg' with rfl | hg'
        · rw [e0] at hn; rw [anc, ha] at hn; cases hn
        · exact h1 g' hg' hn, h2⟩
    · cases m with
      | out => exact hk.elim
      | rw =>
        obtain ⟨h1, h2⟩ := guards_ok h e3 hk
        exact ⟨fun g' hg' hn => by rcases List.mem_cons.1 hg' with rfl | hg'; rw [e2]; exact (h.bx d _ e1).1 (by intro e; cases e); exact h1 g' hg' hn, h2⟩
      | ro =>
        obtain ⟨h1, h2⟩ := guards_ok h e3 hk
        exact ⟨fun g' hg' hn => by rcases List.mem_cons.1 hg' with rfl | hg'; rw [e2]; exact (h.bx d _ e1).1 (by intro e; cases e); exact h1 g' hg' hn, h2⟩

theorem rdbox_ok (h : Rel cx.P n s a w) {d : Nat} {R : World → (X → Prop) → Prop} (hl : rdB s o = some (some d)) (hr : sem1 cx s o = .read R) :
    ∃ b cs m, find s.bx d = some ⟨b, cs, m⟩ ∧ m ≠ .out ∧
      ∀ K, R w K → ∃ x, K x ∧ LocOk cx.P s x ∧ ∀ w', Blk w' b cs → (execOp a.eval o).run cx.P w' = .ok (.value (conc s.bx x)) w' := by
  have : locB s [] o = true ∧ ∃ t x off, o.op = .load t x ∧ ev s x = some (.loc d off) := by
    unfold rdB at hl
    split at hl
    · rename_i t x hop
      split at hl
      · injection hl with hl; cases hl
      · rename_i d' off e
        split at hl
        · injection hl with hl; cases hl
        · rename_i b' hout hb'
          injection hl with hl; injection hl with hl; subst hl
          refine ⟨?_, t, x, off, hop, e⟩
          unfold locB
          rw [hop]
          simp only [e]
          split
          · rename_i b0 cs0 hb0; rw [hb0] at hb'; injection hb' with hb'; exact absurd hb'.symm (fun e => hout _ _ e)
          · rfl
          · rename_i hnn; rw [hb'] at hnn; cases hnn
        · cases hl
      · cases hl
    · cases hl
  obtain ⟨hlb, t, x, off, hop, e⟩ := this
  obtain ⟨d', b', ⟨t', x', off', hop', e'⟩, hb', hm', _, hrun⟩ := loc_ok h hlb hr
  have hdd : d' = d := by
    rw [hop] at hop'
    injection hop' with h1 h2
    subst h2
    rw [e] at e'
    injection e' with e'
    injection e' with e' _
    exact e'.symm
  subst hdd
  exact ⟨b'.b, b'.cs, b'.m, hb', hm', hrun⟩

theorem rd_core {t : TypeId} {x : Operand} (hop : o.op = .load t x) {p : Addr} (g1 : a.eval x = .pointer (some p)) {R : World → (X → Prop) → Prop}
    (hr : (match isAggB cx.P t with
      | true => (match leaves cx.P 10 t with
        | some l => (match sizeB cx.P t l.length with
          | true => OpR.read fun w K => rdL w p l 0 (fun vs => K (.v (.agg vs.toArray)))
          | false => .bad)
        | none => .bad)
      | false => (match leafOf cx.P t with
        | some σ => .read fun w K => ∃ x : σ.T, w.cell? p = some (σ.enc x) ∧ K (.v (σ.enc x))
        | none => .bad)) = .read R) :
    ∀ w2 K, R w2 K → ∃ x, K x ∧ LocOk cx.P s x ∧ Sees cx.P (execOp a.eval o) (conc s.bx x) w2 := by
  intro w2 K hk
  split at hr
  · rename_i hag
    split at hr
    · rename_i l _
      split at hr
      · rename_i hsz
        injection hr with hr
        subst hr
        obtain ⟨vs, h1, h2, h3⟩ := rdL_ok _ _ _ hk
        refine ⟨_, h1, locOk_v _, fun w' hE => ?_⟩
        obtain ⟨i, hi, hsz⟩ := sizeB_ok hsz
        have hl := run_loadCells_list (P := cx.P) w' p vs (fun j v hv => hE.cell (by have := h3 j v hv; simpa using this))
        rw [h2] at hl
        simp [execOp, hop, g1, Instr.loadAt, Instr.sureAddr, loadVar, isAgg_run t (und_of_agg hag), hag, sizeOf, typeInfo, hi, hsz, hl, conc_v]
      · cases hr
    · cases hr
  · rename_i hag
    split at hr
    · rename_i σ hl
      injection hr with hr
      subst hr
      obtain ⟨x, hx, hk⟩ := hk
      refine ⟨_, hk, locOk_v _, fun w' hE => ?_⟩
      simp [execOp, hop, g1, Instr.loadAt, Instr.sureAddr, loadVar, isAgg_run t (und_of_leaf hl), hag, hE.cell hx, conc_v]
    · cases hr

theorem rd_ok (h : Rel cx.P n s a w) {R : World → (X → Prop) → Prop} (hl : rdB s o = some none) (hr : sem1 cx s o = .read R) :
    ∀ w2 K, R w2 K → ∃ x, K x ∧ LocOk cx.P s x ∧ Sees cx.P (execOp a.eval o) (conc s.bx x) w2 := by
  unfold rdB at hl
  split at hl
  · rename_i t x hop
    unfold sem1 at hr
    rw [hop] at hr
    simp only at hr
    split at hl
    · rename_i p e
      simp only [e] at hr
      exact rd_core hop (ev_ok h e).1 hr
    · rename_i d off e
      simp only [e] at hr
      split at hl
      · rename_i b cs hb
        simp only [hb] at hr
        exact rd_core hop (by rw [(ev_ok h e).1]; simp [conc, hb]) hr
      · cases hl
      · cases hl
    · cases hl
  · cases hl

theorem putO_bx (s : S) (d : Option Nat) (x : X) : (s.putO d x).bx = s.bx := by cases d <;> rfl

/-- The blocks that may come to be boxes are none that are there. -/
structure InvZ (s : S) (Z : Nat → Prop) (w : World) : Prop where
  lt : ∀ b, Z b → b < w.heap.size
  ro : ∀ b ∈ s.ro, ¬ Z b
  bx : ∀ d b, find s.bx d = some b → b.m ≠ .out → ¬ Z b.b
theorem InvZ.none (s : S) (w : World) : InvZ s (fun _ => False) w := ⟨fun _ h => h.elim, fun _ _ h => h, fun _ _ _ _ h => h⟩
theorem InvZ.less {s : S} {Z Z' : Nat → Prop} {w : World} (h : InvZ s Z w) (hz : ∀ b, Z' b → Z b) : InvZ s Z' w := ⟨fun b hb => h.lt b (hz b hb), fun b hm hb => h.ro b hm (hz b hb), fun d b hf hm hb => h.bx d b hf hm (hz _ hb)⟩
theorem InvZ.putO {s : S} {Z : Nat → Prop} {w : World} (h : InvZ s Z w) (d : Option Nat) (x : X) : InvZ (s.putO d x) Z w := by cases d <;> exact ⟨h.lt, h.ro, h.bx⟩
theorem InvZ.of {s s' : S} {Z : Nat → Prop} {w : World} (h : InvZ s Z w) (hr : s'.ro = s.ro) (hb : ∀ d b', find s'.bx d = some b' → ∃ b, find s.bx d = some b ∧ b.b = b'.b ∧ (b'.m ≠ .out → b.m ≠ .out)) : InvZ s' Z w :=
  ⟨h.lt, fun b hm => h.ro b (hr ▸ hm), fun d b' hf hm => by
    obtain ⟨b, h1, h2, h3⟩ := hb d b' hf
    rw [← h2]; exact h.bx d b h1 (h3 hm)⟩
theorem InvZ.zI {s : S} {Z : Nat → Prop} {w w' w'' : World} (h : InvZ s Z w) {a : Act} {P : Program} (hR : Rel P n s a w) (h1 : w.heap.size ≤ w'.heap.size) (h2 : w'.heap.size ≤ w''.heap.size) : InvZ s (zI Z w w') w'' := by
  refine ⟨fun b hb => ?_, fun b hm hb => ?_, fun d b hf hm hb => ?_⟩
  · rcases hb with hb | hb
    · have := h.lt b hb; omega
    · omega
  · rcases hb with hb | hb
    · exact h.ro b hm hb
    · have := hR.ro b hm; omega
  · rcases hb with hb | hb
    · exact h.bx d b hf hm hb
    · have := blk_lt ((hR.bx d b hf).1 hm); omega
theorem InvZ.newbox {s : S} {Z : Nat → Prop} {w : World} (h : InvZ s Z w) (d k : Nat) (cs : List Value) : InvZ (s.newbox d k cs) (zX Z k) w := by
  refine ⟨fun b hb => h.lt b hb.1, fun b hm hb => h.ro b hm hb.1, fun d' b hf hm hb => ?_⟩
  simp only [S.newbox, find_cons] at hf
  split at hf
  · injection hf with hf; subst hf; exact hb.2 rfl
  · exact h.bx d' b hf hm hb.1

theorem denDraw_ok (ok : CxOk cx) (cv : CVOk cx.P cx.CV) {all : Array Oper} {W : List Nat} {s0 : S} {a0 : Act} {w0 : World} {K : S → World → Prop} {kd : List Kd} {D : List Nat} (hD : ∀ d ∈ D, d ∉ W) (hall : ∀ (i : Nat) o, all[i]? = some o → ∀ t, o.dst = some t → t ∈ W) :
    ∀ (l : List Nat) (gs : List (Nat × Gd)) (ps : List (Nat × (World → Prop))) (G : Nat → World → Prop) (Z : Nat → Prop) (s : S) (a : Act) (w : World), GR s gs ps → InvZ s Z w → (∀ i w, (∀ g ∈ ps, anc all i g.1 = false → g.2 w) → G i w) → Rel cx.P n s a w → Fr W s0 a0 w0 s a w → denDraw cx n all (masksFrom all.toList []) D kd l gs Z s w K → wpC (fun b => ∃ d ∈ D, ∃ x, find s0.bx d = some x ∧ x.b = b) cx.P all (anc all) (fun i => kd.getD i .big) (Post cx n W s0 a0 w0 K) l ⟨G, Z⟩ a w
  | [], gs, ps, G, Z, s, a, w, hR, hZ, hG, h, f, hk => fun w' e => ⟨s, h.ext e, f.ext h e, hk w' e⟩
  | i :: l, gs, ps, G, Z, s, a, w, hR, hZ, hG, h, f, hk => by
    simp only [denDraw] at hk
    simp only [wpC, GZ.to, GZ.and]
    cases hi : all[i]? with
    | none => rw [hi] at hk; exact hk.elim
    | some o =>
      rw [hi] at hk
      simp only at hk ⊢
      have hW := hall i o hi
      split at hk
      · rename_i hd
        rcases guarded_ok h f hk with ⟨hw, s1, h1, f1, hbx, hr⟩ | ⟨hw, s1, h1, f1, hbx, hr⟩
        · rw [if_pos hw]
          have hR1 : GR s1 gs ps := hR.move fun d _ b cs m hf => ⟨m, by rw [hbx.1]; exact hf⟩
          have hZ1 : InvZ s1 Z w := hZ.of hbx.2 fun d b' hf => ⟨b', by rw [← hbx.1]; exact hf, rfl, id⟩
          obtain ⟨s, h, f, ⟨_, hmv, hro, _, hbk⟩, hk⟩ := expose_ok _ _ _ h1 f1 hr
          have hZ := hZ1.of hro hbk
          have hR : GR s gs ps := hR1.move fun d _ => hmv d
          have hs := sem1_ok (o := o) h
          unfold step1D at hk
          have rec_ := fun {Z' : Nat → Prop} (s' : S) (a' : Act) (w' : World) (h' : Rel cx.P n s' a' w') (f' : Fr W s0 a0 w0 s' a' w') (hR' : GR s' gs ps) (hZ' : InvZ s' Z' w') (hk' : denDraw cx n all (masksFrom all.toList []) D kd l gs Z' s' w' K) => denDraw_ok ok cv hD hall l gs ps G Z' s' a' w' hR' hZ' hG h' f' hk'
          have hRp : ∀ {d : Option Nat} {x : X}, GR (s.putO d x) gs ps := hR.move fun d _ b cs m hf => ⟨m, by rw [putO_bx]; exact hf⟩
          have putv : ∀ {Z' : Nat → Prop} (x : X) (w2 : World), ArgOk cx.P x → Rel cx.P n s a w2 → Fr W s0 a0 w0 s a w2 → InvZ s Z' w2 → denDraw cx n all (masksFrom all.toList []) D kd l gs Z' (s.putO o.dst x) w2 K → wpC (fun b => ∃ d ∈ D, ∃ x, find s0.bx d = some x ∧ x.b = b) cx.P all (anc all) (fun i => kd.getD i .big) (Post cx n W s0 a0 w0 K) l ⟨G, Z'⟩ (a.put o.dst (cc x)) w2 := fun x w2 hx h2 f2 hZ2 hk => by
            have := h2.putO hd (locOk_of hx s)
            rw [conc_of hx.1] at this
            exact rec_ _ _ _ this (f2.putO hW x _) hRp (hZ2.putO _ _) hk
          cases hkd : kd.getD i .big with
          | pure =>
            simp only
            rw [hkd] at hk
            cases hsem : sem1 cx s o with
            | pure V =>
              rw [hsem] at hk hs
              obtain ⟨x, g1, g2, g3⟩ := hs _ hk
              exact ⟨_, g3, rec_ _ _ _ (h.putO hd g2) (f.putO hW x _) hRp (hZ.putO _ _) g1⟩
            | _ => rw [hsem] at hk; exact hk.elim
          | quiet =>
            simp only
            rw [hkd] at hk
            cases hsem : sem1 cx s o with
            | read R =>
              rw [hsem] at hk hs
              obtain ⟨x, g1, g2, g3⟩ := hs _ hk
              refine ⟨_, fun w' e => ?_, rec_ _ _ _ (h.putO hd g2) (f.putO hW x _) hRp (hZ.putO _ _) g1⟩
              unfold Oper.quietAt
              rw [g3 w' e]
              exact ⟨rfl, rfl⟩
            | call g xs =>
              rw [hsem] at hk hs
              obtain ⟨g1, g2⟩ := hs
              obtain ⟨x, k1, k3⟩ := ok.Q _ cv g xs _ w g1 hk
              refine ⟨_, fun w' e => ?_, putv (.v x) w (argOk_v x) h f hZ k1⟩
              unfold Oper.quietAt
              rw [g2 w']
              exact ⟨rfl, k3 w' e⟩
            | callV v vs r =>
              rw [hsem] at hk hs
              obtain ⟨x, k3, k1⟩ := hk
              obtain ⟨us, rfl, k2⟩ := exVs_some k1
              refine ⟨_, fun w' e => ?_, putv (.v _) w (argOk_v _) h f hZ k2⟩
              unfold Oper.quietAt
              obtain ⟨g, first, cap, rfl, hb, hcall⟩ := cv v vs _ w' (k3 w' e)
              rw [hs w', run_value hb]
              refine ⟨rfl, hcall.mono fun e w2 he => ?_⟩
              cases e with
              | returned x => exact ⟨by rw [he.1]; rfl, he.2⟩
              | _ => exact he.elim
            | _ => rw [hsem] at hk; exact hk.elim
          | rd =>
            simp only
            rw [hkd] at hk
            cases hsem : sem1 cx s o with
            | read R =>
              rw [hsem] at hk
              simp only at hk
              split at hk
              · rename_i hrb
                have hrun := rd_ok h hrb hsem
                obtain ⟨x, g1, g2, g3⟩ := hrun w _ hk
                refine ⟨_, g3, denDraw_ok ok cv hD hall l ((i, .mem (fun w' => R w' (eqX x))) :: gs) ((i, fun w' => R w' (eqX x)) :: ps) _ _ _ _ _ ⟨rfl, hRp⟩ (hZ.putO _ _) (fun i' w2 hg => ?_) (h.putO hd g2) (f.putO hW x _) g1⟩
                refine ⟨hG _ _ fun g hgm => hg g (List.mem_cons_of_mem _ hgm), fun hn => ?_⟩
                obtain ⟨y, e1, _, e3⟩ := hrun w2 _ (hg _ List.mem_cons_self hn)
                have hxy : conc s.bx y = conc s.bx x := by
                  unfold eqX at e1
                  split at e1
                  · subst e1; rfl
                  · exact e1.elim
                rw [hxy] at e3
                exact e3
              · rename_i d hrb
                obtain ⟨b, cs, m, hf, hm, hrun⟩ := rdbox_ok h hrb hsem
                obtain ⟨x, g1, g2, g3⟩ := hrun _ hk
                have hB := (h.bx d _ hf).1 hm
                refine ⟨_, fun w' e => g3 w' (e.blkE hB), denDraw_ok ok cv hD hall l ((i, .box d) :: gs) ((i, fun w' => Blk w' b cs) :: ps) _ _ _ _ _ ⟨⟨rfl, b, cs, m, by rw [putO_bx]; exact hf, rfl⟩, hRp⟩ (hZ.putO _ _) (fun i' w2 hg => ?_) (h.putO hd g2) (f.putO hW x _) g1⟩
                refine ⟨hG _ _ fun g hgm => hg g (List.mem_cons_of_mem _ hgm), fun hn => ?_⟩
                exact fun w' e => g3 w' (e.blkE (hg _ List.mem_cons_self hn))
              · exact hk.elim
            | _ => rw [hsem] at hk; exact hk.elim
          | loc =>
            simp only
            rw [hkd] at hk
            cases hsem : sem1 cx s o with
            | read R =>
              rw [hsem] at hk
              simp only at hk
              split at hk
              · rename_i hlb
                obtain ⟨d', b', _, hb', hm', hnd, hrun⟩ := loc_ok h hlb hsem
                obtain ⟨x, g1, g2, g3⟩ := hrun _ hk
                refine ⟨_, fun w' e => g3 w' ?_, rec_ _ _ _ (h.putO hd g2) (f.putO hW x _) hRp (hZ.putO _ _) g1⟩
                have hB := (h.bx d' b' hb').1 hm'
                have hl := blk_lt hB
                obtain ⟨T, hB⟩ := hB
                refine ⟨T, ?_⟩
                rw [e.block _ hl ?_]
                · exact hB
                · rintro ⟨d, hdD, x0, hx0, hxb⟩
                  obtain ⟨y, hy, hym, hne⟩ := hnd d hdD
                  obtain ⟨y0, hy0, hyb⟩ := f.bk d (hD d hdD) y hy
                  rw [hx0] at hy0; injection hy0 with hy0; subst hy0
                  exact h.dist d d' y b' hne hy hb' (by rw [hym]; intro e; cases e) hm' (by rw [← hyb, hxb])
              · exact hk.elim
            | _ => rw [hsem] at hk; exact hk.elim
          | lst =>
            simp only
            rw [hkd] at hk
            cases hsem : sem1 cx s o with
            | lst d b cs =>
              rw [hsem] at hk hs
              simp only at hk
              split at hk
              · rename_i hdD
                simp only [Bool.and_eq_true] at hdD
                obtain ⟨hdD, hfr⟩ := hdD
                have hdD : d ∈ D := by simpa using hdD
                intro w' e
                obtain ⟨h', f'⟩ := post_ext h f e
                obtain ⟨cs0, hb, hs⟩ := hs
                obtain ⟨w2, g1, g2, g3⟩ := hs w' ((h'.bx d _ hb).1 (by intro e; cases e))
                obtain ⟨k1, k2⟩ := lst_ok h' f' hb g2 g3
                obtain ⟨y0, hy0, hyb⟩ := f.bk d (hD d hdD) _ hb
                exact ⟨b, w2, ⟨d, hdD, y0, hy0, hyb⟩, g1, g2, rec_ _ _ _ (k1.putO hd (locOk_v _)) (k2.putO hW _ _) ((hR.free hfr (s' := s.setbox d ⟨b, cs, .rw⟩) fun d2 hd2 => by show find (_ :: _) d2 = _; rw [find_cons, if_neg hd2]).move fun d _ b cs m hf => ⟨m, by rw [putO_bx]; exact hf⟩) (InvZ.none _ _) (hk w' e w2 g2)⟩
              · exact hk.elim
            | _ => rw [hsem] at hk; exact hk.elim
          | new =>
            simp only
            rw [hkd] at hk
            cases hsem : sem1 cx s o with
            | box cs =>
              rw [hsem] at hk hs
              obtain ⟨T, hs⟩ := hs
              simp only at hk
              split at hk
              · rename_i d hod
                split at hk
                · rename_i hfr
                  intro w' e
                  have e2 : Ext w' (w'.alloc (.cells cs.toArray T)) := ⟨rfl, rfl, rfl, by simp, fun k hk => Below.heap_alloc _ _ _ hk⟩
                  refine ⟨_, _, hs w', e2, ?_⟩
                  rw [hod] at hd ⊢
                  obtain ⟨h', f'⟩ := post_ext h f e
                  refine wpC_mono (G' := ⟨G, zX (zI Z w (w'.alloc (.cells cs.toArray T))) w'.heap.size⟩) ⟨fun _ _ h => h, fun b hb => ⟨Or.imp id (fun ⟨h1, h2⟩ => ⟨h1, Nat.lt_of_lt_of_le h2 e2.size⟩) hb, by rcases hb with hb | hb; have := hZ.lt b hb; have := e.size; omega; omega⟩⟩ (rec_ _ _ _ (h'.newbox (by simpa [dstOk] using hd) e2 (Nat.le_refl _) ⟨T, ?_⟩) (f'.newbox h' (hW d hod) _ _ _ e2) (hR.free hfr fun d2 hd2 => by show find (_ :: _) d2 = _; rw [find_cons, if_neg hd2]) ((hZ.zI h (e.trans e2).size (Nat.le_refl _)).newbox _ _ _) (hk _ _ (e.trans e2) e.size (by simp)))
                  show (w'.heap.push _)[w'.heap.size]? = _
                  simp
                · exact hk.elim
              · exact hk.elim
            | new N =>
              rw [hsem] at hk hs
              intro w' e
              obtain ⟨x, w2, g1, g2, g3, g4⟩ := hs w' _ (hk w' e)
              obtain ⟨h', f'⟩ := post_ext h f (e.trans g3)
              exact ⟨_, w2, g1, g3, putv x w2 g2 h' f' (hZ.zI h e.size g3.size) g4⟩
            | _ => rw [hsem] at hk; exact hk.elim
          | big =>
            simp only
            rw [hkd] at hk
            cases hsem : sem1 cx s o with
            | big B =>
              rw [hsem] at hk hs
              intro w' e
              obtain ⟨h', f'⟩ := post_ext h f e
              obtain ⟨x, w2, g1, g2, _, g4⟩ := hs w' _ (hk w' e)
              obtain ⟨k1, k2, k3⟩ := keepP_ok h' g4
              unfold Oper.wp
              rcases g1 with g1 | ⟨g1, rfl⟩
              · rw [g1]; exact ⟨hG _ _ (guards_ok k2 hR k1).1, putv x w2 g2 k2 (f'.kept k3) (InvZ.none _ _) (guards_ok k2 hR k1).2⟩
              · rw [g1]; exact ⟨hG _ _ (guards_ok k2 hR k1).1, putv _ w2 g2 k2 (f'.kept k3) (InvZ.none _ _) (guards_ok k2 hR k1).2⟩
            | lst d b cs =>
              rw [hsem] at hk hs
              simp only at hk
              intro w' e
              obtain ⟨h', f'⟩ := post_ext h f e
              obtain ⟨cs0, hb, hs⟩ := hs
              obtain ⟨w2, g1, g2, g3⟩ := hs w' ((h'.bx d _ hb).1 (by intro e; cases e))
              obtain ⟨k1, k2⟩ := lst_ok h' f' hb g2 g3
              have hR2 : GR (s.setbox d ⟨b, cs, .rw⟩) (killG d gs) ps := GR.kill (fun d2 hd2 => by show find (_ :: _) d2 = _; rw [find_cons, if_neg hd2]) hR
              unfold Oper.wp
              rw [g1]
              have hgd := guards_ok k1 hR2 (hk w' e w2 g2)
              exact ⟨hG _ _ hgd.1, denDraw_ok ok cv hD hall l (killG d gs) ps G _ _ _ _ (hR2.move fun d _ b cs m hf => ⟨m, by rw [putO_bx]; exact hf⟩) (InvZ.none _ _) hG (k1.putO hd (locOk_v _)) (k2.putO hW _ _) hgd.2⟩
            | call g xs =>
              rw [hsem] at hk hs
              intro w' e
              obtain ⟨h', f'⟩ := post_ext h f e
              obtain ⟨g1, g2⟩ := hs
              unfold Oper.wp
              rw [g2 w']
              refine (ok.O _ cv g xs _ w' g1 (hk w' e)).mono ?_
              intro e w2 hkx
              cases e with
              | returned x =>
                obtain ⟨k1, k2, k3⟩ := keepP_ok h' hkx
                exact ⟨hG _ _ (guards_ok k2 hR k1).1, putv (.v x) w2 (argOk_v x) k2 (f'.kept k3) (InvZ.none _ _) (guards_ok k2 hR k1).2⟩
              | _ => exact hkx.elim
            | callV v vs r =>
              rw [hsem] at hk hs
              intro w' e
              obtain ⟨h', f'⟩ := post_ext h f e
              obtain ⟨g, first, cap, rfl, hb, hcall⟩ := cv v vs _ w' (hk w' e)
              unfold Oper.wp
              rw [hs w', run_value hb]
              refine hcall.mono ?_
              intro e w2 hkx
              cases e with
              | returned x =>
                obtain ⟨us, rfl, hk2⟩ := exVs_some (show exVs r _ from hkx)
                obtain ⟨k1, k2, k3⟩ := keepP_ok h' hk2
                exact ⟨hG _ _ (guards_ok k2 hR k1).1, putv (.v _) w2 (argOk_v _) k2 (f'.kept k3) (InvZ.none _ _) (guards_ok k2 hR k1).2⟩
              | _ => exact hkx.elim
            | _ => rw [hsem] at hk; exact hk.elim
          | alc =>
            simp only
            rw [hkd] at hk
            cases hsem : sem1 cx s o with
            | box cs =>
              rw [hsem] at hk hs
              obtain ⟨T, hs⟩ := hs
              simp only at hk
              split at hk
              · rename_i d hod
                split at hk
                · rename_i hfr
                  refine ⟨fun b => .pointer (some ⟨b, 0, none⟩), .cells cs.toArray T, hs, fun b w' e hz hb => ?_⟩
                  obtain ⟨h', f'⟩ := post_ext h f e
                  rw [hod] at hd ⊢
                  have hblt : b < w'.heap.size := (Array.getElem?_eq_some_iff.1 hb).1
                  refine rec_ _ _ _ (h'.newboxZ (by simpa [dstOk] using hd) ⟨T, hb⟩ (fun d2 b2 hf hm he => ?_) (fun hr => ?_)) (f'.newbox h' (hW d hod) _ _ _ (Ext.refl _)) (hR.free hfr fun d2 hd2 => by show find (_ :: _) d2 = _; rw [find_cons, if_neg hd2]) ((hZ.zI h e.size (Nat.le_refl _)).newbox _ _ _) (hk b w' e hz hblt)
                  · rcases hz with hz | hz
                    · exact hZ.bx d2 b2 hf hm (he ▸ hz)
                    · have := blk_lt ((h.bx d2 b2 hf).1 hm); omega
                  · rcases hz with hz | hz
                    · exact hZ.ro b hr hz
                    · have := h.ro b hr; omega
                · exact hk.elim
              · exact hk.elim
            | new N =>
              rw [hsem] at hk
              simp only at hk
              split at hk
              · rename_i bytes z x y hms
                obtain ⟨h0, hle, hbb, h62, hk⟩ := hk
                obtain ⟨T, hrun⟩ := ok_mks h hms h0 hle hbb h62
                refine ⟨fun b => .slice (some ⟨b, 0, none⟩) x.toNat y.toNat, .cells (zeros z y.toNat).toArray T, hrun, fun b w' e hz hb => ?_⟩
                obtain ⟨h', f'⟩ := post_ext h f e
                exact rec_ _ _ _ (h'.putO hd (locOk_v _)) (f'.putO hW _ _) hRp (((hZ.zI h e.size (Nat.le_refl _)).less fun _ h => h.1).putO _ _) (hk b w' e hz ⟨T, hb⟩)
              · split at hk
                · rename_i hmp
                  refine ⟨fun r => .map (some r), .map #[] 0, ok_mapOf hmp, fun r w' e hz hb => ?_⟩
                  obtain ⟨h', f'⟩ := post_ext h f e
                  exact rec_ _ _ _ (h'.putO hd (locOk_v _)) (f'.putO hW _ _) hRp (((hZ.zI h e.size (Nat.le_refl _)).less fun _ h => h.1).putO _ _) (hk r w' e hz hb)
                · exact hk.elim
            | _ => rw [hsem] at hk; exact hk.elim
          | bigz =>
            simp only
            rw [hkd] at hk
            cases hsem : sem1 cx s o with
            | big B =>
              rw [hsem] at hk hs
              intro w' e
              obtain ⟨h', f'⟩ := post_ext h f e
              obtain ⟨x, w2, g1, g2, _, gz, g4⟩ := hs w' _ (hk w' e)
              obtain ⟨k1, k2, k3⟩ := keepP_ok h' g4
              unfold Oper.wp
              rcases g1 with g1 | ⟨g1, rfl⟩
              · rw [g1]; exact ⟨hG _ _ (guards_ok k2 hR k1).1, gz, putv x w2 g2 k2 (f'.kept k3) (hZ.zI h e.size gz.1) (guards_ok k2 hR k1).2⟩
              · rw [g1]; exact ⟨hG _ _ (guards_ok k2 hR k1).1, gz, putv _ w2 g2 k2 (f'.kept k3) (hZ.zI h e.size gz.1) (guards_ok k2 hR k1).2⟩
            | call g xs =>
              rw [hsem] at hk hs
              intro w' e
              obtain ⟨h', f'⟩ := post_ext h f e
              obtain ⟨g1, g2⟩ := hs
              unfold Oper.wp
              rw [g2 w']
              refine (ok.O _ cv g xs _ w' g1 (hk w' e)).mono ?_
              intro e w2 hkx
              cases e with
              | returned x =>
                obtain ⟨gz, hkx⟩ := hkx
                obtain ⟨k1, k2, k3⟩ := keepP_ok h' hkx
                exact ⟨hG _ _ (guards_ok k2 hR k1).1, gz, putv (.v x) w2 (argOk_v x) k2 (f'.kept k3) (hZ.zI h e.size gz.1) (guards_ok k2 hR k1).2⟩
              | _ => exact hkx.elim
            | _ => rw [hsem] at hk; exact hk.elim
        · rw [if_neg (by rw [hw]; exact Bool.false_ne_true)]
          exact denDraw_ok ok cv hD hall l _ _ _ _ _ _ _ (hR.move fun d _ b cs m hf => ⟨m, by rw [putO_bx, hbx.1]; exact hf⟩) ((hZ.of hbx.2 fun d b' hf => ⟨b', by rw [← hbx.1]; exact hf, rfl, id⟩).putO _ _) hG (h1.putO hd (locOk_v _)) (f1.putO hW _ _) hr
      · exact hk.elim
end

/-! ### What is told -/
def AppOk (s' : S) : (lv : List LV) → Tup lv → Prop
  | [], _ => True
  | .slot k σ :: l, x => (∃ y, find s'.sl k = some y ∧ valOf y = some (σ.enc x.1)) ∧ AppOk s' l x.2
  | .box d σs :: l, x => (∃ b, find s'.bx d = some ⟨b, encs σs x.1, .rw⟩) ∧ AppOk s' l x.2
  | .nbox d σs :: l, x => (find s'.sl d = some (.loc d 0) ∧ find s'.bx d = some ⟨x.1.1, encs σs x.1.2, .rw⟩) ∧ AppOk s' l x.2

theorem encs_decs : ∀ {l : List Shp} {vs : List Value} {xs : ShpsT l}, decs l vs = some xs → encs l xs = vs
  | [], [], xs, _ => rfl
  | σ :: l, v :: vs, xs, h => by
    simp only [decs] at h
    split at h
    · rename_i x ys h1 h2
      injection h with h
      subst h
      simp only [encs]
      rw [Shp.enc_dec h1, encs_decs h2]
    · cases h
  | [], _ :: _, _, h => by cases h
  | _ :: _, [], _, h => by cases h

theorem appTup_ok {s' : S} : ∀ {lv : List LV} {g : Tup lv → Prop}, app lv s' g → ∃ t, g t ∧ AppOk s' lv t
  | [], g, h => ⟨(), h, trivial⟩
  | .slot k σ :: l, g, h => by
    simp only [app] at h
    split at h
    · rename_i y hy
      split at h
      · rename_i v hv
        split at h
        · rename_i x hx
          obtain ⟨t, h1, h2⟩ := appTup_ok h
          exact ⟨(x, t), h1, ⟨y, hy, by rw [Shp.enc_dec hx]; exact hv⟩, h2⟩
        · exact h.elim
      · exact h.elim
    · exact h.elim
  | .box d σs :: l, g, h => by
    simp only [app] at h
    split at h
    · rename_i b cs hb
      split at h
      · rename_i xs hx
        obtain ⟨t, h1, h2⟩ := appTup_ok h
        exact ⟨(xs, t), h1, ⟨b, by rw [encs_decs hx]; exact hb⟩, h2⟩
      · exact h.elim
    · exact h.elim
  | .nbox d σs :: l, g, h => by
    simp only [app] at h
    split at h
    · rename_i d' b cs hs hb
      split at h
      · rename_i xs hd hx
        have hd := Nat.eq_of_beq_eq_true hd
        subst hd
        obtain ⟨t, h1, h2⟩ := appTup_ok h
        exact ⟨((b, xs), t), h1, ⟨hs, by rw [encs_decs hx]; exact hb⟩, h2⟩
      · exact h.elim
    · exact h.elim

theorem find_bindBx {s' : S} {bx : List (Nat × Bx)} {wr : List Nat} (hsame : ∀ d b b', d ∉ wr → find bx d = some b → find s'.bx d = some b' → b.b = b'.b) : ∀ {lv : List LV} {t : Tup lv} {d : Nat} {b : Bx}, AppOk s' lv t → find (bindBx bx wr lv t) d = some b → find s'.bx d = some b ∧ b.m = .rw ∧ inLV lv d = true
  | [], t, d, b, _, h => by cases h
  | .slot k σ :: l, t, d, b, ha, h => by
    obtain ⟨h1, h2, h3⟩ := find_bindBx hsame ha.2 h
    exact ⟨h1, h2, by simpa [inLV] using h3⟩
  | .box d' σs :: l, t, d, b, ha, h => by
    simp only [bindBx] at h
    have nxt : find (bindBx bx wr l t.2) d = some b → find s'.bx d = some b ∧ b.m = .rw ∧ inLV (.box d' σs :: l) d = true := fun h => by
      obtain ⟨h1, h2, h3⟩ := find_bindBx hsame ha.2 h
      exact ⟨h1, h2, by simp [inLV] at h3 ⊢; exact .inr h3⟩
    split at h
    · rename_i b0 cs0 m0 hw hb0
      rw [find_cons] at h
      split at h
      · rename_i e
        subst e
        obtain ⟨b', hb'⟩ := ha.1
        have := hsame d' _ _ (by simpa using hw) hb0 hb'
        have h := Option.some.inj h
        subst h
        simp only at this
        subst this
        exact ⟨hb', rfl, by simp [inLV]⟩
      · exact nxt h
    · exact nxt h
  | .nbox d' σs :: l, t, d, b, ha, h => by
    simp only [bindBx] at h
    rw [find_cons] at h
    split at h
    · rename_i e
      subst e
      have h := Option.some.inj h
      subst h
      exact ⟨ha.1.2, rfl, by simp [inLV]⟩
    · obtain ⟨h1, h2, h3⟩ := find_bindBx hsame ha.2 h
      exact ⟨h1, h2, by simp [inLV] at h3 ⊢; exact .inr h3⟩

theorem bindBx_has {bx : List (Nat × Bx)} {wr : List Nat} : ∀ {lv : List LV} {t : Tup lv} {d : Nat}, (isN lv d = true ∨ (inLV lv d = true ∧ d ∉ wr ∧ ∃ b, find bx d = some b)) → ∃ b, find (bindBx bx wr lv t) d = some b
  | [], t, d, h => by rcases h with h | ⟨h, _⟩ <;> simp [isN, inLV] at h
  | .slot k σ :: l, t, d, h => bindBx_has (lv := l) (t := t.2) (by simpa [isN, inLV] using h)
  | .box d' σs :: l, t, d, h => by
    simp only [bindBx]
    by_cases e : d = d'
    · subst e
      rcases h with h | ⟨h, hw, b, hb⟩
      · have h' : isN l d = true := by simpa [isN] using h
        obtain ⟨b2, hb2⟩ := bindBx_has (bx := bx) (wr := wr) (lv := l) (t := t.2) (.inl h')
        split
        · rw [find_cons, if_pos rfl]; exact ⟨_, rfl⟩
        · exact ⟨b2, hb2⟩
      · have : wr.contains d = false := by simpa using hw
        rw [this, hb]
        simp only
        rw [find_cons, if_pos rfl]
        exact ⟨_, rfl⟩
    · have h' : isN l d = true ∨ (inLV l d = true ∧ d ∉ wr ∧ ∃ b, find bx d = some b) := by
        rcases h with h | ⟨h, hr⟩
        · exact .inl (by simpa [isN] using h)
        · refine .inr ⟨?_, hr⟩
          simp [inLV] at h ⊢
          rcases h with h | h
          · exact absurd h e
          · exact h
      obtain ⟨b2, hb2⟩ := bindBx_has (bx := bx) (wr := wr) (lv := l) (t := t.2) h'
      split
      · rw [find_cons, if_neg (fun x => e x.symm)]; exact ⟨b2, hb2⟩
      · exact ⟨b2, hb2⟩
  | .nbox d' σs :: l, t, d, h => by
    simp only [bindBx]
    rw [find_cons]
    by_cases e : d' = d
    · rw [if_pos e]; exact ⟨_, rfl⟩
    · rw [if_neg e]
      refine bindBx_has (lv := l) (t := t.2) ?_
      rcases h with h | ⟨h, hr⟩
      · refine .inl ?_
        simp [isN] at h ⊢
        rcases h with h | h
        · exact absurd h.symm e
        · exact h
      · refine .inr ⟨?_, hr⟩
        simp [inLV] at h ⊢
        rcases h with h | h
        · exact absurd h.symm e
        · exact h

theorem find_bindSl {s' : S} : ∀ {lv : List LV} {t : Tup lv} {k : Nat} {x : X}, AppOk s' lv t → find (bindSl lv t) k = some x → (∃ v y, x = .v v ∧ find s'.sl k = some y ∧ valOf y = some v) ∨ (find s'.sl k = some x ∧ x = .loc k 0 ∧ isN lv k = true)
  | [], t, k, x, _, h => by cases h
  | .slot k' σ :: l, t, k, x, ha, h => by
    simp only [bindSl] at h
    rw [find_cons] at h
    split at h
    · rename_i e; subst e
      have h := Option.some.inj h
      subst h
      obtain ⟨y, h1, h2⟩ := ha.1
      exact .inl ⟨_, y, rfl, h1, h2⟩
    · exact (find_bindSl ha.2 h).imp id (fun ⟨g, e, h⟩ => ⟨g, e, by simpa [isN] using h⟩)
  | .box d σs :: l, t, k, x, ha, h => by
    exact (find_bindSl (lv := l) (t := t.2) ha.2 h).imp id (fun ⟨g, e, h⟩ => ⟨g, e, by simpa [isN] using h⟩)
  | .nbox d σs :: l, t, k, x, ha, h => by
    simp only [bindSl] at h
    rw [find_cons] at h
    split at h
    · rename_i e; subst e
      have h := Option.some.inj h
      subst h
      exact .inr ⟨ha.1.1, rfl, by simp [isN]⟩
    · exact (find_bindSl ha.2 h).imp id (fun ⟨g, e, h⟩ => ⟨g, e, by simp [isN] at h ⊢; exact .inr h⟩)

theorem find_filter_key {α : Type} {p : Nat → Bool} : ∀ {l : List (Nat × α)} {i : Nat} {x : α}, find (l.filter fun e => p e.1) i = some x → p i = true ∧ find l i = some x
  | [], i, x, h => by cases h
  | (k, y) :: l, i, x, h => by
    rw [find_cons]
    rw [List.filter_cons] at h
    by_cases hk : k = i
    · subst hk
      rw [if_pos rfl]
      split at h
      · rename_i hp; rw [find_cons, if_pos rfl] at h; exact ⟨hp, h⟩
      · rename_i hp
        have := find_filter_key h
        exact absurd this.1 hp
    · rw [if_neg hk]
      split at h
      · rw [find_cons, if_neg hk] at h; exact find_filter_key h
      · exact find_filter_key h
theorem find_filter_has {α : Type} {p : Nat → Bool} : ∀ {l : List (Nat × α)} {i : Nat} {x : α}, p i = true → find l i = some x → find (l.filter fun e => p e.1) i = some x
  | [], i, x, _, h => by cases h
  | (k, y) :: l, i, x, hp, h => by
    rw [find_cons] at h
    rw [List.filter_cons]
    by_cases hk : k = i
    · subst hk
      rw [if_pos rfl] at h
      simp only [hp, if_true]
      rw [find_cons, if_pos rfl]; exact h
    · rw [if_neg hk] at h
      split
      · rw [find_cons, if_neg hk]; exact find_filter_has hp h
      · exact find_filter_has hp h

/-- How an inner state stands to the outer one that is built upon. -/
structure Base (s0 si : S) (lv : List LV) (dr : List Nat) : Prop where
  kept : ∀ d b, find s0.bx d = some b → inLV lv d = false → d ∉ dr → b.m ≠ .out → b.b ∈ si.ro
  ro : ∀ b ∈ s0.ro, b ∈ si.ro
  back : ∀ d b, find si.bx d = some b → ∃ b0, find s0.bx d = some b0 ∧ b0.b = b.b
  fwd : ∀ d b, find s0.bx d = some b → ∃ b1, find si.bx d = some b1 ∧ b.b = b1.b

section
variable {P : Program} {n : Nat} {s0 si s' : S} {a a' : Act} {w w' : World} {lv : List LV} {dr wr : List Nat}

theorem bind_rel (hB : Base s0 si lv dr) (h : Rel P n s0 a w) (h' : Rel P n s' a' w') (f : Fr wr si a w s' a' w') (hdf : s'.df = s0.df) {t : Tup lv} (ha : AppOk s' lv t) : Rel P n (bind lv t s0 wr dr) a' w' := by
  have hsame : ∀ d b b', d ∉ wr → find s0.bx d = some b → find s'.bx d = some b' → b.b = b'.b := fun d b b' hd hb hb' => by
    obtain ⟨b1, h1, e1⟩ := f.bk d hd b' hb'
    obtain ⟨b0, h0, e0⟩ := hB.back d b1 h1
    rw [hb] at h0
    have h0 := Option.some.inj h0
    subst h0
    exact e0.trans e1
  have hro := f.ro
  -- the boxes
  have box : ∀ d b, find (bind lv t s0 wr dr).bx d = some b → (find s'.bx d = some b ∧ b.m = .rw) ∨ (find s0.bx d = some b ∧ d ∉ wr ∧ d ∉ dr ∧ inLV lv d = false ∧ find (bindBx s0.bx wr lv t) d = none) := fun d b hb => by
    simp only [bind] at hb
    rw [find_append] at hb
    split at hb
    · rename_i b1 h1
      have hb := Option.some.inj hb
      subst hb
      obtain ⟨g1, g2, _⟩ := find_bindBx hsame ha h1
      exact .inl ⟨g1, g2⟩
    · rename_i hn
      obtain ⟨g1, g2⟩ := find_filter_key (p := fun d => !(wr.contains d) && !(dr.contains d) && !(inLV lv d)) hb
      simp at g1
      exact .inr ⟨g2, g1.1.1, g1.1.2, g1.2, hn⟩
  have inro : ∀ d b, find s0.bx d = some b → d ∉ dr → inLV lv d = false → b.m ≠ .out → b.b ∈ s'.ro := fun d b hb h1 h2 hm => hro _ (hB.kept d b hb h2 h1 hm)
  refine ⟨fun k x hx hxb => ?_, h'.size, by rw [h'.df, hdf]; rfl, fun D hD => ⟨(h.dfw D hD).1, (h'.dfw D (by rw [hdf]; exact hD)).2⟩, h.dfn, fun d b hb => ?_, fun d1 d2 b1 b2 hne hb1 hb2 m1 m2 => ?_, fun b hb => ?_⟩
  · -- the slots
    simp only [bind] at hx
    rw [find_append] at hx
    split at hx
    · rename_i y hy
      have hx := Option.some.inj hx
      subst hx
      rcases find_bindSl ha hy with ⟨v, y1, rfl, g1, g2⟩ | ⟨g1, rfl, hn⟩
      · obtain ⟨g3, g4⟩ := h'.sl k _ g1 (fun e => by rw [e] at g2; cases g2)
        refine ⟨?_, fun d off e => by (cases e), xok_v _⟩
        rw [g3]
        have hn : NotLoc y1 := fun d off e => by rw [e] at g2; cases g2
        rw [conc_of hn, valOf_ok g2]; rfl
      · obtain ⟨g3, g4⟩ := h'.sl k _ g1 hxb
        obtain ⟨b, hb⟩ := bindBx_has (bx := s0.bx) (wr := wr) (t := t) (.inl hn)
        obtain ⟨e1, _, _⟩ := find_bindBx hsame ha hb
        have e2 : find (bind lv t s0 wr dr).bx k = some b := by simp only [bind]; rw [find_append, hb]
        refine ⟨?_, fun d off e => by (injection e with e _; subst e; exact ⟨b, e2⟩), xok_loc _ _⟩
        rw [g3]
        simp only [conc, e1, e2]
    · obtain ⟨g1, g2⟩ := find_kill hx hxb
      obtain ⟨g3, g4⟩ := find_filter_key (p := fun t => !(wr.contains t)) g1
      have hk : k ∉ wr := by simpa using g3
      obtain ⟨g5, g6⟩ := h.sl k x g4 hxb
      have tm := f.tm k hk
      cases x with
      | loc d off =>
        obtain ⟨b, hb⟩ := g6.1 d off rfl
        have g2 := g2 d off rfl
        simp at g2
        obtain ⟨⟨g2a, g2b⟩, g2c⟩ := g2
        have e : ∃ b1, find (bind lv t s0 wr dr).bx d = some b1 ∧ b1.b = b.b := by
          by_cases hl : inLV lv d = true
          · obtain ⟨b1, hb1⟩ := bindBx_has (bx := s0.bx) (wr := wr) (t := t) (.inr ⟨hl, g2a, b, hb⟩)
            obtain ⟨e1, _, _⟩ := find_bindBx hsame ha hb1
            exact ⟨b1, by simp only [bind]; rw [find_append, hb1], (hsame d b b1 g2a hb e1).symm⟩
          · refine ⟨b, ?_, rfl⟩
            have hn : find (bindBx s0.bx wr lv t) d = none := by
              cases hq : find (bindBx s0.bx wr lv t) d with
              | none => rfl
              | some b1 => exact absurd (find_bindBx hsame ha hq).2.2 hl
            simp only [bind]
            rw [find_append, hn]
            exact find_filter_has (p := fun d => !(wr.contains d) && !(dr.contains d) && !(inLV lv d)) (by simp [g2a, g2b]; simpa using hl) hb
        obtain ⟨b1, hb1, e1⟩ := e
        refine ⟨?_, fun d' off' e => by (injection e with e _; subst e; exact ⟨b1, hb1⟩), xok_loc _ _⟩
        rw [tm, g5]
        simp only [conc, hb, hb1, e1]
      | v x => exact ⟨by rw [tm, g5]; rfl, fun d off e => by (cases e), xok_v _⟩
      | yl x E => exact ⟨by rw [tm, g5]; rfl, fun d off e => by (cases e), g6.2⟩
      | clo f i x => exact ⟨by rw [tm, g5]; rfl, fun d off e => by (cases e), xok_clo _ _ _⟩
      | bad => exact absurd rfl hxb
  · rcases box d b hb with ⟨g1, g2⟩ | ⟨g1, g2, g3, g4, _⟩
    · obtain ⟨k1, k2, k3⟩ := h'.bx d b g1
      exact ⟨k1, fun hm hr => k2 hm (hro _ (hB.ro _ hr)), fun hm => by rw [g2] at hm; cases hm⟩
    · obtain ⟨k1, k2, k3⟩ := h.bx d b g1
      refine ⟨fun hm => ?_, k2, k3⟩
      obtain ⟨T, hT⟩ := k1 hm
      exact ⟨T, by rw [f.hp _ (hB.kept d b g1 g4 g3 hm)]; exact hT⟩
  · rcases box d1 b1 hb1 with ⟨g1, e1⟩ | ⟨g1, _, g3, g4, _⟩ <;> rcases box d2 b2 hb2 with ⟨k1, e2⟩ | ⟨k1, _, k3, k4, _⟩
    · exact h'.dist d1 d2 b1 b2 hne g1 k1 m1 m2
    · intro e
      exact (h'.bx d1 b1 g1).2.1 e1 (by rw [e]; exact inro d2 b2 k1 k3 k4 m2)
    · intro e
      exact (h'.bx d2 b2 k1).2.1 e2 (by rw [← e]; exact inro d1 b1 g1 g3 g4 m1)
    · exact h.dist d1 d2 b1 b2 hne g1 k1 m1 m2
  · have := h.ro b hb
    have e := f.hp b (hB.ro b hb)
    rw [Array.getElem?_eq_getElem this] at e
    exact (Array.getElem?_eq_some_iff.1 e).1

theorem bind_fr (hB : Base s0 si lv dr) (f : Fr wr si a w s' a' w') {t : Tup lv} (ha : AppOk s' lv t) {W : List Nat} {s00 : S} {a0 : Act} {w0 : World} (f0 : Fr W s00 a0 w0 s0 a w) (hW : ∀ k ∈ wr, k ∈ W) : Fr W s00 a0 w0 (bind lv t s0 wr dr) a' w' := by
  refine ⟨fun k hk => (f.tm k (fun e => hk (hW k e))).trans (f0.tm k hk), f0.ro, f0.df, fun b hb => (f.hp b (hB.ro b (f0.ro b hb))).trans (f0.hp b hb), fun d hd b hb => ?_⟩
  have hsame : ∀ d b b', d ∉ wr → find s0.bx d = some b → find s'.bx d = some b' → b.b = b'.b := fun d b b' hd hb hb' => by
    obtain ⟨b1, h1, e1⟩ := f.bk d hd b' hb'
    obtain ⟨b0, h0, e0⟩ := hB.back d b1 h1
    rw [hb] at h0
    have h0 := Option.some.inj h0
    subst h0
    exact e0.trans e1
  have hd' : d ∉ wr := fun e => hd (hW d e)
  simp only [bind] at hb
  rw [find_append] at hb
  split at hb
  · rename_i b1 h1
    have hb := Option.some.inj hb
    subst hb
    obtain ⟨g1, _, _⟩ := find_bindBx hsame ha h1
    obtain ⟨b2, h2, e2⟩ := f.bk d hd' b1 g1
    obtain ⟨b3, h3, e3⟩ := hB.back d b2 h2
    obtain ⟨b4, h4, e4⟩ := f0.bk d hd b3 h3
    exact ⟨b4, h4, e4.trans (e3.trans e2)⟩
  · obtain ⟨_, g2⟩ := find_filter_key (p := fun d => !(wr.contains d) && !(dr.contains d) && !(inLV lv d)) hb
    exact f0.bk d hd b g2
end
end Go.Sh

/- 'den' is sound: code, functions. -/
namespace Go.Sh
open Go.RowKit

theorem find_map {g : Nat → Bx → Bx} : ∀ (l : List (Nat × Bx)) (i : Nat), find (l.map fun e => (e.1, g e.1 e.2)) i = (find l i).map (g i)
  | [], i => rfl
  | (k, b) :: l, i => by
    rw [List.map_cons, find_cons, find_cons]
    by_cases h : k = i
    · subst h; simp
    · rw [if_neg h, if_neg h]; exact find_map l i

theorem roIds_of {lv : List LV} {dr : List Nat} : ∀ {bx : List (Nat × Bx)} {seen : List Nat} {k : Nat}, k ∈ roIds lv dr seen bx → ∃ d b, d ∉ seen ∧ find bx d = some b ∧ b.b = k ∧ b.m = .rw ∧ inLV lv d = false ∧ d ∉ dr
  | [], seen, k, h => by cases h
  | (d, ⟨b, cs, m⟩) :: l, seen, k, h => by
    simp only [roIds] at h
    have nxt : k ∈ roIds lv dr (d :: seen) l → ∃ d' b', d' ∉ seen ∧ find ((d, ⟨b, cs, m⟩) :: l) d' = some b' ∧ b'.b = k ∧ b'.m = .rw ∧ inLV lv d' = false ∧ d' ∉ dr := fun h => by
      obtain ⟨d', b', h1, h2, h3⟩ := roIds_of h
      simp only [List.mem_cons, not_or] at h1
      exact ⟨d', b', h1.2, by rw [find_cons, if_neg (fun e => h1.1 e.symm)]; exact h2, h3⟩
    split at h
    · rename_i hc
      rcases List.mem_cons.1 h with h | h
      · simp at hc
        exact ⟨d, _, hc.1.1, by rw [find_cons, if_pos rfl], h.symm, rfl, hc.1.2, hc.2⟩
      · exact nxt h
    · exact nxt h
theorem roIds_has {lv : List LV} {dr : List Nat} : ∀ {bx : List (Nat × Bx)} {seen : List Nat} {d : Nat} {b : Bx}, find bx d = some b → b.m = .rw → d ∉ seen → inLV lv d = false → d ∉ dr → b.b ∈ roIds lv dr seen bx
  | [], seen, d, b, h, _, _, _, _ => by cases h
  | (k, ⟨b0, cs, m⟩) :: l, seen, d, b, h, hm, hs, hl, hd => by
    rw [find_cons] at h
    simp only [roIds]
    by_cases hk : k = d
    · subst hk
      rw [if_pos rfl] at h
      have h := Option.some.inj h
      subst h
      simp only at hm
      subst hm
      have : (seen.contains k || inLV lv k || dr.contains k) = false := by simp [hs, hl, hd]
      rw [this]
      exact List.mem_cons_self
    · rw [if_neg hk] at h
      have ih := roIds_has h hm (seen := k :: seen) (by simp [hs]; exact fun e => hk e.symm) hl hd
      split
      · exact List.mem_cons_of_mem _ ih
      · exact ih

section
variable {P : Program} {n : Nat} {s s' : S} {a a' : Act} {w w' : World} {lv : List LV} {dr wr : List Nat}

theorem conc_map {g : Nat → Bx → Bx} (hg : ∀ d b, (g d b).b = b.b) (bx : List (Nat × Bx)) (x : X) : conc (bx.map fun e => (e.1, g e.1 e.2)) x = conc bx x := by
  cases x with
  | loc d off =>
    simp only [conc, find_map]
    cases find bx d with
    | none => rfl
    | some b => simp [hg]
  | _ => rfl

theorem inner_find (d : Nat) : find (s.inner lv dr).bx d = (find s.bx d).map fun b => { b with m := innM b.m (inLV lv d || dr.contains d) } := by
  simp only [S.inner]
  exact find_map (g := fun d b => { b with m := innM b.m (inLV lv d || dr.contains d) }) s.bx d

theorem inner_rel (h : Rel P n s a w) : Rel P n (s.inner lv dr) a w := by
  refine ⟨fun t x hx hb => ?_, h.size, h.df, fun D hD => ⟨List.mem_append_right _ (h.dfw D hD).1, (h.dfw D hD).2⟩, h.dfn, fun d b hb => ?_, fun d1 d2 b1 b2 hne hb1 hb2 m1 m2 => ?_, fun k hk => ?_⟩
  · obtain ⟨h1, h2⟩ := h.sl t x hx hb
    refine ⟨by
      rw [h1]
      simp only [S.inner]
      rw [conc_map (g := fun d b => { b with m := innM b.m (inLV lv d || dr.contains d) }) (fun _ _ => rfl)], fun d off e => ?_, h2.2⟩
    obtain ⟨b, hb⟩ := h2.1 d off e
    rw [inner_find, hb]
    exact ⟨_, rfl⟩
  · rw [inner_find] at hb
    cases hs : find s.bx d with
    | none => rw [hs] at hb; cases hb
    | some b0 =>
      rw [hs] at hb
      have hb := Option.some.inj hb
      subst hb
      obtain ⟨k1, k2, k3⟩ := h.bx d b0 hs
      refine ⟨fun hm => k1 (fun e => hm ?_), fun hm => ?_, fun hm => ?_⟩
      · simp only [e]; unfold innM; split <;> first | rfl | simp_all
      · -- still to be written: told anew, or forgotten
        have hrw : b0.m = .rw ∧ (inLV lv d || dr.contains d) = true := by
          simp only at hm
          unfold innM at hm
          split at hm
          · cases hm
          · rename_i hx
            refine ⟨hm, ?_⟩
            cases hc : (inLV lv d || dr.contains d) with
            | true => rfl
            | false => exact absurd hm (hx hc)
        simp only [S.inner, List.mem_append, not_or]
        refine ⟨fun hk => ?_, k2 hrw.1⟩
        obtain ⟨d', b', _, g1, g2, g3, g4, g5⟩ := roIds_of hk
        by_cases e : d = d'
        · subst e
          simp [g4, g5] at hrw
        · exact h.dist d d' b0 b' e hs g1 (by rw [hrw.1]; intro e; cases e) (by rw [g3]; intro e; cases e) g2.symm
      · simp only [S.inner, List.mem_append]
        simp only at hm
        unfold innM at hm
        split at hm
        · rename_i hc hrw
          simp at hc
          exact .inl (roIds_has hs hrw (by simp) hc.1 hc.2)
        · exact .inr (k3 hm)
  · rw [inner_find] at hb1 hb2
    cases hs1 : find s.bx d1 with
    | none => rw [hs1] at hb1; cases hb1
    | some c1 =>
      cases hs2 : find s.bx d2 with
      | none => rw [hs2] at hb2; cases hb2
      | some c2 =>
        rw [hs1] at hb1
        rw [hs2] at hb2
        have hb1 := Option.some.inj hb1
        have hb2 := Option.some.inj hb2
        subst hb1 hb2
        have q : ∀ (m : BM) f, innM m f ≠ .out → m ≠ .out := fun m f hm e => hm (by rw [e]; unfold innM; split <;> first | rfl | simp_all)
        exact h.dist d1 d2 c1 c2 hne hs1 hs2 (q _ _ m1) (q _ _ m2)
  · simp only [S.inner, List.mem_append] at hk
    rcases hk with hk | hk
    · obtain ⟨d', b', _, g1, g2, g3, _⟩ := roIds_of hk
      rw [← g2]
      exact blk_lt ((h.bx d' b' g1).1 (by rw [g3]; intro e; cases e))
    · exact h.ro k hk

theorem base_outer (h : Rel P n s a w) : Base s (s.inner lv dr) lv dr := by
  refine ⟨fun d b hb hl hd hm => ?_, fun b hb => List.mem_append_right _ hb, fun d b hb => ?_, fun d b hb => ?_⟩
  · cases hbm : b.m with
    | rw => exact List.mem_append_left _ (roIds_has hb hbm (by simp) hl hd)
    | ro => exact List.mem_append_right _ ((h.bx d b hb).2.2 hbm)
    | out => exact absurd hbm hm
  · rw [inner_find] at hb
    cases hs : find s.bx d with
    | none => rw [hs] at hb; cases hb
    | some b0 => rw [hs] at hb; have hb := Option.some.inj hb; subst hb; exact ⟨b0, rfl, rfl⟩
  · exact ⟨{ b with m := innM b.m (inLV lv d || dr.contains d) }, by rw [inner_find, hb]; rfl, rfl⟩
theorem base_inner (h : Rel P n s a w) : Base (s.inner lv dr) (s.inner lv dr) lv dr := by
  refine ⟨fun d b hb hl hd hm => ?_, fun b hb => hb, fun d b hb => ⟨b, hb, rfl⟩, fun d b hb => ⟨b, hb, rfl⟩⟩
  have h' := inner_rel (lv := lv) (dr := dr) h
  have hm' : b.m = .ro := by
    rw [inner_find] at hb
    cases hs : find s.bx d with
    | none => rw [hs] at hb; cases hb
    | some b0 =>
      rw [hs] at hb
      have hb := Option.some.inj hb
      subst hb
      have : (inLV lv d || dr.contains d) = false := by simp [hl, hd]
      simp only [this] at hm ⊢
      cases hb0 : b0.m with
      | rw => rfl
      | ro => rfl
      | out => rw [hb0] at hm; exact absurd rfl hm
  exact (h'.bx d b hb).2.2 hm'

theorem restore_find (d : Nat) : find (s.restore wr s').bx d = (find s'.bx d).map fun b => { b with m := restM b.m (wr.contains d) (find s.bx d) } := by
  simp only [S.restore]
  exact find_map (g := fun d b => { b with m := restM b.m (wr.contains d) (find s.bx d) }) s'.bx d

theorem restore_rel (h : Rel P n s a w) (h' : Rel P n s' a' w') (f : Fr wr (s.inner lv dr) a w s' a' w') (hdf : s'.df = s.df) : Rel P n (s.restore wr s') a' w' := by
  have sub : ∀ k ∈ s.ro, k ∈ s'.ro := fun k hk => f.ro _ (List.mem_append_right _ hk)
  have out : ∀ (m : BM) x y, restM m x y ≠ .out → m ≠ .out := fun m x y hm e => hm (by rw [e]; rfl)
  refine ⟨fun t x hx hb => ?_, h'.size, h'.df, fun D hD => ⟨(h.dfw D (hdf ▸ hD)).1, (h'.dfw D hD).2⟩, h'.dfn, fun d b hb => ?_, fun d1 d2 b1 b2 hne hb1 hb2 m1 m2 => ?_, fun k hk => h'.ro k (sub k hk)⟩
  · obtain ⟨h1, h2⟩ := h'.sl t x hx hb
    refine ⟨by
      rw [h1]
      simp only [S.restore]
      rw [conc_map (g := fun d b => { b with m := restM b.m (wr.contains d) (find s.bx d) }) (fun _ _ => rfl)], fun d off e => ?_, h2.2⟩
    obtain ⟨b, hb⟩ := h2.1 d off e
    rw [restore_find, hb]
    exact ⟨_, rfl⟩
  · rw [restore_find] at hb
    cases hs : find s'.bx d with
    | none => rw [hs] at hb; cases hb
    | some b0 =>
      rw [hs] at hb
      have hb := Option.some.inj hb
      subst hb
      obtain ⟨k1, k2, k3⟩ := h'.bx d b0 hs
      refine ⟨fun hm => k1 (out _ _ _ hm), fun hm => ?_, fun hm => ?_⟩
      · simp only at hm
        unfold restM at hm
        split at hm
        · rename_i bb cs hm0 hw hf
          obtain ⟨b1, g1, g2⟩ := f.bk d (by simpa using hw) b0 hs
          rw [inner_find, hf] at g1
          have g1 := Option.some.inj g1
          subst g1
          have := (h.bx d _ hf).2.1 rfl
          simp only at g2 this ⊢
          rw [← g2]; exact this
        · cases hm
        · cases hm
        · exact fun hk => k2 hm (sub _ hk)
      · simp only at hm
        unfold restM at hm
        split at hm
        · cases hm
        · rename_i bb cs hm0 hw hf
          obtain ⟨b1, g1, g2⟩ := f.bk d (by simpa using hw) b0 hs
          rw [inner_find, hf] at g1
          have g1 := Option.some.inj g1
          subst g1
          have := (h.bx d _ hf).2.2 rfl
          simp only at g2 this ⊢
          rw [← g2]; exact this
        · cases hm
        · rename_i hne1 hne2
          first | exact absurd hm hne1 | exact absurd hm hne2 | (simp_all; done)
  · rw [restore_find] at hb1 hb2
    cases hs1 : find s'.bx d1 with
    | none => rw [hs1] at hb1; cases hb1
    | some c1 =>
      cases hs2 : find s'.bx d2 with
      | none => rw [hs2] at hb2; cases hb2
      | some c2 =>
        rw [hs1] at hb1
        rw [hs2] at hb2
        have hb1 := Option.some.inj hb1
        have hb2 := Option.some.inj hb2
        subst hb1 hb2
        exact h'.dist d1 d2 c1 c2 hne hs1 hs2 (out _ _ _ m1) (out _ _ _ m2)

theorem restore_fr (f : Fr wr (s.inner lv dr) a w s' a' w') {W : List Nat} {s0 : S} {a0 : Act} {w0 : World} (f0 : Fr W s0 a0 w0 s a w) (hW : ∀ k ∈ wr, k ∈ W) : Fr W s0 a0 w0 (s.restore wr s') a' w' := by
  refine ⟨fun k hk => (f.tm k (fun e => hk (hW k e))).trans (f0.tm k hk), f0.ro, (let ⟨p, hp⟩ := f0.df; let ⟨q, hq⟩ := f.df; ⟨q ++ p, by show s'.df = _; rw [hq, List.append_assoc, ← hp]; rfl⟩), fun b hb => (f.hp b (List.mem_append_right _ (f0.ro b hb))).trans (f0.hp b hb), fun d hd b hb => ?_⟩
  rw [restore_find] at hb
  cases hs : find s'.bx d with
  | none => rw [hs] at hb; cases hb
  | some b0 =>
    rw [hs] at hb
    have hb := Option.some.inj hb
    subst hb
    obtain ⟨b1, g1, g2⟩ := f.bk d (fun e => hd (hW d e)) b0 hs
    rw [inner_find] at g1
    cases hs2 : find s.bx d with
    | none => rw [hs2] at g1; cases g1
    | some b2 =>
      rw [hs2] at g1
      have g1 := Option.some.inj g1
      subst g1
      obtain ⟨b3, g3, g4⟩ := f0.bk d hd b2 hs2
      exact ⟨b3, g3, g4.trans g2⟩

def cv : Ex → Exit
  | .nrm => .normal
  | .exit id => .exit id
  | .goto l => .goto l
  | .ret => .ret

def CPost (P : Program) (n : Nat) (W : List Nat) (s0 : S) (a0 : Act) (w0 : World) (K : Ex → S → World → Prop) (e : Exit) (a' : Act) (w' : World) : Prop :=
  ∃ ex s', e = cv ex ∧ Rel P n s' a' w' ∧ Fr W s0 a0 w0 s' a' w' ∧ K ex s' w'

/-! ### A loop over a function -/
theorem find_ptrs {bx : List (Nat × Bx)} : ∀ {l : List (Nat × X)} {t : Nat} {x : X}, find (ptrs bx l) t = some x → x ≠ .bad →
    ∃ y, find l t = some y ∧ y ≠ .bad ∧ ((NotLoc y ∧ x = y) ∨ ∃ d off b cs, y = .loc d off ∧ find bx d = some ⟨b, cs, .out⟩ ∧ x = .v (.pointer (some ⟨b, off, none⟩)))
  | [], t, x, h, _ => by cases h
  | (k, y) :: l, t, x, h, hx => by
    have key : ∀ z, find ((k, z) :: ptrs bx l) t = some x → (z ≠ .bad → y ≠ .bad ∧ ((NotLoc y ∧ z = y) ∨ ∃ d off b cs, y = .loc d off ∧ find bx d = some ⟨b, cs, .out⟩ ∧ z = .v (.pointer (some ⟨b, off, none⟩)))) →
        ∃ y', find ((k, y) :: l) t = some y' ∧ y' ≠ .bad ∧ ((NotLoc y' ∧ x = y') ∨ ∃ d off b cs, y' = .loc d off ∧ find bx d = some ⟨b, cs, .out⟩ ∧ x = .v (.pointer (some ⟨b, off, none⟩))) := fun z hz hk => by
      rw [find_cons] at hz ⊢
      split at hz
      · rename_i e
        rw [if_pos e]
        have hz := Option.some.inj hz
        subst hz
        obtain ⟨h1, h2⟩ := hk hx
        exact ⟨y, rfl, h1, h2⟩
      · rename_i e
        rw [if_neg e]
        exact find_ptrs hz hx
    cases y with
    | loc d off =>
      simp only [ptrs] at h
      split at h
      · rename_i b cs hb
        exact key _ h fun _ => ⟨fun e => (by cases e), .inr ⟨d, off, b, cs, rfl, hb, rfl⟩⟩
      · exact key _ h fun hn => absurd rfl hn
    | bad => exact key _ h fun hn => absurd rfl hn
    | v z => exact key _ h fun _ => ⟨fun e => (by cases e), .inl ⟨notLoc_v z, rfl⟩⟩
    | clo f i c => exact key _ h fun _ => ⟨fun e => (by cases e), .inl ⟨fun d o e => (by cases e), rfl⟩⟩
    | yl v E => exact key _ h fun _ => ⟨fun e => (by cases e), .inl ⟨fun d o e => (by cases e), rfl⟩⟩

/-- What the slots of a frame without boxes say. -/
def SlOk (P : Program) (sl : List (Nat × X)) (tm : Array Value) : Prop := ∀ t x, find sl t = some x → x ≠ .bad → tm[t]? = some (cc x) ∧ ArgOk P x

theorem ptrs_ok {P : Program} {n : Nat} {s : S} {a : Act} {w : World} (h : Rel P n s a w) : SlOk P (ptrs s.bx s.sl) a.tmps := fun t x hx hb => by
  obtain ⟨y, h1, h2, h3⟩ := find_ptrs hx hb
  obtain ⟨g1, g2⟩ := h.sl t y h1 h2
  rcases h3 with ⟨hn, rfl⟩ | ⟨d, off, b, cs, rfl, hf, rfl⟩
  · rw [conc_of hn] at g1; exact ⟨g1, hn, g2.2⟩
  · simp only [conc, hf] at g1
    exact ⟨g1, argOk_v _⟩

theorem SlOk.rel {P : Program} {n : Nat} {sl : List (Nat × X)} {tm : Array Value} (h : SlOk P sl tm) (hs : tm.size = n) {ro : List Nat} {w : World} (hr : ∀ b ∈ ro, b < w.heap.size) : Rel P n ⟨sl, [], ro, []⟩ { tmps := tm, defers := [] } w :=
  ⟨fun t x hx hb => by
    obtain ⟨h1, h2⟩ := h t x hx hb
    exact ⟨by rw [conc_of h2.1]; exact h1, fun d off e => absurd e (h2.1 d off), h2.2⟩, hs, rfl, fun D hD => (by cases hD), List.nodup_nil, fun d b hb => (by cases hb), fun d d' b b' _ hb => (by cases hb), hr⟩

theorem bindPs_ok {P : Program} {n : Nat} : ∀ {ps : List Nat} {vs : List Value} {sl sl' : List (Nat × X)} {tm : Array Value}, bindPs ps vs sl = some sl' → (∀ p ∈ ps, p < n) → tm.size = n → SlOk P sl tm →
    vs.length = ps.length ∧ SlOk P sl' ((ps.zip vs).foldl (fun t (p, v) => t.setIfInBounds p v) tm) ∧ ((ps.zip vs).foldl (fun t (p, v) => t.setIfInBounds p v) tm).size = n
  | [], [], sl, sl', tm, h, _, hs, ho => by simp only [bindPs, Option.some.injEq] at h; subst h; exact ⟨rfl, ho, hs⟩
  | p :: ps, v :: vs, sl, sl', tm, h, hp, hs, ho => by
    simp only [bindPs] at h
    have ho' : SlOk P ((p, .v v) :: sl) (tm.setIfInBounds p v) := fun t x hx hb => by
      rw [find_cons] at hx
      split at hx
      · rename_i e; subst e
        have hx := Option.some.inj hx
        subst hx
        have : p < tm.size := by rw [hs]; exact hp p List.mem_cons_self
        exact ⟨by simp [this, cc], argOk_v _⟩
      · rename_i e
        rw [Array.getElem?_setIfInBounds_ne e]
        exact ho t x hx hb
    obtain ⟨h1, h2, h3⟩ := bindPs_ok h (fun q hq => hp q (List.mem_cons_of_mem _ hq)) (by simp [hs]) ho'
    exact ⟨by simp [h1], by simpa using h2, by simpa using h3⟩
  | [], _ :: _, _, _, _, h, _, _, _ => by cases h
  | _ :: _, [], _, _, _, h, _, _, _ => by cases h

theorem keepB_find : ∀ {bx : List (Nat × Bx)} {d : Nat} {b : Bx}, find (keepB bx) d = some b → ∃ b0, find bx d = some b0 ∧ b.b = b0.b ∧ b.cs = b0.cs ∧ b.m = keepM b0.m
  | [], _, _, h => by cases h
  | (k, ⟨b0, cs, m⟩) :: l, d, b, h => by
    simp only [keepB] at h
    rw [find_cons] at h ⊢
    split at h
    · rename_i e
      have h := Option.some.inj h
      subst h
      exact ⟨⟨b0, cs, m⟩, by rw [if_pos e], rfl, rfl, rfl⟩
    · rename_i e
      obtain ⟨b1, h1, h2⟩ := keepB_find h
      exact ⟨b1, by rw [if_neg e]; exact h1, h2⟩
theorem find_keepB : ∀ {bx : List (Nat × Bx)} {d : Nat} {b : Bx}, find bx d = some b → find (keepB bx) d = some ⟨b.b, b.cs, keepM b.m⟩
  | [], _, _, h => by cases h
  | (k, ⟨b0, cs, m⟩) :: l, d, b, h => by
    simp only [keepB]
    rw [find_cons] at h ⊢
    split at h
    · rename_i e
      have h := Option.some.inj h
      subst h
      rw [if_pos e]
    · rename_i e
      rw [if_neg e]
      exact find_keepB h
theorem conc_keepB {bx : List (Nat × Bx)} {x : X} : conc (keepB bx) x = conc bx x := by
  cases x with
  | loc d off =>
    simp only [conc]
    cases h : find bx d with
    | some b => rw [find_keepB h]
    | none =>
      cases h2 : find (keepB bx) d with
      | none => rfl
      | some b => obtain ⟨b0, h3, _⟩ := keepB_find h2; rw [h] at h3; cases h3
  | _ => rfl
theorem keepB_rel {P : Program} {n : Nat} {s : S} {a : Act} {w w' : World} {l : Nat} (h : Rel P n s a w) (hl : l ∈ s.ro) (ho : Off l w w') (hl' : l < w'.heap.size) : Rel P n ⟨s.sl, keepB s.bx, [l], []⟩ { tmps := a.tmps, defers := [] } w' := by
  refine ⟨fun t x hx hb => ?_, h.size, rfl, fun D hD => (by cases hD), List.nodup_nil, fun d b hb => ?_, fun d d' b b' hne hb hb' hm hm' => ?_, fun b hb => ?_⟩
  · obtain ⟨h1, h2⟩ := h.sl t x hx hb
    refine ⟨by rw [conc_keepB]; exact h1, fun d off e => ?_, h2.2⟩
    obtain ⟨b, hb⟩ := h2.1 d off e
    exact ⟨_, find_keepB hb⟩
  · obtain ⟨b0, h1, h2, h3, h4⟩ := keepB_find hb
    obtain ⟨k1, k2, k3⟩ := h.bx d b0 h1
    cases hm : b0.m with
    | rw =>
      rw [hm] at h4
      have hne : b0.b ≠ l := fun e => k2 hm (e ▸ hl)
      refine ⟨fun _ => ?_, fun _ => ?_, fun e => ?_⟩
      · rw [h2, h3]
        obtain ⟨T, hT⟩ := k1 (by rw [hm]; intro e; cases e)
        exact ⟨T, by rw [ho.block _ hne]; exact hT⟩
      · simp only [List.mem_singleton]; rw [h2]; exact hne
      · rw [h4] at e; cases e
    | ro =>
      rw [hm] at h4
      exact ⟨fun e => absurd h4 e, fun e => (by rw [h4] at e; cases e), fun e => (by rw [h4] at e; cases e)⟩
    | out =>
      rw [hm] at h4
      exact ⟨fun e => absurd h4 e, fun e => (by rw [h4] at e; cases e), fun e => (by rw [h4] at e; cases e)⟩
  · obtain ⟨b0, h1, h2, _, h4⟩ := keepB_find hb
    obtain ⟨b0', h1', h2', _, h4'⟩ := keepB_find hb'
    rw [h2, h2']
    refine h.dist d d' b0 b0' hne h1 h1' (fun e => hm (by rw [h4, e]; rfl)) (fun e => hm' (by rw [h4', e]; rfl))
  · simp only [List.mem_singleton] at hb; subst hb; exact hl'

theorem yl_args (v : Value) (E) (cap : Array Value) : ((X.yl v E :: cap.toList.map X.v).map cc).toArray = #[v] ++ cap := by
  apply Array.ext'
  have : cap.toList.map (cc ∘ X.v) = cap.toList := by
    rw [show (cc ∘ X.v) = id from rfl]; simp
  simp [cc, this]

theorem orE_some {f : Ex → Prop} : ∀ {l : List Ex}, orE f l → ∃ e ∈ l, f e
  | [e], h => ⟨e, by simp, h⟩
  | e :: e' :: l, h => by
    rcases h with h | h
    · exact ⟨e, by simp, h⟩
    · obtain ⟨x, h1, h2⟩ := orE_some h
      exact ⟨x, List.mem_cons_of_mem _ h1, h2⟩

theorem zip_arr (ps : Array Nat) (vs : List Value) (tm : Array Value) : (ps.zip vs.toArray).foldl (fun t (p, v) => t.setIfInBounds p v) tm = (ps.toList.zip vs).foldl (fun t (p, v) => t.setIfInBounds p v) tm := by
  rw [← Array.foldl_toList, Array.toList_zip]

theorem den_ok : ∀ (p : Plan) (cx : Cx) (r : Option Nat) (c : Code) (s : S) (a : Act) (w : World) (K : Ex → S → World → Prop) (W : List Nat) (s0 : S) (a0 : Act) (w0 : World), cx.P.follows .mixedOrders = true → CxOk cx → CVOk cx.P cx.CV → (cx.top = true → r = none) →
    (∀ k ∈ writes c, k ∈ W) → Rel cx.P n s a w → Fr W s0 a0 w0 s a w → den cx n p c s w K → c.wpIn (WF r) 0 cx.P (CPost cx.P n W s0 a0 w0 K) a w := by
  intro p
  induction p with
  | o =>
    intro cx r c s a w K W s0 a0 w0 hf ok cvo htop hW h f hk
    cases c with
    | region id ops draw =>
      cases draw with
      | true => simp only [den] at hk
      | false =>
        simp only [den] at hk
        refine wpIn_region_list (denOps_ok ok cvo (W := W) (s0 := s0) (a0 := a0) (w0 := w0) (K := K .nrm) (fun a w ⟨s', h1, h2, h3⟩ => ⟨.nrm, s', rfl, h1, h2, h3⟩) _ s a w (fun o ho t ht => hW t ?_) h f hk)
        simp only [writes, dstsOf]
        exact List.mem_filterMap.2 ⟨o, ho, ht⟩
    | skip => simp only [den] at hk; exact wpIn_skip ⟨.nrm, s, rfl, h, f, hk⟩
    | label l => simp only [den] at hk; exact wpIn_label ⟨.nrm, s, rfl, h, f, hk⟩
    | exit id => simp only [den] at hk; exact wpIn_exit ⟨.exit id, s, rfl, h, f, hk⟩
    | goto l => simp only [den] at hk; exact wpIn_goto ⟨.goto l, s, rfl, h, f, hk⟩
    | ret => simp only [den] at hk; exact wpIn_ret ⟨.ret, s, rfl, h, f, hk⟩
    | _ => simp only [den] at hk
  | draw D kd ord =>
    intro cx r c s a w K W s0 a0 w0 hf ok cvo htop hW h f hk
    cases c with
    | region id ops draw =>
      cases draw with
      | false => simp only [den] at hk
      | true =>
        simp only [den] at hk
        split at hk
        · rename_i hb
          simp only [Bool.and_eq_true] at hb
          have hD : ∀ d ∈ D, d ∉ dstsOf ops := fun d hd => by
            have := List.all_eq_true.1 hb.2 d hd
            simpa using this
          have hA : ∀ (i : Nat) o, ops[i]? = some o → ∀ t, o.dst = some t → t ∈ dstsOf ops := fun i o ho t ht => by
            simp only [dstsOf]
            exact List.mem_filterMap.2 ⟨o, List.mem_of_getElem? (by rw [Array.getElem?_toList]; exact ho), ht⟩
          exact wpIn_region_C hf hb.1.1 hb.1.2 (R := Post cx n (dstsOf ops) s a w (K .nrm)) (fun a w ⟨s', h1, h2, h3⟩ => ⟨.nrm, s', rfl, h1, f.trans (h2.mono fun t ht => hW t ht), h3⟩) (denDraw_ok ok cvo hD hA ord [] [] _ _ s a w trivial (InvZ.none _ _) (fun _ _ _ => trivial) h (.refl _ _ _ _) hk)
        · exact hk.elim
    | _ => simp only [den] at hk
  | seq p q ihp ihq =>
    intro cx r c s a w K W s0 a0 w0 hf ok cvo htop hW h f hk
    cases c with
    | seq x y =>
      simp only [den] at hk
      have hWx : ∀ k ∈ writes x, k ∈ W := fun k hk => hW k (by simp only [writes]; exact List.mem_append_left _ hk)
      have hWy : ∀ k ∈ writes y, k ∈ W := fun k hk => hW k (by simp only [writes]; exact List.mem_append_right _ hk)
      refine wpIn_seq (wpIn_mono (ihp cx r x s a w _ W s0 a0 w0 hf ok cvo htop hWx h f hk) ?_)
      rintro e a' w' ⟨ex, s', rfl, h1, h2, h3⟩
      cases ex with
      | nrm => exact ihq cx r y s' a' w' K W s0 a0 w0 hf ok cvo htop hWy h1 h2 h3
      | exit id => exact ⟨.exit id, s', rfl, h1, h2, h3⟩
      | goto l => exact ⟨.goto l, s', rfl, h1, h2, h3⟩
      | ret => exact ⟨.ret, s', rfl, h1, h2, h3⟩
    | _ => simp only [den] at hk
  | join lv dr p q ihp ihq =>
    intro cx r c s a w K W s0 a0 w0 hf ok cvo htop hW h f hk
    cases c with
    | seq x y =>
      simp only [den, Join] at hk
      have hWx : ∀ k ∈ writes x, k ∈ W := fun k hk => hW k (by simp only [writes]; exact List.mem_append_left _ hk)
      have hWy : ∀ k ∈ writes y, k ∈ W := fun k hk => hW k (by simp only [writes]; exact List.mem_append_right _ hk)
      refine wpIn_seq (wpIn_mono (ihp cx r x (s.inner lv dr) a w _ (writes x) (s.inner lv dr) a w hf ok cvo htop (fun _ h => h) (inner_rel h) (Fr.refl _ _ _ _) hk) ?_)
      rintro e a' w' ⟨ex, s', rfl, h1, h2, h3⟩
      obtain ⟨hdf, h3⟩ := h2.same (s := s.inner lv dr) h3
      cases ex with
      | nrm =>
        obtain ⟨t, g1, g2⟩ := appTup_ok h3
        exact ihq cx r y _ a' w' K W s0 a0 w0 hf ok cvo htop hWy (bind_rel (base_outer h) h h1 h2 hdf g2) (bind_fr (base_outer h) h2 g2 f hWx) g1
      | exit id => exact ⟨.exit id, _, rfl, restore_rel h h1 h2 hdf, restore_fr h2 f hWx, h3⟩
      | goto l => exact ⟨.goto l, _, rfl, restore_rel h h1 h2 hdf, restore_fr h2 f hWx, h3⟩
      | ret => exact ⟨.ret, _, rfl, restore_rel h h1 h2 hdf, restore_fr h2 f hWx, h3⟩
    | _ => simp only [den] at hk
  | cond p q ihp ihq =>
    intro cx r c s a w K W s0 a0 w0 hf ok cvo htop hW h f hk
    cases c with
    | cond o x y =>
      simp only [den] at hk
      have hWx : ∀ k ∈ writes x, k ∈ W := fun k hk => hW k (by simp only [writes]; exact List.mem_append_left _ hk)
      have hWy : ∀ k ∈ writes y, k ∈ W := fun k hk => hW k (by simp only [writes]; exact List.mem_append_right _ hk)
      split at hk
      · rename_i t he
        obtain ⟨g1, _⟩ := ev_ok h he
        simp only [conc, cc] at g1
        refine wpIn_cond (t := t) g1 ?_
        cases t with
        | true => exact ihp cx r x s a w K W s0 a0 w0 hf ok cvo htop hWx h f hk
        | false => exact ihq cx r y s a w K W s0 a0 w0 hf ok cvo htop hWy h f hk
      · exact hk.elim
    | _ => simp only [den] at hk
  | block p ihp =>
    intro cx r c s a w K W s0 a0 w0 hf ok cvo htop hW h f hk
    cases c with
    | block id x =>
      simp only [den] at hk
      refine wpIn_block (wpIn_mono (ihp cx r x s a w _ W s0 a0 w0 hf ok cvo htop hW h f hk) ?_)
      rintro e a' w' ⟨ex, s', rfl, h1, h2, h3⟩
      cases ex with
      | nrm => exact ⟨.nrm, s', rfl, h1, h2, h3⟩
      | exit j =>
        simp only [cv, Exit.inBlock]
        simp only at h3
        split at h3
        · rename_i hb
          rw [if_pos (Nat.eq_of_beq_eq_true hb)]
          exact ⟨.nrm, s', rfl, h1, h2, h3⟩
        · rename_i hb
          rw [if_neg (Nat.ne_of_beq_eq_false hb)]
          exact ⟨.exit j, s', rfl, h1, h2, h3⟩
      | goto l => exact ⟨.goto l, s', rfl, h1, h2, h3⟩
      | ret => exact ⟨.ret, s', rfl, h1, h2, h3⟩
    | _ => simp only [den] at hk
  | loop lv dr p ihp =>
    intro cx r c s a w K W s0 a0 w0 hf ok cvo htop hW h f hk
    cases c with
    | loop x =>
      simp only [den] at hk
      have hWx : ∀ k ∈ writes x, k ∈ W := fun k hk => hW k (by simpa only [writes] using hk)
      obtain ⟨t0, ⟨I, μ, hI0, hround⟩, happ0⟩ := appTup_ok hk
      have hi := inner_rel (lv := lv) (dr := dr) h
      have fi : Fr (writes x) (s.inner lv dr) a w (s.inner lv dr) a w := Fr.refl _ _ _ _
      refine wpIn_loop_ghost (fun m a1 w1 => ∃ t, Rel cx.P n (bind lv t (s.inner lv dr) (writes x) dr) a1 w1 ∧ Fr (writes x) (s.inner lv dr) a w (bind lv t (s.inner lv dr) (writes x) dr) a1 w1 ∧ I t w1 ∧ μ t w1 = m) (μ t0 w)
        ⟨t0, bind_rel (base_inner h) hi hi fi rfl happ0, bind_fr (base_inner h) fi happ0 fi (fun _ h => h), hI0, rfl⟩ ?_
      rintro m a1 w1 ⟨t, h1, f1, hI, rfl⟩
      refine wpIn_mono (ihp cx r x _ a1 w1 _ (writes x) (s.inner lv dr) a w hf ok cvo htop (fun _ h => h) h1 f1 (hround t w1 hI)) ?_
      rintro e a' w' ⟨ex, s', rfl, h2, f2, h3⟩
      obtain ⟨hdf, h3⟩ := f2.same (s := s.inner lv dr) h3
      cases ex with
      | nrm =>
        obtain ⟨t', ⟨g1, g2⟩, g3⟩ := appTup_ok h3
        exact ⟨_, g2, t', bind_rel (base_inner h) hi h2 f2 hdf g3, bind_fr (base_inner h) f2 g3 fi (fun _ h => h), g1, rfl⟩
      | exit id => exact ⟨.exit id, _, rfl, restore_rel h h2 f2 hdf, restore_fr f2 f hWx, h3⟩
      | goto l => exact ⟨.goto l, _, rfl, restore_rel h h2 f2 hdf, restore_fr f2 f hWx, h3⟩
      | ret => exact ⟨.ret, _, rfl, restore_rel h h2 f2 hdf, restore_fr f2 f hWx, h3⟩
    | _ => simp only [den] at hk
  | scope p ihp =>
    intro cx r c s a w K W s0 a0 w0 hf ok cvo htop hW h f hk
    cases c with
    | scope x =>
      simp only [den] at hk
      split at hk
      · rename_i ht
        have hr := htop ht
        subst hr
        refine wpIn_scope_top (wpIn_mono (ihp cx none x s a w _ W s0 a0 w0 hf ok cvo htop hW h f hk) ?_)
        rintro e a' w' ⟨ex, s', rfl, h1, h2, h3⟩
        cases ex with
        | nrm => exact ⟨.nrm, s', rfl, h1, h2, h3⟩
        | exit j => exact ⟨.exit j, s', rfl, h1, h2, h3⟩
        | goto l => exact h3.elim
        | ret => exact ⟨.ret, s', rfl, h1, h2, h3⟩
      · exact hk.elim
    | _ => simp only [den] at hk
  | exp ds p ihp =>
    intro cx r c s a w K W s0 a0 w0 hf ok cvo htop hW h f hk
    simp only [den] at hk
    obtain ⟨s', h1, f1, _, hk⟩ := expose_ok _ _ _ h f hk
    exact ihp cx r c s' a w K W s0 a0 w0 hf ok cvo htop hW h1 f1 hk
  | rng ds es p q ihp ihq =>
    intro cx r c s a w K W s0 a0 w0 hf ok cvo htop hW h f hk
    cases c with
    | rangeFunc g ps assign body =>
      simp only [den] at hk
      split at hk
      · rename_i gf first cap hb he
        split at hk
        · rename_i hfi hnb
          simp only [Bool.and_eq_true] at hb
          obtain ⟨⟨htp, hes⟩, hps⟩ := hb
          have hr := htop htp
          subst hr
          have hps : ∀ q ∈ ps.toList, q < n := fun q hq => by
            have := List.all_eq_true.1 hps q hq
            simpa using this
          have hfi : first = #[] := by apply Array.ext'; simpa using hfi
          subst hfi
          obtain ⟨g1, _⟩ := ev_ok h he
          simp only [conc, cc] at g1
          obtain ⟨s1, h1, f1, _, hk⟩ := expose_ok _ _ _ h f hk
          refine wpIn_rangeFunc (F := WF none) fun fn _ => ?_
          -- the record
          obtain ⟨rec, hrec⟩ : ∃ rec : Loop, rec = { state := .ready, pending := none, fn, tmps := a.tmps, params := ps, assign, body, defers := w.heap.size } := ⟨_, rfl⟩
          obtain ⟨w1, hw1⟩ : ∃ w1, (w.alloc (.deferred (some []))).alloc (.loop rec) = w1 := ⟨_, rfl⟩
          have hL1 : w1.heap[w.heap.size + 1]? = some (.loop rec) := by
            rw [← hw1]; have := World.alloc_heap_new (w.alloc (.deferred (some []))) (.loop rec); rwa [World.size_alloc] at this
          have hD1 : w1.heap[w.heap.size]? = some (.deferred (some [])) := by
            rw [← hw1]; exact (Below.heap_alloc _ _ _ (by simp)).trans (World.alloc_heap_new w _)
          have e1 : Ext w w1 := by rw [← hw1]; exact (ext_alloc w _).trans (ext_alloc _ _)
          have hlt : w.heap.size + 1 < w1.heap.size := (Array.getElem?_eq_some_iff.1 hL1).1
          have hk := hk w.heap.size (w.heap.size + 1) w1 e1 (Nat.le_refl _) (Nat.lt_succ_self _) hlt
          have hrun := run_enterLoop_outer (P := cx.P) (w := w) fn a.tmps ps assign body
          rw [← hrec, hw1] at hrun
          refine ⟨w.heap.size + 1, [markOf w.heap.size], w1, { target := .fn (.func gf) cap, args := #[.func (.yield (w.heap.size + 1)) #[] #[]] }, w1, gf,
            #[.func (.yield (w.heap.size + 1)) #[] #[]] ++ cap, w1, hrun, ?_, fun _ _ => trivial, ?_, ne_depth, ?_⟩
          · simp only [resolve, g1]
            simp [go_sem]
          · simp [invoke, go_sem, noBody_ok hnb]
          · have hcall := ok.O _ cvo gf _ _ w1 ?_ hk
            · rw [yl_args] at hcall
              refine calls_wf (hcall.mono ?_)
              intro e w7 hans
              cases e with
              | panicked c => exact hans.elim
              | outgrown => exact hans.elim
              | returned v =>
                obtain ⟨hkeep, hafter⟩ := hans
                have hro7 : ∀ b ∈ s1.ro, w7.heap[b]? = w.heap[b]? := fun b hb => (hkeep b (List.mem_cons_of_mem _ hb)).trans (e1.blk (h1.ro b hb))
                have hD7 : w7.heap[w.heap.size]? = some (.deferred (some [])) := (hkeep _ List.mem_cons_self).trans hD1
                -- the state behind it
                have post : ∀ w8, Off (w.heap.size + 1) w7 w8 → Rel cx.P n ⟨ptrs s1.bx s1.sl, [], w.heap.size :: s1.ro, w.heap.size :: s1.df⟩ { a with defers := [markOf w.heap.size] ++ a.defers } w8 ∧
                    Fr W s0 a0 w0 ⟨ptrs s1.bx s1.sl, [], w.heap.size :: s1.ro, w.heap.size :: s1.df⟩ { a with defers := [markOf w.heap.size] ++ a.defers } w8 := fun w8 ho => by
                  have hro8 : ∀ b ∈ s1.ro, w8.heap[b]? = w.heap[b]? := fun b hb => (ho.block b (by have := h1.ro b hb; omega)).trans (hro7 b hb)
                  have hD8 : w8.heap[w.heap.size]? = some (.deferred (some [])) := (ho.block _ (by omega)).trans hD7
                  have hsl := ptrs_ok h1
                  refine ⟨⟨fun t x hx hb => ?_, h1.size, ?_, fun D hD => ?_, ?_, fun d b hb => (by cases hb), fun d d' b b' _ hb => (by cases hb), fun b hb => ?_⟩, ⟨f1.tm, fun b hb => List.mem_cons_of_mem _ (f1.ro b hb), ?_, fun b hb => (hro8 b (f1.ro b hb)).trans (f1.hp b hb), fun d _ b hb => (by cases hb)⟩⟩
                  · obtain ⟨k1, k2⟩ := hsl t x hx hb
                    exact ⟨by rw [conc_of k2.1]; exact k1, fun d off e => absurd e (k2.1 d off), k2.2⟩
                  · simp [h1.df]
                  · rcases List.mem_cons.1 hD with rfl | hD
                    · exact ⟨List.mem_cons_self, hD8⟩
                    · obtain ⟨k1, k2⟩ := h1.dfw D hD
                      exact ⟨List.mem_cons_of_mem _ k1, (hro8 D k1).trans k2⟩
                  · refine List.nodup_cons.2 ⟨fun hm => ?_, h1.dfn⟩
                    have := h1.ro _ (h1.dfw _ hm).1
                    omega
                  · rcases List.mem_cons.1 hb with rfl | hb
                    · exact (Array.getElem?_eq_some_iff.1 hD8).1
                    · have hl := h1.ro b hb
                      have e := hro8 b hb
                      rw [Array.getElem?_eq_getElem hl] at e
                      exact (Array.getElem?_eq_some_iff.1 e).1
                  · obtain ⟨pre, hp⟩ := f1.df
                    exact ⟨w.heap.size :: pre, by rw [hp]; rfl⟩
                rcases hafter with ⟨hrdy, hkn⟩ | hor
                · have hl7 : w7.heap[w.heap.size + 1]? = some (.loop rec) := hrdy.trans hL1
                  have := run_endLoop (P := cx.P) hl7 (by rw [hrec]; intro e; cases e)
                  refine ⟨none, w7.putObj (w.heap.size + 1) (.loop { rec with state := .exhausted }), by rw [this, show rec.pending = none by rw [hrec]], ?_⟩
                  obtain ⟨k1, k2⟩ := post (w7.putObj (w.heap.size + 1) (.loop { rec with state := .exhausted })) (putObj_off _)
                  exact ⟨.nrm, _, rfl, k1, k2, hkn _ (putObj_off _)⟩
                · obtain ⟨ex, hmem, ⟨r0, hr0, hpd⟩, hkn⟩ := orE_some hor
                  rw [hL1] at hr0
                  injection hr0 with hr0; injection hr0 with hr0
                  subst hr0
                  have := run_endLoop (P := cx.P) hpd (by intro e; cases e)
                  refine ⟨some ex.code, _, this, ?_⟩
                  obtain ⟨k1, k2⟩ := post (w7.putObj (w.heap.size + 1) (.loop { rec with state := .exhausted, pending := some ex.code })) (putObj_off _)
                  have hq := hkn (w7.putObj (w.heap.size + 1) (.loop { rec with state := .exhausted, pending := some ex.code })) (putObj_off _)
                  cases ex with
                  | nrm => have := List.all_eq_true.1 hes _ hmem; cases this
                  | exit id => exact wpIn_exit ⟨.exit id, _, rfl, k1, k2, hq⟩
                  | goto id => exact wpIn_goto ⟨.goto id, _, rfl, k1, k2, hq⟩
                  | ret => exact wpIn_ret ⟨.ret, _, rfl, k1, k2, hq⟩
            · -- a round
              intro x hx
              rcases List.mem_cons.1 hx with rfl | hx
              · refine ⟨fun d off e => (by cases e), fun v E e => ?_⟩
                injection e with e2 e3
                subst e2 e3
                refine ⟨_, rfl, fun vs Ky w2 hE => ?_⟩
                obtain ⟨hr2, hE⟩ := hE
                have hl2 : w2.heap[w.heap.size + 1]? = some (.loop rec) := hr2.trans hL1
                have hlt2 := (Array.getElem?_eq_some_iff.1 hl2).1
                split at hE
                · rename_i sl hbind
                  obtain ⟨k1, k2, k3⟩ := bindPs_ok (P := cx.P) hbind hps h1.size (ptrs_ok h1)
                  have hy := run_yield (P := cx.P) (args := vs.toArray) hl2 (by rw [hrec]; simpa using k1)
                  rw [show rec.params = ps by rw [hrec], show rec.tmps = a.tmps by rw [hrec], zip_arr] at hy
                  rw [show rec.fn = fn by rw [hrec], show rec.assign = assign by rw [hrec], show rec.body = body by rw [hrec]] at hy
                  refine ⟨_, _, _, _, hy, roundIn_of_wpIn trivial ?_⟩
                  have okf : CxOk { cx with top := false } := ⟨ok.O, ok.Q⟩
                  have hR0 := k2.rel k3 (ro := [w.heap.size + 1]) (w := w2) (fun b hb => by simp at hb; subst hb; exact hlt2)
                  refine wpIn_mono (ihp { cx with top := false } (some (w.heap.size + 1)) assign _ _ w2 _ (writes assign) _ _ w2 hf okf cvo (fun e => by cases e) (fun _ h => h) hR0 (Fr.refl _ _ _ _) hE) ?_
                  rintro e a3 w3 ⟨ex, s3, rfl, hR3, hF3, hk3⟩
                  cases ex with
                  | nrm =>
                    have hl3 : w3.heap[w.heap.size + 1]? = some (.loop rec) := (hF3.hp _ (by simp)).trans hl2
                    refine ⟨_, run_beginRound hl3 (by rw [hrec]), ?_⟩
                    have hl4 : (w3.putObj (w.heap.size + 1) (.loop { rec with state := .busy })).heap[w.heap.size + 1]? = some (.loop { rec with state := .busy }) := World.putObj_heap_same (Array.getElem?_eq_some_iff.1 hl3).1
                    have hdf3 : a3.defers = [] := by
                      rw [hR3.df, (hF3.same hk3).1]; rfl
                    have hk3 := (hF3.same hk3).2
                    have hR4 := keepB_rel hR3 (hF3.ro _ (by simp)) (putObj_off (w := w3) (.loop { rec with state := .busy })) (Array.getElem?_eq_some_iff.1 hl4).1
                    rw [show ({ tmps := a3.tmps, defers := [] } : Act) = a3 by rw [← hdf3]] at hR4
                    refine wpIn_mono (ihq { cx with top := false } (some (w.heap.size + 1)) body _ a3 _ _ (writes body) _ _ _ hf okf cvo (fun e => by cases e) (fun _ h => h) hR4 (Fr.refl _ _ _ _) (hk3 _ (putObj_off _))) ?_
                    rintro e a5 w5 ⟨ex, s5, rfl, hR5, hF5, hk5⟩
                    have hl5 : w5.heap[w.heap.size + 1]? = some (.loop { rec with state := .busy }) := (hF5.hp _ (by simp)).trans hl4
                    have hlt5 := (Array.getElem?_eq_some_iff.1 hl5).1
                    have fin : ∀ jump, (Instr.endRound (w.heap.size + 1) jump).run cx.P w5 = .ok (.bool jump.isNone) (w5.putObj (w.heap.size + 1) (.loop { rec with state := if jump.isNone then .ready else .done, pending := jump })) := fun jump => by have := run_endRound (P := cx.P) jump hl5; exact this
                    have pend : ∀ c, Pend (w.heap.size + 1) c w1 (w5.putObj (w.heap.size + 1) (.loop { rec with state := .done, pending := some c })) := fun c => ⟨rec, hL1, World.putObj_heap_same hlt5⟩
                    cases ex with
                    | nrm =>
                      refine ⟨_, _, fin none, true, rfl, hk5 _ (putObj_off _) ?_⟩
                      rw [World.putObj_heap_same hlt5, hL1, hrec]
                      rfl
                    | exit id => exact ⟨_, _, fin (some (.exit id)), false, rfl, hk5 _ (putObj_off _) (pend _)⟩
                    | goto id => exact ⟨_, _, fin (some (.goto id)), false, rfl, hk5 _ (putObj_off _) (pend _)⟩
                    | ret => exact ⟨_, _, fin (some .ret), false, rfl, hk5 _ (putObj_off _) (pend _)⟩
                  | exit id => exact hk3.elim
                  | goto l => exact hk3.elim
                  | ret => exact hk3.elim
                · exact hE.elim
              · obtain ⟨v, _, rfl⟩ := List.mem_map.1 hx
                exact argOk_v v
        · exact hk.elim
      · exact hk.elim
    | _ => simp only [den] at hk
end
end Go.Sh

/- 'den' is sound: a function's call. -/
namespace Go.Sh
open Go.RowKit

section
variable {cx : Cx} {n : Nat} {s : S} {a : Act} {w : World}

theorem find_args : ∀ (xs : List X) (i t : Nat) (x : X), find (argSlX i xs) t = some x → ∃ k, t = i + k ∧ xs[k]? = some x
  | [], i, t, x, h => by cases h
  | y :: l, i, t, x, h => by
    simp only [argSlX] at h
    rw [find_cons] at h
    split at h
    · rename_i e
      have h := Option.some.inj h
      subst h
      exact ⟨0, by omega, rfl⟩
    · obtain ⟨k, h1, h2⟩ := find_args l (i + 1) t x h
      exact ⟨k + 1, by omega, by simpa using h2⟩

theorem rel_start {P : Program} {xs : List X} (hx : ∀ x ∈ xs, ArgOk P x) (hn : xs.length ≤ n) (w : World) :
    Rel P n ⟨argSlX 0 xs, [], [], []⟩ { tmps := (xs.map cc).toArray ++ Array.replicate (n - (xs.map cc).toArray.size) undef, defers := [] } w := by
  refine ⟨fun t x ht _ => ?_, by simp; omega, rfl, fun D hD => (by cases hD), List.nodup_nil, fun d b hb => (by cases hb), fun d d' b b' _ hb => (by cases hb), fun b hb => (by cases hb)⟩
  obtain ⟨k, h1, h2⟩ := find_args xs 0 t x ht
  have hk : t = k := by omega
  subst hk
  have hm := List.mem_of_getElem? h2
  have hlt : t < xs.length := (List.getElem?_eq_some_iff.1 h2).1
  refine ⟨?_, fun d off e => absurd e ((hx x hm).1 d off), (hx x hm).2⟩
  rw [conc_of (hx x hm).1]
  rw [Array.getElem?_append_left (by simpa using hlt)]
  simp [h2]

def resF (tmps : Array Value) : ResultVar → Sem Value
  | .tmp t => pure (tmps.getD t undef)
  | .cell x t => do loadVar t (← asAddr (tmps.getD x undef))

theorem rets_ok (h : Rel cx.P n s a w) : ∀ (l : List ResultVar) (K : List Value → Prop), rets cx s w l K → ∃ vs, K vs ∧ (l.mapM (resF a.tmps)).run cx.P w = .ok vs w
  | [], K, hk => ⟨[], hk, by simp⟩
  | .tmp t :: l, K, hk => by
    simp only [rets] at hk
    split at hk
    · rename_i v hv
      obtain ⟨vs, h1, h2⟩ := rets_ok h l _ hk
      have := evv_ok h hv
      simp only [Act.eval] at this
      refine ⟨_, h1, ?_⟩
      simp only [List.mapM_cons, Sem.run_bind, h2, resF, Sem.run_pure, Result.andThen_ok, this]
    · exact hk.elim
  | .cell x t :: l, K, hk => by
    simp only [rets] at hk
    have hs := sem1_ok (o := { dst := none, op := .load t (.tmp x), type := t, pos := "", after := #[], guard := none }) h
    split at hk
    · rename_i R hR
      rw [hR] at hs
      obtain ⟨y, h1, h2, h3⟩ := hs _ hk
      have h3 := h3 w (Ext.refl w)
      split at h1
      · rename_i v hv
        obtain ⟨vs, g1, g2⟩ := rets_ok h l _ h1
        refine ⟨_, g1, ?_⟩
        have hc : conc s.bx y = v := by
          rw [conc_of, valOf_ok hv]
          intro d off e
          rw [e] at hv
          cases hv
        rw [hc] at h3
        simp only [execOp, Act.eval] at h3
        have key : (resF a.tmps (.cell x t)).run cx.P w = .ok v w := by
          show (do loadVar t (← asAddr (a.tmps.getD x undef)) : Sem Value).run cx.P w = _
          generalize a.tmps.getD x undef = u at h3 ⊢
          have h4 : (do loadVar t (← Instr.sureAddr u) : Sem Value).run cx.P w = .ok v w := by
            simp only [Instr.loadAt, Sem.run_bind] at h3 ⊢
            generalize (Instr.sureAddr u).run cx.P w = q at *
            cases q with
            | ok p w1 =>
              simp only [Result.andThen_ok] at h3 ⊢
              generalize (loadVar t p).run cx.P w1 = q at *
              cases q with
              | ok p w1 =>
                simp only [Result.andThen_ok, Sem.run_pure, Result.ok.injEq, Next.value.injEq] at h3
                rw [h3.1, h3.2]
              | halt _ _ => simp at h3
            | halt _ _ => simp at h3
          cases u <;> first
            | (simp [Instr.sureAddr] at h4; done)
            | (rename_i p; cases p with
               | none => simp [Instr.sureAddr] at h4
               | some p => simpa [Instr.sureAddr, asAddr] using h4)
        simp only [List.mapM_cons, Sem.run_bind, key, g2, Sem.run_pure, Result.andThen_ok]
      · exact h1.elim
    · exact hk.elim

theorem results_of {fn : Func} {vs : List Value} (h : (fn.results.toList.mapM (resF a.tmps)).run cx.P w = .ok vs w) : (results fn a.tmps).run cx.P w = .ok (tup vs) w := by
  have e : results fn a.tmps = (do let vs ← fn.results.mapM (resF a.tmps); pure (if h : vs.size = 1 then vs[0] else .tuple vs)) := rfl
  rw [e, Array.mapM_eq_mapM_toList]
  simp only [Sem.run_bind, Sem.run_map, h, Result.andThen_ok, Sem.run_pure]
  congr 1
  match vs with
  | [] => rfl
  | [v] => rfl
  | v :: u :: l => simp [tup]

/-- The marks are taken off; then the results are read. -/
theorem leave_ok {cx : Cx} {n : Nat} {fn : Func} {R : Ending → World → Prop} : ∀ (ds : List Nat) (s : S) (a : Act) (w : World), s.df = ds → Rel cx.P n s a w → offs ds w (fun w' => rets cx ⟨s.sl, s.bx, s.ro, []⟩ w' fn.results.toList fun vs => R (.returned (tup vs)) w') →
    LeavesInM (WF none) 0 cx.P fn a.tmps R (ds.map markOf) .returning w
  | [], s, a, w, hd, h, hk => by
    have h' : Rel cx.P n ⟨s.sl, s.bx, s.ro, []⟩ { a with defers := [] } w := ⟨h.sl, h.size, rfl, fun D hD => (by cases hD), List.nodup_nil, h.bx, h.dist, h.ro⟩
    obtain ⟨vs, g1, g2⟩ := rets_ok h' _ _ hk
    exact ⟨_, results_of (a := a) g2, g1⟩
  | D :: ds, s, a, w, hd, h, hk => by
    obtain ⟨hD1, hD2⟩ := h.dfw D (by rw [hd]; exact List.mem_cons_self)
    have hnd := h.dfn
    rw [hd] at hnd
    refine ⟨(by intro e; cases e), .inl ⟨D, _, rfl, run_takeDeferred hD2, ?_⟩⟩
    have ho : Off D w (w.putObj D (.deferred none)) := putObj_off _
    have h' : Rel cx.P n ⟨s.sl, s.bx, s.ro, ds⟩ { a with defers := ds.map markOf } (w.putObj D (.deferred none)) := by
      refine ⟨h.sl, h.size, rfl, fun D' hD' => ?_, (List.nodup_cons.1 hnd).2, fun d b hb => ?_, h.dist, fun b hb => by rw [ho.size]; exact h.ro b hb⟩
      · obtain ⟨k1, k2⟩ := h.dfw D' (by rw [hd]; exact List.mem_cons_of_mem _ hD')
        exact ⟨k1, by rw [ho.block D' (fun e => (List.nodup_cons.1 hnd).1 (e ▸ hD'))]; exact k2⟩
      · obtain ⟨k1, k2⟩ := h.bx d b hb
        refine ⟨fun hm => ?_, k2⟩
        obtain ⟨T, hT⟩ := k1 hm
        exact ⟨T, by rw [ho.block b.b (fun e => by rw [e, hD2] at hT; cases hT)]; exact hT⟩
    exact leave_ok ds ⟨s.sl, s.bx, s.ro, ds⟩ { a with defers := ds.map markOf } _ rfl h' (hk _ ho)

theorem args_nil {P : Program} : ∀ x ∈ ([] : List X), ArgOk P x := fun _ h => by cases h
theorem args_cons {P : Program} {l : List X} (v : Value) (h : ∀ x ∈ l, ArgOk P x) : ∀ x ∈ X.v v :: l, ArgOk P x := fun x hx => by
  rcases List.mem_cons.1 hx with rfl | hx
  · exact argOk_v v
  · exact h x hx

/-- A context that knows one function more. -/
def Cx.add (P : Program) (cx : Cx) (f : FuncId) (o : CVT → List X → (Value → World → Prop) → World → Prop) (q : CVT → List X → World → (Value → Prop) → Prop) : Cx :=
  { P, CV := cx.CV, top := true, O := fun g CV xs K w => match Nat.beq g f with | true => o CV xs K w | false => cx.O g CV xs K w, Q := fun g CV xs w K => match Nat.beq g f with | true => q CV xs w K | false => cx.Q g CV xs w K }
def Cx.with (cx : Cx) (CV : CVT) : Cx := { P := cx.P, CV, top := true, O := cx.O, Q := cx.Q }
def noCV : CVT := fun _ _ _ _ => False
theorem noCV_ok (P : Program) : CVOk P noCV := fun _ _ _ _ h => h.elim
def Cx.none (P : Program) : Cx := { P, CV := noCV, top := true, O := fun _ _ _ _ _ => False, Q := fun _ _ _ _ _ => False }
theorem CxOk.none (P : Program) : CxOk (Cx.none P) := ⟨fun _ _ _ _ _ _ _ h => h.elim, fun _ _ _ _ _ _ _ h => h.elim⟩
theorem CxOk.with {cx : Cx} (h : CxOk cx) (CV : CVT) : CxOk (cx.with CV) := ⟨h.O, h.Q⟩
theorem CxOk.add {P : Program} {cx : Cx} (h : CxOk cx) (hP : cx.P = P) {f : FuncId} {o : CVT → List X → (Value → World → Prop) → World → Prop} {q : CVT → List X → World → (Value → Prop) → Prop}
    (ho : ∀ CV, CVOk P CV → ∀ xs K w, (∀ x ∈ xs, ArgOk P x) → o CV xs K w → Calls P f (xs.map cc).toArray w (Ans K))
    (hq : ∀ CV, CVOk P CV → ∀ xs K w, (∀ x ∈ xs, ArgOk P x) → q CV xs w K → ∃ v, K v ∧ ∀ w', Ext w w' → Calls P f (xs.map cc).toArray w' fun e w'' => e = .returned v ∧ Ext w' w'') : CxOk (Cx.add P cx f o q) := by
  subst hP
  refine ⟨fun CV hcv g xs K w hx hk => ?_, fun CV hcv g xs K w hx hk => ?_⟩
  · simp only [Cx.add] at hk
    cases hb : Nat.beq g f with
    | true =>
      rw [hb] at hk
      have := Nat.eq_of_beq_eq_true hb
      subst this
      exact ho CV hcv xs K w hx hk
    | false => rw [hb] at hk; exact h.O CV hcv g xs K w hx hk
  · simp only [Cx.add] at hk
    cases hb : Nat.beq g f with
    | true =>
      rw [hb] at hk
      have := Nat.eq_of_beq_eq_true hb
      subst this
      exact hq CV hcv xs K w hx hk
    | false => rw [hb] at hk; exact h.Q CV hcv g xs K w hx hk

/-- Function values, called through what a context knows. -/
def callVal (cx : Cx) (CV : CVT) : CVT := fun v vs K w => match v with
  | .func (.func g) first cap => (match noBodyB cx.P g with | true => cx.O g CV (first.toList.map .v ++ (vs.map .v ++ cap.toList.map .v)) K w | false => False)
  | _ => False
theorem callVal_ok {cx : Cx} (ok : CxOk cx) {CV : CVT} (h : CVOk cx.P CV) : CVOk cx.P (callVal cx CV) := fun v vs K w hk => by
  unfold callVal at hk
  split at hk
  · rename_i g first cap
    split at hk
    · rename_i hb
      refine ⟨g, first, cap, rfl, hb, ?_⟩
      have := ok.O CV h g _ K w (fun x hx => ?_) hk
      · have e : ((first.toList.map X.v ++ (vs.map X.v ++ cap.toList.map X.v)).map cc).toArray = first ++ vs.toArray ++ cap := by
          apply Array.ext'
          have e1 : ∀ l : List Value, l.map (cc ∘ X.v) = l := fun l => by rw [show (cc ∘ X.v) = id from rfl]; simp
          simp [e1]
        rw [e] at this
        exact this
      · simp only [List.mem_append, List.mem_map] at hx
        rcases hx with ⟨v, _, rfl⟩ | ⟨v, _, rfl⟩ | ⟨v, _, rfl⟩ <;> exact argOk_v v
    · exact hk.elim
  · exact hk.elim
/-- .. so many times one within the other. -/
def CVn (cx : Cx) : Nat → CVT
  | 0 => noCV
  | k + 1 => callVal cx (CVn cx k)
theorem CVn_ok {cx : Cx} (ok : CxOk cx) : ∀ k, CVOk cx.P (CVn cx k)
  | 0 => noCV_ok _
  | k + 1 => callVal_ok ok (CVn_ok ok k)

theorem calls_den (hf : cx.P.follows .mixedOrders = true) (ok : CxOk cx) (cv : CVOk cx.P cx.CV) {f : FuncId} {fn : Func} (hfn : cx.P.funcs[f]? = some fn) (plan : Plan) {xs : List X} (hx : ∀ x ∈ xs, ArgOk cx.P x) (hn : xs.length ≤ fn.ntmps) {R : Ending → World → Prop}
    (hk : denF cx fn plan xs w (fun v w' => R (.returned v) w')) : Calls cx.P f (xs.map cc).toArray w R := by
  unfold denF at hk
  split at hk
  · rename_i c hc
    refine (callsIn_wide (n := 0)).1 (callsIn_of_wp_marks (F := WF none) hfn hc trivial ?_ rfl)
    have h0 := rel_start hx hn w
    refine wpIn_mono (den_ok plan cx none c _ _ w _ (writes c) _ _ w hf ok cv (fun _ => rfl) (fun _ h => h) h0 (Fr.refl _ _ _ _) hk) ?_
    have fin : ∀ (e : Exit) (s' : S) (a' : Act) (w' : World), (e = .normal ∨ e = .ret) → Rel cx.P fn.ntmps s' a' w' → (expose s' w' (resOps fn.results.toList) fun s => offs s.df w' fun w' => rets cx ⟨s.sl, s.bx, s.ro, []⟩ w' fn.results.toList fun vs => R (.returned (tup vs)) w') → bodyPostM (WF none) 0 cx.P fn R e a' w' := fun e s' a' w' he h1 h3 => by
      obtain ⟨s2, h2, _, ⟨_, _, _, hdf, _⟩, hr⟩ := expose_ok (W := []) _ _ _ h1 (Fr.refl [] s' a' w') h3
      have := leave_ok s2.df s2 _ w' rfl h2 hr
      rw [← h2.df] at this
      rcases he with rfl | rfl <;> exact this
    rintro e a' w' ⟨ex, s', rfl, h1, _, h3⟩
    cases ex with
    | nrm => exact fin _ s' a' w' (.inl rfl) h1 h3
    | ret => exact fin _ s' a' w' (.inr rfl) h1 h3
    | exit id => exact h3.elim
    | goto l => exact h3.elim
  · exact hk.elim
theorem calls_is (hf : cx.P.follows .mixedOrders = true) (ok : CxOk cx) (cv : CVOk cx.P cx.CV) {f : FuncId} {fn : Func} (hfn : cx.P.funcs[f]? = some fn) (plan : Plan) {xs : List X} (hx : ∀ x ∈ xs, ArgOk cx.P x) (hn : Nat.ble xs.length fn.ntmps = true) {R : Ending → World → Prop} {A : Prop}
    (e : A = denF cx fn plan xs w (fun v w' => R (.returned v) w')) (h : A) : Calls cx.P f (xs.map cc).toArray w R := calls_den hf ok cv hfn plan hx (Nat.le_of_ble_eq_true hn) (e ▸ h)
end
end Go.Sh

/- Memory, as the proofs about the shallow programs speak of it: which blocks a step may turn, slices that are owned, slices that are read. -/
namespace Go.Sh
open Go.RowKit

theorem w64 {n : Int} (h1 : -9223372036854775808 ≤ n) (h2 : n < 9223372036854775808) : IntKind.i64.wrap n = n := by
  rw [IntKind.wrap_i64]; omega
def In64 (n : Int) : Prop := -9223372036854775808 ≤ n ∧ n < 9223372036854775808
/-- Only the blocks of F, of those that were, may have turned. -/
structure Chg (F : Nat → Prop) (w w' : World) : Prop where
  os : w'.os = w.os
  tape : w'.tape = w.tape
  output : w'.output = w.output
  size : w.heap.size ≤ w'.heap.size
  block : ∀ k, k < w.heap.size → ¬ F k → w'.heap[k]? = w.heap[k]?

theorem Chg.refl (F : Nat → Prop) (w : World) : Chg F w w := ⟨rfl, rfl, rfl, Nat.le_refl _, fun _ _ _ => rfl⟩
theorem Chg.of_ext {F : Nat → Prop} {w w' : World} (h : Ext w w') : Chg F w w' := ⟨h.os, h.tape, h.output, h.size, fun _ hk _ => h.blk hk⟩
theorem Chg.of_off {F : Nat → Prop} {w w' : World} {b : Nat} (h : Off b w w') (hb : F b) : Chg F w w' :=
  ⟨h.os, h.tape, h.output, Nat.le_of_eq h.size.symm, fun k _ hF => h.block k (fun e => hF (e ▸ hb))⟩
theorem Chg.trans {F G : Nat → Prop} {a b c : World} (h : Chg F a b) (k : Chg G b c) (hG : ∀ i, i < a.heap.size → G i → F i) : Chg F a c :=
  ⟨k.os.trans h.os, k.tape.trans h.tape, k.output.trans h.output, Nat.le_trans h.size k.size,
    fun i hi hF => (k.block i (Nat.lt_of_lt_of_le hi h.size) (fun g => hF (hG i hi g))).trans (h.block i hi hF)⟩
theorem Chg.mono {F G : Nat → Prop} {a b : World} (h : Chg F a b) (hG : ∀ i, i < a.heap.size → F i → G i) : Chg G a b :=
  ⟨h.os, h.tape, h.output, h.size, fun i hi hF => h.block i hi (fun f => hF (hG i hi f))⟩
theorem Chg.ext {w w' : World} {F : Nat → Prop} (h : Chg F w w') (hF : ∀ i, i < w.heap.size → ¬ F i) : Ext w w' :=
  ⟨h.os, h.tape, h.output, h.size, fun k hk => h.block k hk (hF k hk)⟩
theorem Chg.keep {w w' : World} {F : Nat → Prop} (h : Chg F w w') {b : Nat} (hb : b < w.heap.size) (hF : ¬ F b) : Keeps [b] w w' := by
  intro c hc; simp at hc; subst hc; exact h.block _ hb hF
theorem Chg.blk {w w' : World} {F : Nat → Prop} (h : Chg F w w') {b : Nat} {cs : List Value} (hb : Blk w b cs) (hF : ¬ F b) : Blk w' b cs := by
  have hl := blk_lt hb
  obtain ⟨T, hb⟩ := hb
  exact ⟨T, by rw [h.block b hl hF]; exact hb⟩
theorem Blk.off {w w' : World} {b c : Nat} {cs : List Value} (hb : Blk w b cs) (h : Off c w w') (hn : b ≠ c) : Blk w' b cs := by
  obtain ⟨T, hb⟩ := hb
  exact ⟨T, by rw [h.block b hn]; exact hb⟩

theorem Blk.set {w : World} {b : Nat} {cs : List Value} (h : Blk w b cs) (i : Nat) (v : Value) : Blk (w.setCell ⟨b, i, none⟩ v) b (cs.set i v) := by
  obtain ⟨T, h⟩ := h
  have hl := (Array.getElem?_eq_some_iff.1 h)
  refine ⟨T, ?_⟩
  simp only [World.setCell, Array.getElem?_modify, h]
  simp
/-- A loop, by an invariant that knows more than the loop's own state. -/
theorem LoopT.gh {σ γ : Type} {body : σ → (σ → World → Prop) → World → Prop} {s : σ} {w : World} (I : γ → σ → World → Prop) (m : γ → Nat) (g : γ) (h : I g s w)
    (hb : ∀ g s w, I g s w → ∀ J : σ → World → Prop, (∀ g' s' w', I g' s' w' → m g' < m g → J s' w') → body s J w) : LoopT σ body s w := by
  classical
  have least : ∀ s w, (∃ n g, I g s w ∧ m g = n) → ∃ n, (∃ g, I g s w ∧ m g = n) ∧ ∀ k, (∃ g, I g s w ∧ m g = k) → n ≤ k := by
    intro s w ⟨n, hn⟩
    induction n using Nat.strongRecOn with
    | ind n ih =>
      by_cases hk : ∃ k, k < n ∧ ∃ g, I g s w ∧ m g = k
      · obtain ⟨k, hkn, hk⟩ := hk; exact ih k hkn hk
      · exact ⟨n, hn, fun k hk' => Nat.le_of_not_lt fun hlt => hk ⟨k, hlt, hk'⟩⟩
  refine ⟨fun s w => ∃ g, I g s w, fun s w => if hh : ∃ n g, I g s w ∧ m g = n then (least s w hh).choose else 0, ⟨g, h⟩, fun s w ⟨g, hg⟩ => ?_⟩
  have hh : ∃ n g, I g s w ∧ m g = n := ⟨_, g, hg, rfl⟩
  obtain ⟨⟨g0, hg0, hm0⟩, _⟩ := (least s w hh).choose_spec
  refine hb g0 s w hg0 _ fun g' s' w' hI hlt => ⟨⟨g', hI⟩, ?_⟩
  have hh' : ∃ n g, I g s' w' ∧ m g = n := ⟨_, g', hI, rfl⟩
  have h2 := (least s' w' hh').choose_spec.2 _ ⟨g', hI, rfl⟩
  simp only [dif_pos hh, dif_pos hh']
  omega

/-- Values of a written list go into a block. -/
def setL : List Value → Nat → List Value → List Value
  | cs, _, [] => cs
  | cs, i, v :: l => setL (cs.set i v) (i + 1) l

theorem stL_blk {b o : Nat} : ∀ (vs : List Value) (j : Nat) (w : World) (cs : List Value) (K : World → Prop), Blk w b cs → o + j + vs.length ≤ cs.length →
    (∀ w', Off b w w' → Blk w' b (setL cs (o + j) vs) → K w') → stL w ⟨b, o, none⟩ vs j K
  | [], j, w, cs, K, hb, _, hk => hk w ⟨rfl, rfl, rfl, rfl, fun _ _ => rfl⟩ hb
  | v :: l, j, w, cs, K, hb, hl, hk => by
    simp only [List.length_cons] at hl
    have ha : (⟨b, o, none⟩ : Addr).add j = ⟨b, o + j, none⟩ := add_add _ rfl j
    simp only [stL, ha]
    refine ⟨?_, frozen_blk hb _, ?_⟩
    · rw [cell_blk hb, List.getElem?_eq_getElem (by omega)]; rfl
    · refine stL_blk l (j + 1) _ (cs.set (o + j) v) K (hb.set _ _) (by simp; omega) fun w' ho hB => hk w' ?_ (by simpa [setL, Nat.add_assoc] using hB)
      exact ⟨ho.os, ho.tape, ho.output, by rw [ho.size]; simp [World.setCell], fun k hkb => by rw [ho.block k hkb, Below.heap_setCell _ _ _ _ hkb]⟩

/-- A record: its cells. -/
structure Rc (α : Type) where
  sz : Nat
  enc : α → List Value
  len : ∀ x, (enc x).length = sz
  pos : 0 < sz
  z : α
  one : ∀ x, ∀ v ∈ enc x, one v = true

/-- All cells of a list of records. -/
def Rc.flat {α : Type} (R : Rc α) (xs : List α) : List Value := xs.flatMap R.enc

section
variable {α : Type} (R : Rc α)
theorem Rc.flat_cons (x : α) (xs : List α) : R.flat (x :: xs) = R.enc x ++ R.flat xs := by simp [Rc.flat]
theorem Rc.flat_append (xs ys : List α) : R.flat (xs ++ ys) = R.flat xs ++ R.flat ys := by simp [Rc.flat]
theorem Rc.flat_len : ∀ xs : List α, (R.flat xs).length = xs.length * R.sz
  | [] => by simp [Rc.flat]
  | x :: xs => by rw [Rc.flat_cons, List.length_append, R.len, Rc.flat_len xs, List.length_cons, Nat.succ_mul, Nat.add_comm]

theorem Rc.flat_get : ∀ (xs : List α) (i j : Nat) (x : α), xs[i]? = some x → j < R.sz → (R.flat xs)[i * R.sz + j]? = (R.enc x)[j]?
  | [], i, j, x, h, _ => by simp at h
  | y :: ys, 0, j, x, h, hj => by
    simp at h; subst h
    rw [Rc.flat_cons, List.getElem?_append_left (by rw [R.len]; omega)]; simp
  | y :: ys, i + 1, j, x, h, hj => by
    simp at h
    rw [Rc.flat_cons, List.getElem?_append_right (by rw [R.len, Nat.succ_mul]; omega), R.len, ← Rc.flat_get ys i j x h hj]
    congr 1; rw [Nat.succ_mul]; omega

theorem setL_append : ∀ (vs cs ds : List Value) (i : Nat), setL (cs ++ ds) (cs.length + i) vs = cs ++ setL ds i vs
  | [], _, _, _ => rfl
  | v :: l, cs, ds, i => by
    simp only [setL]
    rw [List.set_append_right _ _ (by omega), show cs.length + i - cs.length = i by omega, Nat.add_assoc, setL_append]

theorem setL_over : ∀ (vs es ds : List Value), vs.length = es.length → setL (es ++ ds) 0 vs = vs ++ ds := by
  intro vs
  suffices h : ∀ (vs es ds pre : List Value), vs.length = es.length → setL (pre ++ (es ++ ds)) pre.length vs = pre ++ (vs ++ ds) by
    intro es ds hl; simpa using h vs es ds [] hl
  intro vs
  induction vs with
  | nil => intro es ds pre hl; cases es with | nil => rfl | cons _ _ => simp at hl
  | cons v l ih =>
    intro es ds pre hl
    cases es with
    | nil => simp at hl
    | cons e es =>
      simp only [List.length_cons, Nat.add_right_cancel_iff] at hl
      simp only [setL]
      have h := ih es ds (pre ++ [v]) hl
      simp only [List.length_append, List.length_cons, List.length_nil, Nat.zero_add, List.append_assoc, List.cons_append, List.nil_append] at h
      rw [List.set_append_right _ _ (by omega)]
      simpa using h

theorem Rc.flat_set : ∀ (xs : List α) (i : Nat) (y : α), i < xs.length → setL (R.flat xs) (i * R.sz) (R.enc y) = R.flat (xs.set i y)
  | [], i, y, h => by simp at h
  | x :: xs, 0, y, _ => by
    rw [Rc.flat_cons, Nat.zero_mul, setL_over _ _ _ (by rw [R.len, R.len]), List.set_cons_zero, Rc.flat_cons]
  | x :: xs, i + 1, y, h => by
    rw [Rc.flat_cons, List.set_cons_succ, Rc.flat_cons, ← Rc.flat_set xs i y (by simpa using h), ← setL_append, R.len, Nat.succ_mul, Nat.add_comm]

theorem zeros_append (z : List Value) (n : Nat) (hz : 0 < z.length) : zeros z (n + 1) = zeros z n ++ z := by
  apply List.ext_getElem?
  intro i
  simp only [zeros]
  by_cases hi : i < n * z.length
  · rw [List.getElem?_append_left (by simpa using hi)]
    rw [List.getElem?_map, List.getElem?_map, List.getElem?_range hi, List.getElem?_range (by rw [Nat.succ_mul]; omega)]
  · rw [List.getElem?_append_right (by simpa using hi)]
    simp only [List.length_map, List.length_range]
    by_cases hj : i < (n + 1) * z.length
    · rw [List.getElem?_map, List.getElem?_range hj]
      have h2 : i - n * z.length < z.length := by rw [Nat.succ_mul] at hj; omega
      have h3 : i % z.length = i - n * z.length := by
        have : i = (i - n * z.length) + z.length * n := by rw [Nat.mul_comm z.length n]; omega
        rw [this, Nat.add_mul_mod_self_left, Nat.mod_eq_of_lt h2]
        rw [← this]
      simp only [Option.map_some, h3]
      rw [List.getElem?_eq_getElem h2, List.getD_eq_getElem?_getD, List.getElem?_eq_getElem h2]; rfl
    · rw [List.getElem?_eq_none (by simpa using hj), List.getElem?_eq_none (by rw [Nat.succ_mul] at hj; omega)]

theorem Rc.zeros (n : Nat) : Go.Sh.zeros (R.enc R.z) n = R.flat (List.replicate n R.z) := by
  induction n with
  | zero => simp [Go.Sh.zeros, Rc.flat]
  | succ n ih => rw [zeros_append _ _ (by rw [R.len]; exact R.pos), ih, List.replicate_succ', Rc.flat_append]; simp [Rc.flat]
end

/-- The block of a slice. -/
def SV.blk (s : SV) (k : Nat) : Prop := ∃ p, s.a = some p ∧ p.block = k

/-- A slice is read. -/
structure View {α : Type} (R : Rc α) (w : World) (s : SV) (xs : List α) : Prop where
  len : s.len = xs.length
  spot : xs ≠ [] → ∀ p, s.a = some p → p.spot = none
  at_ : ∀ i x, xs[i]? = some x → ∃ p, s.a = some p ∧ ∀ j v, (R.enc x)[j]? = some v → w.cell? ⟨p.block, p.off + i * R.sz + j, none⟩ = some v

/-- A slice is owned: it is all of its block. -/
def Own {α : Type} (R : Rc α) (w : World) (s : SV) (xs : List α) : Prop :=
  ∃ rest : List α, s.len = xs.length ∧ s.cap = xs.length + rest.length ∧ ((s.a = none ∧ xs = [] ∧ rest = []) ∨ ∃ b, s.a = some ⟨b, 0, none⟩ ∧ Blk w b (R.flat (xs ++ rest)))

section
variable {α : Type} {R : Rc α} {w w' : World} {s : SV} {xs : List α}

theorem View.ext (h : View R w s xs) (e : Ext w w') : View R w' s xs :=
  ⟨h.len, h.spot, fun i x hx => by
    obtain ⟨p, hp, hc⟩ := h.at_ i x hx
    exact ⟨p, hp, fun j v hv => e.cell (hc j v hv)⟩⟩
theorem Own.chg {F : Nat → Prop} (h : Own R w s xs) (c : Chg F w w') (hF : ∀ k, s.blk k → ¬ F k) : Own R w' s xs := by
  obtain ⟨rest, h1, h2, h3⟩ := h
  refine ⟨rest, h1, h2, h3.imp id ?_⟩
  rintro ⟨b, hb, hB⟩
  exact ⟨b, hb, c.blk hB (hF _ ⟨_, hb, rfl⟩)⟩
theorem Own.ext (h : Own R w s xs) (e : Ext w w') : Own R w' s xs := h.chg (F := fun _ => False) (.of_ext e) (fun _ _ h => h)
theorem Own.view (h : Own R w s xs) : View R w s xs := by
  obtain ⟨rest, h1, h2, h3⟩ := h
  refine ⟨h1, ?_, ?_⟩
  · rintro _ p hp
    rcases h3 with ⟨h, _, _⟩ | ⟨b, h, _⟩
    · rw [h] at hp; cases hp
    · rw [h] at hp; cases hp; rfl
  · intro i x hx
    rcases h3 with ⟨_, h, _⟩ | ⟨b, h, hB⟩
    · subst h; simp at hx
    · refine ⟨_, h, fun j v hv => ?_⟩
      have hj : j < R.sz := by rw [← R.len x]; exact (List.getElem?_eq_some_iff.1 hv).1
      rw [cell_blk hB, Nat.zero_add, R.flat_get (xs ++ rest) i j x (by rw [List.getElem?_append_left (List.getElem?_eq_some_iff.1 hx).1]; exact hx) hj]
      exact hv
theorem Own.lt (h : Own R w s xs) {k : Nat} (hk : s.blk k) : k < w.heap.size := by
  obtain ⟨rest, _, _, h3⟩ := h
  obtain ⟨p, hp, rfl⟩ := hk
  rcases h3 with ⟨h, _, _⟩ | ⟨b, h, hB⟩
  · rw [h] at hp; cases hp
  · rw [h] at hp; cases hp; exact blk_lt hB
theorem Own.nil : Own R w ⟨none, 0, 0⟩ [] := ⟨[], rfl, rfl, .inl ⟨rfl, rfl, rfl⟩⟩

/-- An element's address. -/
theorem View.idx (h : View R w s xs) {i : Int} (h0 : 0 ≤ i) (hl : i.toNat < xs.length) {K : Addr → Prop}
    (hk : ∀ a, a.spot = none → (∀ j v, (R.enc xs[i.toNat])[j]? = some v → w.cell? (a.add j) = some v) → K a) : Idx s.a s.len i R.sz K := by
  obtain ⟨p, hp, hc⟩ := h.at_ i.toNat _ (List.getElem?_eq_getElem hl)
  have hs := h.spot (fun e => by subst e; simp at hl) p hp
  refine ⟨p, hp, h0, by rw [h.len]; omega, hk _ ?_ fun j v hv => ?_⟩
  · rw [add_add _ hs]
  · have := hc j v hv
    rw [add_add _ hs, add_add _ rfl]
    exact this

/-- An owned element is written. -/
theorem Own.put (h : Own R w s xs) {i : Int} (h0 : 0 ≤ i) (hl : i.toNat < xs.length) {K : Addr → Prop}
    (hk : ∀ b, s.a = some ⟨b, 0, none⟩ → (∀ (y : α) (w1 : World) (K' : World → Prop), Own R w1 s xs → (∀ w', Off b w1 w' → Own R w' s (xs.set i.toNat y) → K' w') → stL w1 ⟨b, i.toNat * R.sz, none⟩ (R.enc y) 0 K') → K ⟨b, i.toNat * R.sz, none⟩) :
    Idx s.a s.len i R.sz K := by
  obtain ⟨rest, h1, h2, h3⟩ := h
  rcases h3 with ⟨_, h, _⟩ | ⟨b, h, hB⟩
  · subst h; simp at hl
  · refine ⟨_, h, h0, by rw [h1]; omega, ?_⟩
    rw [add_add _ rfl]
    simp only [Nat.zero_add]
    refine hk b h fun y w1 K' hO hK => ?_
    obtain ⟨rest, h1, h2, h3⟩ := hO
    rcases h3 with ⟨h', _, _⟩ | ⟨b', h', hB'⟩
    · rw [h] at h'; cases h'
    · rw [h] at h'; cases h'
      have hlen : i.toNat * R.sz + R.sz ≤ (xs ++ rest).length * R.sz := by
        rw [← Nat.succ_mul]; exact Nat.mul_le_mul_right _ (by simp; omega)
      refine stL_blk (R.enc y) 0 w1 _ K' hB' ?_ fun w' ho hB2 => hK w' ho ?_
      · rw [R.flat_len, R.len]; simpa using hlen
      · rw [Nat.add_zero, R.flat_set (xs ++ rest) _ _ (by simp; omega), List.set_append_left _ _ hl] at hB2
        exact ⟨rest, by simpa using h1, by simpa using h2, .inr ⟨_, h, hB2⟩⟩

/-- make -/
theorem Own.mk {bytes : Nat} {n : Int} {K : SV → World → Prop} (h0 : 0 ≤ n) (hb : (bytes : Int) * n ≤ 2 ^ 48) (hn : n < 2 ^ 62)
    (hk : ∀ b w', Ext w w' → w.heap.size ≤ b → Own R w' ⟨some ⟨b, 0, none⟩, n.toNat, n.toNat⟩ (List.replicate n.toNat R.z) → K ⟨some ⟨b, 0, none⟩, n.toNat, n.toNat⟩ w') :
    MkS bytes (R.enc R.z) n n w K :=
  ⟨h0, Int.le_refl _, hb, hn, fun b w' e hs hB => hk b w' e hs ⟨[], by simp, by simp, .inr ⟨b, rfl, by rw [List.append_nil, ← R.zeros]; exact hB⟩⟩⟩
theorem flat_one (xs : List α) : ∀ v ∈ R.flat xs, one v = true := by
  intro v hv
  simp only [Rc.flat, List.mem_flatMap] at hv
  obtain ⟨x, _, hx⟩ := hv
  exact R.one x v hx

theorem View.cells {t : SV} {ys : List α} (h : View R w t ys) : SlCells w t.a (R.flat ys) := by
  by_cases hy : ys = []
  · subst hy; exact .inl rfl
  · right
    obtain ⟨y, hy0⟩ : ∃ y, ys[0]? = some y := by cases ys with | nil => exact absurd rfl hy | cons y _ => exact ⟨y, rfl⟩
    obtain ⟨p, hp, _⟩ := h.at_ 0 y hy0
    refine ⟨p, hp, fun j v hv => ?_⟩
    have hj := (List.getElem?_eq_some_iff.1 hv).1
    rw [R.flat_len] at hj
    have hq : j / R.sz < ys.length := Nat.div_lt_of_lt_mul (by rw [Nat.mul_comm]; exact hj)
    obtain ⟨p', hp', hc⟩ := h.at_ (j / R.sz) _ (List.getElem?_eq_getElem hq)
    rw [hp] at hp'; cases hp'
    have hr : j % R.sz < R.sz := Nat.mod_lt _ R.pos
    have he : j / R.sz * R.sz + j % R.sz = j := by rw [Nat.mul_comm]; exact Nat.div_add_mod _ _
    have := R.flat_get ys (j / R.sz) (j % R.sz) _ (List.getElem?_eq_getElem hq) hr
    rw [he, hv] at this
    have h2 := hc _ _ this.symm
    rw [Nat.add_assoc, he] at h2
    rw [add_add _ (h.spot hy p hp)]; exact h2

/-- append -/
theorem Own.app {bytes : Nat} {t : SV} {ys : List α} {K : SV → World → Prop} (h : Own R w s xs) (ht : View R w t ys)
    (hb : (xs.length + ys.length) * bytes ≤ 2 ^ 47) (hn : xs.length + ys.length < 2 ^ 62)
    (hk : ∀ s' w', Chg s.blk w w' → (∀ k, s'.blk k → s.blk k ∨ w.heap.size ≤ k) → Own R w' s' (xs ++ ys) → K s' w') : App bytes (R.enc R.z) s t w K := by
  have hlen : s.len = xs.length := h.view.len
  have hz : (R.enc R.z).length = R.sz := R.len _
  refine ⟨by rw [hlen, ht.len]; exact hb, by rw [hlen, ht.len]; exact hn, R.flat ys, by rw [R.flat_len, ht.len, hz], ht.cells, ?_⟩
  have hv := h.view.cells
  have hO := h
  obtain ⟨rest, h1, h2, h3⟩ := h
  by_cases hc : s.len + t.len ≤ s.cap
  · left
    rw [hlen, ht.len] at hc
    refine ⟨by rw [hlen, ht.len]; exact hc, ?_, ?_⟩
    · rcases h3 with ⟨h, hx, hr⟩ | ⟨b, h, hB⟩
      · left; subst hx hr; simp at h2; rw [h2] at hc; simp at hc; rw [ht.len, hc]; simp
      · right
        have hsz : ∀ j, j < (R.flat ys).length → s.len * R.sz + j < (R.flat (xs ++ rest)).length := by
          intro j hj
          rw [R.flat_len] at hj ⊢
          have : (xs.length + ys.length) * R.sz ≤ (xs ++ rest).length * R.sz := Nat.mul_le_mul_right _ (by simp; omega)
          rw [Nat.add_mul] at this
          rw [hlen]; omega
        refine ⟨_, h, rfl, flat_one ys, fun j hj => ?_, fun j hj => frozen_blk hB _⟩
        rw [hz, Nat.zero_add, cell_blk hB, List.getElem?_eq_getElem (hsz j hj)]; rfl
    · intro w' hp hn'
      rcases h3 with ⟨h, hx, hr⟩ | ⟨b, h, hB⟩
      · have := hn' h
        subst this
        refine hk _ _ (.refl _ _) (fun k hk => .inl hk) ?_
        subst hx hr
        simp at h2
        have : ys = [] := by rw [h2] at hc; simpa using hc
        subst this
        refine ⟨[], ?_, ?_, .inl ⟨h, rfl, rfl⟩⟩ <;> simp [hlen, ht.len, h2]
      · obtain ⟨ho, hc1, hc2, hcs⟩ := hp _ h
        simp only [hz, Nat.zero_add] at hc1 hc2
        refine hk _ _ (.of_off ho ⟨_, h, rfl⟩) (fun k hk => .inl hk) ?_
        obtain ⟨cs', hB', hl'⟩ := hcs _ hB
        have hle : ys.length ≤ rest.length := by omega
        have hyl : R.flat (xs ++ rest) = R.flat xs ++ (R.flat (rest.take ys.length) ++ R.flat (rest.drop ys.length)) := by
          rw [← R.flat_append, List.take_append_drop, R.flat_append]
        have h5 : (R.flat (rest.take ys.length)).length = (R.flat ys).length := by rw [R.flat_len, R.flat_len]; simp [hle]
        have : cs' = R.flat (xs ++ ys ++ rest.drop ys.length) := by
          apply List.ext_getElem?
          intro i
          rw [← cell_blk hB']
          rw [List.append_assoc, R.flat_append, R.flat_append]
          by_cases hi : s.len * R.sz ≤ i ∧ i < s.len * R.sz + (R.flat ys).length
          · have := hc1 (i - s.len * R.sz) _ (List.getElem?_eq_getElem (by omega))
            rw [show s.len * R.sz + (i - s.len * R.sz) = i by omega] at this
            rw [this, List.getElem?_append_right (by rw [R.flat_len, ← hlen]; omega), R.flat_len xs, ← hlen, List.getElem?_append_left (by omega), List.getElem?_eq_getElem (by omega)]
          · rw [hc2 i (by omega), cell_blk hB, hyl]
            by_cases hi2 : i < s.len * R.sz
            · rw [List.getElem?_append_left (by rw [R.flat_len, ← hlen]; exact hi2), List.getElem?_append_left (by rw [R.flat_len, ← hlen]; exact hi2)]
            · have h6 : (R.flat xs).length = s.len * R.sz := by rw [R.flat_len, hlen]
              have hi3 : s.len * R.sz + (R.flat ys).length ≤ i := by omega
              rw [List.getElem?_append_right (by omega), List.getElem?_append_right (by omega), h6, List.getElem?_append_right (by omega), List.getElem?_append_right (by omega), h5, h6]
        subst this
        refine ⟨rest.drop ys.length, by simp [hlen, ht.len], ?_, .inr ⟨b, h, hB'⟩⟩
        show s.cap = _
        rw [h2]; simp; omega
  · right
    refine ⟨by omega, R.flat xs, by rw [R.flat_len, hlen, hz], hv, fun b c w' e hb hle hB => ?_⟩
    refine hk _ _ (.of_ext e) (fun k hk => .inr ?_) ?_
    · obtain ⟨p, hp, rfl⟩ := hk; cases hp; exact hb
    · refine ⟨List.replicate (c - (s.len + t.len)) R.z, by simp [hlen, ht.len], ?_, .inr ⟨b, rfl, ?_⟩⟩
      · rw [hlen, ht.len] at hle ⊢; simp; omega
      · rw [R.zeros, ← R.flat_append, ← R.flat_append] at hB; exact hB

/-- append of one that lies in a block of its own -/
theorem View.one {b : Nat} {x : α} (h : Blk w b (R.enc x)) : View R w ⟨some ⟨b, 0, none⟩, 1, 1⟩ [x] :=
  ⟨rfl, fun _ p hp => by cases hp; rfl, fun i y hy => by
    cases i with
    | zero => simp at hy; subst hy; exact ⟨_, rfl, fun j v hv => by rw [cell_blk h]; simpa using hv⟩
    | succ i => simp at hy⟩
theorem View.all {b : Nat} {xs : List α} {c : Nat} (h : Blk w b (R.flat xs)) : View R w ⟨some ⟨b, 0, none⟩, xs.length, c⟩ xs :=
  ⟨rfl, fun _ p hp => by cases hp; rfl, fun i y hy => ⟨_, rfl, fun j v hv => by
    have hj : j < R.sz := by rw [← R.len y]; exact (List.getElem?_eq_some_iff.1 hv).1
    rw [cell_blk h, Nat.zero_add, R.flat_get xs i j y hy hj]; exact hv⟩⟩
end
end Go.Sh

/- What all plain proofs lean on: records of ints, blocks laid since a world. -/
set_option maxRecDepth 100000
namespace Go.Sh
open Go.RowKit

def RE : Rc (Int × Int) where
  sz := 2
  enc e := [.int .i64 e.1, .int .i64 e.2]
  len _ := rfl
  pos := by decide
  z := (0, 0)
  one := by intro x v hv; simp at hv; rcases hv with rfl | rfl <;> rfl
def RI : Rc Int where
  sz := 1
  enc e := [.int .i64 e]
  len _ := rfl
  pos := by decide
  z := 0
  one := by intro x v hv; simp at hv; subst hv; rfl

theorem addm (b o i : Nat) : (⟨b, o, none⟩ : Addr).add i = ⟨b, o + i, none⟩ := add_add _ rfl i

def RD : Rc (Int × Int × Int) where
  sz := 3
  enc e := [.int .i64 e.1, .int .i64 e.2.1, .int .i64 e.2.2]
  len _ := rfl
  pos := by decide
  z := (0, 0, 0)
  one := by intro x v hv; simp at hv; rcases hv with rfl | rfl | rfl <;> rfl

theorem do_idx {w : World} {s : SV} {ds : List (Int × Int × Int)} (h : View RD w s ds) {i : Nat} (hl : i < ds.length) {K : Addr → Prop}
    (hk : ∀ a, w.cell? (a.add 0) = some (.int .i64 ds[i].1) → w.cell? (a.add 1) = some (.int .i64 ds[i].2.1) → w.cell? (a.add 2) = some (.int .i64 ds[i].2.2) → K a) : Idx s.a s.len (i : Int) 3 K := by
  refine View.idx (R := RD) h (by omega) (by simpa using hl) fun a _ hc => ?_
  simp only [Int.toNat_natCast] at hc
  exact hk a (hc 0 _ rfl) (hc 1 _ rfl) (hc 2 _ rfl)

def Dj (F G : Nat → Prop) : Prop := ∀ k, F k → ¬ G k
theorem wsucc {n m : Nat} (h : n < m) (hm : m < 2 ^ 62) : IntKind.i64.wrap ((n : Int) + 1) = ((n + 1 : Nat) : Int) := by
  rw [w64 (by omega) (by omega)]; omega

theorem ext_off {w a a' : World} {b : Nat} (e : Ext w a) (o : Off b a a') (hb : w.heap.size ≤ b) : Ext w a' :=
  ((Chg.of_ext (F := fun k => k = b) e).trans (Chg.of_off (F := fun k => k = b) o rfl) fun _ _ h => h).ext fun i hi e => by omega
theorem Own.off {α : Type} {R : Rc α} {w w' : World} {s : SV} {xs : List α} {b : Nat} (h : Own R w s xs) (o : Off b w w') (hb : ¬ s.blk b) : Own R w' s xs :=
  h.chg (F := fun k => k = b) (.of_off o rfl) fun _ hk e => hb (e ▸ hk)
/-- A slice laid since a world. -/
def Fsh (w : World) (s : SV) : Prop := ∀ k, s.blk k → w.heap.size ≤ k
theorem fsh_nil {w : World} {n c : Nat} : Fsh w ⟨none, n, c⟩ := fun k ⟨p, hp, _⟩ => by cases hp


theorem kp_ext {w w' : World} {bs : List Nat} (e : Ext w w') (h : ∀ b ∈ bs, b < w.heap.size) : Keeps bs w w' := fun c hc => e.blk (h c hc)
theorem kp_chg {w w' : World} {F : Nat → Prop} {bs : List Nat} (c : Chg F w w') (h : ∀ b ∈ bs, b < w.heap.size ∧ ¬ F b) : Keeps bs w w' := fun b hb => c.block b (h b hb).1 (h b hb).2
theorem ext_chg {w a b : World} {F : Nat → Prop} (e : Ext w a) (c : Chg F a b) (hF : ∀ k, F k → w.heap.size ≤ k) : Ext w b :=
  ((Chg.of_ext (F := F) e).trans c fun _ _ h => h).ext fun i hi h => by have := hF i h; omega
theorem Fsh.ext {w w' : World} {s : SV} (h : Fsh w' s) (e : Ext w w') : Fsh w s := fun k hk => Nat.le_trans e.size (h k hk)

theorem add0 {b o : Nat} : (⟨b, o, none⟩ : Addr).add 0 = ⟨b, o, none⟩ := by rw [addm]; rfl
theorem int_idx {w : World} {s : SV} {xs : List Int} (h : View RI w s xs) {i : Nat} (hl : i < xs.length) {K : Addr → Prop}
    (hk : ∀ a, w.cell? a = some (.int .i64 xs[i]) → K a) : Idx s.a s.len (i : Int) 1 K := by
  refine View.idx (R := RI) h (by omega) (by simpa using hl) fun a ha hc => ?_
  have := hc 0 _ rfl
  simp only [Int.toNat_natCast] at this
  obtain ⟨b, o, sp⟩ := a
  simp only at ha; subst ha
  rw [add0] at this
  exact hk _ this

/-- An element of an owned slice is written. -/
theorem own_wr {α : Type} {R : Rc α} {w : World} {s : SV} {xs : List α} (h : Own R w s xs) {i : Nat} (hl : i < xs.length) {K : Addr → Prop}
    (hk : ∀ b, s.a = some ⟨b, 0, none⟩ → (∀ (y : α) (w1 : World) (K' : World → Prop), Own R w1 s xs → (∀ w', Off b w1 w' → Own R w' s (xs.set i y) → K' w') → stL w1 ⟨b, i * R.sz, none⟩ (R.enc y) 0 K') → K ⟨b, i * R.sz, none⟩) :
    Idx s.a s.len (i : Int) R.sz K := by
  refine h.put (i := (i : Int)) (by omega) (by simpa using hl) fun b hb hput => ?_
  simp only [Int.toNat_natCast] at hput ⊢
  exact hk b hb hput
/-- make: a slice laid since. -/
theorem own_mk {α : Type} {R : Rc α} {w : World} {bytes : Nat} {n : Int} {K : SV → World → Prop} (h0 : 0 ≤ n) (hb : (bytes : Int) * n ≤ 2 ^ 48) (hn : n < 2 ^ 62)
    (hk : ∀ s w', Ext w w' → Fsh w s → Own R w' s (List.replicate n.toNat R.z) → K s w') : MkS bytes (R.enc R.z) n n w K :=
  Own.mk (R := R) h0 hb hn fun _ w' e hs hO => hk _ w' e (fun k ⟨p, hp, hq⟩ => by cases hp; rw [← hq]; exact hs) hO

theorem min3 {a b c : Int} : (if c < (if b < a then b else a) then c else (if b < a then b else a)) < 0 ↔ a < 0 ∨ b < 0 ∨ c < 0 := by
  by_cases h : b < a
  · simp only [if_pos h]; split <;> omega
  · simp only [if_neg h]; split <;> omega
theorem min2 {a b m : Int} : m ≥ (if b < a then b else a) ↔ m ≥ a ∨ m ≥ b := by split <;> omega
theorem max2 {a b N : Int} : (if b > a then b else a) ≥ N ↔ a ≥ N ∨ b ≥ N := by split <;> omega

end Go.Sh

/- Hierarchies, in plain lists. -/
set_option maxRecDepth 100000
namespace Go.Sh
open Go.RowKit

/-- From, To, W, Mid, Arc -/
abbrev Wy := Int × Int × Int × Int × Int
def yF (y : Wy) : Int := y.1
def yT (y : Wy) : Int := y.2.1
def yW (y : Wy) : Int := y.2.2.1
def yM (y : Wy) : Int := y.2.2.2.1
def yA (y : Wy) : Int := y.2.2.2.2
def RW : Rc Wy where
  sz := 5
  enc e := [.int .i64 e.1, .int .i64 e.2.1, .int .i64 e.2.2.1, .int .i64 e.2.2.2.1, .int .i64 e.2.2.2.2]
  len _ := rfl
  pos := by decide
  z := (0, 0, 0, 0, 0)
  one := by intro x v hv; simp at hv; rcases hv with rfl | rfl | rfl | rfl | rfl <;> rfl

theorem way_idx {w : World} {s : SV} {ys : List Wy} (h : View RW w s ys) {i : Nat} (hl : i < ys.length) {K : Addr → Prop}
    (hk : ∀ a, a.spot = none → w.cell? (a.add 0) = some (.int .i64 (yF ys[i])) → w.cell? (a.add 1) = some (.int .i64 (yT ys[i])) → w.cell? (a.add 2) = some (.int .i64 (yW ys[i])) → w.cell? (a.add 3) = some (.int .i64 (yM ys[i])) → w.cell? (a.add 4) = some (.int .i64 (yA ys[i])) → K a) : Idx s.a s.len (i : Int) 5 K := by
  refine View.idx (R := RW) h (by omega) (by simpa using hl) fun a ha hc => ?_
  simp only [Int.toNat_natCast] at hc
  exact hk a ha (hc 0 _ rfl) (hc 1 _ rfl) (hc 2 _ rfl) (hc 3 _ rfl) (hc 4 _ rfl)

/-- An array of ints, told by a function. -/
def fi (n : Nat) (f : Nat → Int) : List Int := (List.range n).map f
theorem fi_len (n : Nat) (f : Nat → Int) : (fi n f).length = n := by simp [fi]
theorem fi_get {n : Nat} {f : Nat → Int} {i : Nat} (h : i < (fi n f).length) : (fi n f)[i] = f i := by simp [fi]
theorem fi_congr {n : Nat} {f g : Nat → Int} (h : ∀ j, j < n → f j = g j) : fi n f = fi n g := by
  unfold fi; exact List.map_congr_left fun j hj => h j (List.mem_range.1 hj)
theorem fi_set {n : Nat} {f : Nat → Int} {i : Nat} {x : Int} : (fi n f).set i x = fi n (fun j => if j = i then x else f j) := by
  apply List.ext_getElem
  · simp [fi]
  · intro j h1 h2
    rw [List.getElem_set]
    by_cases e : i = j
    · subst e; rw [if_pos rfl, fi_get, if_pos rfl]
    · rw [if_neg e, fi_get, fi_get, if_neg (Ne.symm e)]
theorem fi_rep (n : Nat) (x : Int) : List.replicate n x = fi n (fun _ => x) := by
  apply List.ext_getElem <;> simp [fi]
theorem fi_rd {w : World} {s : SV} {n : Nat} {f : Nat → Int} (h : View RI w s (fi n f)) {i : Nat} (hi : i < n) {K : Addr → Prop} (hk : ∀ a, w.cell? a = some (.int .i64 (f i)) → K a) : Idx s.a s.len (i : Int) 1 K :=
  int_idx h (by rw [fi_len]; exact hi) fun a ha => hk a (by rw [fi_get] at ha; exact ha)
theorem fi_wr {w : World} {s : SV} {n : Nat} {f : Nat → Int} (h : Own RI w s (fi n f)) {i : Nat} (hi : i < n) {K : Addr → Prop}
    (hk : ∀ a, (∀ (w1 : World) (v : Int) (K' : World → Prop), Own RI w1 s (fi n f) → (∀ w', Chg s.blk w1 w' → Own RI w' s (fi n (fun j => if j = i then v else f j)) → K' w') → stL w1 a [.int .i64 v] 0 K') → K a) :
    Idx s.a s.len (i : Int) 1 K := by
  refine own_wr (R := RI) h (by rw [fi_len]; exact hi) fun b hb hput => ?_
  refine hk _ fun w1 v K' hO hK => ?_
  refine hput v w1 K' hO fun w' o hO' => hK w' (.of_off o ⟨_, hb, rfl⟩) ?_
  rw [fi_set] at hO'; exact hO'

theorem take_snoc' {α : Type} {l : List α} {i : Nat} (h : i < l.length) : l.take (i + 1) = l.take i ++ [l[i]] := by
  rw [List.take_add_one, List.getElem?_eq_getElem h]; rfl

/-- The ranks may be. -/
def OkR (rank : List Int) : Prop := (∀ r ∈ rank, 0 ≤ r ∧ r < rank.length) ∧ rank.Nodup
def rkA (rank : List Int) (v : Int) : Int := rank.getD v.toNat 0
theorem rk_get {rank : List Int} {v : Nat} (h : v < rank.length) : rank[v] = rkA rank (v : Int) := by
  unfold rkA; rw [Int.toNat_natCast, List.getD_eq_getElem?_getD, List.getElem?_eq_getElem h]; rfl

/-- Which way leads from u to v. -/
def isW (u v : Int) (y : Wy) : Bool := yF y == u && yT y == v
def findW (ways : List Wy) (u v : Int) : Option Nat := ways.findIdx? (isW u v)
def ofN : Option Nat → Int | none => -1 | some k => (k : Int)
theorem findW_some {ways : List Wy} {u v : Int} {k : Nat} (h : findW ways u v = some k) : ∃ hk : k < ways.length, yF ways[k] = u ∧ yT ways[k] = v ∧ ∀ j (hj : j < k), ¬ (yF ways[j] = u ∧ yT ways[j] = v) := by
  unfold findW at h
  rw [List.findIdx?_eq_some_iff_getElem] at h
  obtain ⟨hk, h1, h2⟩ := h
  simp only [isW, Bool.and_eq_true, beq_iff_eq] at h1
  refine ⟨hk, h1.1, h1.2, fun j hj hh => h2 j hj ?_⟩
  simp only [isW, hh.1, hh.2, beq_self_eq_true, Bool.and_self]
theorem findW_none {ways : List Wy} {u v : Int} (h : findW ways u v = none) : ∀ k (hk : k < ways.length), ¬ (yF ways[k] = u ∧ yT ways[k] = v) := by
  unfold findW at h
  rw [List.findIdx?_eq_none_iff] at h
  intro k hk hh
  have := h _ (List.getElem_mem hk)
  simp only [isW, hh.1, hh.2, beq_self_eq_true, Bool.and_self] at this
  cases this
theorem findW_snoc (ways : List Wy) (y : Wy) (u v : Int) : findW (ways ++ [y]) u v = match findW ways u v with | some k => some k | none => if yF y = u ∧ yT y = v then some ways.length else none := by
  unfold findW
  rw [List.findIdx?_append]
  cases h : List.findIdx? (isW u v) ways with
  | some k => rfl
  | none =>
    simp only [List.findIdx?_cons, List.findIdx?_nil, Option.none_or]
    by_cases hc : yF y = u ∧ yT y = v
    · rw [if_pos hc]; simp [isW, hc.1, hc.2]
    · rw [if_neg hc, show isW u v y = false by
        simp only [isW]
        rw [Bool.and_eq_false_iff]
        by_cases h1 : yF y = u
        · right; rw [beq_eq_false_iff_ne]; exact fun h2 => hc ⟨h1, h2⟩
        · left; rw [beq_eq_false_iff_ne]; exact h1]
      simp

/-- What a way is by itself, and of those ahead of it. -/
def OkF (n : Nat) (ahead : List Wy) (y : Wy) : Prop :=
  findW ahead (yF y) (yT y) = none ∧ yF y ≠ yT y ∧ 0 ≤ yF y ∧ 0 ≤ yT y ∧ yF y < n ∧ yT y < n ∧ 0 ≤ yW y ∧ yW y ≤ 1152921504606846976
def wW (ways : List Wy) (k : Nat) : Int := yW (ways.getD k (0, 0, 0, 0, 0))
/-- .. and of what it stands for. -/
def OkW (rank : List Int) (ways : List Wy) (y : Wy) : Prop :=
  if yM y = -1 then 0 ≤ yA y ∧ yA y < 67108864
  else yA y = -1 ∧ 0 ≤ yM y ∧ yM y < rank.length ∧ rkA rank (yM y) < rkA rank (yF y) ∧ rkA rank (yM y) < rkA rank (yT y) ∧
    ∃ a b, findW ways (yF y) (yM y) = some a ∧ findW ways (yM y) (yT y) = some b ∧ wW ways a + wW ways b = yW y
def OkFs (n : Nat) (ways : List Wy) : Prop := ∀ i (h : i < ways.length), OkF n (ways.take i) ways[i]
/-- A hierarchy may be. -/
structure OkH (rank : List Int) (ways : List Wy) : Prop where
  n : rank.length ≤ 16777216
  k : ways.length ≤ 67108864
  r : OkR rank
  f : OkFs rank.length ways
  w : ∀ y ∈ ways, OkW rank ways y

theorem OkFs.find {n : Nat} {ways : List Wy} (h : OkFs n ways) {k : Nat} (hk : k < ways.length) : findW ways (yF ways[k]) (yT ways[k]) = some k := by
  cases hf : findW ways (yF ways[k]) (yT ways[k]) with
  | none => exact absurd ⟨rfl, rfl⟩ (findW_none hf k hk)
  | some j =>
    obtain ⟨hj, h1, h2, h3⟩ := findW_some hf
    rcases Nat.lt_trichotomy j k with hlt | rfl | hgt
    · exfalso
      have := (h k hk).1
      refine findW_none this j (by rw [List.length_take]; omega) ?_
      rw [List.getElem_take]; exact ⟨h1, h2⟩
    · rfl
    · exact absurd ⟨rfl, rfl⟩ (h3 k hgt)
theorem OkFs.uniq {n : Nat} {ways : List Wy} (h : OkFs n ways) {j k : Nat} (hj : j < ways.length) (hk : k < ways.length) (h1 : yF ways[j] = yF ways[k]) (h2 : yT ways[j] = yT ways[k]) : j = k := by
  have a := h.find hj; have b := h.find hk
  rw [h1, h2, b] at a; injection a with a; exact a.symm

theorem assoc_upd (m : List (List Int × Value)) (k k' : List Int) (v : Value) : assoc (upd m k v) k' = if k = k' then some v else assoc m k' := by
  induction m with
  | nil =>
    unfold upd assoc
    by_cases h : k = k'
    · simp [h]
    · simp [h]
  | cons p m ih =>
    unfold upd
    by_cases hp : p.1 = k
    · rw [if_pos (by simpa using hp)]
      unfold assoc
      by_cases h : k = k'
      · simp [h]
      · rw [if_neg h]
        simp only [List.find?_cons]
        rw [show (k == k') = false by simpa using h, show (p.1 == k') = false by rw [hp]; simpa using h]
    · rw [if_neg (by simpa using hp)]
      unfold assoc at ih ⊢
      simp only [List.find?_cons]
      by_cases h2 : p.1 = k'
      · rw [show (p.1 == k') = true by simpa using h2]
        rw [if_neg (fun e => hp (h2.trans e.symm))]
      · rw [show (p.1 == k') = false by simpa using h2]
        exact ih

/-- The map of what was seen. -/
def MapOk (mm : List (List Int × Value)) (ways : List Wy) : Prop := ∀ u v, assoc mm [u, v] = (findW ways u v).map fun k => .int .i64 (k : Int)
theorem MapOk.nil : MapOk [] [] := fun u v => rfl
theorem MapOk.step {mm : List (List Int × Value)} {ways : List Wy} {y : Wy} (h : MapOk mm ways) (hn : findW ways (yF y) (yT y) = none) : MapOk (upd mm [yF y, yT y] (.int .i64 (ways.length : Int))) (ways ++ [y]) := by
  intro u v
  rw [assoc_upd, findW_snoc, h u v]
  by_cases hc : yF y = u ∧ yT y = v
  · obtain ⟨rfl, rfl⟩ := hc
    rw [if_pos rfl, hn]; simp
  · rw [if_neg (fun e => hc (by injection e with e1 e2; injection e2 with e2; exact ⟨e1, e2⟩))]
    cases findW ways u v with
    | none => simp [hc]
    | some k => rfl
end Go.Sh

/- Walks, and how far it is, in plain words; arc by arc till nothing is nearer; the nearest first. -/
set_option maxRecDepth 100000
namespace Go.Sh

/-- A walk from s, by edges: where it ends, how long it is. -/
inductive Wk (E : Nat → Nat → Int → Prop) (s : Nat) : Nat → Int → Prop
  | nil : Wk E s s 0
  | snoc {u v : Nat} {d x : Int} : Wk E s u d → E u v x → Wk E s v (d + x)

section
variable {E F : Nat → Nat → Int → Prop} {s u v : Nat} {a b d x y : Int}

theorem Wk.nonneg (hE : ∀ u v x, E u v x → 0 ≤ x) (h : Wk E s v d) : 0 ≤ d := by
  induction h with
  | nil => omega
  | snoc _ e ih => have := hE _ _ _ e; omega
/-- How far it is: below 0, if there is no walk. -/
def IsD (E : Nat → Nat → Int → Prop) (s v : Nat) (x : Int) : Prop := (x = -1 ∧ ∀ d, ¬ Wk E s v d) ∨ (0 ≤ x ∧ Wk E s v x ∧ ∀ d, Wk E s v d → x ≤ d)
theorem IsD.uniq (h : IsD E s v x) (k : IsD E s v y) : x = y := by
  rcases h with ⟨rfl, h⟩ | ⟨_, h1, h2⟩ <;> rcases k with ⟨rfl, k⟩ | ⟨_, k1, k2⟩
  · rfl
  · exact absurd k1 (h _)
  · exact absurd h1 (k _)
  · have := h2 _ k1; have := k2 _ h1; omega
theorem IsD.wk (h : IsD E s v x) (h0 : 0 ≤ x) : Wk E s v x := by
  rcases h with ⟨rfl, _⟩ | ⟨_, h1, _⟩
  · omega
  · exact h1
theorem IsD.min (h : IsD E s v x) (k : Wk E s v d) : 0 ≤ x ∧ x ≤ d := by
  rcases h with ⟨_, h⟩ | ⟨h0, _, h2⟩
  · exact absurd k (h _)
  · exact ⟨h0, h2 _ k⟩
theorem IsD.ge (h : IsD E s v x) : x = -1 ∨ 0 ≤ x := by
  rcases h with ⟨rfl, _⟩ | ⟨h, _⟩
  · exact .inl rfl
  · exact .inr h
theorem IsD.self (hE : ∀ u v x, E u v x → 0 ≤ x) : IsD E s s 0 := .inr ⟨by omega, .nil, fun _ h => h.nonneg hE⟩
theorem IsD.ex (hE : ∀ u v x, E u v x → 0 ≤ x) (s v : Nat) : ∃ x, IsD E s v x := by
  classical
  by_cases h : ∃ d, Wk E s v d
  · obtain ⟨d, hd⟩ := h
    have key : ∀ n : Nat, ∀ d : Int, d.toNat ≤ n → Wk E s v d → ∃ x, IsD E s v x := by
      intro n
      induction n with
      | zero => exact fun d hn hd => ⟨d, .inr ⟨hd.nonneg hE, hd, fun d' hd' => by have := hd'.nonneg hE; have := hd.nonneg hE; omega⟩⟩
      | succ n ih =>
        intro d hn hd
        by_cases hs : ∃ d', Wk E s v d' ∧ d' < d
        · obtain ⟨d', h1, h2⟩ := hs
          exact ih d' (by have := h1.nonneg hE; omega) h1
        · exact ⟨d, .inr ⟨hd.nonneg hE, hd, fun d' hd' => Classical.byContradiction fun hn => hs ⟨d', hd', by omega⟩⟩⟩
    exact key _ d (Nat.le_refl _) hd
  · exact ⟨-1, .inl ⟨rfl, fun d hd => h ⟨d, hd⟩⟩⟩
end

/-- f, but for one. -/
def up1 (f : Nat → Int) (i : Nat) (x : Int) : Nat → Int := fun j => if j = i then x else f j
theorem up1_at {f : Nat → Int} {i : Nat} {x : Int} : up1 f i x i = x := if_pos rfl
theorem up1_ne {f : Nat → Int} {i j : Nat} {x : Int} (h : j ≠ i) : up1 f i x j = f j := if_neg h

/-- How many of the first ones are reached. -/
def cntR (f : Nat → Int) : Nat → Nat
  | 0 => 0
  | n + 1 => cntR f n + (if 0 ≤ f n then 1 else 0)
theorem cntR_le (f : Nat → Int) (n : Nat) : cntR f n ≤ n := by
  induction n with
  | zero => exact Nat.le_refl _
  | succ n ih => unfold cntR; split <;> omega
theorem cntR_congr {f g : Nat → Int} {n : Nat} (h : ∀ j, j < n → (0 ≤ f j ↔ 0 ≤ g j)) : cntR f n = cntR g n := by
  induction n with
  | zero => rfl
  | succ n ih =>
    unfold cntR
    rw [ih fun j hj => h j (by omega)]
    by_cases h1 : 0 ≤ f n
    · rw [if_pos h1, if_pos ((h n (by omega)).1 h1)]
    · rw [if_neg h1, if_neg (fun h2 => h1 ((h n (by omega)).2 h2))]
theorem cntR_up {f : Nat → Int} {n i : Nat} {x : Int} (hi : i < n) (h0 : f i < 0) (hx : 0 ≤ x) : cntR (up1 f i x) n = cntR f n + 1 := by
  induction n with
  | zero => omega
  | succ n ih =>
    unfold cntR
    by_cases e : i = n
    · subst e
      rw [up1_at, if_pos hx, if_neg (by omega)]
      have : cntR (up1 f i x) i = cntR f i := cntR_congr fun j hj => by rw [up1_ne (by omega)]
      rw [this]
    · rw [ih (by omega), up1_ne (Ne.symm e)]; omega
section
variable {E : Nat → Nat → Int → Prop} {n s : Nat} {M : Int} {f : Nat → Int}
end

/-- The nearest first: what is settled has its distance; what is open has a walk; what is beside the settled is settled or open. Nodes are numbers below n; L is what is open. -/
structure Dij (E : Nat → Nat → Int → Prop) (n s : Nat) (M : Int) (f : Nat → Int) (L : List (Int × Int)) : Prop where
  sn : s < n
  m : 0 ≤ M
  d : ∀ v, v < n → f v = -1 ∨ IsD E s v (f v) ∧ 0 ≤ f v ∧ f v ≤ ((cntR f n : Int) - 1) * M
  o : ∀ e ∈ L, 0 ≤ e.1 ∧ e.1.toNat < n ∧ f e.1.toNat = -1 ∧ Wk E s e.1.toNat e.2 ∧ e.2 ≤ (cntR f n : Int) * M
  b : ∀ u v x, E u v x → u < n → 0 ≤ f u → 0 ≤ f v ∨ ∃ k, ((v : Int), k) ∈ L ∧ k ≤ f u + x
  z : 0 ≤ f s ∨ ∃ k, ((s : Int), k) ∈ L ∧ k ≤ 0

section
variable {E : Nat → Nat → Int → Prop} {n s : Nat} {M : Int} {f : Nat → Int} {L : List (Int × Int)}
theorem Dij.begin (hs : s < n) (hM : 0 ≤ M) : Dij E n s M (fun _ => -1) [((s : Int), 0)] := by
  have c0 : ∀ n, cntR (fun _ => (-1 : Int)) n = 0 := fun n => by
    induction n with
    | zero => rfl
    | succ n ih => unfold cntR; rw [ih]; rfl
  refine ⟨hs, hM, fun v _ => .inl rfl, fun e he => ?_, fun u v x _ _ h => absurd h (by omega), .inr ⟨0, by simp, by omega⟩⟩
  simp only [List.mem_singleton] at he
  subst he
  refine ⟨by simp only; omega, by simpa using hs, rfl, by simpa using Wk.nil, ?_⟩
  rw [c0]; simp
theorem Dij.ex (h : Dij E n s M f L) (hE : ∀ u v x, E u v x → 0 ≤ x) (hd : ∀ u v x, E u v x → u < n → v < n) {v : Nat} {d : Int} (hw : Wk E s v d) : v < n ∧ (f v = -1 → ∃ e ∈ L, e.2 ≤ d) := by
  induction hw with
  | nil =>
    refine ⟨h.sn, fun hf => ?_⟩
    rcases h.z with h0 | ⟨k, hk, hle⟩
    · omega
    · exact ⟨_, hk, hle⟩
  | snoc hw e ih =>
    rename_i u v d x
    obtain ⟨hu, ih⟩ := ih
    refine ⟨hd _ _ _ e hu, fun hf => ?_⟩
    have hx := hE _ _ _ e
    rcases h.d u hu with h1 | ⟨h1, h2, _⟩
    · obtain ⟨q, hq, hle⟩ := ih h1
      exact ⟨q, hq, by omega⟩
    · rcases h.b u v x e hu h2 with h3 | ⟨k, hk, hle⟩
      · omega
      · exact ⟨_, hk, by have := (h1.min hw).2; simp only; omega⟩
/-- What is least is settled. -/
theorem Dij.least (h : Dij E n s M f L) (hE : ∀ u v x, E u v x → 0 ≤ x) (hd : ∀ u v x, E u v x → u < n → v < n) {m : Int × Int} (hm : m ∈ L) (hmin : ∀ y ∈ L, m.2 ≤ y.2) : IsD E s m.1.toNat m.2 := by
  obtain ⟨h0, h1, h2, h3, _⟩ := h.o m hm
  refine .inr ⟨h3.nonneg hE, h3, fun d hw => ?_⟩
  obtain ⟨q, hq, hle⟩ := (h.ex hE hd hw).2 h2
  have := hmin q hq; omega
/-- When none is open all is told. -/
theorem Dij.done (h : Dij E n s M f []) (hE : ∀ u v x, E u v x → 0 ≤ x) (hd : ∀ u v x, E u v x → u < n → v < n) {v : Nat} (hv : v < n) : IsD E s v (f v) := by
  rcases h.d v hv with h1 | ⟨h1, _⟩
  · rw [h1]
    exact .inl ⟨rfl, fun d hw => by obtain ⟨q, hq, _⟩ := (h.ex hE hd hw).2 h1; simp at hq⟩
  · exact h1
theorem Dij.kb (h : Dij E n s M f L) {e : Int × Int} (he : e ∈ L) : e.2 ≤ (n : Int) * M := by
  have h1 : (cntR f n : Int) * M ≤ (n : Int) * M := Int.mul_le_mul_of_nonneg_right (by have := cntR_le f n; omega) h.m
  have := (h.o e he).2.2.2.2; omega

/-- While what was settled last, v, looks about: the edges P of it were looked at. -/
structure DijP (E : Nat → Nat → Int → Prop) (n s : Nat) (M : Int) (f : Nat → Int) (L : List (Int × Int)) (c : Nat) (P : Nat → Int → Prop) : Prop where
  sn : s < n
  m : 0 ≤ M
  cn : c < n
  fc : 0 ≤ f c
  d : ∀ v, v < n → f v = -1 ∨ IsD E s v (f v) ∧ 0 ≤ f v ∧ f v ≤ ((cntR f n : Int) - 1) * M
  o : ∀ e ∈ L, 0 ≤ e.1 ∧ e.1.toNat < n ∧ f e.1.toNat = -1 ∧ Wk E s e.1.toNat e.2 ∧ e.2 ≤ (cntR f n : Int) * M
  b : ∀ u v x, E u v x → u < n → 0 ≤ f u → (u = c → P v x) → 0 ≤ f v ∨ ∃ k, ((v : Int), k) ∈ L ∧ k ≤ f u + x
  z : 0 ≤ f s ∨ ∃ k, ((s : Int), k) ∈ L ∧ k ≤ 0

theorem Dij.pop (h : Dij E n s M f L) (hE : ∀ u v x, E u v x → 0 ≤ x) (hd : ∀ u v x, E u v x → u < n → v < n) {m : Int × Int} (hm : m ∈ L) (hmin : ∀ y ∈ L, m.2 ≤ y.2) {L' : List (Int × Int)} (hL : ∀ e, e ∈ L' ↔ e ∈ L ∧ e.1 ≠ m.1) :
    DijP E n s M (up1 f m.1.toNat m.2) L' m.1.toNat (fun _ _ => False) ∧ (∀ v, v < n → f v = -1 → v ≠ m.1.toNat → up1 f m.1.toNat m.2 v = -1) ∧ cntR (up1 f m.1.toNat m.2) n = cntR f n + 1 := by
  have hD := h.least hE hd hm hmin
  obtain ⟨h0, h1, h2, h3, h4⟩ := h.o m hm
  have hk0 : 0 ≤ m.2 := h3.nonneg hE
  have hc := cntR_up (f := f) h1 (by omega) hk0
  have hcM : ((cntR f n : Int) - 1) * M ≤ (cntR f n : Int) * M := Int.mul_le_mul_of_nonneg_right (by omega) h.m
  have hcM2 : (cntR f n : Int) * M ≤ ((cntR f n + 1 : Nat) : Int) * M := Int.mul_le_mul_of_nonneg_right (by omega) h.m
  have hcM3 : (((cntR f n + 1 : Nat) : Int) - 1) * M = (cntR f n : Int) * M := by congr 1; omega
  refine ⟨⟨h.sn, h.m, h1, by rw [up1_at]; exact hk0, fun v hv => ?_, fun e he => ?_, fun u v x he hu hfu hP => ?_, ?_⟩, fun v _ hv hne => by rw [up1_ne hne]; exact hv, hc⟩
  · by_cases e : v = m.1.toNat
    · subst e
      rw [up1_at, hc, hcM3]
      exact .inr ⟨hD, hk0, h4⟩
    · rw [up1_ne e, hc, hcM3]
      rcases h.d v hv with q | ⟨q1, q2, q3⟩
      · exact .inl q
      · exact .inr ⟨q1, q2, by omega⟩
  · obtain ⟨heL, hne⟩ := (hL e).1 he
    obtain ⟨a0, a1, a2, a3, a4⟩ := h.o e heL
    refine ⟨a0, a1, ?_, a3, by rw [hc]; omega⟩
    rw [up1_ne (by omega)]; exact a2
  · have hue : u ≠ m.1.toNat := fun e => hP e
    rw [up1_ne hue] at hfu ⊢
    by_cases e : v = m.1.toNat
    · subst e; left; rw [up1_at]; exact hk0
    · rw [up1_ne e]
      rcases h.b u v x he hu hfu with q | ⟨k, hk, hle⟩
      · exact .inl q
      · exact .inr ⟨k, (hL _).2 ⟨hk, by simp only; omega⟩, hle⟩
  · by_cases e : s = m.1.toNat
    · left; rw [e, up1_at]; exact hk0
    · rw [up1_ne e]
      rcases h.z with q | ⟨k, hk, hle⟩
      · exact .inl q
      · exact .inr ⟨k, (hL _).2 ⟨hk, by simp only; omega⟩, hle⟩
theorem DijP.done {c : Nat} {P : Nat → Int → Prop} (h : DijP E n s M f L c P) (hP : ∀ v x, E c v x → P v x) : Dij E n s M f L :=
  ⟨h.sn, h.m, h.d, h.o, fun u v x he hu hf => h.b u v x he hu hf fun e => hP v x (e ▸ he), h.z⟩
theorem DijP.mono {c : Nat} {P Q : Nat → Int → Prop} (h : DijP E n s M f L c P) (hQ : ∀ v x, Q v x → P v x) : DijP E n s M f L c Q :=
  ⟨h.sn, h.m, h.cn, h.fc, h.d, h.o, fun u v x he hu hf hp => h.b u v x he hu hf fun e => hQ v x (hp e), h.z⟩
theorem DijP.le {c : Nat} {P : Nat → Int → Prop} (h : DijP E n s M f L c P) {x : Int} (hx : x ≤ M) : f c + x ≤ (cntR f n : Int) * M ∧ (cntR f n : Int) * M ≤ (n : Int) * M := by
  have h1 : (cntR f n : Int) * M ≤ (n : Int) * M := Int.mul_le_mul_of_nonneg_right (by have := cntR_le f n; omega) h.m
  rcases h.d c h.cn with e | ⟨_, _, hb⟩
  · have := h.fc; omega
  · rw [Int.sub_mul, Int.one_mul] at hb; omega
/-- The edge to v is no better than what is known. -/
theorem DijP.skip {c : Nat} {P : Nat → Int → Prop} (h : DijP E n s M f L c P) {v : Nat} {x : Int} (hk : 0 ≤ f v ∨ ∃ k, ((v : Int), k) ∈ L ∧ k ≤ f c + x) : DijP E n s M f L c (fun v' x' => P v' x' ∨ v' = v ∧ x' = x) :=
  ⟨h.sn, h.m, h.cn, h.fc, h.d, h.o, fun u v' x' he hu hf hp => by
    by_cases e : u = c ∧ v' = v ∧ x' = x
    · obtain ⟨rfl, rfl, rfl⟩ := e; exact hk
    · exact h.b u v' x' he hu hf fun e1 => (hp e1).resolve_right fun e2 => e ⟨e1, e2⟩, h.z⟩
/-- .. or better: it is set. -/
theorem DijP.set {c : Nat} {P : Nat → Int → Prop} (h : DijP E n s M f L c P) {v : Nat} {x : Int} (hv : v < n) (he : E c v x) (hx : x ≤ M) (hf : f v = -1) (hb : ∀ k, ((v : Int), k) ∈ L → f c + x ≤ k) {L' : List (Int × Int)}
    (hL : ∀ e, e ∈ L' ↔ e = ((v : Int), f c + x) ∨ e ∈ L ∧ e.1 ≠ (v : Int)) : DijP E n s M f L' c (fun v' x' => P v' x' ∨ v' = v ∧ x' = x) := by
  have keep : ∀ (u : Nat) (b : Int), (∃ k, ((u : Int), k) ∈ L ∧ k ≤ b) → ∃ k, ((u : Int), k) ∈ L' ∧ k ≤ b := fun u b ⟨k, hk, hle⟩ => by
    by_cases e : u = v
    · subst e
      exact ⟨f c + x, (hL _).2 (.inl rfl), by have := hb k hk; omega⟩
    · exact ⟨k, (hL _).2 (.inr ⟨hk, by simp only; omega⟩), hle⟩
  refine ⟨h.sn, h.m, h.cn, h.fc, h.d, fun e' he' => ?_, fun u v' x' he' hu hfu hp => ?_, h.z.imp id (keep s 0)⟩
  · rcases (hL e').1 he' with rfl | ⟨h1, _⟩
    · refine ⟨by simp only; omega, by simpa using hv, by simpa using hf, ?_, (h.le hx).1⟩
      rcases h.d c h.cn with e | ⟨hD, hc0, _⟩
      · have := h.fc; omega
      · simpa using (hD.wk hc0).snoc he
    · exact h.o e' h1
  · by_cases e : u = c ∧ v' = v ∧ x' = x
    · obtain ⟨rfl, rfl, rfl⟩ := e; exact .inr ⟨_, (hL _).2 (.inl rfl), Int.le_refl _⟩
    · exact (h.b u v' x' he' hu hfu fun e1 => (hp e1).resolve_right fun e2 => e ⟨e1, e2⟩).imp id (keep v' _)
end

/-- The edges of lists, one for each place. -/
def EE' (n : Nat) (ed : Nat → List (Int × Int × Int)) (u v : Nat) (x : Int) : Prop := u < n ∧ ∃ e ∈ ed u, e.1 = (v : Int) ∧ e.2.1 = x
end Go.Sh

/- More of what all plain proofs lean on: boxes that are kept, one field of a record written, slices that are spoilt. -/
set_option maxRecDepth 100000
namespace Go.Sh
open Go.RowKit

theorem kp0_1 (w : World) (a : Nat) : Keeps [a] w w := fun _ _ => rfl
theorem kp1 {w w' : World} {a : Nat} (e : Ext w w') (ha : a < w.heap.size) : Keeps [a] w w' := kp_ext e fun b hb => by
  simp only [List.mem_cons, List.not_mem_nil, or_false] at hb; omega
theorem kc1 {w w' : World} {F : Nat → Prop} {a : Nat} (c : Chg F w w') (ha : a < w.heap.size) (fa : ¬ F a) : Keeps [a] w w' := kp_chg c fun b hb => by
  simp only [List.mem_cons, List.not_mem_nil, or_false] at hb; subst hb; exact ⟨ha, fa⟩
section
variable {α : Type} {R : Rc α}
end

/-- append of one that is laid for it. -/
theorem push_ok {α : Type} {R : Rc α} {w : World} {s : SV} {xs : List α} {x : α} (h : Own R w s xs) {bytes : Nat} (hb : (xs.length + 1) * bytes ≤ 2 ^ 47) (hn : xs.length + 1 < 2 ^ 62) {K : World → SV → World → Prop}
    (hk : ∀ w2 s' w', Ext w w2 → Chg s.blk w2 w' → (∀ k, s'.blk k → s.blk k ∨ w.heap.size ≤ k) → Own R w' s' (xs ++ [x]) → K w2 s' w') :
    NewB (R.enc x) w (fun b w2 => App bytes (R.enc R.z) s ⟨some ⟨b, 0, none⟩, 1, 1⟩ w2 (fun s' w' => K w2 s' w')) := by
  intro b w2 e2 g2 hB
  have z2 := e2.size
  exact Own.app (R := R) (h.ext e2) (View.one (R := R) (x := x) hB) (by simpa using hb) (by simpa using hn) fun s' w' c' hs hO => hk w2 s' w' e2 c' (fun k hk => (hs k hk).imp id fun h => Nat.le_trans z2 h) hO
def RS : Rc SV where
  sz := 1
  enc s := [.slice s.a s.len s.cap]
  len _ := rfl
  pos := by decide
  z := ⟨none, 0, 0⟩
  one := by intro x v hv; simp at hv; subst hv; rfl
theorem slot_idx {w : World} {s : SV} {xs : List SV} (h : View RS w s xs) {i : Nat} (hl : i < xs.length) {K : Addr → Prop}
    (hk : ∀ a, w.cell? a = some (.slice xs[i].a xs[i].len xs[i].cap) → K a) : Idx s.a s.len (i : Int) 1 K := by
  refine View.idx (R := RS) h (by omega) (by simpa using hl) fun a ha hc => ?_
  have := hc 0 _ rfl
  simp only [Int.toNat_natCast] at this
  obtain ⟨b, o, sp⟩ := a
  simp only at ha; subst ha
  rw [add0] at this
  exact hk _ this

end Go.Sh
