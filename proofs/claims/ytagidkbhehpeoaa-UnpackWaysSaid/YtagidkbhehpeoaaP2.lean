/- Snd6, Snd7, Snd8, Mem, Base, HierPure, Walks, Base2, AllDef, HeapMem, HeapPure, HeapWalk, HeapPut, HeapDrop, HeapApi, DistLeast, GraphPure, GraphMap, GraphSort, GraphWalk, GraphLay, GraphNew, GraphApi, GraphRef, GraphTurned, GraphLoops, GraphLeast, Contr, Contr2, DistPure, DistSum, DistApi, DistRef: merged into one text. -/
import Derived.Test.YtagidkbhehpeoaaP1
import Derived.Deep.LoopGhost
import Derived.Scope
/- 'den' is sound: regions that draw; what is told at a join. -/
namespace Go.Sh
open Go.RowKit

section
variable {cx : Cx} {n : Nat} {s : S} {a : Act} {w : World} {o : Oper}

theorem post_ext {W : List Nat} {s0 : S} {a0 : Act} {w0 : World} {w' : World} (h : Rel cx.P n s a w) (f : Fr W s0 a0 w0 s a w) (e : Ext w w') : Rel cx.P n s a w' ∧ Fr W s0 a0 w0 s a w' := ⟨h.ext e, f.ext h e⟩

theorem loc_ok (h : Rel cx.P n s a w) {D : List Nat} {R : World → (X → Prop) → Prop} (hl : locB s D o = true) (hr : sem1 cx s o = .read R) :
    ∃ d' b', (∃ t x off, o.op = .load t x ∧ ev s x = some (.loc d' off)) ∧ find s.bx d' = some b' ∧ b'.m ≠ .out ∧ (∀ d ∈ D, ∃ y, find s.bx d = some y ∧ y.m = .rw ∧ d ≠ d') ∧
      ∀ K, R w K → ∃ x, K x ∧ LocOk cx.P s x ∧ ∀ w', Blk w' b'.b b'.cs → (execOp a.eval o).run cx.P w' = .ok (.value (conc s.bx x)) w' := by
  unfold locB at hl
  split at hl
  · rename_i t x hop
    split at hl
    · rename_i d' off e
      split at hl
      · cases hl
      · rename_i b' hout hb'
        have hm : b'.m ≠ .out := by
          intro e; obtain ⟨b0, cs0, m0⟩ := b'; simp only at e; subst e; exact hout _ _ rfl
        refine ⟨d', b', ⟨t, x, off, hop, e⟩, hb', hm, fun d hd => ?_, fun K hk => ?_⟩
        · have := List.all_eq_true.1 hl d hd
          split at this
          · rename_i hne hf; exact ⟨_, hf, rfl, Nat.ne_of_beq_eq_false hne⟩
          · cases this
        · obtain ⟨h1, _⟩ := ev_ok h e
          simp only [conc, hb'] at h1
          unfold sem1 at hr
          rw [hop] at hr
          simp only [e] at hr
          rw [hb'] at hr
          split at hr
          · rename_i hbb; exact absurd (Option.some.inj hbb) (hout _ _)
          · rename_i b cs m hm2 hbb
            injection hbb with hbb
            subst hbb
            split at hr
            · rename_i hag
              split at hr
              · rename_i l _
                split at hr
                · rename_i hsz
                  simp only [Bool.and_eq_true] at hsz
                  injection hr with hr
                  subst hr
                  refine ⟨_, hk, locOk_v _, fun w' hB => ?_⟩
                  obtain ⟨i, hi, hsz1⟩ := sizeB_ok hsz.1
                  have hl := loadCells_blk (P := cx.P) hB off l.length (Nat.le_of_ble_eq_true hsz.2)
                  simp [execOp, hop, h1, Instr.loadAt, Instr.sureAddr, loadVar, isAgg_run t (und_of_agg hag), hag, sizeOf, typeInfo, hi, hsz1, hl, conc_v]
                · cases hr
              · cases hr
            · rename_i hag
              split at hr
              · rename_i v hv
                split at hr
                · rename_i hun
                  injection hr with hr
                  subst hr
                  refine ⟨_, hk, locOk_v _, fun w' hB => ?_⟩
                  have hc := cell_blk hB off
                  rw [hv] at hc
                  simp [execOp, hop, h1, Instr.loadAt, Instr.sureAddr, loadVar, isAgg_run t hun, hag, hc, conc_v]
                · cases hr
              · cases hr
          · cases hr
      · cases hl
    · cases hl
  · cases hl

/-- What the guards stand for. -/
def GR (s : S) : List (Nat × Gd) → List (Nat × (World → Prop)) → Prop
  | [], [] => True
  | (j, .mem g) :: gs, p :: ps => p = (j, g) ∧ GR s gs ps
  | (j, .box d) :: gs, p :: ps => (p.1 = j ∧ ∃ b cs m, find s.bx d = some ⟨b, cs, m⟩ ∧ p.2 = fun w => Blk w b cs) ∧ GR s gs ps
  | (j, .dead) :: gs, p :: ps => p.1 = j ∧ GR s gs ps
  | _, _ => False

theorem GR.move {s s' : S} : ∀ {gs : List (Nat × Gd)} {ps : List (Nat × (World → Prop))}, GR s gs ps → (∀ d, freeG d gs = false → ∀ b cs m, find s.bx d = some ⟨b, cs, m⟩ → ∃ m', find s'.bx d = some ⟨b, cs, m'⟩) → GR s' gs ps
  | [], [], _, _ => trivial
  | (_, .mem g) :: gs, p :: ps, h, hm => ⟨h.1, GR.move h.2 fun d hd => hm d hd⟩
  | (_, .dead) :: gs, p :: ps, h, hm => ⟨h.1, GR.move h.2 fun d hd => hm d hd⟩
  | (j, .box d) :: gs, p :: ps, h, hm => by
    obtain ⟨⟨h0, b, cs, m, h1, h2⟩, h3⟩ := h
    have hdd : freeG d ((j, .box d) :: gs) = false := by simp [freeG]
    obtain ⟨m', h4⟩ := hm d hdd b cs m h1
    refine ⟨⟨h0, b, cs, m', h4, h2⟩, GR.move h3 fun d2 hd2 => hm d2 ?_⟩
    simp only [freeG]
    cases Nat.beq d2 d with
    | true => rfl
    | false => exact hd2

theorem GR.free {s s' : S} {d : Nat} {gs : List (Nat × Gd)} {ps : List (Nat × (World → Prop))} (h : GR s gs ps) (hd : freeG d gs = true) (hs : ∀ d2, d ≠ d2 → find s'.bx d2 = find s.bx d2) : GR s' gs ps :=
  h.move fun d2 hd2 b cs m hf => by
    have : d ≠ d2 := by intro e; subst e; rw [hd] at hd2; cases hd2
    exact ⟨m, by rw [hs d2 this]; exact hf⟩
theorem GR.kill {s s' : S} {d : Nat} (hs : ∀ d2, d ≠ d2 → find s'.bx d2 = find s.bx d2) : ∀ {gs : List (Nat × Gd)} {ps : List (Nat × (World → Prop))}, GR s gs ps → GR s' (killG d gs) ps
  | [], [], _ => trivial
  | (_, .mem g) :: gs, p :: ps, h => ⟨h.1, GR.kill hs h.2⟩
  | (_, .dead) :: gs, p :: ps, h => ⟨h.1, GR.kill hs h.2⟩
  | (j, .box d') :: gs, p :: ps, h => by
    obtain ⟨⟨h0, b, cs, m, h1, h2⟩, h3⟩ := h
    simp only [killG]
    split
    · exact ⟨h0, GR.kill hs h3⟩
    · rename_i hb
      exact ⟨⟨h0, b, cs, m, by rw [hs d' (Nat.ne_of_beq_eq_false hb)]; exact h1, h2⟩, GR.kill hs h3⟩

theorem guards_ok {s : S} {w : World} {ops : Array Oper} {i : Nat} (h : Rel cx.P n s a w) : ∀ {gs : List (Nat × Gd)} {ps : List (Nat × (World → Prop))} {K : Prop}, GR s gs ps → guards (masksFrom ops.toList []) i s w gs K → (∀ g ∈ ps, anc ops i g.1 = false → g.2 w) ∧ K
  | [], [], _, _, hk => ⟨fun g hg => (by cases hg), hk⟩
  | (j, .mem g) :: gs, p :: ps, K, hg, hk => by
    simp only [guards] at hk
    split at hk
    · rename_i ha
      obtain ⟨h1, h2⟩ := guards_ok h hg.2 hk
      exact ⟨fun g' hg' hn => by
        rcases List.mem_cons.1 hg' with rfl | hg'
        · rw [hg.1] at hn; rw [anc, ha] at hn; cases hn
        · exact h1 g' hg' hn, h2⟩
    · obtain ⟨h1, h2⟩ := guards_ok h hg.2 hk.2
      exact ⟨fun g' hg' hn => by rcases List.mem_cons.1 hg' with rfl | hg'; rw [hg.1]; exact hk.1; exact h1 g' hg' hn, h2⟩
  | (j, .dead) :: gs, p :: ps, K, hg, hk => by
    simp only [guards] at hk
    split at hk
    · rename_i ha
      obtain ⟨h1, h2⟩ := guards_ok h hg.2 hk
      exact ⟨fun g' hg' hn => by
        rcases List.mem_cons.1 hg' with rfl | hg'
        · rw [hg.1] at hn; rw [anc, ha] at hn; cases hn
        · exact h1 g' hg' hn, h2⟩
    · exact hk.elim
  | (j, .box d) :: gs, p :: ps, K, hg, hk => by
    obtain ⟨⟨e0, b, cs, m, e1, e2⟩, e3⟩ := hg
    simp only [guards, e1] at hk
    split at hk
    · rename_i ha
      obtain ⟨h1, h2⟩ := guards_ok h e3 hk
      exact ⟨fun g' hg' hn => by
        rcases List.mem_cons.1 hg' with rfl | hg'
        · rw [e0] at hn; rw [anc, ha] at hn; cases hn
        · exact h1 g' hg' hn, h2⟩
    · cases m with
      | out => exact hk.elim
      | rw =>
        obtain ⟨h1, h2⟩ := guards_ok h e3 hk
        exact ⟨fun g' hg' hn => by rcases List.mem_cons.1 hg' with rfl | hg'; rw [e2]; exact (h.bx d _ e1).1 (by intro e; cases e); exact h1 g' hg' hn, h2⟩
      | ro =>
        obtain ⟨h1, h2⟩ := guards_ok h e3 hk
        exact ⟨fun g' hg' hn => by rcases List.mem_cons.1 hg' with rfl | hg'; rw [e2]; exact (h.bx d _ e1).1 (by intro e; cases e); exact h1 g' hg' hn, h2⟩

theorem rdbox_ok (h : Rel cx.P n s a w) {d : Nat} {R : World → (X → Prop) → Prop} (hl : rdB s o = some (some d)) (hr : sem1 cx s o = .read R) :
    ∃ b cs m, find s.bx d = some ⟨b, cs, m⟩ ∧ m ≠ .out ∧
      ∀ K, R w K → ∃ x, K x ∧ LocOk cx.P s x ∧ ∀ w', Blk w' b cs → (execOp a.eval o).run cx.P w' = .ok (.value (conc s.bx x)) w' := by
  have : locB s [] o = true ∧ ∃ t x off, o.op = .load t x ∧ ev s x = some (.loc d off) := by
    unfold rdB at hl
    split at hl
    · rename_i t x hop
      split at hl
      · injection hl with hl; cases hl
      · rename_i d' off e
        split at hl
        · injection hl with hl; cases hl
        · rename_i b' hout hb'
          injection hl with hl; injection hl with hl; subst hl
          refine ⟨?_, t, x, off, hop, e⟩
          unfold locB
          rw [hop]
          simp only [e]
          split
          · rename_i b0 cs0 hb0; rw [hb0] at hb'; injection hb' with hb'; exact absurd hb'.symm (fun e => hout _ _ e)
          · rfl
          · rename_i hnn; rw [hb'] at hnn; cases hnn
        · cases hl
      · cases hl
    · cases hl
  obtain ⟨hlb, t, x, off, hop, e⟩ := this
  obtain ⟨d', b', ⟨t', x', off', hop', e'⟩, hb', hm', _, hrun⟩ := loc_ok h hlb hr
  have hdd : d' = d := by
    rw [hop] at hop'
    injection hop' with h1 h2
    subst h2
    rw [e] at e'
    injection e' with e'
    injection e' with e' _
    exact e'.symm
  subst hdd
  exact ⟨b'.b, b'.cs, b'.m, hb', hm', hrun⟩

theorem rd_core {t : TypeId} {x : Operand} (hop : o.op = .load t x) {p : Addr} (g1 : a.eval x = .pointer (some p)) {R : World → (X → Prop) → Prop}
    (hr : (match isAggB cx.P t with
      | true => (match leaves cx.P 10 t with
        | some l => (match sizeB cx.P t l.length with
          | true => OpR.read fun w K => rdL w p l 0 (fun vs => K (.v (.agg vs.toArray)))
          | false => .bad)
        | none => .bad)
      | false => (match leafOf cx.P t with
        | some σ => .read fun w K => ∃ x : σ.T, w.cell? p = some (σ.enc x) ∧ K (.v (σ.enc x))
        | none => .bad)) = .read R) :
    ∀ w2 K, R w2 K → ∃ x, K x ∧ LocOk cx.P s x ∧ Sees cx.P (execOp a.eval o) (conc s.bx x) w2 := by
  intro w2 K hk
  split at hr
  · rename_i hag
    split at hr
    · rename_i l _
      split at hr
      · rename_i hsz
        injection hr with hr
        subst hr
        obtain ⟨vs, h1, h2, h3⟩ := rdL_ok _ _ _ hk
        refine ⟨_, h1, locOk_v _, fun w' hE => ?_⟩
        obtain ⟨i, hi, hsz⟩ := sizeB_ok hsz
        have hl := run_loadCells_list (P := cx.P) w' p vs (fun j v hv => hE.cell (by have := h3 j v hv; simpa using this))
        rw [h2] at hl
        simp [execOp, hop, g1, Instr.loadAt, Instr.sureAddr, loadVar, isAgg_run t (und_of_agg hag), hag, sizeOf, typeInfo, hi, hsz, hl, conc_v]
      · cases hr
    · cases hr
  · rename_i hag
    split at hr
    · rename_i σ hl
      injection hr with hr
      subst hr
      obtain ⟨x, hx, hk⟩ := hk
      refine ⟨_, hk, locOk_v _, fun w' hE => ?_⟩
      simp [execOp, hop, g1, Instr.loadAt, Instr.sureAddr, loadVar, isAgg_run t (und_of_leaf hl), hag, hE.cell hx, conc_v]
    · cases hr

theorem rd_ok (h : Rel cx.P n s a w) {R : World → (X → Prop) → Prop} (hl : rdB s o = some none) (hr : sem1 cx s o = .read R) :
    ∀ w2 K, R w2 K → ∃ x, K x ∧ LocOk cx.P s x ∧ Sees cx.P (execOp a.eval o) (conc s.bx x) w2 := by
  unfold rdB at hl
  split at hl
  · rename_i t x hop
    unfold sem1 at hr
    rw [hop] at hr
    simp only at hr
    split at hl
    · rename_i p e
      simp only [e] at hr
      exact rd_core hop (ev_ok h e).1 hr
    · rename_i d off e
      simp only [e] at hr
      split at hl
      · rename_i b cs hb
        simp only [hb] at hr
        exact rd_core hop (by rw [(ev_ok h e).1]; simp [conc, hb]) hr
      · cases hl
      · cases hl
    · cases hl
  · cases hl

theorem putO_bx (s : S) (d : Option Nat) (x : X) : (s.putO d x).bx = s.bx := by cases d <;> rfl

/-- The blocks that may come to be boxes are none that are there. -/
structure InvZ (s : S) (Z : Nat → Prop) (w : World) : Prop where
  lt : ∀ b, Z b → b < w.heap.size
  ro : ∀ b ∈ s.ro, ¬ Z b
  bx : ∀ d b, find s.bx d = some b → b.m ≠ .out → ¬ Z b.b
theorem InvZ.none (s : S) (w : World) : InvZ s (fun _ => False) w := ⟨fun _ h => h.elim, fun _ _ h => h, fun _ _ _ _ h => h⟩
theorem InvZ.less {s : S} {Z Z' : Nat → Prop} {w : World} (h : InvZ s Z w) (hz : ∀ b, Z' b → Z b) : InvZ s Z' w := ⟨fun b hb => h.lt b (hz b hb), fun b hm hb => h.ro b hm (hz b hb), fun d b hf hm hb => h.bx d b hf hm (hz _ hb)⟩
theorem InvZ.putO {s : S} {Z : Nat → Prop} {w : World} (h : InvZ s Z w) (d : Option Nat) (x : X) : InvZ (s.putO d x) Z w := by cases d <;> exact ⟨h.lt, h.ro, h.bx⟩
theorem InvZ.of {s s' : S} {Z : Nat → Prop} {w : World} (h : InvZ s Z w) (hr : s'.ro = s.ro) (hb : ∀ d b', find s'.bx d = some b' → ∃ b, find s.bx d = some b ∧ b.b = b'.b ∧ (b'.m ≠ .out → b.m ≠ .out)) : InvZ s' Z w :=
  ⟨h.lt, fun b hm => h.ro b (hr ▸ hm), fun d b' hf hm => by
    obtain ⟨b, h1, h2, h3⟩ := hb d b' hf
    rw [← h2]; exact h.bx d b h1 (h3 hm)⟩
theorem InvZ.zI {s : S} {Z : Nat → Prop} {w w' w'' : World} (h : InvZ s Z w) {a : Act} {P : Program} (hR : Rel P n s a w) (h1 : w.heap.size ≤ w'.heap.size) (h2 : w'.heap.size ≤ w''.heap.size) : InvZ s (zI Z w w') w'' := by
  refine ⟨fun b hb => ?_, fun b hm hb => ?_, fun d b hf hm hb => ?_⟩
  · rcases hb with hb | hb
    · have := h.lt b hb; omega
    · omega
  · rcases hb with hb | hb
    · exact h.ro b hm hb
    · have := hR.ro b hm; omega
  · rcases hb with hb | hb
    · exact h.bx d b hf hm hb
    · have := blk_lt ((hR.bx d b hf).1 hm); omega
theorem InvZ.newbox {s : S} {Z : Nat → Prop} {w : World} (h : InvZ s Z w) (d k : Nat) (cs : List Value) : InvZ (s.newbox d k cs) (zX Z k) w := by
  refine ⟨fun b hb => h.lt b hb.1, fun b hm hb => h.ro b hm hb.1, fun d' b hf hm hb => ?_⟩
  simp only [S.newbox, find_cons] at hf
  split at hf
  · injection hf with hf; subst hf; exact hb.2 rfl
  · exact h.bx d' b hf hm hb.1

theorem denDraw_ok (ok : CxOk cx) (cv : CVOk cx.P cx.CV) {all : Array Oper} {W : List Nat} {s0 : S} {a0 : Act} {w0 : World} {K : S → World → Prop} {kd : List Kd} {D : List Nat} (hD : ∀ d ∈ D, d ∉ W) (hall : ∀ (i : Nat) o, all[i]? = some o → ∀ t, o.dst = some t → t ∈ W) :
    ∀ (l : List Nat) (gs : List (Nat × Gd)) (ps : List (Nat × (World → Prop))) (G : Nat → World → Prop) (Z : Nat → Prop) (s : S) (a : Act) (w : World), GR s gs ps → InvZ s Z w → (∀ i w, (∀ g ∈ ps, anc all i g.1 = false → g.2 w) → G i w) → Rel cx.P n s a w → Fr W s0 a0 w0 s a w → denDraw cx n all (masksFrom all.toList []) D kd l gs Z s w K → wpC (fun b => ∃ d ∈ D, ∃ x, find s0.bx d = some x ∧ x.b = b) cx.P all (anc all) (fun i => kd.getD i .big) (Post cx n W s0 a0 w0 K) l ⟨G, Z⟩ a w
  | [], gs, ps, G, Z, s, a, w, hR, hZ, hG, h, f, hk => fun w' e => ⟨s, h.ext e, f.ext h e, hk w' e⟩
  | i :: l, gs, ps, G, Z, s, a, w, hR, hZ, hG, h, f, hk => by
    simp only [denDraw] at hk
    simp only [wpC, GZ.to, GZ.and]
    cases hi : all[i]? with
    | none => rw [hi] at hk; exact hk.elim
    | some o =>
      rw [hi] at hk
      simp only at hk ⊢
      have hW := hall i o hi
      split at hk
      · rename_i hd
        rcases guarded_ok h f hk with ⟨hw, s1, h1, f1, hbx, hr⟩ | ⟨hw, s1, h1, f1, hbx, hr⟩
        · rw [if_pos hw]
          have hR1 : GR s1 gs ps := hR.move fun d _ b cs m hf => ⟨m, by rw [hbx.1]; exact hf⟩
          have hZ1 : InvZ s1 Z w := hZ.of hbx.2 fun d b' hf => ⟨b', by rw [← hbx.1]; exact hf, rfl, id⟩
          obtain ⟨s, h, f, ⟨_, hmv, hro, _, hbk⟩, hk⟩ := expose_ok _ _ _ h1 f1 hr
          have hZ := hZ1.of hro hbk
          have hR : GR s gs ps := hR1.move fun d _ => hmv d
          have hs := sem1_ok (o := o) h
          unfold step1D at hk
          have rec_ := fun {Z' : Nat → Prop} (s' : S) (a' : Act) (w' : World) (h' : Rel cx.P n s' a' w') (f' : Fr W s0 a0 w0 s' a' w') (hR' : GR s' gs ps) (hZ' : InvZ s' Z' w') (hk' : denDraw cx n all (masksFrom all.toList []) D kd l gs Z' s' w' K) => denDraw_ok ok cv hD hall l gs ps G Z' s' a' w' hR' hZ' hG h' f' hk'
          have hRp : ∀ {d : Option Nat} {x : X}, GR (s.putO d x) gs ps := hR.move fun d _ b cs m hf => ⟨m, by rw [putO_bx]; exact hf⟩
          have putv : ∀ {Z' : Nat → Prop} (x : X) (w2 : World), ArgOk cx.P x → Rel cx.P n s a w2 → Fr W s0 a0 w0 s a w2 → InvZ s Z' w2 → denDraw cx n all (masksFrom all.toList []) D kd l gs Z' (s.putO o.dst x) w2 K → wpC (fun b => ∃ d ∈ D, ∃ x, find s0.bx d = some x ∧ x.b = b) cx.P all (anc all) (fun i => kd.getD i .big) (Post cx n W s0 a0 w0 K) l ⟨G, Z'⟩ (a.put o.dst (cc x)) w2 := fun x w2 hx h2 f2 hZ2 hk => by
            have := h2.putO hd (locOk_of hx s)
            rw [conc_of hx.1] at this
            exact rec_ _ _ _ this (f2.putO hW x _) hRp (hZ2.putO _ _) hk
          cases hkd : kd.getD i .big with
          | pure =>
            simp only
            rw [hkd] at hk
            cases hsem : sem1 cx s o with
            | pure V =>
              rw [hsem] at hk hs
              obtain ⟨x, g1, g2, g3⟩ := hs _ hk
              exact ⟨_, g3, rec_ _ _ _ (h.putO hd g2) (f.putO hW x _) hRp (hZ.putO _ _) g1⟩
            | _ => rw [hsem] at hk; exact hk.elim
          | quiet =>
            simp only
            rw [hkd] at hk
            cases hsem : sem1 cx s o with
            | read R =>
              rw [hsem] at hk hs
              obtain ⟨x, g1, g2, g3⟩ := hs _ hk
              refine ⟨_, fun w' e => ?_, rec_ _ _ _ (h.putO hd g2) (f.putO hW x _) hRp (hZ.putO _ _) g1⟩
              unfold Oper.quietAt
              rw [g3 w' e]
              exact ⟨rfl, rfl⟩
            | call g xs =>
              rw [hsem] at hk hs
              obtain ⟨g1, g2⟩ := hs
              obtain ⟨x, k1, k3⟩ := ok.Q _ cv g xs _ w g1 hk
              refine ⟨_, fun w' e => ?_, putv (.v x) w (argOk_v x) h f hZ k1⟩
              unfold Oper.quietAt
              rw [g2 w']
              exact ⟨rfl, k3 w' e⟩
            | callV v vs r =>
              rw [hsem] at hk hs
              obtain ⟨x, k3, k1⟩ := hk
              obtain ⟨us, rfl, k2⟩ := exVs_some k1
              refine ⟨_, fun w' e => ?_, putv (.v _) w (argOk_v _) h f hZ k2⟩
              unfold Oper.quietAt
              obtain ⟨g, first, cap, rfl, hb, hcall⟩ := cv v vs _ w' (k3 w' e)
              rw [hs w', run_value hb]
              refine ⟨rfl, hcall.mono fun e w2 he => ?_⟩
              cases e with
              | returned x => exact ⟨by rw [he.1]; rfl, he.2⟩
              | _ => exact he.elim
            | _ => rw [hsem] at hk; exact hk.elim
          | rd =>
            simp only
            rw [hkd] at hk
            cases hsem : sem1 cx s o with
            | read R =>
              rw [hsem] at hk
              simp only at hk
              split at hk
              · rename_i hrb
                have hrun := rd_ok h hrb hsem
                obtain ⟨x, g1, g2, g3⟩ := hrun w _ hk
                refine ⟨_, g3, denDraw_ok ok cv hD hall l ((i, .mem (fun w' => R w' (eqX x))) :: gs) ((i, fun w' => R w' (eqX x)) :: ps) _ _ _ _ _ ⟨rfl, hRp⟩ (hZ.putO _ _) (fun i' w2 hg => ?_) (h.putO hd g2) (f.putO hW x _) g1⟩
                refine ⟨hG _ _ fun g hgm => hg g (List.mem_cons_of_mem _ hgm), fun hn => ?_⟩
                obtain ⟨y, e1, _, e3⟩ := hrun w2 _ (hg _ List.mem_cons_self hn)
                have hxy : conc s.bx y = conc s.bx x := by
                  unfold eqX at e1
                  split at e1
                  · subst e1; rfl
                  · exact e1.elim
                rw [hxy] at e3
                exact e3
              · rename_i d hrb
                obtain ⟨b, cs, m, hf, hm, hrun⟩ := rdbox_ok h hrb hsem
                obtain ⟨x, g1, g2, g3⟩ := hrun _ hk
                have hB := (h.bx d _ hf).1 hm
                refine ⟨_, fun w' e => g3 w' (e.blkE hB), denDraw_ok ok cv hD hall l ((i, .box d) :: gs) ((i, fun w' => Blk w' b cs) :: ps) _ _ _ _ _ ⟨⟨rfl, b, cs, m, by rw [putO_bx]; exact hf, rfl⟩, hRp⟩ (hZ.putO _ _) (fun i' w2 hg => ?_) (h.putO hd g2) (f.putO hW x _) g1⟩
                refine ⟨hG _ _ fun g hgm => hg g (List.mem_cons_of_mem _ hgm), fun hn => ?_⟩
                exact fun w' e => g3 w' (e.blkE (hg _ List.mem_cons_self hn))
              · exact hk.elim
            | _ => rw [hsem] at hk; exact hk.elim
          | loc =>
            simp only
            rw [hkd] at hk
            cases hsem : sem1 cx s o with
            | read R =>
              rw [hsem] at hk
              simp only at hk
              split at hk
              · rename_i hlb
                obtain ⟨d', b', _, hb', hm', hnd, hrun⟩ := loc_ok h hlb hsem
                obtain ⟨x, g1, g2, g3⟩ := hrun _ hk
                refine ⟨_, fun w' e => g3 w' ?_, rec_ _ _ _ (h.putO hd g2) (f.putO hW x _) hRp (hZ.putO _ _) g1⟩
                have hB := (h.bx d' b' hb').1 hm'
                have hl := blk_lt hB
                obtain ⟨T, hB⟩ := hB
                refine ⟨T, ?_⟩
                rw [e.block _ hl ?_]
                · exact hB
                · rintro ⟨d, hdD, x0, hx0, hxb⟩
                  obtain ⟨y, hy, hym, hne⟩ := hnd d hdD
                  obtain ⟨y0, hy0, hyb⟩ := f.bk d (hD d hdD) y hy
                  rw [hx0] at hy0; injection hy0 with hy0; subst hy0
                  exact h.dist d d' y b' hne hy hb' (by rw [hym]; intro e; cases e) hm' (by rw [← hyb, hxb])
              · exact hk.elim
            | _ => rw [hsem] at hk; exact hk.elim
          | lst =>
            simp only
            rw [hkd] at hk
            cases hsem : sem1 cx s o with
            | lst d b cs =>
              rw [hsem] at hk hs
              simp only at hk
              split at hk
              · rename_i hdD
                simp only [Bool.and_eq_true] at hdD
                obtain ⟨hdD, hfr⟩ := hdD
                have hdD : d ∈ D := by simpa using hdD
                intro w' e
                obtain ⟨h', f'⟩ := post_ext h f e
                obtain ⟨cs0, hb, hs⟩ := hs
                obtain ⟨w2, g1, g2, g3⟩ := hs w' ((h'.bx d _ hb).1 (by intro e; cases e))
                obtain ⟨k1, k2⟩ := lst_ok h' f' hb g2 g3
                obtain ⟨y0, hy0, hyb⟩ := f.bk d (hD d hdD) _ hb
                exact ⟨b, w2, ⟨d, hdD, y0, hy0, hyb⟩, g1, g2, rec_ _ _ _ (k1.putO hd (locOk_v _)) (k2.putO hW _ _) ((hR.free hfr (s' := s.setbox d ⟨b, cs, .rw⟩) fun d2 hd2 => by show find (_ :: _) d2 = _; rw [find_cons, if_neg hd2]).move fun d _ b cs m hf => ⟨m, by rw [putO_bx]; exact hf⟩) (InvZ.none _ _) (hk w' e w2 g2)⟩
              · exact hk.elim
            | _ => rw [hsem] at hk; exact hk.elim
          | new =>
            simp only
            rw [hkd] at hk
            cases hsem : sem1 cx s o with
            | box cs =>
              rw [hsem] at hk hs
              obtain ⟨T, hs⟩ := hs
              simp only at hk
              split at hk
              · rename_i d hod
                split at hk
                · rename_i hfr
                  intro w' e
                  have e2 : Ext w' (w'.alloc (.cells cs.toArray T)) := ⟨rfl, rfl, rfl, by simp, fun k hk => Below.heap_alloc _ _ _ hk⟩
                  refine ⟨_, _, hs w', e2, ?_⟩
                  rw [hod] at hd ⊢
                  obtain ⟨h', f'⟩ := post_ext h f e
                  refine wpC_mono (G' := ⟨G, zX (zI Z w (w'.alloc (.cells cs.toArray T))) w'.heap.size⟩) ⟨fun _ _ h => h, fun b hb => ⟨Or.imp id (fun ⟨h1, h2⟩ => ⟨h1, Nat.lt_of_lt_of_le h2 e2.size⟩) hb, by rcases hb with hb | hb; have := hZ.lt b hb; have := e.size; omega; omega⟩⟩ (rec_ _ _ _ (h'.newbox (by simpa [dstOk] using hd) e2 (Nat.le_refl _) ⟨T, ?_⟩) (f'.newbox h' (hW d hod) _ _ _ e2) (hR.free hfr fun d2 hd2 => by show find (_ :: _) d2 = _; rw [find_cons, if_neg hd2]) ((hZ.zI h (e.trans e2).size (Nat.le_refl _)).newbox _ _ _) (hk _ _ (e.trans e2) e.size (by simp)))
                  show (w'.heap.push _)[w'.heap.size]? = _
                  simp
                · exact hk.elim
              · exact hk.elim
            | new N =>
              rw [hsem] at hk hs
              intro w' e
              obtain ⟨x, w2, g1, g2, g3, g4⟩ := hs w' _ (hk w' e)
              obtain ⟨h', f'⟩ := post_ext h f (e.trans g3)
              exact ⟨_, w2, g1, g3, putv x w2 g2 h' f' (hZ.zI h e.size g3.size) g4⟩
            | _ => rw [hsem] at hk; exact hk.elim
          | big =>
            simp only
            rw [hkd] at hk
            cases hsem : sem1 cx s o with
            | big B =>
              rw [hsem] at hk hs
              intro w' e
              obtain ⟨h', f'⟩ := post_ext h f e
              obtain ⟨x, w2, g1, g2, _, g4⟩ := hs w' _ (hk w' e)
              obtain ⟨k1, k2, k3⟩ := keepP_ok h' g4
              unfold Oper.wp
              rcases g1 with g1 | ⟨g1, rfl⟩
              · rw [g1]; exact ⟨hG _ _ (guards_ok k2 hR k1).1, putv x w2 g2 k2 (f'.kept k3) (InvZ.none _ _) (guards_ok k2 hR k1).2⟩
              · rw [g1]; exact ⟨hG _ _ (guards_ok k2 hR k1).1, putv _ w2 g2 k2 (f'.kept k3) (InvZ.none _ _) (guards_ok k2 hR k1).2⟩
            | lst d b cs =>
              rw [hsem] at hk hs
              simp only at hk
              intro w' e
              obtain ⟨h', f'⟩ := post_ext h f e
              obtain ⟨cs0, hb, hs⟩ := hs
              obtain ⟨w2, g1, g2, g3⟩ := hs w' ((h'.bx d _ hb).1 (by intro e; cases e))
              obtain ⟨k1, k2⟩ := lst_ok h' f' hb g2 g3
              have hR2 : GR (s.setbox d ⟨b, cs, .rw⟩) (killG d gs) ps := GR.kill (fun d2 hd2 => by show find (_ :: _) d2 = _; rw [find_cons, if_neg hd2]) hR
              unfold Oper.wp
              rw [g1]
              have hgd := guards_ok k1 hR2 (hk w' e w2 g2)
              exact ⟨hG _ _ hgd.1, denDraw_ok ok cv hD hall l (killG d gs) ps G _ _ _ _ (hR2.move fun d _ b cs m hf => ⟨m, by rw [putO_bx]; exact hf⟩) (InvZ.none _ _) hG (k1.putO hd (locOk_v _)) (k2.putO hW _ _) hgd.2⟩
            | call g xs =>
              rw [hsem] at hk hs
              intro w' e
              obtain ⟨h', f'⟩ := post_ext h f e
              obtain ⟨g1, g2⟩ := hs
              unfold Oper.wp
              rw [g2 w']
              refine (ok.O _ cv g xs _ w' g1 (hk w' e)).mono ?_
              intro e w2 hkx
              cases e with
              | returned x =>
                obtain ⟨k1, k2, k3⟩ := keepP_ok h' hkx
                exact ⟨hG _ _ (guards_ok k2 hR k1).1, putv (.v x) w2 (argOk_v x) k2 (f'.kept k3) (InvZ.none _ _) (guards_ok k2 hR k1).2⟩
              | _ => exact hkx.elim
            | callV v vs r =>
              rw [hsem] at hk hs
              intro w' e
              obtain ⟨h', f'⟩ := post_ext h f e
              obtain ⟨g, first, cap, rfl, hb, hcall⟩ := cv v vs _ w' (hk w' e)
              unfold Oper.wp
              rw [hs w', run_value hb]
              refine hcall.mono ?_
              intro e w2 hkx
              cases e with
              | returned x =>
                obtain ⟨us, rfl, hk2⟩ := exVs_some (show exVs r _ from hkx)
                obtain ⟨k1, k2, k3⟩ := keepP_ok h' hk2
                exact ⟨hG _ _ (guards_ok k2 hR k1).1, putv (.v _) w2 (argOk_v _) k2 (f'.kept k3) (InvZ.none _ _) (guards_ok k2 hR k1).2⟩
              | _ => exact hkx.elim
            | _ => rw [hsem] at hk; exact hk.elim
          | alc =>
            simp only
            rw [hkd] at hk
            cases hsem : sem1 cx s o with
            | box cs =>
              rw [hsem] at hk hs
              obtain ⟨T, hs⟩ := hs
              simp only at hk
              split at hk
              · rename_i d hod
                split at hk
                · rename_i hfr
                  refine ⟨fun b => .pointer (some ⟨b, 0, none⟩), .cells cs.toArray T, hs, fun b w' e hz hb => ?_⟩
                  obtain ⟨h', f'⟩ := post_ext h f e
                  rw [hod] at hd ⊢
                  have hblt : b < w'.heap.size := (Array.getElem?_eq_some_iff.1 hb).1
                  refine rec_ _ _ _ (h'.newboxZ (by simpa [dstOk] using hd) ⟨T, hb⟩ (fun d2 b2 hf hm he => ?_) (fun hr => ?_)) (f'.newbox h' (hW d hod) _ _ _ (Ext.refl _)) (hR.free hfr fun d2 hd2 => by show find (_ :: _) d2 = _; rw [find_cons, if_neg hd2]) ((hZ.zI h e.size (Nat.le_refl _)).newbox _ _ _) (hk b w' e hz hblt)
                  · rcases hz with hz | hz
                    · exact hZ.bx d2 b2 hf hm (he ▸ hz)
                    · have := blk_lt ((h.bx d2 b2 hf).1 hm); omega
                  · rcases hz with hz | hz
                    · exact hZ.ro b hr hz
                    · have := h.ro b hr; omega
                · exact hk.elim
              · exact hk.elim
            | new N =>
              rw [hsem] at hk
              simp only at hk
              split at hk
              · rename_i bytes z x y hms
                obtain ⟨h0, hle, hbb, h62, hk⟩ := hk
                obtain ⟨T, hrun⟩ := ok_mks h hms h0 hle hbb h62
                refine ⟨fun b => .slice (some ⟨b, 0, none⟩) x.toNat y.toNat, .cells (zeros z y.toNat).toArray T, hrun, fun b w' e hz hb => ?_⟩
                obtain ⟨h', f'⟩ := post_ext h f e
                exact rec_ _ _ _ (h'.putO hd (locOk_v _)) (f'.putO hW _ _) hRp (((hZ.zI h e.size (Nat.le_refl _)).less fun _ h => h.1).putO _ _) (hk b w' e hz ⟨T, hb⟩)
              · split at hk
                · rename_i hmp
                  refine ⟨fun r => .map (some r), .map #[] 0, ok_mapOf hmp, fun r w' e hz hb => ?_⟩
                  obtain ⟨h', f'⟩ := post_ext h f e
                  exact rec_ _ _ _ (h'.putO hd (locOk_v _)) (f'.putO hW _ _) hRp (((hZ.zI h e.size (Nat.le_refl _)).less fun _ h => h.1).putO _ _) (hk r w' e hz hb)
                · exact hk.elim
            | _ => rw [hsem] at hk; exact hk.elim
          | bigz =>
            simp only
            rw [hkd] at hk
            cases hsem : sem1 cx s o with
            | big B =>
              rw [hsem] at hk hs
              intro w' e
              obtain ⟨h', f'⟩ := post_ext h f e
              obtain ⟨x, w2, g1, g2, _, gz, g4⟩ := hs w' _ (hk w' e)
              obtain ⟨k1, k2, k3⟩ := keepP_ok h' g4
              unfold Oper.wp
              rcases g1 with g1 | ⟨g1, rfl⟩
              · rw [g1]; exact ⟨hG _ _ (guards_ok k2 hR k1).1, gz, putv x w2 g2 k2 (f'.kept k3) (hZ.zI h e.size gz.1) (guards_ok k2 hR k1).2⟩
              · rw [g1]; exact ⟨hG _ _ (guards_ok k2 hR k1).1, gz, putv _ w2 g2 k2 (f'.kept k3) (hZ.zI h e.size gz.1) (guards_ok k2 hR k1).2⟩
            | call g xs =>
              rw [hsem] at hk hs
              intro w' e
              obtain ⟨h', f'⟩ := post_ext h f e
              obtain ⟨g1, g2⟩ := hs
              unfold Oper.wp
              rw [g2 w']
              refine (ok.O _ cv g xs _ w' g1 (hk w' e)).mono ?_
              intro e w2 hkx
              cases e with
              | returned x =>
                obtain ⟨gz, hkx⟩ := hkx
                obtain ⟨k1, k2, k3⟩ := keepP_ok h' hkx
                exact ⟨hG _ _ (guards_ok k2 hR k1).1, gz, putv (.v x) w2 (argOk_v x) k2 (f'.kept k3) (hZ.zI h e.size gz.1) (guards_ok k2 hR k1).2⟩
              | _ => exact hkx.elim
            | _ => rw [hsem] at hk; exact hk.elim
        · rw [if_neg (by rw [hw]; exact Bool.false_ne_true)]
          exact denDraw_ok ok cv hD hall l _ _ _ _ _ _ _ (hR.move fun d _ b cs m hf => ⟨m, by rw [putO_bx, hbx.1]; exact hf⟩) ((hZ.of hbx.2 fun d b' hf => ⟨b', by rw [← hbx.1]; exact hf, rfl, id⟩).putO _ _) hG (h1.putO hd (locOk_v _)) (f1.putO hW _ _) hr
      · exact hk.elim
end

/-! ### What is told -/
def AppOk (s' : S) : (lv : List LV) → Tup lv → Prop
  | [], _ => True
  | .slot k σ :: l, x => (∃ y, find s'.sl k = some y ∧ valOf y = some (σ.enc x.1)) ∧ AppOk s' l x.2
  | .box d σs :: l, x => (∃ b, find s'.bx d = some ⟨b, encs σs x.1, .rw⟩) ∧ AppOk s' l x.2
  | .nbox d σs :: l, x => (find s'.sl d = some (.loc d 0) ∧ find s'.bx d = some ⟨x.1.1, encs σs x.1.2, .rw⟩) ∧ AppOk s' l x.2

theorem encs_decs : ∀ {l : List Shp} {vs : List Value} {xs : ShpsT l}, decs l vs = some xs → encs l xs = vs
  | [], [], xs, _ => rfl
  | σ :: l, v :: vs, xs, h => by
    simp only [decs] at h
    split at h
    · rename_i x ys h1 h2
      injection h with h
      subst h
      simp only [encs]
      rw [Shp.enc_dec h1, encs_decs h2]
    · cases h
  | [], _ :: _, _, h => by cases h
  | _ :: _, [], _, h => by cases h

theorem appTup_ok {s' : S} : ∀ {lv : List LV} {g : Tup lv → Prop}, app lv s' g → ∃ t, g t ∧ AppOk s' lv t
  | [], g, h => ⟨(), h, trivial⟩
  | .slot k σ :: l, g, h => by
    simp only [app] at h
    split at h
    · rename_i y hy
      split at h
      · rename_i v hv
        split at h
        · rename_i x hx
          obtain ⟨t, h1, h2⟩ := appTup_ok h
          exact ⟨(x, t), h1, ⟨y, hy, by rw [Shp.enc_dec hx]; exact hv⟩, h2⟩
        · exact h.elim
      · exact h.elim
    · exact h.elim
  | .box d σs :: l, g, h => by
    simp only [app] at h
    split at h
    · rename_i b cs hb
      split at h
      · rename_i xs hx
        obtain ⟨t, h1, h2⟩ := appTup_ok h
        exact ⟨(xs, t), h1, ⟨b, by rw [encs_decs hx]; exact hb⟩, h2⟩
      · exact h.elim
    · exact h.elim
  | .nbox d σs :: l, g, h => by
    simp only [app] at h
    split at h
    · rename_i d' b cs hs hb
      split at h
      · rename_i xs hd hx
        have hd := Nat.eq_of_beq_eq_true hd
        subst hd
        obtain ⟨t, h1, h2⟩ := appTup_ok h
        exact ⟨((b, xs), t), h1, ⟨hs, by rw [encs_decs hx]; exact hb⟩, h2⟩
      · exact h.elim
    · exact h.elim

theorem find_bindBx {s' : S} {bx : List (Nat × Bx)} {wr : List Nat} (hsame : ∀ d b b', d ∉ wr → find bx d = some b → find s'.bx d = some b' → b.b = b'.b) : ∀ {lv : List LV} {t : Tup lv} {d : Nat} {b : Bx}, AppOk s' lv t → find (bindBx bx wr lv t) d = some b → find s'.bx d = some b ∧ b.m = .rw ∧ inLV lv d = true
  | [], t, d, b, _, h => by cases h
  | .slot k σ :: l, t, d, b, ha, h => by
    obtain ⟨h1, h2, h3⟩ := find_bindBx hsame ha.2 h
    exact ⟨h1, h2, by simpa [inLV] using h3⟩
  | .box d' σs :: l, t, d, b, ha, h => by
    simp only [bindBx] at h
    have nxt : find (bindBx bx wr l t.2) d = some b → find s'.bx d = some b ∧ b.m = .rw ∧ inLV (.box d' σs :: l) d = true := fun h => by
      obtain ⟨h1, h2, h3⟩ := find_bindBx hsame ha.2 h
      exact ⟨h1, h2, by simp [inLV] at h3 ⊢; exact .inr h3⟩
    split at h
    · rename_i b0 cs0 m0 hw hb0
      rw [find_cons] at h
      split at h
      · rename_i e
        subst e
        obtain ⟨b', hb'⟩ := ha.1
        have := hsame d' _ _ (by simpa using hw) hb0 hb'
        have h := Option.some.inj h
        subst h
        simp only at this
        subst this
        exact ⟨hb', rfl, by simp [inLV]⟩
      · exact nxt h
    · exact nxt h
  | .nbox d' σs :: l, t, d, b, ha, h => by
    simp only [bindBx] at h
    rw [find_cons] at h
    split at h
    · rename_i e
      subst e
      have h := Option.some.inj h
      subst h
      exact ⟨ha.1.2, rfl, by simp [inLV]⟩
    · obtain ⟨h1, h2, h3⟩ := find_bindBx hsame ha.2 h
      exact ⟨h1, h2, by simp [inLV] at h3 ⊢; exact .inr h3⟩

theorem bindBx_has {bx : List (Nat × Bx)} {wr : List Nat} : ∀ {lv : List LV} {t : Tup lv} {d : Nat}, (isN lv d = true ∨ (inLV lv d = true ∧ d ∉ wr ∧ ∃ b, find bx d = some b)) → ∃ b, find (bindBx bx wr lv t) d = some b
  | [], t, d, h => by rcases h with h | ⟨h, _⟩ <;> simp [isN, inLV] at h
  | .slot k σ :: l, t, d, h => bindBx_has (lv := l) (t := t.2) (by simpa [isN, inLV] using h)
  | .box d' σs :: l, t, d, h => by
    simp only [bindBx]
    by_cases e : d = d'
    · subst e
      rcases h with h | ⟨h, hw, b, hb⟩
      · have h' : isN l d = true := by simpa [isN] using h
        obtain ⟨b2, hb2⟩ := bindBx_has (bx := bx) (wr := wr) (lv := l) (t := t.2) (.inl h')
        split
        · rw [find_cons, if_pos rfl]; exact ⟨_, rfl⟩
        · exact ⟨b2, hb2⟩
      · have : wr.contains d = false := by simpa using hw
        rw [this, hb]
        simp only
        rw [find_cons, if_pos rfl]
        exact ⟨_, rfl⟩
    · have h' : isN l d = true ∨ (inLV l d = true ∧ d ∉ wr ∧ ∃ b, find bx d = some b) := by
        rcases h with h | ⟨h, hr⟩
        · exact .inl (by simpa [isN] using h)
        · refine .inr ⟨?_, hr⟩
          simp [inLV] at h ⊢
          rcases h with h | h
          · exact absurd h e
          · exact h
      obtain ⟨b2, hb2⟩ := bindBx_has (bx := bx) (wr := wr) (lv := l) (t := t.2) h'
      split
      · rw [find_cons, if_neg (fun x => e x.symm)]; exact ⟨b2, hb2⟩
      · exact ⟨b2, hb2⟩
  | .nbox d' σs :: l, t, d, h => by
    simp only [bindBx]
    rw [find_cons]
    by_cases e : d' = d
    · rw [if_pos e]; exact ⟨_, rfl⟩
    · rw [if_neg e]
      refine bindBx_has (lv := l) (t := t.2) ?_
      rcases h with h | ⟨h, hr⟩
      · refine .inl ?_
        simp [isN] at h ⊢
        rcases h with h | h
        · exact absurd h.symm e
        · exact h
      · refine .inr ⟨?_, hr⟩
        simp [inLV] at h ⊢
        rcases h with h | h
        · exact absurd h.symm e
        · exact h

theorem find_bindSl {s' : S} : ∀ {lv : List LV} {t : Tup lv} {k : Nat} {x : X}, AppOk s' lv t → find (bindSl lv t) k = some x → (∃ v y, x = .v v ∧ find s'.sl k = some y ∧ valOf y = some v) ∨ (find s'.sl k = some x ∧ x = .loc k 0 ∧ isN lv k = true)
  | [], t, k, x, _, h => by cases h
  | .slot k' σ :: l, t, k, x, ha, h => by
    simp only [bindSl] at h
    rw [find_cons] at h
    split at h
    · rename_i e; subst e
      have h := Option.some.inj h
      subst h
      obtain ⟨y, h1, h2⟩ := ha.1
      exact .inl ⟨_, y, rfl, h1, h2⟩
    · exact (find_bindSl ha.2 h).imp id (fun ⟨g, e, h⟩ => ⟨g, e, by simpa [isN] using h⟩)
  | .box d σs :: l, t, k, x, ha, h => by
    exact (find_bindSl (lv := l) (t := t.2) ha.2 h).imp id (fun ⟨g, e, h⟩ => ⟨g, e, by simpa [isN] using h⟩)
  | .nbox d σs :: l, t, k, x, ha, h => by
    simp only [bindSl] at h
    rw [find_cons] at h
    split at h
    · rename_i e; subst e
      have h := Option.some.inj h
      subst h
      exact .inr ⟨ha.1.1, rfl, by simp [isN]⟩
    · exact (find_bindSl ha.2 h).imp id (fun ⟨g, e, h⟩ => ⟨g, e, by simp [isN] at h ⊢; exact .inr h⟩)

theorem find_filter_key {α : Type} {p : Nat → Bool} : ∀ {l : List (Nat × α)} {i : Nat} {x : α}, find (l.filter fun e => p e.1) i = some x → p i = true ∧ find l i = some x
  | [], i, x, h => by cases h
  | (k, y) :: l, i, x, h => by
    rw [find_cons]
    rw [List.filter_cons] at h
    by_cases hk : k = i
    · subst hk
      rw [if_pos rfl]
      split at h
      · rename_i hp; rw [find_cons, if_pos rfl] at h; exact ⟨hp, h⟩
      · rename_i hp
        have := find_filter_key h
        exact absurd this.1 hp
    · rw [if_neg hk]
      split at h
      · rw [find_cons, if_neg hk] at h; exact find_filter_key h
      · exact find_filter_key h
theorem find_filter_has {α : Type} {p : Nat → Bool} : ∀ {l : List (Nat × α)} {i : Nat} {x : α}, p i = true → find l i = some x → find (l.filter fun e => p e.1) i = some x
  | [], i, x, _, h => by cases h
  | (k, y) :: l, i, x, hp, h => by
    rw [find_cons] at h
    rw [List.filter_cons]
    by_cases hk : k = i
    · subst hk
      rw [if_pos rfl] at h
      simp only [hp, if_true]
      rw [find_cons, if_pos rfl]; exact h
    · rw [if_neg hk] at h
      split
      · rw [find_cons, if_neg hk]; exact find_filter_has hp h
      · exact find_filter_has hp h

/-- How an inner state stands to the outer one that is built upon. -/
structure Base (s0 si : S) (lv : List LV) (dr : List Nat) : Prop where
  kept : ∀ d b, find s0.bx d = some b → inLV lv d = false → d ∉ dr → b.m ≠ .out → b.b ∈ si.ro
  ro : ∀ b ∈ s0.ro, b ∈ si.ro
  back : ∀ d b, find si.bx d = some b → ∃ b0, find s0.bx d = some b0 ∧ b0.b = b.b
  fwd : ∀ d b, find s0.bx d = some b → ∃ b1, find si.bx d = some b1 ∧ b.b = b1.b

section
variable {P : Program} {n : Nat} {s0 si s' : S} {a a' : Act} {w w' : World} {lv : List LV} {dr wr : List Nat}

theorem bind_rel (hB : Base s0 si lv dr) (h : Rel P n s0 a w) (h' : Rel P n s' a' w') (f : Fr wr si a w s' a' w') (hdf : s'.df = s0.df) {t : Tup lv} (ha : AppOk s' lv t) : Rel P n (bind lv t s0 wr dr) a' w' := by
  have hsame : ∀ d b b', d ∉ wr → find s0.bx d = some b → find s'.bx d = some b' → b.b = b'.b := fun d b b' hd hb hb' => by
    obtain ⟨b1, h1, e1⟩ := f.bk d hd b' hb'
    obtain ⟨b0, h0, e0⟩ := hB.back d b1 h1
    rw [hb] at h0
    have h0 := Option.some.inj h0
    subst h0
    exact e0.trans e1
  have hro := f.ro
  -- the boxes
  have box : ∀ d b, find (bind lv t s0 wr dr).bx d = some b → (find s'.bx d = some b ∧ b.m = .rw) ∨ (find s0.bx d = some b ∧ d ∉ wr ∧ d ∉ dr ∧ inLV lv d = false ∧ find (bindBx s0.bx wr lv t) d = none) := fun d b hb => by
    simp only [bind] at hb
    rw [find_append] at hb
    split at hb
    · rename_i b1 h1
      have hb := Option.some.inj hb
      subst hb
      obtain ⟨g1, g2, _⟩ := find_bindBx hsame ha h1
      exact .inl ⟨g1, g2⟩
    · rename_i hn
      obtain ⟨g1, g2⟩ := find_filter_key (p := fun d => !(wr.contains d) && !(dr.contains d) && !(inLV lv d)) hb
      simp at g1
      exact .inr ⟨g2, g1.1.1, g1.1.2, g1.2, hn⟩
  have inro : ∀ d b, find s0.bx d = some b → d ∉ dr → inLV lv d = false → b.m ≠ .out → b.b ∈ s'.ro := fun d b hb h1 h2 hm => hro _ (hB.kept d b hb h2 h1 hm)
  refine ⟨fun k x hx hxb => ?_, h'.size, by rw [h'.df, hdf]; rfl, fun D hD => ⟨(h.dfw D hD).1, (h'.dfw D (by rw [hdf]; exact hD)).2⟩, h.dfn, fun d b hb => ?_, fun d1 d2 b1 b2 hne hb1 hb2 m1 m2 => ?_, fun b hb => ?_⟩
  · -- the slots
    simp only [bind] at hx
    rw [find_append] at hx
    split at hx
    · rename_i y hy
      have hx := Option.some.inj hx
      subst hx
      rcases find_bindSl ha hy with ⟨v, y1, rfl, g1, g2⟩ | ⟨g1, rfl, hn⟩
      · obtain ⟨g3, g4⟩ := h'.sl k _ g1 (fun e => by rw [e] at g2; cases g2)
        refine ⟨?_, fun d off e => by (cases e), xok_v _⟩
        rw [g3]
        have hn : NotLoc y1 := fun d off e => by rw [e] at g2; cases g2
        rw [conc_of hn, valOf_ok g2]; rfl
      · obtain ⟨g3, g4⟩ := h'.sl k _ g1 hxb
        obtain ⟨b, hb⟩ := bindBx_has (bx := s0.bx) (wr := wr) (t := t) (.inl hn)
        obtain ⟨e1, _, _⟩ := find_bindBx hsame ha hb
        have e2 : find (bind lv t s0 wr dr).bx k = some b := by simp only [bind]; rw [find_append, hb]
        refine ⟨?_, fun d off e => by (injection e with e _; subst e; exact ⟨b, e2⟩), xok_loc _ _⟩
        rw [g3]
        simp only [conc, e1, e2]
    · obtain ⟨g1, g2⟩ := find_kill hx hxb
      obtain ⟨g3, g4⟩ := find_filter_key (p := fun t => !(wr.contains t)) g1
      have hk : k ∉ wr := by simpa using g3
      obtain ⟨g5, g6⟩ := h.sl k x g4 hxb
      have tm := f.tm k hk
      cases x with
      | loc d off =>
        obtain ⟨b, hb⟩ := g6.1 d off rfl
        have g2 := g2 d off rfl
        simp at g2
        obtain ⟨⟨g2a, g2b⟩, g2c⟩ := g2
        have e : ∃ b1, find (bind lv t s0 wr dr).bx d = some b1 ∧ b1.b = b.b := by
          by_cases hl : inLV lv d = true
          · obtain ⟨b1, hb1⟩ := bindBx_has (bx := s0.bx) (wr := wr) (t := t) (.inr ⟨hl, g2a, b, hb⟩)
            obtain ⟨e1, _, _⟩ := find_bindBx hsame ha hb1
            exact ⟨b1, by simp only [bind]; rw [find_append, hb1], (hsame d b b1 g2a hb e1).symm⟩
          · refine ⟨b, ?_, rfl⟩
            have hn : find (bindBx s0.bx wr lv t) d = none := by
              cases hq : find (bindBx s0.bx wr lv t) d with
              | none => rfl
              | some b1 => exact absurd (find_bindBx hsame ha hq).2.2 hl
            simp only [bind]
            rw [find_append, hn]
            exact find_filter_has (p := fun d => !(wr.contains d) && !(dr.contains d) && !(inLV lv d)) (by simp [g2a, g2b]; simpa using hl) hb
        obtain ⟨b1, hb1, e1⟩ := e
        refine ⟨?_, fun d' off' e => by (injection e with e _; subst e; exact ⟨b1, hb1⟩), xok_loc _ _⟩
        rw [tm, g5]
        simp only [conc, hb, hb1, e1]
      | v x => exact ⟨by rw [tm, g5]; rfl, fun d off e => by (cases e), xok_v _⟩
      | yl x E => exact ⟨by rw [tm, g5]; rfl, fun d off e => by (cases e), g6.2⟩
      | clo f i x => exact ⟨by rw [tm, g5]; rfl, fun d off e => by (cases e), xok_clo _ _ _⟩
      | bad => exact absurd rfl hxb
  · rcases box d b hb with ⟨g1, g2⟩ | ⟨g1, g2, g3, g4, _⟩
    · obtain ⟨k1, k2, k3⟩ := h'.bx d b g1
      exact ⟨k1, fun hm hr => k2 hm (hro _ (hB.ro _ hr)), fun hm => by rw [g2] at hm; cases hm⟩
    · obtain ⟨k1, k2, k3⟩ := h.bx d b g1
      refine ⟨fun hm => ?_, k2, k3⟩
      obtain ⟨T, hT⟩ := k1 hm
      exact ⟨T, by rw [f.hp _ (hB.kept d b g1 g4 g3 hm)]; exact hT⟩
  · rcases box d1 b1 hb1 with ⟨g1, e1⟩ | ⟨g1, _, g3, g4, _⟩ <;> rcases box d2 b2 hb2 with ⟨k1, e2⟩ | ⟨k1, _, k3, k4, _⟩
    · exact h'.dist d1 d2 b1 b2 hne g1 k1 m1 m2
    · intro e
      exact (h'.bx d1 b1 g1).2.1 e1 (by rw [e]; exact inro d2 b2 k1 k3 k4 m2)
    · intro e
      exact (h'.bx d2 b2 k1).2.1 e2 (by rw [← e]; exact inro d1 b1 g1 g3 g4 m1)
    · exact h.dist d1 d2 b1 b2 hne g1 k1 m1 m2
  · have := h.ro b hb
    have e := f.hp b (hB.ro b hb)
    rw [Array.getElem?_eq_getElem this] at e
    exact (Array.getElem?_eq_some_iff.1 e).1

theorem bind_fr (hB : Base s0 si lv dr) (f : Fr wr si a w s' a' w') {t : Tup lv} (ha : AppOk s' lv t) {W : List Nat} {s00 : S} {a0 : Act} {w0 : World} (f0 : Fr W s00 a0 w0 s0 a w) (hW : ∀ k ∈ wr, k ∈ W) : Fr W s00 a0 w0 (bind lv t s0 wr dr) a' w' := by
  refine ⟨fun k hk => (f.tm k (fun e => hk (hW k e))).trans (f0.tm k hk), f0.ro, f0.df, fun b hb => (f.hp b (hB.ro b (f0.ro b hb))).trans (f0.hp b hb), fun d hd b hb => ?_⟩
  have hsame : ∀ d b b', d ∉ wr → find s0.bx d = some b → find s'.bx d = some b' → b.b = b'.b := fun d b b' hd hb hb' => by
    obtain ⟨b1, h1, e1⟩ := f.bk d hd b' hb'
    obtain ⟨b0, h0, e0⟩ := hB.back d b1 h1
    rw [hb] at h0
    have h0 := Option.some.inj h0
    subst h0
    exact e0.trans e1
  have hd' : d ∉ wr := fun e => hd (hW d e)
  simp only [bind] at hb
  rw [find_append] at hb
  split at hb
  · rename_i b1 h1
    have hb := Option.some.inj hb
    subst hb
    obtain ⟨g1, _, _⟩ := find_bindBx hsame ha h1
    obtain ⟨b2, h2, e2⟩ := f.bk d hd' b1 g1
    obtain ⟨b3, h3, e3⟩ := hB.back d b2 h2
    obtain ⟨b4, h4, e4⟩ := f0.bk d hd b3 h3
    exact ⟨b4, h4, e4.trans (e3.trans e2)⟩
  · obtain ⟨_, g2⟩ := find_filter_key (p := fun d => !(wr.contains d) && !(dr.contains d) && !(inLV lv d)) hb
    exact f0.bk d hd b g2
end
end Go.Sh

/- 'den' is sound: code, functions. -/
namespace Go.Sh
open Go.RowKit

theorem find_map {g : Nat → Bx → Bx} : ∀ (l : List (Nat × Bx)) (i : Nat), find (l.map fun e => (e.1, g e.1 e.2)) i = (find l i).map (g i)
  | [], i => rfl
  | (k, b) :: l, i => by
    rw [List.map_cons, find_cons, find_cons]
    by_cases h : k = i
    · subst h; simp
    · rw [if_neg h, if_neg h]; exact find_map l i

theorem roIds_of {lv : List LV} {dr : List Nat} : ∀ {bx : List (Nat × Bx)} {seen : List Nat} {k : Nat}, k ∈ roIds lv dr seen bx → ∃ d b, d ∉ seen ∧ find bx d = some b ∧ b.b = k ∧ b.m = .rw ∧ inLV lv d = false ∧ d ∉ dr
  | [], seen, k, h => by cases h
  | (d, ⟨b, cs, m⟩) :: l, seen, k, h => by
    simp only [roIds] at h
    have nxt : k ∈ roIds lv dr (d :: seen) l → ∃ d' b', d' ∉ seen ∧ find ((d, ⟨b, cs, m⟩) :: l) d' = some b' ∧ b'.b = k ∧ b'.m = .rw ∧ inLV lv d' = false ∧ d' ∉ dr := fun h => by
      obtain ⟨d', b', h1, h2, h3⟩ := roIds_of h
      simp only [List.mem_cons, not_or] at h1
      exact ⟨d', b', h1.2, by rw [find_cons, if_neg (fun e => h1.1 e.symm)]; exact h2, h3⟩
    split at h
    · rename_i hc
      rcases List.mem_cons.1 h with h | h
      · simp at hc
        exact ⟨d, _, hc.1.1, by rw [find_cons, if_pos rfl], h.symm, rfl, hc.1.2, hc.2⟩
      · exact nxt h
    · exact nxt h
theorem roIds_has {lv : List LV} {dr : List Nat} : ∀ {bx : List (Nat × Bx)} {seen : List Nat} {d : Nat} {b : Bx}, find bx d = some b → b.m = .rw → d ∉ seen → inLV lv d = false → d ∉ dr → b.b ∈ roIds lv dr seen bx
  | [], seen, d, b, h, _, _, _, _ => by cases h
  | (k, ⟨b0, cs, m⟩) :: l, seen, d, b, h, hm, hs, hl, hd => by
    rw [find_cons] at h
    simp only [roIds]
    by_cases hk : k = d
    · subst hk
      rw [if_pos rfl] at h
      have h := Option.some.inj h
      subst h
      simp only at hm
      subst hm
      have : (seen.contains k || inLV lv k || dr.contains k) = false := by simp [hs, hl, hd]
      rw [this]
      exact List.mem_cons_self
    · rw [if_neg hk] at h
      have ih := roIds_has h hm (seen := k :: seen) (by simp [hs]; exact fun e => hk e.symm) hl hd
      split
      · exact List.mem_cons_of_mem _ ih
      · exact ih

section
variable {P : Program} {n : Nat} {s s' : S} {a a' : Act} {w w' : World} {lv : List LV} {dr wr : List Nat}

theorem conc_map {g : Nat → Bx → Bx} (hg : ∀ d b, (g d b).b = b.b) (bx : List (Nat × Bx)) (x : X) : conc (bx.map fun e => (e.1, g e.1 e.2)) x = conc bx x := by
  cases x with
  | loc d off =>
    simp only [conc, find_map]
    cases find bx d with
    | none => rfl
    | some b => simp [hg]
  | _ => rfl

theorem inner_find (d : Nat) : find (s.inner lv dr).bx d = (find s.bx d).map fun b => { b with m := innM b.m (inLV lv d || dr.contains d) } := by
  simp only [S.inner]
  exact find_map (g := fun d b => { b with m := innM b.m (inLV lv d || dr.contains d) }) s.bx d

theorem inner_rel (h : Rel P n s a w) : Rel P n (s.inner lv dr) a w := by
  refine ⟨fun t x hx hb => ?_, h.size, h.df, fun D hD => ⟨List.mem_append_right _ (h.dfw D hD).1, (h.dfw D hD).2⟩, h.dfn, fun d b hb => ?_, fun d1 d2 b1 b2 hne hb1 hb2 m1 m2 => ?_, fun k hk => ?_⟩
  · obtain ⟨h1, h2⟩ := h.sl t x hx hb
    refine ⟨by
      rw [h1]
      simp only [S.inner]
      rw [conc_map (g := fun d b => { b with m := innM b.m (inLV lv d || dr.contains d) }) (fun _ _ => rfl)], fun d off e => ?_, h2.2⟩
    obtain ⟨b, hb⟩ := h2.1 d off e
    rw [inner_find, hb]
    exact ⟨_, rfl⟩
  · rw [inner_find] at hb
    cases hs : find s.bx d with
    | none => rw [hs] at hb; cases hb
    | some b0 =>
      rw [hs] at hb
      have hb := Option.some.inj hb
      subst hb
      obtain ⟨k1, k2, k3⟩ := h.bx d b0 hs
      refine ⟨fun hm => k1 (fun e => hm ?_), fun hm => ?_, fun hm => ?_⟩
      · simp only [e]; unfold innM; split <;> first | rfl | simp_all
      · -- still to be written: told anew, or forgotten
        have hrw : b0.m = .rw ∧ (inLV lv d || dr.contains d) = true := by
          simp only at hm
          unfold innM at hm
          split at hm
          · cases hm
          · rename_i hx
            refine ⟨hm, ?_⟩
            cases hc : (inLV lv d || dr.contains d) with
            | true => rfl
            | false => exact absurd hm (hx hc)
        simp only [S.inner, List.mem_append, not_or]
        refine ⟨fun hk => ?_, k2 hrw.1⟩
        obtain ⟨d', b', _, g1, g2, g3, g4, g5⟩ := roIds_of hk
        by_cases e : d = d'
        · subst e
          simp [g4, g5] at hrw
        · exact h.dist d d' b0 b' e hs g1 (by rw [hrw.1]; intro e; cases e) (by rw [g3]; intro e; cases e) g2.symm
      · simp only [S.inner, List.mem_append]
        simp only at hm
        unfold innM at hm
        split at hm
        · rename_i hc hrw
          simp at hc
          exact .inl (roIds_has hs hrw (by simp) hc.1 hc.2)
        · exact .inr (k3 hm)
  · rw [inner_find] at hb1 hb2
    cases hs1 : find s.bx d1 with
    | none => rw [hs1] at hb1; cases hb1
    | some c1 =>
      cases hs2 : find s.bx d2 with
      | none => rw [hs2] at hb2; cases hb2
      | some c2 =>
        rw [hs1] at hb1
        rw [hs2] at hb2
        have hb1 := Option.some.inj hb1
        have hb2 := Option.some.inj hb2
        subst hb1 hb2
        have q : ∀ (m : BM) f, innM m f ≠ .out → m ≠ .out := fun m f hm e => hm (by rw [e]; unfold innM; split <;> first | rfl | simp_all)
        exact h.dist d1 d2 c1 c2 hne hs1 hs2 (q _ _ m1) (q _ _ m2)
  · simp only [S.inner, List.mem_append] at hk
    rcases hk with hk | hk
    · obtain ⟨d', b', _, g1, g2, g3, _⟩ := roIds_of hk
      rw [← g2]
      exact blk_lt ((h.bx d' b' g1).1 (by rw [g3]; intro e; cases e))
    · exact h.ro k hk

theorem base_outer (h : Rel P n s a w) : Base s (s.inner lv dr) lv dr := by
  refine ⟨fun d b hb hl hd hm => ?_, fun b hb => List.mem_append_right _ hb, fun d b hb => ?_, fun d b hb => ?_⟩
  · cases hbm : b.m with
    | rw => exact List.mem_append_left _ (roIds_has hb hbm (by simp) hl hd)
    | ro => exact List.mem_append_right _ ((h.bx d b hb).2.2 hbm)
    | out => exact absurd hbm hm
  · rw [inner_find] at hb
    cases hs : find s.bx d with
    | none => rw [hs] at hb; cases hb
    | some b0 => rw [hs] at hb; have hb := Option.some.inj hb; subst hb; exact ⟨b0, rfl, rfl⟩
  · exact ⟨{ b with m := innM b.m (inLV lv d || dr.contains d) }, by rw [inner_find, hb]; rfl, rfl⟩
theorem base_inner (h : Rel P n s a w) : Base (s.inner lv dr) (s.inner lv dr) lv dr := by
  refine ⟨fun d b hb hl hd hm => ?_, fun b hb => hb, fun d b hb => ⟨b, hb, rfl⟩, fun d b hb => ⟨b, hb, rfl⟩⟩
  have h' := inner_rel (lv := lv) (dr := dr) h
  have hm' : b.m = .ro := by
    rw [inner_find] at hb
    cases hs : find s.bx d with
    | none => rw [hs] at hb; cases hb
    | some b0 =>
      rw [hs] at hb
      have hb := Option.some.inj hb
      subst hb
      have : (inLV lv d || dr.contains d) = false := by simp [hl, hd]
      simp only [this] at hm ⊢
      cases hb0 : b0.m with
      | rw => rfl
      | ro => rfl
      | out => rw [hb0] at hm; exact absurd rfl hm
  exact (h'.bx d b hb).2.2 hm'

theorem restore_find (d : Nat) : find (s.restore wr s').bx d = (find s'.bx d).map fun b => { b with m := restM b.m (wr.contains d) (find s.bx d) } := by
  simp only [S.restore]
  exact find_map (g := fun d b => { b with m := restM b.m (wr.contains d) (find s.bx d) }) s'.bx d

theorem restore_rel (h : Rel P n s a w) (h' : Rel P n s' a' w') (f : Fr wr (s.inner lv dr) a w s' a' w') (hdf : s'.df = s.df) : Rel P n (s.restore wr s') a' w' := by
  have sub : ∀ k ∈ s.ro, k ∈ s'.ro := fun k hk => f.ro _ (List.mem_append_right _ hk)
  have out : ∀ (m : BM) x y, restM m x y ≠ .out → m ≠ .out := fun m x y hm e => hm (by rw [e]; rfl)
  refine ⟨fun t x hx hb => ?_, h'.size, h'.df, fun D hD => ⟨(h.dfw D (hdf ▸ hD)).1, (h'.dfw D hD).2⟩, h'.dfn, fun d b hb => ?_, fun d1 d2 b1 b2 hne hb1 hb2 m1 m2 => ?_, fun k hk => h'.ro k (sub k hk)⟩
  · obtain ⟨h1, h2⟩ := h'.sl t x hx hb
    refine ⟨by
      rw [h1]
      simp only [S.restore]
      rw [conc_map (g := fun d b => { b with m := restM b.m (wr.contains d) (find s.bx d) }) (fun _ _ => rfl)], fun d off e => ?_, h2.2⟩
    obtain ⟨b, hb⟩ := h2.1 d off e
    rw [restore_find, hb]
    exact ⟨_, rfl⟩
  · rw [restore_find] at hb
    cases hs : find s'.bx d with
    | none => rw [hs] at hb; cases hb
    | some b0 =>
      rw [hs] at hb
      have hb := Option.some.inj hb
      subst hb
      obtain ⟨k1, k2, k3⟩ := h'.bx d b0 hs
      refine ⟨fun hm => k1 (out _ _ _ hm), fun hm => ?_, fun hm => ?_⟩
      · simp only at hm
        unfold restM at hm
        split at hm
        · rename_i bb cs hm0 hw hf
          obtain ⟨b1, g1, g2⟩ := f.bk d (by simpa using hw) b0 hs
          rw [inner_find, hf] at g1
          have g1 := Option.some.inj g1
          subst g1
          have := (h.bx d _ hf).2.1 rfl
          simp only at g2 this ⊢
          rw [← g2]; exact this
        · cases hm
        · cases hm
        · exact fun hk => k2 hm (sub _ hk)
      · simp only at hm
        unfold restM at hm
        split at hm
        · cases hm
        · rename_i bb cs hm0 hw hf
          obtain ⟨b1, g1, g2⟩ := f.bk d (by simpa using hw) b0 hs
          rw [inner_find, hf] at g1
          have g1 := Option.some.inj g1
          subst g1
          have := (h.bx d _ hf).2.2 rfl
          simp only at g2 this ⊢
          rw [← g2]; exact this
        · cases hm
        · rename_i hne1 hne2
          first | exact absurd hm hne1 | exact absurd hm hne2 | (simp_all; done)
  · rw [restore_find] at hb1 hb2
    cases hs1 : find s'.bx d1 with
    | none => rw [hs1] at hb1; cases hb1
    | some c1 =>
      cases hs2 : find s'.bx d2 with
      | none => rw [hs2] at hb2; cases hb2
      | some c2 =>
        rw [hs1] at hb1
        rw [hs2] at hb2
        have hb1 := Option.some.inj hb1
        have hb2 := Option.some.inj hb2
        subst hb1 hb2
        exact h'.dist d1 d2 c1 c2 hne hs1 hs2 (out _ _ _ m1) (out _ _ _ m2)

theorem restore_fr (f : Fr wr (s.inner lv dr) a w s' a' w') {W : List Nat} {s0 : S} {a0 : Act} {w0 : World} (f0 : Fr W s0 a0 w0 s a w) (hW : ∀ k ∈ wr, k ∈ W) : Fr W s0 a0 w0 (s.restore wr s') a' w' := by
  refine ⟨fun k hk => (f.tm k (fun e => hk (hW k e))).trans (f0.tm k hk), f0.ro, (let ⟨p, hp⟩ := f0.df; let ⟨q, hq⟩ := f.df; ⟨q ++ p, by show s'.df = _; rw [hq, List.append_assoc, ← hp]; rfl⟩), fun b hb => (f.hp b (List.mem_append_right _ (f0.ro b hb))).trans (f0.hp b hb), fun d hd b hb => ?_⟩
  rw [restore_find] at hb
  cases hs : find s'.bx d with
  | none => rw [hs] at hb; cases hb
  | some b0 =>
    rw [hs] at hb
    have hb := Option.some.inj hb
    subst hb
    obtain ⟨b1, g1, g2⟩ := f.bk d (fun e => hd (hW d e)) b0 hs
    rw [inner_find] at g1
    cases hs2 : find s.bx d with
    | none => rw [hs2] at g1; cases g1
    | some b2 =>
      rw [hs2] at g1
      have g1 := Option.some.inj g1
      subst g1
      obtain ⟨b3, g3, g4⟩ := f0.bk d hd b2 hs2
      exact ⟨b3, g3, g4.trans g2⟩

def cv : Ex → Exit
  | .nrm => .normal
  | .exit id => .exit id
  | .goto l => .goto l
  | .ret => .ret

def CPost (P : Program) (n : Nat) (W : List Nat) (s0 : S) (a0 : Act) (w0 : World) (K : Ex → S → World → Prop) (e : Exit) (a' : Act) (w' : World) : Prop :=
  ∃ ex s', e = cv ex ∧ Rel P n s' a' w' ∧ Fr W s0 a0 w0 s' a' w' ∧ K ex s' w'

/-! ### A loop over a function -/
theorem find_ptrs {bx : List (Nat × Bx)} : ∀ {l : List (Nat × X)} {t : Nat} {x : X}, find (ptrs bx l) t = some x → x ≠ .bad →
    ∃ y, find l t = some y ∧ y ≠ .bad ∧ ((NotLoc y ∧ x = y) ∨ ∃ d off b cs, y = .loc d off ∧ find bx d = some ⟨b, cs, .out⟩ ∧ x = .v (.pointer (some ⟨b, off, none⟩)))
  | [], t, x, h, _ => by cases h
  | (k, y) :: l, t, x, h, hx => by
    have key : ∀ z, find ((k, z) :: ptrs bx l) t = some x → (z ≠ .bad → y ≠ .bad ∧ ((NotLoc y ∧ z = y) ∨ ∃ d off b cs, y = .loc d off ∧ find bx d = some ⟨b, cs, .out⟩ ∧ z = .v (.pointer (some ⟨b, off, none⟩)))) →
        ∃ y', find ((k, y) :: l) t = some y' ∧ y' ≠ .bad ∧ ((NotLoc y' ∧ x = y') ∨ ∃ d off b cs, y' = .loc d off ∧ find bx d = some ⟨b, cs, .out⟩ ∧ x = .v (.pointer (some ⟨b, off, none⟩))) := fun z hz hk => by
      rw [find_cons] at hz ⊢
      split at hz
      · rename_i e
        rw [if_pos e]
        have hz := Option.some.inj hz
        subst hz
        obtain ⟨h1, h2⟩ := hk hx
        exact ⟨y, rfl, h1, h2⟩
      · rename_i e
        rw [if_neg e]
        exact find_ptrs hz hx
    cases y with
    | loc d off =>
      simp only [ptrs] at h
      split at h
      · rename_i b cs hb
        exact key _ h fun _ => ⟨fun e => (by cases e), .inr ⟨d, off, b, cs, rfl, hb, rfl⟩⟩
      · exact key _ h fun hn => absurd rfl hn
    | bad => exact key _ h fun hn => absurd rfl hn
    | v z => exact key _ h fun _ => ⟨fun e => (by cases e), .inl ⟨notLoc_v z, rfl⟩⟩
    | clo f i c => exact key _ h fun _ => ⟨fun e => (by cases e), .inl ⟨fun d o e => (by cases e), rfl⟩⟩
    | yl v E => exact key _ h fun _ => ⟨fun e => (by cases e), .inl ⟨fun d o e => (by cases e), rfl⟩⟩

/-- What the slots of a frame without boxes say. -/
def SlOk (P : Program) (sl : List (Nat × X)) (tm : Array Value) : Prop := ∀ t x, find sl t = some x → x ≠ .bad → tm[t]? = some (cc x) ∧ ArgOk P x

theorem ptrs_ok {P : Program} {n : Nat} {s : S} {a : Act} {w : World} (h : Rel P n s a w) : SlOk P (ptrs s.bx s.sl) a.tmps := fun t x hx hb => by
  obtain ⟨y, h1, h2, h3⟩ := find_ptrs hx hb
  obtain ⟨g1, g2⟩ := h.sl t y h1 h2
  rcases h3 with ⟨hn, rfl⟩ | ⟨d, off, b, cs, rfl, hf, rfl⟩
  · rw [conc_of hn] at g1; exact ⟨g1, hn, g2.2⟩
  · simp only [conc, hf] at g1
    exact ⟨g1, argOk_v _⟩

theorem SlOk.rel {P : Program} {n : Nat} {sl : List (Nat × X)} {tm : Array Value} (h : SlOk P sl tm) (hs : tm.size = n) {ro : List Nat} {w : World} (hr : ∀ b ∈ ro, b < w.heap.size) : Rel P n ⟨sl, [], ro, []⟩ { tmps := tm, defers := [] } w :=
  ⟨fun t x hx hb => by
    obtain ⟨h1, h2⟩ := h t x hx hb
    exact ⟨by rw [conc_of h2.1]; exact h1, fun d off e => absurd e (h2.1 d off), h2.2⟩, hs, rfl, fun D hD => (by cases hD), List.nodup_nil, fun d b hb => (by cases hb), fun d d' b b' _ hb => (by cases hb), hr⟩

theorem bindPs_ok {P : Program} {n : Nat} : ∀ {ps : List Nat} {vs : List Value} {sl sl' : List (Nat × X)} {tm : Array Value}, bindPs ps vs sl = some sl' → (∀ p ∈ ps, p < n) → tm.size = n → SlOk P sl tm →
    vs.length = ps.length ∧ SlOk P sl' ((ps.zip vs).foldl (fun t (p, v) => t.setIfInBounds p v) tm) ∧ ((ps.zip vs).foldl (fun t (p, v) => t.setIfInBounds p v) tm).size = n
  | [], [], sl, sl', tm, h, _, hs, ho => by simp only [bindPs, Option.some.injEq] at h; subst h; exact ⟨rfl, ho, hs⟩
  | p :: ps, v :: vs, sl, sl', tm, h, hp, hs, ho => by
    simp only [bindPs] at h
    have ho' : SlOk P ((p, .v v) :: sl) (tm.setIfInBounds p v) := fun t x hx hb => by
      rw [find_cons] at hx
      split at hx
      · rename_i e; subst e
        have hx := Option.some.inj hx
        subst hx
        have : p < tm.size := by rw [hs]; exact hp p List.mem_cons_self
        exact ⟨by simp [this, cc], argOk_v _⟩
      · rename_i e
        rw [Array.getElem?_setIfInBounds_ne e]
        exact ho t x hx hb
    obtain ⟨h1, h2, h3⟩ := bindPs_ok h (fun q hq => hp q (List.mem_cons_of_mem _ hq)) (by simp [hs]) ho'
    exact ⟨by simp [h1], by simpa using h2, by simpa using h3⟩
  | [], _ :: _, _, _, _, h, _, _, _ => by cases h
  | _ :: _, [], _, _, _, h, _, _, _ => by cases h

theorem keepB_find : ∀ {bx : List (Nat × Bx)} {d : Nat} {b : Bx}, find (keepB bx) d = some b → ∃ b0, find bx d = some b0 ∧ b.b = b0.b ∧ b.cs = b0.cs ∧ b.m = keepM b0.m
  | [], _, _, h => by cases h
  | (k, ⟨b0, cs, m⟩) :: l, d, b, h => by
    simp only [keepB] at h
    rw [find_cons] at h ⊢
    split at h
    · rename_i e
      have h := Option.some.inj h
      subst h
      exact ⟨⟨b0, cs, m⟩, by rw [if_pos e], rfl, rfl, rfl⟩
    · rename_i e
      obtain ⟨b1, h1, h2⟩ := keepB_find h
      exact ⟨b1, by rw [if_neg e]; exact h1, h2⟩
theorem find_keepB : ∀ {bx : List (Nat × Bx)} {d : Nat} {b : Bx}, find bx d = some b → find (keepB bx) d = some ⟨b.b, b.cs, keepM b.m⟩
  | [], _, _, h => by cases h
  | (k, ⟨b0, cs, m⟩) :: l, d, b, h => by
    simp only [keepB]
    rw [find_cons] at h ⊢
    split at h
    · rename_i e
      have h := Option.some.inj h
      subst h
      rw [if_pos e]
    · rename_i e
      rw [if_neg e]
      exact find_keepB h
theorem conc_keepB {bx : List (Nat × Bx)} {x : X} : conc (keepB bx) x = conc bx x := by
  cases x with
  | loc d off =>
    simp only [conc]
    cases h : find bx d with
    | some b => rw [find_keepB h]
    | none =>
      cases h2 : find (keepB bx) d with
      | none => rfl
      | some b => obtain ⟨b0, h3, _⟩ := keepB_find h2; rw [h] at h3; cases h3
  | _ => rfl
theorem keepB_rel {P : Program} {n : Nat} {s : S} {a : Act} {w w' : World} {l : Nat} (h : Rel P n s a w) (hl : l ∈ s.ro) (ho : Off l w w') (hl' : l < w'.heap.size) : Rel P n ⟨s.sl, keepB s.bx, [l], []⟩ { tmps := a.tmps, defers := [] } w' := by
  refine ⟨fun t x hx hb => ?_, h.size, rfl, fun D hD => (by cases hD), List.nodup_nil, fun d b hb => ?_, fun d d' b b' hne hb hb' hm hm' => ?_, fun b hb => ?_⟩
  · obtain ⟨h1, h2⟩ := h.sl t x hx hb
    refine ⟨by rw [conc_keepB]; exact h1, fun d off e => ?_, h2.2⟩
    obtain ⟨b, hb⟩ := h2.1 d off e
    exact ⟨_, find_keepB hb⟩
  · obtain ⟨b0, h1, h2, h3, h4⟩ := keepB_find hb
    obtain ⟨k1, k2, k3⟩ := h.bx d b0 h1
    cases hm : b0.m with
    | rw =>
      rw [hm] at h4
      have hne : b0.b ≠ l := fun e => k2 hm (e ▸ hl)
      refine ⟨fun _ => ?_, fun _ => ?_, fun e => ?_⟩
      · rw [h2, h3]
        obtain ⟨T, hT⟩ := k1 (by rw [hm]; intro e; cases e)
        exact ⟨T, by rw [ho.block _ hne]; exact hT⟩
      · simp only [List.mem_singleton]; rw [h2]; exact hne
      · rw [h4] at e; cases e
    | ro =>
      rw [hm] at h4
      exact ⟨fun e => absurd h4 e, fun e => (by rw [h4] at e; cases e), fun e => (by rw [h4] at e; cases e)⟩
    | out =>
      rw [hm] at h4
      exact ⟨fun e => absurd h4 e, fun e => (by rw [h4] at e; cases e), fun e => (by rw [h4] at e; cases e)⟩
  · obtain ⟨b0, h1, h2, _, h4⟩ := keepB_find hb
    obtain ⟨b0', h1', h2', _, h4'⟩ := keepB_find hb'
    rw [h2, h2']
    refine h.dist d d' b0 b0' hne h1 h1' (fun e => hm (by rw [h4, e]; rfl)) (fun e => hm' (by rw [h4', e]; rfl))
  · simp only [List.mem_singleton] at hb; subst hb; exact hl'

theorem yl_args (v : Value) (E) (cap : Array Value) : ((X.yl v E :: cap.toList.map X.v).map cc).toArray = #[v] ++ cap := by
  apply Array.ext'
  have : cap.toList.map (cc ∘ X.v) = cap.toList := by
    rw [show (cc ∘ X.v) = id from rfl]; simp
  simp [cc, this]

theorem orE_some {f : Ex → Prop} : ∀ {l : List Ex}, orE f l → ∃ e ∈ l, f e
  | [e], h => ⟨e, by simp, h⟩
  | e :: e' :: l, h => by
    rcases h with h | h
    · exact ⟨e, by simp, h⟩
    · obtain ⟨x, h1, h2⟩ := orE_some h
      exact ⟨x, List.mem_cons_of_mem _ h1, h2⟩

theorem zip_arr (ps : Array Nat) (vs : List Value) (tm : Array Value) : (ps.zip vs.toArray).foldl (fun t (p, v) => t.setIfInBounds p v) tm = (ps.toList.zip vs).foldl (fun t (p, v) => t.setIfInBounds p v) tm := by
  rw [← Array.foldl_toList, Array.toList_zip]

theorem den_ok : ∀ (p : Plan) (cx : Cx) (r : Option Nat) (c : Code) (s : S) (a : Act) (w : World) (K : Ex → S → World → Prop) (W : List Nat) (s0 : S) (a0 : Act) (w0 : World), cx.P.follows .mixedOrders = true → CxOk cx → CVOk cx.P cx.CV → (cx.top = true → r = none) →
    (∀ k ∈ writes c, k ∈ W) → Rel cx.P n s a w → Fr W s0 a0 w0 s a w → den cx n p c s w K → c.wpIn (WF r) 0 cx.P (CPost cx.P n W s0 a0 w0 K) a w := by
  intro p
  induction p with
  | o =>
    intro cx r c s a w K W s0 a0 w0 hf ok cvo htop hW h f hk
    cases c with
    | region id ops draw =>
      cases draw with
      | true => simp only [den] at hk
      | false =>
        simp only [den] at hk
        refine wpIn_region_list (denOps_ok ok cvo (W := W) (s0 := s0) (a0 := a0) (w0 := w0) (K := K .nrm) (fun a w ⟨s', h1, h2, h3⟩ => ⟨.nrm, s', rfl, h1, h2, h3⟩) _ s a w (fun o ho t ht => hW t ?_) h f hk)
        simp only [writes, dstsOf]
        exact List.mem_filterMap.2 ⟨o, ho, ht⟩
    | skip => simp only [den] at hk; exact wpIn_skip ⟨.nrm, s, rfl, h, f, hk⟩
    | label l => simp only [den] at hk; exact wpIn_label ⟨.nrm, s, rfl, h, f, hk⟩
    | exit id => simp only [den] at hk; exact wpIn_exit ⟨.exit id, s, rfl, h, f, hk⟩
    | goto l => simp only [den] at hk; exact wpIn_goto ⟨.goto l, s, rfl, h, f, hk⟩
    | ret => simp only [den] at hk; exact wpIn_ret ⟨.ret, s, rfl, h, f, hk⟩
    | _ => simp only [den] at hk
  | draw D kd ord =>
    intro cx r c s a w K W s0 a0 w0 hf ok cvo htop hW h f hk
    cases c with
    | region id ops draw =>
      cases draw with
      | false => simp only [den] at hk
      | true =>
        simp only [den] at hk
        split at hk
        · rename_i hb
          simp only [Bool.and_eq_true] at hb
          have hD : ∀ d ∈ D, d ∉ dstsOf ops := fun d hd => by
            have := List.all_eq_true.1 hb.2 d hd
            simpa using this
          have hA : ∀ (i : Nat) o, ops[i]? = some o → ∀ t, o.dst = some t → t ∈ dstsOf ops := fun i o ho t ht => by
            simp only [dstsOf]
            exact List.mem_filterMap.2 ⟨o, List.mem_of_getElem? (by rw [Array.getElem?_toList]; exact ho), ht⟩
          exact wpIn_region_C hf hb.1.1 hb.1.2 (R := Post cx n (dstsOf ops) s a w (K .nrm)) (fun a w ⟨s', h1, h2, h3⟩ => ⟨.nrm, s', rfl, h1, f.trans (h2.mono fun t ht => hW t ht), h3⟩) (denDraw_ok ok cvo hD hA ord [] [] _ _ s a w trivial (InvZ.none _ _) (fun _ _ _ => trivial) h (.refl _ _ _ _) hk)
        · exact hk.elim
    | _ => simp only [den] at hk
  | seq p q ihp ihq =>
    intro cx r c s a w K W s0 a0 w0 hf ok cvo htop hW h f hk
    cases c with
    | seq x y =>
      simp only [den] at hk
      have hWx : ∀ k ∈ writes x, k ∈ W := fun k hk => hW k (by simp only [writes]; exact List.mem_append_left _ hk)
      have hWy : ∀ k ∈ writes y, k ∈ W := fun k hk => hW k (by simp only [writes]; exact List.mem_append_right _ hk)
      refine wpIn_seq (wpIn_mono (ihp cx r x s a w _ W s0 a0 w0 hf ok cvo htop hWx h f hk) ?_)
      rintro e a' w' ⟨ex, s', rfl, h1, h2, h3⟩
      cases ex with
      | nrm => exact ihq cx r y s' a' w' K W s0 a0 w0 hf ok cvo htop hWy h1 h2 h3
      | exit id => exact ⟨.exit id, s', rfl, h1, h2, h3⟩
      | goto l => exact ⟨.goto l, s', rfl, h1, h2, h3⟩
      | ret => exact ⟨.ret, s', rfl, h1, h2, h3⟩
    | _ => simp only [den] at hk
  | join lv dr p q ihp ihq =>
    intro cx r c s a w K W s0 a0 w0 hf ok cvo htop hW h f hk
    cases c with
    | seq x y =>
      simp only [den, Join] at hk
      have hWx : ∀ k ∈ writes x, k ∈ W := fun k hk => hW k (by simp only [writes]; exact List.mem_append_left _ hk)
      have hWy : ∀ k ∈ writes y, k ∈ W := fun k hk => hW k (by simp only [writes]; exact List.mem_append_right _ hk)
      refine wpIn_seq (wpIn_mono (ihp cx r x (s.inner lv dr) a w _ (writes x) (s.inner lv dr) a w hf ok cvo htop (fun _ h => h) (inner_rel h) (Fr.refl _ _ _ _) hk) ?_)
      rintro e a' w' ⟨ex, s', rfl, h1, h2, h3⟩
      obtain ⟨hdf, h3⟩ := h2.same (s := s.inner lv dr) h3
      cases ex with
      | nrm =>
        obtain ⟨t, g1, g2⟩ := appTup_ok h3
        exact ihq cx r y _ a' w' K W s0 a0 w0 hf ok cvo htop hWy (bind_rel (base_outer h) h h1 h2 hdf g2) (bind_fr (base_outer h) h2 g2 f hWx) g1
      | exit id => exact ⟨.exit id, _, rfl, restore_rel h h1 h2 hdf, restore_fr h2 f hWx, h3⟩
      | goto l => exact ⟨.goto l, _, rfl, restore_rel h h1 h2 hdf, restore_fr h2 f hWx, h3⟩
      | ret => exact ⟨.ret, _, rfl, restore_rel h h1 h2 hdf, restore_fr h2 f hWx, h3⟩
    | _ => simp only [den] at hk
  | cond p q ihp ihq =>
    intro cx r c s a w K W s0 a0 w0 hf ok cvo htop hW h f hk
    cases c with
    | cond o x y =>
      simp only [den] at hk
      have hWx : ∀ k ∈ writes x, k ∈ W := fun k hk => hW k (by simp only [writes]; exact List.mem_append_left _ hk)
      have hWy : ∀ k ∈ writes y, k ∈ W := fun k hk => hW k (by simp only [writes]; exact List.mem_append_right _ hk)
      split at hk
      · rename_i t he
        obtain ⟨g1, _⟩ := ev_ok h he
        simp only [conc, cc] at g1
        refine wpIn_cond (t := t) g1 ?_
        cases t with
        | true => exact ihp cx r x s a w K W s0 a0 w0 hf ok cvo htop hWx h f hk
        | false => exact ihq cx r y s a w K W s0 a0 w0 hf ok cvo htop hWy h f hk
      · exact hk.elim
    | _ => simp only [den] at hk
  | block p ihp =>
    intro cx r c s a w K W s0 a0 w0 hf ok cvo htop hW h f hk
    cases c with
    | block id x =>
      simp only [den] at hk
      refine wpIn_block (wpIn_mono (ihp cx r x s a w _ W s0 a0 w0 hf ok cvo htop hW h f hk) ?_)
      rintro e a' w' ⟨ex, s', rfl, h1, h2, h3⟩
      cases ex with
      | nrm => exact ⟨.nrm, s', rfl, h1, h2, h3⟩
      | exit j =>
        simp only [cv, Exit.inBlock]
        simp only at h3
        split at h3
        · rename_i hb
          rw [if_pos (Nat.eq_of_beq_eq_true hb)]
          exact ⟨.nrm, s', rfl, h1, h2, h3⟩
        · rename_i hb
          rw [if_neg (Nat.ne_of_beq_eq_false hb)]
          exact ⟨.exit j, s', rfl, h1, h2, h3⟩
      | goto l => exact ⟨.goto l, s', rfl, h1, h2, h3⟩
      | ret => exact ⟨.ret, s', rfl, h1, h2, h3⟩
    | _ => simp only [den] at hk
  | loop lv dr p ihp =>
    intro cx r c s a w K W s0 a0 w0 hf ok cvo htop hW h f hk
    cases c with
    | loop x =>
      simp only [den] at hk
      have hWx : ∀ k ∈ writes x, k ∈ W := fun k hk => hW k (by simpa only [writes] using hk)
      obtain ⟨t0, ⟨I, μ, hI0, hround⟩, happ0⟩ := appTup_ok hk
      have hi := inner_rel (lv := lv) (dr := dr) h
      have fi : Fr (writes x) (s.inner lv dr) a w (s.inner lv dr) a w := Fr.refl _ _ _ _
      refine wpIn_loop_ghost (fun m a1 w1 => ∃ t, Rel cx.P n (bind lv t (s.inner lv dr) (writes x) dr) a1 w1 ∧ Fr (writes x) (s.inner lv dr) a w (bind lv t (s.inner lv dr) (writes x) dr) a1 w1 ∧ I t w1 ∧ μ t w1 = m) (μ t0 w)
        ⟨t0, bind_rel (base_inner h) hi hi fi rfl happ0, bind_fr (base_inner h) fi happ0 fi (fun _ h => h), hI0, rfl⟩ ?_
      rintro m a1 w1 ⟨t, h1, f1, hI, rfl⟩
      refine wpIn_mono (ihp cx r x _ a1 w1 _ (writes x) (s.inner lv dr) a w hf ok cvo htop (fun _ h => h) h1 f1 (hround t w1 hI)) ?_
      rintro e a' w' ⟨ex, s', rfl, h2, f2, h3⟩
      obtain ⟨hdf, h3⟩ := f2.same (s := s.inner lv dr) h3
      cases ex with
      | nrm =>
        obtain ⟨t', ⟨g1, g2⟩, g3⟩ := appTup_ok h3
        exact ⟨_, g2, t', bind_rel (base_inner h) hi h2 f2 hdf g3, bind_fr (base_inner h) f2 g3 fi (fun _ h => h), g1, rfl⟩
      | exit id => exact ⟨.exit id, _, rfl, restore_rel h h2 f2 hdf, restore_fr f2 f hWx, h3⟩
      | goto l => exact ⟨.goto l, _, rfl, restore_rel h h2 f2 hdf, restore_fr f2 f hWx, h3⟩
      | ret => exact ⟨.ret, _, rfl, restore_rel h h2 f2 hdf, restore_fr f2 f hWx, h3⟩
    | _ => simp only [den] at hk
  | scope p ihp =>
    intro cx r c s a w K W s0 a0 w0 hf ok cvo htop hW h f hk
    cases c with
    | scope x =>
      simp only [den] at hk
      split at hk
      · rename_i ht
        have hr := htop ht
        subst hr
        refine wpIn_scope_top (wpIn_mono (ihp cx none x s a w _ W s0 a0 w0 hf ok cvo htop hW h f hk) ?_)
        rintro e a' w' ⟨ex, s', rfl, h1, h2, h3⟩
        cases ex with
        | nrm => exact ⟨.nrm, s', rfl, h1, h2, h3⟩
        | exit j => exact ⟨.exit j, s', rfl, h1, h2, h3⟩
        | goto l => exact h3.elim
        | ret => exact ⟨.ret, s', rfl, h1, h2, h3⟩
      · exact hk.elim
    | _ => simp only [den] at hk
  | exp ds p ihp =>
    intro cx r c s a w K W s0 a0 w0 hf ok cvo htop hW h f hk
    simp only [den] at hk
    obtain ⟨s', h1, f1, _, hk⟩ := expose_ok _ _ _ h f hk
    exact ihp cx r c s' a w K W s0 a0 w0 hf ok cvo htop hW h1 f1 hk
  | rng ds es p q ihp ihq =>
    intro cx r c s a w K W s0 a0 w0 hf ok cvo htop hW h f hk
    cases c with
    | rangeFunc g ps assign body =>
      simp only [den] at hk
      split at hk
      · rename_i gf first cap hb he
        split at hk
        · rename_i hfi hnb
          simp only [Bool.and_eq_true] at hb
          obtain ⟨⟨htp, hes⟩, hps⟩ := hb
          have hr := htop htp
          subst hr
          have hps : ∀ q ∈ ps.toList, q < n := fun q hq => by
            have := List.all_eq_true.1 hps q hq
            simpa using this
          have hfi : first = #[] := by apply Array.ext'; simpa using hfi
          subst hfi
          obtain ⟨g1, _⟩ := ev_ok h he
          simp only [conc, cc] at g1
          obtain ⟨s1, h1, f1, _, hk⟩ := expose_ok _ _ _ h f hk
          refine wpIn_rangeFunc (F := WF none) fun fn _ => ?_
          -- the record
          obtain ⟨rec, hrec⟩ : ∃ rec : Loop, rec = { state := .ready, pending := none, fn, tmps := a.tmps, params := ps, assign, body, defers := w.heap.size } := ⟨_, rfl⟩
          obtain ⟨w1, hw1⟩ : ∃ w1, (w.alloc (.deferred (some []))).alloc (.loop rec) = w1 := ⟨_, rfl⟩
          have hL1 : w1.heap[w.heap.size + 1]? = some (.loop rec) := by
            rw [← hw1]; have := World.alloc_heap_new (w.alloc (.deferred (some []))) (.loop rec); rwa [World.size_alloc] at this
          have hD1 : w1.heap[w.heap.size]? = some (.deferred (some [])) := by
            rw [← hw1]; exact (Below.heap_alloc _ _ _ (by simp)).trans (World.alloc_heap_new w _)
          have e1 : Ext w w1 := by rw [← hw1]; exact (ext_alloc w _).trans (ext_alloc _ _)
          have hlt : w.heap.size + 1 < w1.heap.size := (Array.getElem?_eq_some_iff.1 hL1).1
          have hk := hk w.heap.size (w.heap.size + 1) w1 e1 (Nat.le_refl _) (Nat.lt_succ_self _) hlt
          have hrun := run_enterLoop_outer (P := cx.P) (w := w) fn a.tmps ps assign body
          rw [← hrec, hw1] at hrun
          refine ⟨w.heap.size + 1, [markOf w.heap.size], w1, { target := .fn (.func gf) cap, args := #[.func (.yield (w.heap.size + 1)) #[] #[]] }, w1, gf,
            #[.func (.yield (w.heap.size + 1)) #[] #[]] ++ cap, w1, hrun, ?_, fun _ _ => trivial, ?_, ne_depth, ?_⟩
          · simp only [resolve, g1]
            simp [go_sem]
          · simp [invoke, go_sem, noBody_ok hnb]
          · have hcall := ok.O _ cvo gf _ _ w1 ?_ hk
            · rw [yl_args] at hcall
              refine calls_wf (hcall.mono ?_)
              intro e w7 hans
              cases e with
              | panicked c => exact hans.elim
              | outgrown => exact hans.elim
              | returned v =>
                obtain ⟨hkeep, hafter⟩ := hans
                have hro7 : ∀ b ∈ s1.ro, w7.heap[b]? = w.heap[b]? := fun b hb => (hkeep b (List.mem_cons_of_mem _ hb)).trans (e1.blk (h1.ro b hb))
                have hD7 : w7.heap[w.heap.size]? = some (.deferred (some [])) := (hkeep _ List.mem_cons_self).trans hD1
                -- the state behind it
                have post : ∀ w8, Off (w.heap.size + 1) w7 w8 → Rel cx.P n ⟨ptrs s1.bx s1.sl, [], w.heap.size :: s1.ro, w.heap.size :: s1.df⟩ { a with defers := [markOf w.heap.size] ++ a.defers } w8 ∧
                    Fr W s0 a0 w0 ⟨ptrs s1.bx s1.sl, [], w.heap.size :: s1.ro, w.heap.size :: s1.df⟩ { a with defers := [markOf w.heap.size] ++ a.defers } w8 := fun w8 ho => by
                  have hro8 : ∀ b ∈ s1.ro, w8.heap[b]? = w.heap[b]? := fun b hb => (ho.block b (by have := h1.ro b hb; omega)).trans (hro7 b hb)
                  have hD8 : w8.heap[w.heap.size]? = some (.deferred (some [])) := (ho.block _ (by omega)).trans hD7
                  have hsl := ptrs_ok h1
                  refine ⟨⟨fun t x hx hb => ?_, h1.size, ?_, fun D hD => ?_, ?_, fun d b hb => (by cases hb), fun d d' b b' _ hb => (by cases hb), fun b hb => ?_⟩, ⟨f1.tm, fun b hb => List.mem_cons_of_mem _ (f1.ro b hb), ?_, fun b hb => (hro8 b (f1.ro b hb)).trans (f1.hp b hb), fun d _ b hb => (by cases hb)⟩⟩
                  · obtain ⟨k1, k2⟩ := hsl t x hx hb
                    exact ⟨by rw [conc_of k2.1]; exact k1, fun d off e => absurd e (k2.1 d off), k2.2⟩
                  · simp [h1.df]
                  · rcases List.mem_cons.1 hD with rfl | hD
                    · exact ⟨List.mem_cons_self, hD8⟩
                    · obtain ⟨k1, k2⟩ := h1.dfw D hD
                      exact ⟨List.mem_cons_of_mem _ k1, (hro8 D k1).trans k2⟩
                  · refine List.nodup_cons.2 ⟨fun hm => ?_, h1.dfn⟩
                    have := h1.ro _ (h1.dfw _ hm).1
                    omega
                  · rcases List.mem_cons.1 hb with rfl | hb
                    · exact (Array.getElem?_eq_some_iff.1 hD8).1
                    · have hl := h1.ro b hb
                      have e := hro8 b hb
                      rw [Array.getElem?_eq_getElem hl] at e
                      exact (Array.getElem?_eq_some_iff.1 e).1
                  · obtain ⟨pre, hp⟩ := f1.df
                    exact ⟨w.heap.size :: pre, by rw [hp]; rfl⟩
                rcases hafter with ⟨hrdy, hkn⟩ | hor
                · have hl7 : w7.heap[w.heap.size + 1]? = some (.loop rec) := hrdy.trans hL1
                  have := run_endLoop (P := cx.P) hl7 (by rw [hrec]; intro e; cases e)
                  refine ⟨none, w7.putObj (w.heap.size + 1) (.loop { rec with state := .exhausted }), by rw [this, show rec.pending = none by rw [hrec]], ?_⟩
                  obtain ⟨k1, k2⟩ := post (w7.putObj (w.heap.size + 1) (.loop { rec with state := .exhausted })) (putObj_off _)
                  exact ⟨.nrm, _, rfl, k1, k2, hkn _ (putObj_off _)⟩
                · obtain ⟨ex, hmem, ⟨r0, hr0, hpd⟩, hkn⟩ := orE_some hor
                  rw [hL1] at hr0
                  injection hr0 with hr0; injection hr0 with hr0
                  subst hr0
                  have := run_endLoop (P := cx.P) hpd (by intro e; cases e)
                  refine ⟨some ex.code, _, this, ?_⟩
                  obtain ⟨k1, k2⟩ := post (w7.putObj (w.heap.size + 1) (.loop { rec with state := .exhausted, pending := some ex.code })) (putObj_off _)
                  have hq := hkn (w7.putObj (w.heap.size + 1) (.loop { rec with state := .exhausted, pending := some ex.code })) (putObj_off _)
                  cases ex with
                  | nrm => have := List.all_eq_true.1 hes _ hmem; cases this
                  | exit id => exact wpIn_exit ⟨.exit id, _, rfl, k1, k2, hq⟩
                  | goto id => exact wpIn_goto ⟨.goto id, _, rfl, k1, k2, hq⟩
                  | ret => exact wpIn_ret ⟨.ret, _, rfl, k1, k2, hq⟩
            · -- a round
              intro x hx
              rcases List.mem_cons.1 hx with rfl | hx
              · refine ⟨fun d off e => (by cases e), fun v E e => ?_⟩
                injection e with e2 e3
                subst e2 e3
                refine ⟨_, rfl, fun vs Ky w2 hE => ?_⟩
                obtain ⟨hr2, hE⟩ := hE
                have hl2 : w2.heap[w.heap.size + 1]? = some (.loop rec) := hr2.trans hL1
                have hlt2 := (Array.getElem?_eq_some_iff.1 hl2).1
                split at hE
                · rename_i sl hbind
                  obtain ⟨k1, k2, k3⟩ := bindPs_ok (P := cx.P) hbind hps h1.size (ptrs_ok h1)
                  have hy := run_yield (P := cx.P) (args := vs.toArray) hl2 (by rw [hrec]; simpa using k1)
                  rw [show rec.params = ps by rw [hrec], show rec.tmps = a.tmps by rw [hrec], zip_arr] at hy
                  rw [show rec.fn = fn by rw [hrec], show rec.assign = assign by rw [hrec], show rec.body = body by rw [hrec]] at hy
                  refine ⟨_, _, _, _, hy, roundIn_of_wpIn trivial ?_⟩
                  have okf : CxOk { cx with top := false } := ⟨ok.O, ok.Q⟩
                  have hR0 := k2.rel k3 (ro := [w.heap.size + 1]) (w := w2) (fun b hb => by simp at hb; subst hb; exact hlt2)
                  refine wpIn_mono (ihp { cx with top := false } (some (w.heap.size + 1)) assign _ _ w2 _ (writes assign) _ _ w2 hf okf cvo (fun e => by cases e) (fun _ h => h) hR0 (Fr.refl _ _ _ _) hE) ?_
                  rintro e a3 w3 ⟨ex, s3, rfl, hR3, hF3, hk3⟩
                  cases ex with
                  | nrm =>
                    have hl3 : w3.heap[w.heap.size + 1]? = some (.loop rec) := (hF3.hp _ (by simp)).trans hl2
                    refine ⟨_, run_beginRound hl3 (by rw [hrec]), ?_⟩
                    have hl4 : (w3.putObj (w.heap.size + 1) (.loop { rec with state := .busy })).heap[w.heap.size + 1]? = some (.loop { rec with state := .busy }) := World.putObj_heap_same (Array.getElem?_eq_some_iff.1 hl3).1
                    have hdf3 : a3.defers = [] := by
                      rw [hR3.df, (hF3.same hk3).1]; rfl
                    have hk3 := (hF3.same hk3).2
                    have hR4 := keepB_rel hR3 (hF3.ro _ (by simp)) (putObj_off (w := w3) (.loop { rec with state := .busy })) (Array.getElem?_eq_some_iff.1 hl4).1
                    rw [show ({ tmps := a3.tmps, defers := [] } : Act) = a3 by rw [← hdf3]] at hR4
                    refine wpIn_mono (ihq { cx with top := false } (some (w.heap.size + 1)) body _ a3 _ _ (writes body) _ _ _ hf okf cvo (fun e => by cases e) (fun _ h => h) hR4 (Fr.refl _ _ _ _) (hk3 _ (putObj_off _))) ?_
                    rintro e a5 w5 ⟨ex, s5, rfl, hR5, hF5, hk5⟩
                    have hl5 : w5.heap[w.heap.size + 1]? = some (.loop { rec with state := .busy }) := (hF5.hp _ (by simp)).trans hl4
                    have hlt5 := (Array.getElem?_eq_some_iff.1 hl5).1
                    have fin : ∀ jump, (Instr.endRound (w.heap.size + 1) jump).run cx.P w5 = .ok (.bool jump.isNone) (w5.putObj (w.heap.size + 1) (.loop { rec with state := if jump.isNone then .ready else .done, pending := jump })) := fun jump => by have := run_endRound (P := cx.P) jump hl5; exact this
                    have pend : ∀ c, Pend (w.heap.size + 1) c w1 (w5.putObj (w.heap.size + 1) (.loop { rec with state := .done, pending := some c })) := fun c => ⟨rec, hL1, World.putObj_heap_same hlt5⟩
                    cases ex with
                    | nrm =>
                      refine ⟨_, _, fin none, true, rfl, hk5 _ (putObj_off _) ?_⟩
                      rw [World.putObj_heap_same hlt5, hL1, hrec]
                      rfl
                    | exit id => exact ⟨_, _, fin (some (.exit id)), false, rfl, hk5 _ (putObj_off _) (pend _)⟩
                    | goto id => exact ⟨_, _, fin (some (.goto id)), false, rfl, hk5 _ (putObj_off _) (pend _)⟩
                    | ret => exact ⟨_, _, fin (some .ret), false, rfl, hk5 _ (putObj_off _) (pend _)⟩
                  | exit id => exact hk3.elim
                  | goto l => exact hk3.elim
                  | ret => exact hk3.elim
                · exact hE.elim
              · obtain ⟨v, _, rfl⟩ := List.mem_map.1 hx
                exact argOk_v v
        · exact hk.elim
      · exact hk.elim
    | _ => simp only [den] at hk
end
end Go.Sh

/- 'den' is sound: a function's call. -/
namespace Go.Sh
open Go.RowKit

section
variable {cx : Cx} {n : Nat} {s : S} {a : Act} {w : World}

theorem find_args : ∀ (xs : List X) (i t : Nat) (x : X), find (argSlX i xs) t = some x → ∃ k, t = i + k ∧ xs[k]? = some x
  | [], i, t, x, h => by cases h
  | y :: l, i, t, x, h => by
    simp only [argSlX] at h
    rw [find_cons] at h
    split at h
    · rename_i e
      have h := Option.some.inj h
      subst h
      exact ⟨0, by omega, rfl⟩
    · obtain ⟨k, h1, h2⟩ := find_args l (i + 1) t x h
      exact ⟨k + 1, by omega, by simpa using h2⟩

theorem rel_start {P : Program} {xs : List X} (hx : ∀ x ∈ xs, ArgOk P x) (hn : xs.length ≤ n) (w : World) :
    Rel P n ⟨argSlX 0 xs, [], [], []⟩ { tmps := (xs.map cc).toArray ++ Array.replicate (n - (xs.map cc).toArray.size) undef, defers := [] } w := by
  refine ⟨fun t x ht _ => ?_, by simp; omega, rfl, fun D hD => (by cases hD), List.nodup_nil, fun d b hb => (by cases hb), fun d d' b b' _ hb => (by cases hb), fun b hb => (by cases hb)⟩
  obtain ⟨k, h1, h2⟩ := find_args xs 0 t x ht
  have hk : t = k := by omega
  subst hk
  have hm := List.mem_of_getElem? h2
  have hlt : t < xs.length := (List.getElem?_eq_some_iff.1 h2).1
  refine ⟨?_, fun d off e => absurd e ((hx x hm).1 d off), (hx x hm).2⟩
  rw [conc_of (hx x hm).1]
  rw [Array.getElem?_append_left (by simpa using hlt)]
  simp [h2]

def resF (tmps : Array Value) : ResultVar → Sem Value
  | .tmp t => pure (tmps.getD t undef)
  | .cell x t => do loadVar t (← asAddr (tmps.getD x undef))

theorem rets_ok (h : Rel cx.P n s a w) : ∀ (l : List ResultVar) (K : List Value → Prop), rets cx s w l K → ∃ vs, K vs ∧ (l.mapM (resF a.tmps)).run cx.P w = .ok vs w
  | [], K, hk => ⟨[], hk, by simp⟩
  | .tmp t :: l, K, hk => by
    simp only [rets] at hk
    split at hk
    · rename_i v hv
      obtain ⟨vs, h1, h2⟩ := rets_ok h l _ hk
      have := evv_ok h hv
      simp only [Act.eval] at this
      refine ⟨_, h1, ?_⟩
      simp only [List.mapM_cons, Sem.run_bind, h2, resF, Sem.run_pure, Result.andThen_ok, this]
    · exact hk.elim
  | .cell x t :: l, K, hk => by
    simp only [rets] at hk
    have hs := sem1_ok (o := { dst := none, op := .load t (.tmp x), type := t, pos := "", after := #[], guard := none }) h
    split at hk
    · rename_i R hR
      rw [hR] at hs
      obtain ⟨y, h1, h2, h3⟩ := hs _ hk
      have h3 := h3 w (Ext.refl w)
      split at h1
      · rename_i v hv
        obtain ⟨vs, g1, g2⟩ := rets_ok h l _ h1
        refine ⟨_, g1, ?_⟩
        have hc : conc s.bx y = v := by
          rw [conc_of, valOf_ok hv]
          intro d off e
          rw [e] at hv
          cases hv
        rw [hc] at h3
        simp only [execOp, Act.eval] at h3
        have key : (resF a.tmps (.cell x t)).run cx.P w = .ok v w := by
          show (do loadVar t (← asAddr (a.tmps.getD x undef)) : Sem Value).run cx.P w = _
          generalize a.tmps.getD x undef = u at h3 ⊢
          have h4 : (do loadVar t (← Instr.sureAddr u) : Sem Value).run cx.P w = .ok v w := by
            simp only [Instr.loadAt, Sem.run_bind] at h3 ⊢
            generalize (Instr.sureAddr u).run cx.P w = q at *
            cases q with
            | ok p w1 =>
              simp only [Result.andThen_ok] at h3 ⊢
              generalize (loadVar t p).run cx.P w1 = q at *
              cases q with
              | ok p w1 =>
                simp only [Result.andThen_ok, Sem.run_pure, Result.ok.injEq, Next.value.injEq] at h3
                rw [h3.1, h3.2]
              | halt _ _ => simp at h3
            | halt _ _ => simp at h3
          cases u <;> first
            | (simp [Instr.sureAddr] at h4; done)
            | (rename_i p; cases p with
               | none => simp [Instr.sureAddr] at h4
               | some p => simpa [Instr.sureAddr, asAddr] using h4)
        simp only [List.mapM_cons, Sem.run_bind, key, g2, Sem.run_pure, Result.andThen_ok]
      · exact h1.elim
    · exact hk.elim

theorem results_of {fn : Func} {vs : List Value} (h : (fn.results.toList.mapM (resF a.tmps)).run cx.P w = .ok vs w) : (results fn a.tmps).run cx.P w = .ok (tup vs) w := by
  have e : results fn a.tmps = (do let vs ← fn.results.mapM (resF a.tmps); pure (if h : vs.size = 1 then vs[0] else .tuple vs)) := rfl
  rw [e, Array.mapM_eq_mapM_toList]
  simp only [Sem.run_bind, Sem.run_map, h, Result.andThen_ok, Sem.run_pure]
  congr 1
  match vs with
  | [] => rfl
  | [v] => rfl
  | v :: u :: l => simp [tup]

/-- The marks are taken off; then the results are read. -/
theorem leave_ok {cx : Cx} {n : Nat} {fn : Func} {R : Ending → World → Prop} : ∀ (ds : List Nat) (s : S) (a : Act) (w : World), s.df = ds → Rel cx.P n s a w → offs ds w (fun w' => rets cx ⟨s.sl, s.bx, s.ro, []⟩ w' fn.results.toList fun vs => R (.returned (tup vs)) w') →
    LeavesInM (WF none) 0 cx.P fn a.tmps R (ds.map markOf) .returning w
  | [], s, a, w, hd, h, hk => by
    have h' : Rel cx.P n ⟨s.sl, s.bx, s.ro, []⟩ { a with defers := [] } w := ⟨h.sl, h.size, rfl, fun D hD => (by cases hD), List.nodup_nil, h.bx, h.dist, h.ro⟩
    obtain ⟨vs, g1, g2⟩ := rets_ok h' _ _ hk
    exact ⟨_, results_of (a := a) g2, g1⟩
  | D :: ds, s, a, w, hd, h, hk => by
    obtain ⟨hD1, hD2⟩ := h.dfw D (by rw [hd]; exact List.mem_cons_self)
    have hnd := h.dfn
    rw [hd] at hnd
    refine ⟨(by intro e; cases e), .inl ⟨D, _, rfl, run_takeDeferred hD2, ?_⟩⟩
    have ho : Off D w (w.putObj D (.deferred none)) := putObj_off _
    have h' : Rel cx.P n ⟨s.sl, s.bx, s.ro, ds⟩ { a with defers := ds.map markOf } (w.putObj D (.deferred none)) := by
      refine ⟨h.sl, h.size, rfl, fun D' hD' => ?_, (List.nodup_cons.1 hnd).2, fun d b hb => ?_, h.dist, fun b hb => by rw [ho.size]; exact h.ro b hb⟩
      · obtain ⟨k1, k2⟩ := h.dfw D' (by rw [hd]; exact List.mem_cons_of_mem _ hD')
        exact ⟨k1, by rw [ho.block D' (fun e => (List.nodup_cons.1 hnd).1 (e ▸ hD'))]; exact k2⟩
      · obtain ⟨k1, k2⟩ := h.bx d b hb
        refine ⟨fun hm => ?_, k2⟩
        obtain ⟨T, hT⟩ := k1 hm
        exact ⟨T, by rw [ho.block b.b (fun e => by rw [e, hD2] at hT; cases hT)]; exact hT⟩
    exact leave_ok ds ⟨s.sl, s.bx, s.ro, ds⟩ { a with defers := ds.map markOf } _ rfl h' (hk _ ho)

theorem args_nil {P : Program} : ∀ x ∈ ([] : List X), ArgOk P x := fun _ h => by cases h
theorem args_cons {P : Program} {l : List X} (v : Value) (h : ∀ x ∈ l, ArgOk P x) : ∀ x ∈ X.v v :: l, ArgOk P x := fun x hx => by
  rcases List.mem_cons.1 hx with rfl | hx
  · exact argOk_v v
  · exact h x hx

/-- A context that knows one function more. -/
def Cx.add (P : Program) (cx : Cx) (f : FuncId) (o : CVT → List X → (Value → World → Prop) → World → Prop) (q : CVT → List X → World → (Value → Prop) → Prop) : Cx :=
  { P, CV := cx.CV, top := true, O := fun g CV xs K w => match Nat.beq g f with | true => o CV xs K w | false => cx.O g CV xs K w, Q := fun g CV xs w K => match Nat.beq g f with | true => q CV xs w K | false => cx.Q g CV xs w K }
def Cx.with (cx : Cx) (CV : CVT) : Cx := { P := cx.P, CV, top := true, O := cx.O, Q := cx.Q }
def noCV : CVT := fun _ _ _ _ => False
theorem noCV_ok (P : Program) : CVOk P noCV := fun _ _ _ _ h => h.elim
def Cx.none (P : Program) : Cx := { P, CV := noCV, top := true, O := fun _ _ _ _ _ => False, Q := fun _ _ _ _ _ => False }
theorem CxOk.none (P : Program) : CxOk (Cx.none P) := ⟨fun _ _ _ _ _ _ _ h => h.elim, fun _ _ _ _ _ _ _ h => h.elim⟩
theorem CxOk.with {cx : Cx} (h : CxOk cx) (CV : CVT) : CxOk (cx.with CV) := ⟨h.O, h.Q⟩
theorem CxOk.add {P : Program} {cx : Cx} (h : CxOk cx) (hP : cx.P = P) {f : FuncId} {o : CVT → List X → (Value → World → Prop) → World → Prop} {q : CVT → List X → World → (Value → Prop) → Prop}
    (ho : ∀ CV, CVOk P CV → ∀ xs K w, (∀ x ∈ xs, ArgOk P x) → o CV xs K w → Calls P f (xs.map cc).toArray w (Ans K))
    (hq : ∀ CV, CVOk P CV → ∀ xs K w, (∀ x ∈ xs, ArgOk P x) → q CV xs w K → ∃ v, K v ∧ ∀ w', Ext w w' → Calls P f (xs.map cc).toArray w' fun e w'' => e = .returned v ∧ Ext w' w'') : CxOk (Cx.add P cx f o q) := by
  subst hP
  refine ⟨fun CV hcv g xs K w hx hk => ?_, fun CV hcv g xs K w hx hk => ?_⟩
  · simp only [Cx.add] at hk
    cases hb : Nat.beq g f with
    | true =>
      rw [hb] at hk
      have := Nat.eq_of_beq_eq_true hb
      subst this
      exact ho CV hcv xs K w hx hk
    | false => rw [hb] at hk; exact h.O CV hcv g xs K w hx hk
  · simp only [Cx.add] at hk
    cases hb : Nat.beq g f with
    | true =>
      rw [hb] at hk
      have := Nat.eq_of_beq_eq_true hb
      subst this
      exact hq CV hcv xs K w hx hk
    | false => rw [hb] at hk; exact h.Q CV hcv g xs K w hx hk

theorem calls_den (hf : cx.P.follows .mixedOrders = true) (ok : CxOk cx) (cv : CVOk cx.P cx.CV) {f : FuncId} {fn : Func} (hfn : cx.P.funcs[f]? = some fn) (plan : Plan) {xs : List X} (hx : ∀ x ∈ xs, ArgOk cx.P x) (hn : xs.length ≤ fn.ntmps) {R : Ending → World → Prop}
    (hk : denF cx fn plan xs w (fun v w' => R (.returned v) w')) : Calls cx.P f (xs.map cc).toArray w R := by
  unfold denF at hk
  split at hk
  · rename_i c hc
    refine (callsIn_wide (n := 0)).1 (callsIn_of_wp_marks (F := WF none) hfn hc trivial ?_ rfl)
    have h0 := rel_start hx hn w
    refine wpIn_mono (den_ok plan cx none c _ _ w _ (writes c) _ _ w hf ok cv (fun _ => rfl) (fun _ h => h) h0 (Fr.refl _ _ _ _) hk) ?_
    have fin : ∀ (e : Exit) (s' : S) (a' : Act) (w' : World), (e = .normal ∨ e = .ret) → Rel cx.P fn.ntmps s' a' w' → (expose s' w' (resOps fn.results.toList) fun s => offs s.df w' fun w' => rets cx ⟨s.sl, s.bx, s.ro, []⟩ w' fn.results.toList fun vs => R (.returned (tup vs)) w') → bodyPostM (WF none) 0 cx.P fn R e a' w' := fun e s' a' w' he h1 h3 => by
      obtain ⟨s2, h2, _, ⟨_, _, _, hdf, _⟩, hr⟩ := expose_ok (W := []) _ _ _ h1 (Fr.refl [] s' a' w') h3
      have := leave_ok s2.df s2 _ w' rfl h2 hr
      rw [← h2.df] at this
      rcases he with rfl | rfl <;> exact this
    rintro e a' w' ⟨ex, s', rfl, h1, _, h3⟩
    cases ex with
    | nrm => exact fin _ s' a' w' (.inl rfl) h1 h3
    | ret => exact fin _ s' a' w' (.inr rfl) h1 h3
    | exit id => exact h3.elim
    | goto l => exact h3.elim
  · exact hk.elim
theorem calls_is (hf : cx.P.follows .mixedOrders = true) (ok : CxOk cx) (cv : CVOk cx.P cx.CV) {f : FuncId} {fn : Func} (hfn : cx.P.funcs[f]? = some fn) (plan : Plan) {xs : List X} (hx : ∀ x ∈ xs, ArgOk cx.P x) (hn : Nat.ble xs.length fn.ntmps = true) {R : Ending → World → Prop} {A : Prop}
    (e : A = denF cx fn plan xs w (fun v w' => R (.returned v) w')) (h : A) : Calls cx.P f (xs.map cc).toArray w R := calls_den hf ok cv hfn plan hx (Nat.le_of_ble_eq_true hn) (e ▸ h)
end
end Go.Sh

/- Memory, as the proofs about the shallow programs speak of it: which blocks a step may turn, slices that are owned, slices that are read. -/
namespace Go.Sh
open Go.RowKit

theorem w64 {n : Int} (h1 : -9223372036854775808 ≤ n) (h2 : n < 9223372036854775808) : IntKind.i64.wrap n = n := by
  rw [IntKind.wrap_i64]; omega
def In64 (n : Int) : Prop := -9223372036854775808 ≤ n ∧ n < 9223372036854775808
/-- Only the blocks of F, of those that were, may have turned. -/
structure Chg (F : Nat → Prop) (w w' : World) : Prop where
  os : w'.os = w.os
  tape : w'.tape = w.tape
  output : w'.output = w.output
  size : w.heap.size ≤ w'.heap.size
  block : ∀ k, k < w.heap.size → ¬ F k → w'.heap[k]? = w.heap[k]?

theorem Chg.refl (F : Nat → Prop) (w : World) : Chg F w w := ⟨rfl, rfl, rfl, Nat.le_refl _, fun _ _ _ => rfl⟩
theorem Chg.of_ext {F : Nat → Prop} {w w' : World} (h : Ext w w') : Chg F w w' := ⟨h.os, h.tape, h.output, h.size, fun _ hk _ => h.blk hk⟩
theorem Chg.of_off {F : Nat → Prop} {w w' : World} {b : Nat} (h : Off b w w') (hb : F b) : Chg F w w' :=
  ⟨h.os, h.tape, h.output, Nat.le_of_eq h.size.symm, fun k _ hF => h.block k (fun e => hF (e ▸ hb))⟩
theorem Chg.trans {F G : Nat → Prop} {a b c : World} (h : Chg F a b) (k : Chg G b c) (hG : ∀ i, i < a.heap.size → G i → F i) : Chg F a c :=
  ⟨k.os.trans h.os, k.tape.trans h.tape, k.output.trans h.output, Nat.le_trans h.size k.size,
    fun i hi hF => (k.block i (Nat.lt_of_lt_of_le hi h.size) (fun g => hF (hG i hi g))).trans (h.block i hi hF)⟩
theorem Chg.mono {F G : Nat → Prop} {a b : World} (h : Chg F a b) (hG : ∀ i, i < a.heap.size → F i → G i) : Chg G a b :=
  ⟨h.os, h.tape, h.output, h.size, fun i hi hF => h.block i hi (fun f => hF (hG i hi f))⟩
theorem Chg.ext {w w' : World} {F : Nat → Prop} (h : Chg F w w') (hF : ∀ i, i < w.heap.size → ¬ F i) : Ext w w' :=
  ⟨h.os, h.tape, h.output, h.size, fun k hk => h.block k hk (hF k hk)⟩
theorem Chg.blk {w w' : World} {F : Nat → Prop} (h : Chg F w w') {b : Nat} {cs : List Value} (hb : Blk w b cs) (hF : ¬ F b) : Blk w' b cs := by
  have hl := blk_lt hb
  obtain ⟨T, hb⟩ := hb
  exact ⟨T, by rw [h.block b hl hF]; exact hb⟩
theorem Chg.cell {w w' : World} {F : Nat → Prop} (h : Chg F w w') {p : Addr} {v : Value} (hc : w.cell? p = some v) (hF : ¬ F p.block) : w'.cell? p = some v := by
  rw [World.cell?_of_block (w := w) (h.block p.block (World.block_lt_of_cell? w p hc) hF)]; exact hc

theorem Blk.set {w : World} {b : Nat} {cs : List Value} (h : Blk w b cs) (i : Nat) (v : Value) : Blk (w.setCell ⟨b, i, none⟩ v) b (cs.set i v) := by
  obtain ⟨T, h⟩ := h
  have hl := (Array.getElem?_eq_some_iff.1 h)
  refine ⟨T, ?_⟩
  simp only [World.setCell, Array.getElem?_modify, h]
  simp
/-- A loop, by an invariant that knows more than the loop's own state. -/
theorem LoopT.gh {σ γ : Type} {body : σ → (σ → World → Prop) → World → Prop} {s : σ} {w : World} (I : γ → σ → World → Prop) (m : γ → Nat) (g : γ) (h : I g s w)
    (hb : ∀ g s w, I g s w → ∀ J : σ → World → Prop, (∀ g' s' w', I g' s' w' → m g' < m g → J s' w') → body s J w) : LoopT σ body s w := by
  classical
  have least : ∀ s w, (∃ n g, I g s w ∧ m g = n) → ∃ n, (∃ g, I g s w ∧ m g = n) ∧ ∀ k, (∃ g, I g s w ∧ m g = k) → n ≤ k := by
    intro s w ⟨n, hn⟩
    induction n using Nat.strongRecOn with
    | ind n ih =>
      by_cases hk : ∃ k, k < n ∧ ∃ g, I g s w ∧ m g = k
      · obtain ⟨k, hkn, hk⟩ := hk; exact ih k hkn hk
      · exact ⟨n, hn, fun k hk' => Nat.le_of_not_lt fun hlt => hk ⟨k, hlt, hk'⟩⟩
  refine ⟨fun s w => ∃ g, I g s w, fun s w => if hh : ∃ n g, I g s w ∧ m g = n then (least s w hh).choose else 0, ⟨g, h⟩, fun s w ⟨g, hg⟩ => ?_⟩
  have hh : ∃ n g, I g s w ∧ m g = n := ⟨_, g, hg, rfl⟩
  obtain ⟨⟨g0, hg0, hm0⟩, _⟩ := (least s w hh).choose_spec
  refine hb g0 s w hg0 _ fun g' s' w' hI hlt => ⟨⟨g', hI⟩, ?_⟩
  have hh' : ∃ n g, I g s' w' ∧ m g = n := ⟨_, g', hI, rfl⟩
  have h2 := (least s' w' hh').choose_spec.2 _ ⟨g', hI, rfl⟩
  simp only [dif_pos hh, dif_pos hh']
  omega

/-- Values of a written list go into a block. -/
def setL : List Value → Nat → List Value → List Value
  | cs, _, [] => cs
  | cs, i, v :: l => setL (cs.set i v) (i + 1) l

theorem stL_blk {b o : Nat} : ∀ (vs : List Value) (j : Nat) (w : World) (cs : List Value) (K : World → Prop), Blk w b cs → o + j + vs.length ≤ cs.length →
    (∀ w', Off b w w' → Blk w' b (setL cs (o + j) vs) → K w') → stL w ⟨b, o, none⟩ vs j K
  | [], j, w, cs, K, hb, _, hk => hk w ⟨rfl, rfl, rfl, rfl, fun _ _ => rfl⟩ hb
  | v :: l, j, w, cs, K, hb, hl, hk => by
    simp only [List.length_cons] at hl
    have ha : (⟨b, o, none⟩ : Addr).add j = ⟨b, o + j, none⟩ := add_add _ rfl j
    simp only [stL, ha]
    refine ⟨?_, frozen_blk hb _, ?_⟩
    · rw [cell_blk hb, List.getElem?_eq_getElem (by omega)]; rfl
    · refine stL_blk l (j + 1) _ (cs.set (o + j) v) K (hb.set _ _) (by simp; omega) fun w' ho hB => hk w' ?_ (by simpa [setL, Nat.add_assoc] using hB)
      exact ⟨ho.os, ho.tape, ho.output, by rw [ho.size]; simp [World.setCell], fun k hkb => by rw [ho.block k hkb, Below.heap_setCell _ _ _ _ hkb]⟩

/-- A record: its cells. -/
structure Rc (α : Type) where
  sz : Nat
  enc : α → List Value
  len : ∀ x, (enc x).length = sz
  pos : 0 < sz
  z : α
  one : ∀ x, ∀ v ∈ enc x, one v = true

/-- All cells of a list of records. -/
def Rc.flat {α : Type} (R : Rc α) (xs : List α) : List Value := xs.flatMap R.enc

section
variable {α : Type} (R : Rc α)
theorem Rc.flat_cons (x : α) (xs : List α) : R.flat (x :: xs) = R.enc x ++ R.flat xs := by simp [Rc.flat]
theorem Rc.flat_append (xs ys : List α) : R.flat (xs ++ ys) = R.flat xs ++ R.flat ys := by simp [Rc.flat]
theorem Rc.flat_len : ∀ xs : List α, (R.flat xs).length = xs.length * R.sz
  | [] => by simp [Rc.flat]
  | x :: xs => by rw [Rc.flat_cons, List.length_append, R.len, Rc.flat_len xs, List.length_cons, Nat.succ_mul, Nat.add_comm]

theorem Rc.flat_get : ∀ (xs : List α) (i j : Nat) (x : α), xs[i]? = some x → j < R.sz → (R.flat xs)[i * R.sz + j]? = (R.enc x)[j]?
  | [], i, j, x, h, _ => by simp at h
  | y :: ys, 0, j, x, h, hj => by
    simp at h; subst h
    rw [Rc.flat_cons, List.getElem?_append_left (by rw [R.len]; omega)]; simp
  | y :: ys, i + 1, j, x, h, hj => by
    simp at h
    rw [Rc.flat_cons, List.getElem?_append_right (by rw [R.len, Nat.succ_mul]; omega), R.len, ← Rc.flat_get ys i j x h hj]
    congr 1; rw [Nat.succ_mul]; omega

theorem setL_append : ∀ (vs cs ds : List Value) (i : Nat), setL (cs ++ ds) (cs.length + i) vs = cs ++ setL ds i vs
  | [], _, _, _ => rfl
  | v :: l, cs, ds, i => by
    simp only [setL]
    rw [List.set_append_right _ _ (by omega), show cs.length + i - cs.length = i by omega, Nat.add_assoc, setL_append]

theorem setL_over : ∀ (vs es ds : List Value), vs.length = es.length → setL (es ++ ds) 0 vs = vs ++ ds := by
  intro vs
  suffices h : ∀ (vs es ds pre : List Value), vs.length = es.length → setL (pre ++ (es ++ ds)) pre.length vs = pre ++ (vs ++ ds) by
    intro es ds hl; simpa using h vs es ds [] hl
  intro vs
  induction vs with
  | nil => intro es ds pre hl; cases es with | nil => rfl | cons _ _ => simp at hl
  | cons v l ih =>
    intro es ds pre hl
    cases es with
    | nil => simp at hl
    | cons e es =>
      simp only [List.length_cons, Nat.add_right_cancel_iff] at hl
      simp only [setL]
      have h := ih es ds (pre ++ [v]) hl
      simp only [List.length_append, List.length_cons, List.length_nil, Nat.zero_add, List.append_assoc, List.cons_append, List.nil_append] at h
      rw [List.set_append_right _ _ (by omega)]
      simpa using h

theorem Rc.flat_set : ∀ (xs : List α) (i : Nat) (y : α), i < xs.length → setL (R.flat xs) (i * R.sz) (R.enc y) = R.flat (xs.set i y)
  | [], i, y, h => by simp at h
  | x :: xs, 0, y, _ => by
    rw [Rc.flat_cons, Nat.zero_mul, setL_over _ _ _ (by rw [R.len, R.len]), List.set_cons_zero, Rc.flat_cons]
  | x :: xs, i + 1, y, h => by
    rw [Rc.flat_cons, List.set_cons_succ, Rc.flat_cons, ← Rc.flat_set xs i y (by simpa using h), ← setL_append, R.len, Nat.succ_mul, Nat.add_comm]

theorem zeros_append (z : List Value) (n : Nat) (hz : 0 < z.length) : zeros z (n + 1) = zeros z n ++ z := by
  apply List.ext_getElem?
  intro i
  simp only [zeros]
  by_cases hi : i < n * z.length
  · rw [List.getElem?_append_left (by simpa using hi)]
    rw [List.getElem?_map, List.getElem?_map, List.getElem?_range hi, List.getElem?_range (by rw [Nat.succ_mul]; omega)]
  · rw [List.getElem?_append_right (by simpa using hi)]
    simp only [List.length_map, List.length_range]
    by_cases hj : i < (n + 1) * z.length
    · rw [List.getElem?_map, List.getElem?_range hj]
      have h2 : i - n * z.length < z.length := by rw [Nat.succ_mul] at hj; omega
      have h3 : i % z.length = i - n * z.length := by
        have : i = (i - n * z.length) + z.length * n := by rw [Nat.mul_comm z.length n]; omega
        rw [this, Nat.add_mul_mod_self_left, Nat.mod_eq_of_lt h2]
        rw [← this]
      simp only [Option.map_some, h3]
      rw [List.getElem?_eq_getElem h2, List.getD_eq_getElem?_getD, List.getElem?_eq_getElem h2]; rfl
    · rw [List.getElem?_eq_none (by simpa using hj), List.getElem?_eq_none (by rw [Nat.succ_mul] at hj; omega)]

theorem Rc.zeros (n : Nat) : Go.Sh.zeros (R.enc R.z) n = R.flat (List.replicate n R.z) := by
  induction n with
  | zero => simp [Go.Sh.zeros, Rc.flat]
  | succ n ih => rw [zeros_append _ _ (by rw [R.len]; exact R.pos), ih, List.replicate_succ', Rc.flat_append]; simp [Rc.flat]
end

/-- The block of a slice. -/
def SV.blk (s : SV) (k : Nat) : Prop := ∃ p, s.a = some p ∧ p.block = k

/-- A slice is read. -/
structure View {α : Type} (R : Rc α) (w : World) (s : SV) (xs : List α) : Prop where
  len : s.len = xs.length
  spot : xs ≠ [] → ∀ p, s.a = some p → p.spot = none
  at_ : ∀ i x, xs[i]? = some x → ∃ p, s.a = some p ∧ ∀ j v, (R.enc x)[j]? = some v → w.cell? ⟨p.block, p.off + i * R.sz + j, none⟩ = some v

/-- A slice is owned: it is all of its block. -/
def Own {α : Type} (R : Rc α) (w : World) (s : SV) (xs : List α) : Prop :=
  ∃ rest : List α, s.len = xs.length ∧ s.cap = xs.length + rest.length ∧ ((s.a = none ∧ xs = [] ∧ rest = []) ∨ ∃ b, s.a = some ⟨b, 0, none⟩ ∧ Blk w b (R.flat (xs ++ rest)))

section
variable {α : Type} {R : Rc α} {w w' : World} {s : SV} {xs : List α}

theorem View.chg {F : Nat → Prop} (h : View R w s xs) (c : Chg F w w') (hF : ∀ k, s.blk k → ¬ F k) : View R w' s xs :=
  ⟨h.len, h.spot, fun i x hx => by
    obtain ⟨p, hp, hc⟩ := h.at_ i x hx
    exact ⟨p, hp, fun j v hv => c.cell (hc j v hv) (hF _ ⟨p, hp, rfl⟩)⟩⟩
theorem View.ext (h : View R w s xs) (e : Ext w w') : View R w' s xs :=
  ⟨h.len, h.spot, fun i x hx => by
    obtain ⟨p, hp, hc⟩ := h.at_ i x hx
    exact ⟨p, hp, fun j v hv => e.cell (hc j v hv)⟩⟩
theorem Own.chg {F : Nat → Prop} (h : Own R w s xs) (c : Chg F w w') (hF : ∀ k, s.blk k → ¬ F k) : Own R w' s xs := by
  obtain ⟨rest, h1, h2, h3⟩ := h
  refine ⟨rest, h1, h2, h3.imp id ?_⟩
  rintro ⟨b, hb, hB⟩
  exact ⟨b, hb, c.blk hB (hF _ ⟨_, hb, rfl⟩)⟩
theorem Own.ext (h : Own R w s xs) (e : Ext w w') : Own R w' s xs := h.chg (F := fun _ => False) (.of_ext e) (fun _ _ h => h)
theorem Own.view (h : Own R w s xs) : View R w s xs := by
  obtain ⟨rest, h1, h2, h3⟩ := h
  refine ⟨h1, ?_, ?_⟩
  · rintro _ p hp
    rcases h3 with ⟨h, _, _⟩ | ⟨b, h, _⟩
    · rw [h] at hp; cases hp
    · rw [h] at hp; cases hp; rfl
  · intro i x hx
    rcases h3 with ⟨_, h, _⟩ | ⟨b, h, hB⟩
    · subst h; simp at hx
    · refine ⟨_, h, fun j v hv => ?_⟩
      have hj : j < R.sz := by rw [← R.len x]; exact (List.getElem?_eq_some_iff.1 hv).1
      rw [cell_blk hB, Nat.zero_add, R.flat_get (xs ++ rest) i j x (by rw [List.getElem?_append_left (List.getElem?_eq_some_iff.1 hx).1]; exact hx) hj]
      exact hv
theorem Own.lt (h : Own R w s xs) {k : Nat} (hk : s.blk k) : k < w.heap.size := by
  obtain ⟨rest, _, _, h3⟩ := h
  obtain ⟨p, hp, rfl⟩ := hk
  rcases h3 with ⟨h, _, _⟩ | ⟨b, h, hB⟩
  · rw [h] at hp; cases hp
  · rw [h] at hp; cases hp; exact blk_lt hB
theorem Own.nil : Own R w ⟨none, 0, 0⟩ [] := ⟨[], rfl, rfl, .inl ⟨rfl, rfl, rfl⟩⟩

/-- An element's address. -/
theorem View.idx (h : View R w s xs) {i : Int} (h0 : 0 ≤ i) (hl : i.toNat < xs.length) {K : Addr → Prop}
    (hk : ∀ a, a.spot = none → (∀ j v, (R.enc xs[i.toNat])[j]? = some v → w.cell? (a.add j) = some v) → K a) : Idx s.a s.len i R.sz K := by
  obtain ⟨p, hp, hc⟩ := h.at_ i.toNat _ (List.getElem?_eq_getElem hl)
  have hs := h.spot (fun e => by subst e; simp at hl) p hp
  refine ⟨p, hp, h0, by rw [h.len]; omega, hk _ ?_ fun j v hv => ?_⟩
  · rw [add_add _ hs]
  · have := hc j v hv
    rw [add_add _ hs, add_add _ rfl]
    exact this

/-- An owned element is written. -/
theorem Own.put (h : Own R w s xs) {i : Int} (h0 : 0 ≤ i) (hl : i.toNat < xs.length) {K : Addr → Prop}
    (hk : ∀ b, s.a = some ⟨b, 0, none⟩ → (∀ (y : α) (w1 : World) (K' : World → Prop), Own R w1 s xs → (∀ w', Off b w1 w' → Own R w' s (xs.set i.toNat y) → K' w') → stL w1 ⟨b, i.toNat * R.sz, none⟩ (R.enc y) 0 K') → K ⟨b, i.toNat * R.sz, none⟩) :
    Idx s.a s.len i R.sz K := by
  obtain ⟨rest, h1, h2, h3⟩ := h
  rcases h3 with ⟨_, h, _⟩ | ⟨b, h, hB⟩
  · subst h; simp at hl
  · refine ⟨_, h, h0, by rw [h1]; omega, ?_⟩
    rw [add_add _ rfl]
    simp only [Nat.zero_add]
    refine hk b h fun y w1 K' hO hK => ?_
    obtain ⟨rest, h1, h2, h3⟩ := hO
    rcases h3 with ⟨h', _, _⟩ | ⟨b', h', hB'⟩
    · rw [h] at h'; cases h'
    · rw [h] at h'; cases h'
      have hlen : i.toNat * R.sz + R.sz ≤ (xs ++ rest).length * R.sz := by
        rw [← Nat.succ_mul]; exact Nat.mul_le_mul_right _ (by simp; omega)
      refine stL_blk (R.enc y) 0 w1 _ K' hB' ?_ fun w' ho hB2 => hK w' ho ?_
      · rw [R.flat_len, R.len]; simpa using hlen
      · rw [Nat.add_zero, R.flat_set (xs ++ rest) _ _ (by simp; omega), List.set_append_left _ _ hl] at hB2
        exact ⟨rest, by simpa using h1, by simpa using h2, .inr ⟨_, h, hB2⟩⟩

/-- make -/
theorem Own.mk {bytes : Nat} {n : Int} {K : SV → World → Prop} (h0 : 0 ≤ n) (hb : (bytes : Int) * n ≤ 2 ^ 48) (hn : n < 2 ^ 62)
    (hk : ∀ b w', Ext w w' → w.heap.size ≤ b → Own R w' ⟨some ⟨b, 0, none⟩, n.toNat, n.toNat⟩ (List.replicate n.toNat R.z) → K ⟨some ⟨b, 0, none⟩, n.toNat, n.toNat⟩ w') :
    MkS bytes (R.enc R.z) n n w K :=
  ⟨h0, Int.le_refl _, hb, hn, fun b w' e hs hB => hk b w' e hs ⟨[], by simp, by simp, .inr ⟨b, rfl, by rw [List.append_nil, ← R.zeros]; exact hB⟩⟩⟩
theorem flat_one (xs : List α) : ∀ v ∈ R.flat xs, one v = true := by
  intro v hv
  simp only [Rc.flat, List.mem_flatMap] at hv
  obtain ⟨x, _, hx⟩ := hv
  exact R.one x v hx

theorem View.cells {t : SV} {ys : List α} (h : View R w t ys) : SlCells w t.a (R.flat ys) := by
  by_cases hy : ys = []
  · subst hy; exact .inl rfl
  · right
    obtain ⟨y, hy0⟩ : ∃ y, ys[0]? = some y := by cases ys with | nil => exact absurd rfl hy | cons y _ => exact ⟨y, rfl⟩
    obtain ⟨p, hp, _⟩ := h.at_ 0 y hy0
    refine ⟨p, hp, fun j v hv => ?_⟩
    have hj := (List.getElem?_eq_some_iff.1 hv).1
    rw [R.flat_len] at hj
    have hq : j / R.sz < ys.length := Nat.div_lt_of_lt_mul (by rw [Nat.mul_comm]; exact hj)
    obtain ⟨p', hp', hc⟩ := h.at_ (j / R.sz) _ (List.getElem?_eq_getElem hq)
    rw [hp] at hp'; cases hp'
    have hr : j % R.sz < R.sz := Nat.mod_lt _ R.pos
    have he : j / R.sz * R.sz + j % R.sz = j := by rw [Nat.mul_comm]; exact Nat.div_add_mod _ _
    have := R.flat_get ys (j / R.sz) (j % R.sz) _ (List.getElem?_eq_getElem hq) hr
    rw [he, hv] at this
    have h2 := hc _ _ this.symm
    rw [Nat.add_assoc, he] at h2
    rw [add_add _ (h.spot hy p hp)]; exact h2

/-- append -/
theorem Own.app {bytes : Nat} {t : SV} {ys : List α} {K : SV → World → Prop} (h : Own R w s xs) (ht : View R w t ys)
    (hb : (xs.length + ys.length) * bytes ≤ 2 ^ 47) (hn : xs.length + ys.length < 2 ^ 62)
    (hk : ∀ s' w', Chg s.blk w w' → (∀ k, s'.blk k → s.blk k ∨ w.heap.size ≤ k) → Own R w' s' (xs ++ ys) → K s' w') : App bytes (R.enc R.z) s t w K := by
  have hlen : s.len = xs.length := h.view.len
  have hz : (R.enc R.z).length = R.sz := R.len _
  refine ⟨by rw [hlen, ht.len]; exact hb, by rw [hlen, ht.len]; exact hn, R.flat ys, by rw [R.flat_len, ht.len, hz], ht.cells, ?_⟩
  have hv := h.view.cells
  have hO := h
  obtain ⟨rest, h1, h2, h3⟩ := h
  by_cases hc : s.len + t.len ≤ s.cap
  · left
    rw [hlen, ht.len] at hc
    refine ⟨by rw [hlen, ht.len]; exact hc, ?_, ?_⟩
    · rcases h3 with ⟨h, hx, hr⟩ | ⟨b, h, hB⟩
      · left; subst hx hr; simp at h2; rw [h2] at hc; simp at hc; rw [ht.len, hc]; simp
      · right
        have hsz : ∀ j, j < (R.flat ys).length → s.len * R.sz + j < (R.flat (xs ++ rest)).length := by
          intro j hj
          rw [R.flat_len] at hj ⊢
          have : (xs.length + ys.length) * R.sz ≤ (xs ++ rest).length * R.sz := Nat.mul_le_mul_right _ (by simp; omega)
          rw [Nat.add_mul] at this
          rw [hlen]; omega
        refine ⟨_, h, rfl, flat_one ys, fun j hj => ?_, fun j hj => frozen_blk hB _⟩
        rw [hz, Nat.zero_add, cell_blk hB, List.getElem?_eq_getElem (hsz j hj)]; rfl
    · intro w' hp hn'
      rcases h3 with ⟨h, hx, hr⟩ | ⟨b, h, hB⟩
      · have := hn' h
        subst this
        refine hk _ _ (.refl _ _) (fun k hk => .inl hk) ?_
        subst hx hr
        simp at h2
        have : ys = [] := by rw [h2] at hc; simpa using hc
        subst this
        refine ⟨[], ?_, ?_, .inl ⟨h, rfl, rfl⟩⟩ <;> simp [hlen, ht.len, h2]
      · obtain ⟨ho, hc1, hc2, hcs⟩ := hp _ h
        simp only [hz, Nat.zero_add] at hc1 hc2
        refine hk _ _ (.of_off ho ⟨_, h, rfl⟩) (fun k hk => .inl hk) ?_
        obtain ⟨cs', hB', hl'⟩ := hcs _ hB
        have hle : ys.length ≤ rest.length := by omega
        have hyl : R.flat (xs ++ rest) = R.flat xs ++ (R.flat (rest.take ys.length) ++ R.flat (rest.drop ys.length)) := by
          rw [← R.flat_append, List.take_append_drop, R.flat_append]
        have h5 : (R.flat (rest.take ys.length)).length = (R.flat ys).length := by rw [R.flat_len, R.flat_len]; simp [hle]
        have : cs' = R.flat (xs ++ ys ++ rest.drop ys.length) := by
          apply List.ext_getElem?
          intro i
          rw [← cell_blk hB']
          rw [List.append_assoc, R.flat_append, R.flat_append]
          by_cases hi : s.len * R.sz ≤ i ∧ i < s.len * R.sz + (R.flat ys).length
          · have := hc1 (i - s.len * R.sz) _ (List.getElem?_eq_getElem (by omega))
            rw [show s.len * R.sz + (i - s.len * R.sz) = i by omega] at this
            rw [this, List.getElem?_append_right (by rw [R.flat_len, ← hlen]; omega), R.flat_len xs, ← hlen, List.getElem?_append_left (by omega), List.getElem?_eq_getElem (by omega)]
          · rw [hc2 i (by omega), cell_blk hB, hyl]
            by_cases hi2 : i < s.len * R.sz
            · rw [List.getElem?_append_left (by rw [R.flat_len, ← hlen]; exact hi2), List.getElem?_append_left (by rw [R.flat_len, ← hlen]; exact hi2)]
            · have h6 : (R.flat xs).length = s.len * R.sz := by rw [R.flat_len, hlen]
              have hi3 : s.len * R.sz + (R.flat ys).length ≤ i := by omega
              rw [List.getElem?_append_right (by omega), List.getElem?_append_right (by omega), h6, List.getElem?_append_right (by omega), List.getElem?_append_right (by omega), h5, h6]
        subst this
        refine ⟨rest.drop ys.length, by simp [hlen, ht.len], ?_, .inr ⟨b, h, hB'⟩⟩
        show s.cap = _
        rw [h2]; simp; omega
  · right
    refine ⟨by omega, R.flat xs, by rw [R.flat_len, hlen, hz], hv, fun b c w' e hb hle hB => ?_⟩
    refine hk _ _ (.of_ext e) (fun k hk => .inr ?_) ?_
    · obtain ⟨p, hp, rfl⟩ := hk; cases hp; exact hb
    · refine ⟨List.replicate (c - (s.len + t.len)) R.z, by simp [hlen, ht.len], ?_, .inr ⟨b, rfl, ?_⟩⟩
      · rw [hlen, ht.len] at hle ⊢; simp; omega
      · rw [R.zeros, ← R.flat_append, ← R.flat_append] at hB; exact hB

/-- append of one that lies in a block of its own -/
theorem View.one {b : Nat} {x : α} (h : Blk w b (R.enc x)) : View R w ⟨some ⟨b, 0, none⟩, 1, 1⟩ [x] :=
  ⟨rfl, fun _ p hp => by cases hp; rfl, fun i y hy => by
    cases i with
    | zero => simp at hy; subst hy; exact ⟨_, rfl, fun j v hv => by rw [cell_blk h]; simpa using hv⟩
    | succ i => simp at hy⟩
theorem View.all {b : Nat} {xs : List α} {c : Nat} (h : Blk w b (R.flat xs)) : View R w ⟨some ⟨b, 0, none⟩, xs.length, c⟩ xs :=
  ⟨rfl, fun _ p hp => by cases hp; rfl, fun i y hy => ⟨_, rfl, fun j v hv => by
    have hj : j < R.sz := by rw [← R.len y]; exact (List.getElem?_eq_some_iff.1 hv).1
    rw [cell_blk h, Nat.zero_add, R.flat_get xs i j y hy hj]; exact hv⟩⟩
end
end Go.Sh

/- What all plain proofs lean on: records of ints, blocks laid since a world. -/
set_option maxRecDepth 100000
namespace Go.Sh
open Go.RowKit

def RI : Rc Int where
  sz := 1
  enc e := [.int .i64 e]
  len _ := rfl
  pos := by decide
  z := 0
  one := by intro x v hv; simp at hv; subst hv; rfl

theorem addm (b o i : Nat) : (⟨b, o, none⟩ : Addr).add i = ⟨b, o + i, none⟩ := add_add _ rfl i

def RD : Rc (Int × Int × Int) where
  sz := 3
  enc e := [.int .i64 e.1, .int .i64 e.2.1, .int .i64 e.2.2]
  len _ := rfl
  pos := by decide
  z := (0, 0, 0)
  one := by intro x v hv; simp at hv; rcases hv with rfl | rfl | rfl <;> rfl

theorem do_idx {w : World} {s : SV} {ds : List (Int × Int × Int)} (h : View RD w s ds) {i : Nat} (hl : i < ds.length) {K : Addr → Prop}
    (hk : ∀ a, w.cell? (a.add 0) = some (.int .i64 ds[i].1) → w.cell? (a.add 1) = some (.int .i64 ds[i].2.1) → w.cell? (a.add 2) = some (.int .i64 ds[i].2.2) → K a) : Idx s.a s.len (i : Int) 3 K := by
  refine View.idx (R := RD) h (by omega) (by simpa using hl) fun a _ hc => ?_
  simp only [Int.toNat_natCast] at hc
  exact hk a (hc 0 _ rfl) (hc 1 _ rfl) (hc 2 _ rfl)

def Dj (F G : Nat → Prop) : Prop := ∀ k, F k → ¬ G k
theorem Dj.symm {F G : Nat → Prop} (h : Dj F G) : Dj G F := fun k hg hf => h k hf hg
theorem Dj.grow {F F' G : Nat → Prop} {n : Nat} (h : Dj F G) (hf : ∀ k, F' k → F k ∨ n ≤ k) (hg : ∀ k, G k → k < n) : Dj F' G := fun k hk hG => by
  rcases hf k hk with h' | h'
  · exact h k h' hG
  · have := hg k hG; omega

theorem wsucc {n m : Nat} (h : n < m) (hm : m < 2 ^ 62) : IntKind.i64.wrap ((n : Int) + 1) = ((n + 1 : Nat) : Int) := by
  rw [w64 (by omega) (by omega)]; omega

theorem ext_off {w a a' : World} {b : Nat} (e : Ext w a) (o : Off b a a') (hb : w.heap.size ≤ b) : Ext w a' :=
  ((Chg.of_ext (F := fun k => k = b) e).trans (Chg.of_off (F := fun k => k = b) o rfl) fun _ _ h => h).ext fun i hi e => by omega
theorem Own.off {α : Type} {R : Rc α} {w w' : World} {s : SV} {xs : List α} {b : Nat} (h : Own R w s xs) (o : Off b w w') (hb : ¬ s.blk b) : Own R w' s xs :=
  h.chg (F := fun k => k = b) (.of_off o rfl) fun _ hk e => hb (e ▸ hk)
/-- A slice laid since a world. -/
def Fsh (w : World) (s : SV) : Prop := ∀ k, s.blk k → w.heap.size ≤ k
theorem fsh_nil {w : World} {n c : Nat} : Fsh w ⟨none, n, c⟩ := fun k ⟨p, hp, _⟩ => by cases hp


theorem kp_ext {w w' : World} {bs : List Nat} (e : Ext w w') (h : ∀ b ∈ bs, b < w.heap.size) : Keeps bs w w' := fun c hc => e.blk (h c hc)
theorem kp_chg {w w' : World} {F : Nat → Prop} {bs : List Nat} (c : Chg F w w') (h : ∀ b ∈ bs, b < w.heap.size ∧ ¬ F b) : Keeps bs w w' := fun b hb => c.block b (h b hb).1 (h b hb).2
theorem ext_chg {w a b : World} {F : Nat → Prop} (e : Ext w a) (c : Chg F a b) (hF : ∀ k, F k → w.heap.size ≤ k) : Ext w b :=
  ((Chg.of_ext (F := F) e).trans c fun _ _ h => h).ext fun i hi h => by have := hF i h; omega
theorem Fsh.ext {w w' : World} {s : SV} (h : Fsh w' s) (e : Ext w w') : Fsh w s := fun k hk => Nat.le_trans e.size (h k hk)

theorem add0 {b o : Nat} : (⟨b, o, none⟩ : Addr).add 0 = ⟨b, o, none⟩ := by rw [addm]; rfl
theorem int_idx {w : World} {s : SV} {xs : List Int} (h : View RI w s xs) {i : Nat} (hl : i < xs.length) {K : Addr → Prop}
    (hk : ∀ a, w.cell? a = some (.int .i64 xs[i]) → K a) : Idx s.a s.len (i : Int) 1 K := by
  refine View.idx (R := RI) h (by omega) (by simpa using hl) fun a ha hc => ?_
  have := hc 0 _ rfl
  simp only [Int.toNat_natCast] at this
  obtain ⟨b, o, sp⟩ := a
  simp only at ha; subst ha
  rw [add0] at this
  exact hk _ this

/-- An element of an owned slice is written. -/
theorem own_wr {α : Type} {R : Rc α} {w : World} {s : SV} {xs : List α} (h : Own R w s xs) {i : Nat} (hl : i < xs.length) {K : Addr → Prop}
    (hk : ∀ b, s.a = some ⟨b, 0, none⟩ → (∀ (y : α) (w1 : World) (K' : World → Prop), Own R w1 s xs → (∀ w', Off b w1 w' → Own R w' s (xs.set i y) → K' w') → stL w1 ⟨b, i * R.sz, none⟩ (R.enc y) 0 K') → K ⟨b, i * R.sz, none⟩) :
    Idx s.a s.len (i : Int) R.sz K := by
  refine h.put (i := (i : Int)) (by omega) (by simpa using hl) fun b hb hput => ?_
  simp only [Int.toNat_natCast] at hput ⊢
  exact hk b hb hput
/-- s[lo:hi] of an owned slice. -/
theorem Own.slice {α : Type} {R : Rc α} {w : World} {s : SV} {xs : List α} (h : Own R w s xs) {lo hi : Nat} (h1 : lo ≤ hi) (h2 : hi ≤ xs.length) {K : SV → Prop}
    (hk : ∀ t : SV, View R w t ((xs.drop lo).take (hi - lo)) → (∀ k, t.blk k → s.blk k) → K t) : semSlice R.sz s.a s.len s.cap (some (lo : Int)) (some (hi : Int)) K := by
  obtain ⟨rest, hl, hc, hs⟩ := h
  unfold semSlice
  simp only [Option.getD_some, Int.toNat_natCast]
  refine ⟨by omega, fun x hx => by injection hx with hx; omega, by omega, by omega, hk _ ?_ ?_⟩
  · refine ⟨by simp; omega, ?_, ?_⟩
    · rintro _ p hp
      rcases hs with ⟨ha, _, _⟩ | ⟨b, ha, hB⟩
      · simp only [ha, Option.map_none, ite_self] at hp; cases hp
      · simp only [ha, Option.map_some, addm] at hp
        split at hp <;> (cases hp; rfl)
    · intro i x hx
      have hi' : i < hi - lo := by have := (List.getElem?_eq_some_iff.1 hx).1; simp at this; omega
      rw [List.getElem?_take, if_pos hi', List.getElem?_drop] at hx
      rcases hs with ⟨ha, hx0, _⟩ | ⟨b, ha, hB⟩
      · subst hx0; simp at hx
      · refine ⟨⟨b, lo * R.sz, none⟩, ?_, fun j v hv => ?_⟩
        · simp only [ha, Option.map_some, addm, Nat.zero_add]
          rw [if_neg (by omega)]
        · have hj : j < R.sz := by rw [← R.len x]; exact (List.getElem?_eq_some_iff.1 hv).1
          have := R.flat_get (xs ++ rest) (lo + i) j x (by rw [List.getElem?_append_left (by omega)]; exact hx) hj
          simp only
          rw [cell_blk hB, show lo * R.sz + i * R.sz + j = (lo + i) * R.sz + j by rw [Nat.add_mul], this]; exact hv
  · rintro k ⟨p, hp, rfl⟩
    rcases hs with ⟨ha, _, _⟩ | ⟨b, ha, hB⟩
    · simp only [ha, Option.map_none, ite_self] at hp; cases hp
    · refine ⟨_, ha, ?_⟩
      simp only [ha, Option.map_some, addm] at hp
      split at hp <;> (cases hp; rfl)

/-- make: a slice laid since. -/
theorem own_mk {α : Type} {R : Rc α} {w : World} {bytes : Nat} {n : Int} {K : SV → World → Prop} (h0 : 0 ≤ n) (hb : (bytes : Int) * n ≤ 2 ^ 48) (hn : n < 2 ^ 62)
    (hk : ∀ s w', Ext w w' → Fsh w s → Own R w' s (List.replicate n.toNat R.z) → K s w') : MkS bytes (R.enc R.z) n n w K :=
  Own.mk (R := R) h0 hb hn fun _ w' e hs hO => hk _ w' e (fun k ⟨p, hp, hq⟩ => by cases hp; rw [← hq]; exact hs) hO

theorem min3 {a b c : Int} : (if c < (if b < a then b else a) then c else (if b < a then b else a)) < 0 ↔ a < 0 ∨ b < 0 ∨ c < 0 := by
  by_cases h : b < a
  · simp only [if_pos h]; split <;> omega
  · simp only [if_neg h]; split <;> omega
theorem min2 {a b m : Int} : m ≥ (if b < a then b else a) ↔ m ≥ a ∨ m ≥ b := by split <;> omega
theorem max2 {a b N : Int} : (if b > a then b else a) ≥ N ↔ a ≥ N ∨ b ≥ N := by split <;> omega

end Go.Sh

/- Hierarchies, in plain lists. -/
set_option maxRecDepth 100000
namespace Go.Sh
open Go.RowKit

/-- From, To, W, Mid, Arc -/
abbrev Wy := Int × Int × Int × Int × Int
def yF (y : Wy) : Int := y.1
def yT (y : Wy) : Int := y.2.1
def yW (y : Wy) : Int := y.2.2.1
def yM (y : Wy) : Int := y.2.2.2.1
def yA (y : Wy) : Int := y.2.2.2.2
def RW : Rc Wy where
  sz := 5
  enc e := [.int .i64 e.1, .int .i64 e.2.1, .int .i64 e.2.2.1, .int .i64 e.2.2.2.1, .int .i64 e.2.2.2.2]
  len _ := rfl
  pos := by decide
  z := (0, 0, 0, 0, 0)
  one := by intro x v hv; simp at hv; rcases hv with rfl | rfl | rfl | rfl | rfl <;> rfl

theorem way_idx {w : World} {s : SV} {ys : List Wy} (h : View RW w s ys) {i : Nat} (hl : i < ys.length) {K : Addr → Prop}
    (hk : ∀ a, a.spot = none → w.cell? (a.add 0) = some (.int .i64 (yF ys[i])) → w.cell? (a.add 1) = some (.int .i64 (yT ys[i])) → w.cell? (a.add 2) = some (.int .i64 (yW ys[i])) → w.cell? (a.add 3) = some (.int .i64 (yM ys[i])) → w.cell? (a.add 4) = some (.int .i64 (yA ys[i])) → K a) : Idx s.a s.len (i : Int) 5 K := by
  refine View.idx (R := RW) h (by omega) (by simpa using hl) fun a ha hc => ?_
  simp only [Int.toNat_natCast] at hc
  exact hk a ha (hc 0 _ rfl) (hc 1 _ rfl) (hc 2 _ rfl) (hc 3 _ rfl) (hc 4 _ rfl)

/-- An array of ints, told by a function. -/
def fi (n : Nat) (f : Nat → Int) : List Int := (List.range n).map f
theorem fi_len (n : Nat) (f : Nat → Int) : (fi n f).length = n := by simp [fi]
theorem fi_get {n : Nat} {f : Nat → Int} {i : Nat} (h : i < (fi n f).length) : (fi n f)[i] = f i := by simp [fi]
theorem fi_congr {n : Nat} {f g : Nat → Int} (h : ∀ j, j < n → f j = g j) : fi n f = fi n g := by
  unfold fi; exact List.map_congr_left fun j hj => h j (List.mem_range.1 hj)
theorem fi_set {n : Nat} {f : Nat → Int} {i : Nat} {x : Int} : (fi n f).set i x = fi n (fun j => if j = i then x else f j) := by
  apply List.ext_getElem
  · simp [fi]
  · intro j h1 h2
    rw [List.getElem_set]
    by_cases e : i = j
    · subst e; rw [if_pos rfl, fi_get, if_pos rfl]
    · rw [if_neg e, fi_get, fi_get, if_neg (Ne.symm e)]
theorem fi_rep (n : Nat) (x : Int) : List.replicate n x = fi n (fun _ => x) := by
  apply List.ext_getElem <;> simp [fi]
theorem fi_rd {w : World} {s : SV} {n : Nat} {f : Nat → Int} (h : View RI w s (fi n f)) {i : Nat} (hi : i < n) {K : Addr → Prop} (hk : ∀ a, w.cell? a = some (.int .i64 (f i)) → K a) : Idx s.a s.len (i : Int) 1 K :=
  int_idx h (by rw [fi_len]; exact hi) fun a ha => hk a (by rw [fi_get] at ha; exact ha)
theorem fi_wr {w : World} {s : SV} {n : Nat} {f : Nat → Int} (h : Own RI w s (fi n f)) {i : Nat} (hi : i < n) {K : Addr → Prop}
    (hk : ∀ a, (∀ (w1 : World) (v : Int) (K' : World → Prop), Own RI w1 s (fi n f) → (∀ w', Chg s.blk w1 w' → Own RI w' s (fi n (fun j => if j = i then v else f j)) → K' w') → stL w1 a [.int .i64 v] 0 K') → K a) :
    Idx s.a s.len (i : Int) 1 K := by
  refine own_wr (R := RI) h (by rw [fi_len]; exact hi) fun b hb hput => ?_
  refine hk _ fun w1 v K' hO hK => ?_
  refine hput v w1 K' hO fun w' o hO' => hK w' (.of_off o ⟨_, hb, rfl⟩) ?_
  rw [fi_set] at hO'; exact hO'

theorem take_snoc' {α : Type} {l : List α} {i : Nat} (h : i < l.length) : l.take (i + 1) = l.take i ++ [l[i]] := by
  rw [List.take_add_one, List.getElem?_eq_getElem h]; rfl

/-- The ranks may be. -/
def OkR (rank : List Int) : Prop := (∀ r ∈ rank, 0 ≤ r ∧ r < rank.length) ∧ rank.Nodup
def rkA (rank : List Int) (v : Int) : Int := rank.getD v.toNat 0
theorem rk_get {rank : List Int} {v : Nat} (h : v < rank.length) : rank[v] = rkA rank (v : Int) := by
  unfold rkA; rw [Int.toNat_natCast, List.getD_eq_getElem?_getD, List.getElem?_eq_getElem h]; rfl

/-- Which way leads from u to v. -/
def isW (u v : Int) (y : Wy) : Bool := yF y == u && yT y == v
def findW (ways : List Wy) (u v : Int) : Option Nat := ways.findIdx? (isW u v)
theorem findW_some {ways : List Wy} {u v : Int} {k : Nat} (h : findW ways u v = some k) : ∃ hk : k < ways.length, yF ways[k] = u ∧ yT ways[k] = v ∧ ∀ j (hj : j < k), ¬ (yF ways[j] = u ∧ yT ways[j] = v) := by
  unfold findW at h
  rw [List.findIdx?_eq_some_iff_getElem] at h
  obtain ⟨hk, h1, h2⟩ := h
  simp only [isW, Bool.and_eq_true, beq_iff_eq] at h1
  refine ⟨hk, h1.1, h1.2, fun j hj hh => h2 j hj ?_⟩
  simp only [isW, hh.1, hh.2, beq_self_eq_true, Bool.and_self]
theorem findW_none {ways : List Wy} {u v : Int} (h : findW ways u v = none) : ∀ k (hk : k < ways.length), ¬ (yF ways[k] = u ∧ yT ways[k] = v) := by
  unfold findW at h
  rw [List.findIdx?_eq_none_iff] at h
  intro k hk hh
  have := h _ (List.getElem_mem hk)
  simp only [isW, hh.1, hh.2, beq_self_eq_true, Bool.and_self] at this
  cases this
theorem findW_snoc (ways : List Wy) (y : Wy) (u v : Int) : findW (ways ++ [y]) u v = match findW ways u v with | some k => some k | none => if yF y = u ∧ yT y = v then some ways.length else none := by
  unfold findW
  rw [List.findIdx?_append]
  cases h : List.findIdx? (isW u v) ways with
  | some k => rfl
  | none =>
    simp only [List.findIdx?_cons, List.findIdx?_nil, Option.none_or]
    by_cases hc : yF y = u ∧ yT y = v
    · rw [if_pos hc]; simp [isW, hc.1, hc.2]
    · rw [if_neg hc, show isW u v y = false by
        simp only [isW]
        rw [Bool.and_eq_false_iff]
        by_cases h1 : yF y = u
        · right; rw [beq_eq_false_iff_ne]; exact fun h2 => hc ⟨h1, h2⟩
        · left; rw [beq_eq_false_iff_ne]; exact h1]
      simp

/-- What a way is by itself, and of those ahead of it. -/
def OkF (n : Nat) (ahead : List Wy) (y : Wy) : Prop :=
  findW ahead (yF y) (yT y) = none ∧ yF y ≠ yT y ∧ 0 ≤ yF y ∧ 0 ≤ yT y ∧ yF y < n ∧ yT y < n ∧ 0 ≤ yW y ∧ yW y ≤ 1152921504606846976
def wW (ways : List Wy) (k : Nat) : Int := yW (ways.getD k (0, 0, 0, 0, 0))
/-- .. and of what it stands for. -/
def OkW (rank : List Int) (ways : List Wy) (y : Wy) : Prop :=
  if yM y = -1 then 0 ≤ yA y ∧ yA y < 67108864
  else yA y = -1 ∧ 0 ≤ yM y ∧ yM y < rank.length ∧ rkA rank (yM y) < rkA rank (yF y) ∧ rkA rank (yM y) < rkA rank (yT y) ∧
    ∃ a b, findW ways (yF y) (yM y) = some a ∧ findW ways (yM y) (yT y) = some b ∧ wW ways a + wW ways b = yW y
def OkFs (n : Nat) (ways : List Wy) : Prop := ∀ i (h : i < ways.length), OkF n (ways.take i) ways[i]
/-- A hierarchy may be. -/
structure OkH (rank : List Int) (ways : List Wy) : Prop where
  n : rank.length ≤ 16777216
  k : ways.length ≤ 67108864
  r : OkR rank
  f : OkFs rank.length ways
  w : ∀ y ∈ ways, OkW rank ways y

theorem OkFs.find {n : Nat} {ways : List Wy} (h : OkFs n ways) {k : Nat} (hk : k < ways.length) : findW ways (yF ways[k]) (yT ways[k]) = some k := by
  cases hf : findW ways (yF ways[k]) (yT ways[k]) with
  | none => exact absurd ⟨rfl, rfl⟩ (findW_none hf k hk)
  | some j =>
    obtain ⟨hj, h1, h2, h3⟩ := findW_some hf
    rcases Nat.lt_trichotomy j k with hlt | rfl | hgt
    · exfalso
      have := (h k hk).1
      refine findW_none this j (by rw [List.length_take]; omega) ?_
      rw [List.getElem_take]; exact ⟨h1, h2⟩
    · rfl
    · exact absurd ⟨rfl, rfl⟩ (h3 k hgt)
theorem OkFs.uniq {n : Nat} {ways : List Wy} (h : OkFs n ways) {j k : Nat} (hj : j < ways.length) (hk : k < ways.length) (h1 : yF ways[j] = yF ways[k]) (h2 : yT ways[j] = yT ways[k]) : j = k := by
  have a := h.find hj; have b := h.find hk
  rw [h1, h2, b] at a; injection a with a; exact a.symm

theorem assoc_upd (m : List (List Int × Value)) (k k' : List Int) (v : Value) : assoc (upd m k v) k' = if k = k' then some v else assoc m k' := by
  induction m with
  | nil =>
    unfold upd assoc
    by_cases h : k = k'
    · simp [h]
    · simp [h]
  | cons p m ih =>
    unfold upd
    by_cases hp : p.1 = k
    · rw [if_pos (by simpa using hp)]
      unfold assoc
      by_cases h : k = k'
      · simp [h]
      · rw [if_neg h]
        simp only [List.find?_cons]
        rw [show (k == k') = false by simpa using h, show (p.1 == k') = false by rw [hp]; simpa using h]
    · rw [if_neg (by simpa using hp)]
      unfold assoc at ih ⊢
      simp only [List.find?_cons]
      by_cases h2 : p.1 = k'
      · rw [show (p.1 == k') = true by simpa using h2]
        rw [if_neg (fun e => hp (h2.trans e.symm))]
      · rw [show (p.1 == k') = false by simpa using h2]
        exact ih

/-- The map of what was seen. -/
def MapOk (mm : List (List Int × Value)) (ways : List Wy) : Prop := ∀ u v, assoc mm [u, v] = (findW ways u v).map fun k => .int .i64 (k : Int)
theorem MapOk.nil : MapOk [] [] := fun u v => rfl
theorem MapOk.step {mm : List (List Int × Value)} {ways : List Wy} {y : Wy} (h : MapOk mm ways) (hn : findW ways (yF y) (yT y) = none) : MapOk (upd mm [yF y, yT y] (.int .i64 (ways.length : Int))) (ways ++ [y]) := by
  intro u v
  rw [assoc_upd, findW_snoc, h u v]
  by_cases hc : yF y = u ∧ yT y = v
  · obtain ⟨rfl, rfl⟩ := hc
    rw [if_pos rfl, hn]; simp
  · rw [if_neg (fun e => hc (by injection e with e1 e2; injection e2 with e2; exact ⟨e1, e2⟩))]
    cases findW ways u v with
    | none => simp [hc]
    | some k => rfl
end Go.Sh

/- Walks, and how far it is, in plain words; arc by arc till nothing is nearer; the nearest first. -/
set_option maxRecDepth 100000
namespace Go.Sh

/-- A walk from s, by edges: where it ends, how long it is. -/
inductive Wk (E : Nat → Nat → Int → Prop) (s : Nat) : Nat → Int → Prop
  | nil : Wk E s s 0
  | snoc {u v : Nat} {d x : Int} : Wk E s u d → E u v x → Wk E s v (d + x)

section
variable {E F : Nat → Nat → Int → Prop} {s u v : Nat} {a b d x y : Int}

theorem Wk.of_eq (h : Wk E s v a) (e : a = b) : Wk E s v b := e ▸ h
theorem Wk.trans (h : Wk E s u a) (k : Wk E u v b) : Wk E s v (a + b) := by
  induction k with
  | nil => exact h.of_eq (by omega)
  | snoc _ e ih => exact (ih.snoc e).of_eq (by omega)
theorem Wk.edge (h : E s v x) : Wk E s v x := (Wk.nil.snoc h).of_eq (by omega)
theorem Wk.cons (h : E s u x) (k : Wk E u v b) : Wk E s v (x + b) := (Wk.edge h).trans k
theorem Wk.le (hE : ∀ u v x, E u v x → ∃ y, y ≤ x ∧ F u v y) (h : Wk E s v d) : ∃ y, y ≤ d ∧ Wk F s v y := by
  induction h with
  | nil => exact ⟨0, by omega, .nil⟩
  | snoc _ e ih =>
    obtain ⟨y, hy, hw⟩ := ih
    obtain ⟨z, hz, hz2⟩ := hE _ _ _ e
    exact ⟨y + z, by omega, hw.snoc hz2⟩
theorem Wk.mono (hE : ∀ u v x, E u v x → F u v x) (h : Wk E s v d) : Wk F s v d := by
  induction h with
  | nil => exact .nil
  | snoc _ e ih => exact ih.snoc (hE _ _ _ e)
/-- Either it goes nowhere, or it has a first edge. -/
theorem Wk.first (h : Wk E s v d) : (v = s ∧ d = 0) ∨ ∃ u x y, E s u x ∧ Wk E u v y ∧ d = x + y := by
  induction h with
  | nil => exact .inl ⟨rfl, rfl⟩
  | snoc k e ih =>
    rename_i u v d x
    right
    rcases ih with ⟨rfl, rfl⟩ | ⟨u', x', y', h1, h2, h3⟩
    · exact ⟨v, x, 0, e, .nil, by omega⟩
    · exact ⟨u', x', y' + x, h1, h2.snoc e, by omega⟩

/-- How far it is: below 0, if there is no walk. -/
def IsD (E : Nat → Nat → Int → Prop) (s v : Nat) (x : Int) : Prop := (x = -1 ∧ ∀ d, ¬ Wk E s v d) ∨ (0 ≤ x ∧ Wk E s v x ∧ ∀ d, Wk E s v d → x ≤ d)
end

/-- f, but for one. -/
def up1 (f : Nat → Int) (i : Nat) (x : Int) : Nat → Int := fun j => if j = i then x else f j
theorem up1_at {f : Nat → Int} {i : Nat} {x : Int} : up1 f i x i = x := if_pos rfl
theorem up1_ne {f : Nat → Int} {i j : Nat} {x : Int} (h : j ≠ i) : up1 f i x j = f j := if_neg h

/-- How many of the first ones are reached. -/
def cntR (f : Nat → Int) : Nat → Nat
  | 0 => 0
  | n + 1 => cntR f n + (if 0 ≤ f n then 1 else 0)
theorem cntR_le (f : Nat → Int) (n : Nat) : cntR f n ≤ n := by
  induction n with
  | zero => exact Nat.le_refl _
  | succ n ih => unfold cntR; split <;> omega
theorem cntR_congr {f g : Nat → Int} {n : Nat} (h : ∀ j, j < n → (0 ≤ f j ↔ 0 ≤ g j)) : cntR f n = cntR g n := by
  induction n with
  | zero => rfl
  | succ n ih =>
    unfold cntR
    rw [ih fun j hj => h j (by omega)]
    by_cases h1 : 0 ≤ f n
    · rw [if_pos h1, if_pos ((h n (by omega)).1 h1)]
    · rw [if_neg h1, if_neg (fun h2 => h1 ((h n (by omega)).2 h2))]
theorem cntR_up {f : Nat → Int} {n i : Nat} {x : Int} (hi : i < n) (h0 : f i < 0) (hx : 0 ≤ x) : cntR (up1 f i x) n = cntR f n + 1 := by
  induction n with
  | zero => omega
  | succ n ih =>
    unfold cntR
    by_cases e : i = n
    · subst e
      rw [up1_at, if_pos hx, if_neg (by omega)]
      have : cntR (up1 f i x) i = cntR f i := cntR_congr fun j hj => by rw [up1_ne (by omega)]
      rw [this]
    · rw [ih (by omega), up1_ne (Ne.symm e)]; omega
/-- What a table sums up to; far is the most. -/
def sumB (B : Nat) (f : Nat → Int) : Nat → Nat
  | 0 => 0
  | n + 1 => sumB B f n + (if f n < 0 then B + 1 else (f n).toNat)
theorem sumB_congr {B : Nat} {f g : Nat → Int} {n : Nat} (h : ∀ j, j < n → f j = g j) : sumB B f n = sumB B g n := by
  induction n with
  | zero => rfl
  | succ n ih => unfold sumB; rw [ih fun j hj => h j (by omega), h n (by omega)]
theorem sumB_up {B : Nat} {f : Nat → Int} {n i : Nat} {x : Int} (hi : i < n) (hx0 : 0 ≤ x) (hx : x ≤ (B : Int)) (h : f i < 0 ∨ x < f i) : sumB B (up1 f i x) n < sumB B f n := by
  induction n with
  | zero => omega
  | succ n ih =>
    unfold sumB
    by_cases e : i = n
    · subst e
      rw [up1_at, sumB_congr (g := f) fun j hj => up1_ne (by omega), if_neg (by omega)]
      split <;> omega
    · have := ih (by omega)
      rw [up1_ne (Ne.symm e)]; omega

section
variable {E : Nat → Nat → Int → Prop} {n s : Nat} {M : Int} {f : Nat → Int}
/-- A table on its way to the distances: what is told is a walk, and not too long. -/
structure Tab (E : Nat → Nat → Int → Prop) (n s : Nat) (M : Int) (f : Nat → Int) : Prop where
  sn : s < n
  z : f s = 0
  r : ∀ v, v < n → f v = -1 ∨ 0 ≤ f v ∧ Wk E s v (f v) ∧ f v ≤ ((cntR f n : Int) - 1) * M
  m : 0 ≤ M

theorem Tab.begin (hs : s < n) (hM : 0 ≤ M) : Tab E n s M (up1 (fun _ => -1) s 0) := by
  refine ⟨hs, up1_at, fun v hv => ?_, hM⟩
  by_cases e : v = s
  · subst e
    right
    rw [up1_at]
    refine ⟨by omega, .nil, ?_⟩
    rw [cntR_up hs (by omega) (by omega)]
    exact Int.mul_nonneg (by omega) hM
  · left; exact up1_ne e
theorem Tab.lt (h : Tab E n s M f) {v : Nat} (hv : v < n) (h0 : 0 ≤ f v) {x : Int} (hx : x ≤ M) : f v + x ≤ (n : Int) * M := by
  rcases h.r v hv with e | ⟨_, _, hb⟩
  · omega
  · have := cntR_le f n
    have : (cntR f n : Int) * M ≤ (n : Int) * M := Int.mul_le_mul_of_nonneg_right (by omega) h.m
    rw [Int.sub_mul, Int.one_mul] at hb
    omega
theorem Tab.step (h : Tab E n s M f) {u v : Nat} {x : Int} (hu : u < n) (hv : v < n) (he : E u v x) (h0 : 0 ≤ x) (hM : x ≤ M) (hfu : 0 ≤ f u) (hlt : f v < 0 ∨ f u + x < f v) :
    Tab E n s M (up1 f v (f u + x)) ∧ ∀ B : Nat, (n : Int) * M ≤ (B : Int) → sumB B (up1 f v (f u + x)) n < sumB B f n := by
  have hb := h.lt hu hfu hM
  refine ⟨⟨h.sn, ?_, fun j hj => ?_, h.m⟩, fun B hB => sumB_up hv (by omega) (by omega) hlt⟩
  · by_cases e : s = v
    · subst e; have := h.z; omega
    · rw [up1_ne e]; exact h.z
  · have hc : (cntR f n : Int) ≤ cntR (up1 f v (f u + x)) n := by
      by_cases h1 : f v < 0
      · rw [cntR_up hv h1 (by omega)]; omega
      · rw [cntR_congr (f := up1 f v (f u + x)) (g := f)]
        · omega
        · intro j hj
          by_cases e : j = v
          · subst e; rw [up1_at]; omega
          · rw [up1_ne e]
    have hc2 : ((cntR f n : Int) - 1) * M ≤ ((cntR (up1 f v (f u + x)) n : Int) - 1) * M := Int.mul_le_mul_of_nonneg_right (by omega) h.m
    by_cases e : j = v
    · subst e
      right
      rw [up1_at]
      obtain hu1 | ⟨_, hw, hub⟩ := h.r u hu
      · omega
      refine ⟨by omega, hw.snoc he, ?_⟩
      by_cases h1 : f j < 0
      · rw [cntR_up hv h1 (by omega)]
        have : ((cntR f n : Int) - 1) * M = (cntR f n : Int) * M - M := by rw [Int.sub_mul, Int.one_mul]
        have : (((cntR f n + 1 : Nat) : Int) - 1) * M = (cntR f n : Int) * M := by congr 1; omega
        omega
      · rcases h.r j hj with e | ⟨_, _, hjb⟩
        · omega
        · omega
    · rw [up1_ne e]
      rcases h.r j hj with e1 | ⟨h1, h2, h3⟩
      · exact .inl e1
      · exact .inr ⟨h1, h2, by omega⟩
end

section
variable {E : Nat → Nat → Int → Prop} {n s : Nat} {M : Int} {f : Nat → Int} {L : List (Int × Int)}
end

end Go.Sh

/- More of what all plain proofs lean on: boxes that are kept, one field of a record written, slices that are spoilt. -/
set_option maxRecDepth 100000
namespace Go.Sh
open Go.RowKit

theorem kp1 {w w' : World} {a : Nat} (e : Ext w w') (ha : a < w.heap.size) : Keeps [a] w w' := kp_ext e fun b hb => by
  simp only [List.mem_cons, List.not_mem_nil, or_false] at hb; omega
theorem kp2 {w w' : World} {a b : Nat} (e : Ext w w') (ha : a < w.heap.size) (hb : b < w.heap.size) : Keeps [a, b] w w' := kp_ext e fun c hc => by
  simp only [List.mem_cons, List.not_mem_nil, or_false] at hc; omega
theorem kp3 {w w' : World} {a b c : Nat} (e : Ext w w') (ha : a < w.heap.size) (hb : b < w.heap.size) (hc : c < w.heap.size) : Keeps [a, b, c] w w' := kp_ext e fun d hd => by
  simp only [List.mem_cons, List.not_mem_nil, or_false] at hd; omega
theorem kc1 {w w' : World} {F : Nat → Prop} {a : Nat} (c : Chg F w w') (ha : a < w.heap.size) (fa : ¬ F a) : Keeps [a] w w' := kp_chg c fun b hb => by
  simp only [List.mem_cons, List.not_mem_nil, or_false] at hb; subst hb; exact ⟨ha, fa⟩
section
variable {α : Type} {R : Rc α}
end

/-- append of one that is laid for it. -/
theorem push_ok {α : Type} {R : Rc α} {w : World} {s : SV} {xs : List α} {x : α} (h : Own R w s xs) {bytes : Nat} (hb : (xs.length + 1) * bytes ≤ 2 ^ 47) (hn : xs.length + 1 < 2 ^ 62) {K : World → SV → World → Prop}
    (hk : ∀ w2 s' w', Ext w w2 → Chg s.blk w2 w' → (∀ k, s'.blk k → s.blk k ∨ w.heap.size ≤ k) → Own R w' s' (xs ++ [x]) → K w2 s' w') :
    NewB (R.enc x) w (fun b w2 => App bytes (R.enc R.z) s ⟨some ⟨b, 0, none⟩, 1, 1⟩ w2 (fun s' w' => K w2 s' w')) := by
  intro b w2 e2 g2 hB
  have z2 := e2.size
  exact Own.app (R := R) (h.ext e2) (View.one (R := R) (x := x) hB) (by simpa using hb) (by simpa using hn) fun s' w' c' hs hO => hk w2 s' w' e2 c' (fun k hk => (hs k hk).imp id fun h => Nat.le_trans z2 h) hO
/-- append of a list to nothing. -/
theorem copy_ok {α : Type} {R : Rc α} {w : World} {t : SV} {ys : List α} (h : View R w t ys) {bytes : Nat} (hb : ys.length * bytes ≤ 2 ^ 47) (hn : ys.length < 2 ^ 62) {K : SV → World → Prop}
    (hk : ∀ s' w', Ext w w' → Own R w' s' ys → Fsh w s' → K s' w') : App bytes (R.enc R.z) ⟨none, 0, 0⟩ t w K :=
  Own.app (R := R) Own.nil h (by simpa using hb) (by simpa using hn) fun s' w' c' hs hO => hk s' w' (c'.ext fun k _ ⟨q, hq, _⟩ => by cases hq) (by simpa using hO) fun k hk => (hs k hk).elim (fun ⟨q, hq, _⟩ => by cases hq) id

def RS : Rc SV where
  sz := 1
  enc s := [.slice s.a s.len s.cap]
  len _ := rfl
  pos := by decide
  z := ⟨none, 0, 0⟩
  one := by intro x v hv; simp at hv; subst hv; rfl
theorem slot_idx {w : World} {s : SV} {xs : List SV} (h : View RS w s xs) {i : Nat} (hl : i < xs.length) {K : Addr → Prop}
    (hk : ∀ a, w.cell? a = some (.slice xs[i].a xs[i].len xs[i].cap) → K a) : Idx s.a s.len (i : Int) 1 K := by
  refine View.idx (R := RS) h (by omega) (by simpa using hl) fun a ha hc => ?_
  have := hc 0 _ rfl
  simp only [Int.toNat_natCast] at this
  obtain ⟨b, o, sp⟩ := a
  simp only at ha; subst ha
  rw [add0] at this
  exact hk _ this

end Go.Sh

/- Shallow definitions, printed by gen.py of these sessions. -/
set_option maxRecDepth 100000
set_option linter.unusedVariables false
namespace Go.Sh
/-- postroad/postroadref10.At -/
def sh_postroadref10_At (h0_Rank : SV) (h0_Ways : SV) (rank0 : Int) (K : Int → World → Prop) (w : World) : Prop :=
  (∀ b1 w2, Ext w w2 → w.heap.size ≤ b1 → b1 < w2.heap.size →
  (LoopT (Int × Unit) (fun t4 again3 w5 =>
  (cond (decide (t4.1 < (h0_Rank.len : Int))) (Idx h0_Rank.a h0_Rank.len t4.1 1 (fun a6 =>
  (∃ x7 : Int, w5.cell? a6 = some (.int .i64 x7) ∧
  (cond (x7 == rank0) (K t4.1 w5) (again3 ((IntKind.i64.wrap (t4.1 + (1 : Int))), ()) w5))))) (K (-1 : Int) w5))) ((0 : Int), ()) w2))

/-- postroad/postroadref10.place -/
def sh_postroadref10_place (h0_Rank : SV) (h0_Ways : SV) (v0 : Int) (K : Bool → World → Prop) (w : World) : Prop :=
  (∀ b1 w2, Ext w w2 → w.heap.size ≤ b1 → b1 < w2.heap.size → (cond (decide (v0 ≥ (0 : Int))) (K (decide (v0 < (h0_Rank.len : Int))) w2) (K false w2)))

/-- postroad/postroadref10.Find -/
def sh_postroadref10_Find (h0_Rank : SV) (h0_Ways : SV) (u0 : Int) (v0 : Int) (K : Int → World → Prop) (w : World) : Prop :=
  (∀ b1 w2, Ext w w2 → w.heap.size ≤ b1 → b1 < w2.heap.size →
  (LoopT (Int × Unit) (fun t4 again3 w5 =>
  (cond (decide (t4.1 < (h0_Ways.len : Int))) (Join (Unit) (fun J6 =>
  (Idx h0_Ways.a h0_Ways.len t4.1 5 (fun a7 =>
  (∃ x8 : Int, w5.cell? (a7.add 0) = some (.int .i64 x8) ∧
  (cond (x8 == u0) (Idx h0_Ways.a h0_Ways.len t4.1 5 (fun a9 =>
  (∃ x10 : Int, w5.cell? (a9.add 1) = some (.int .i64 x10) ∧
  (cond (x10 == v0) (K t4.1 w5) (J6 () w5))))) (J6 () w5))))))
  (fun t11 w12 =>
  (again3 ((IntKind.i64.wrap (t4.1 + (1 : Int))), ()) w12))) (K (-1 : Int) w5))) ((0 : Int), ()) w2))

/-- postroad/postroadref10.right -/
def sh_postroadref10_right (h0_Rank : SV) (h0_Ways : SV) (i0 : Int) (K : Bool → World → Prop) (w : World) : Prop :=
  (∀ b1 w2, Ext w w2 → w.heap.size ≤ b1 → b1 < w2.heap.size →
  (Idx h0_Ways.a h0_Ways.len i0 5 (fun a3 =>
  (∃ x4 : Int, w2.cell? (a3.add 0) = some (.int .i64 x4) ∧ ∃ x5 : Int, w2.cell? (a3.add 1) = some (.int .i64 x5) ∧ ∃ x6 : Int, w2.cell? (a3.add 2) = some (.int .i64 x6) ∧ ∃ x7 : Int, w2.cell? (a3.add 3) = some (.int .i64 x7) ∧ ∃ x8 : Int, w2.cell? (a3.add 4) = some (.int .i64 x8) ∧
  (∀ b9 w10, Ext w2 w10 → w2.heap.size ≤ b9 → b9 < w10.heap.size →
  (∀ w11, Off b9 w10 w11 →
  (sh_postroadref10_place h0_Rank h0_Ways x4 (fun t12 w13 =>
  (Keeps [b9, b1] w11 w13 ∧
  (cond (!t12) (K false w13) (sh_postroadref10_place h0_Rank h0_Ways x5 (fun t14 w15 =>
  (Keeps [b9, b1] w13 w15 ∧
  (cond (!t14) (K false w15) (cond (x4 == x5) (K false w15) (cond (decide (x6 < (0 : Int))) (K false w15) (cond (decide (x6 > (1152921504606846976 : Int))) (K false w15) (sh_postroadref10_Find h0_Rank h0_Ways x4 x5 (fun x16 w17 =>
  (Keeps [b9, b1] w15 w17 ∧
  (cond (x16 != i0) (K false w17) (cond (x7 == (-1 : Int)) (cond (decide (x8 ≥ (0 : Int))) (K (decide (x8 < (67108864 : Int))) w17) (K false w17)) (cond (x8 != (-1 : Int)) (∀ w18, Ext w17 w18 →
  (K false w18)) (Quiet (Bool) (fun r20 =>
  (.bool r20)) (fun K21 w22' => sh_postroadref10_place h0_Rank h0_Ways x7 (fun t19 w22 => K21 t19 w22) w22') w17 (fun r20 =>
  (cond (!r20) (∀ w23, Ext w17 w23 →
  (K false w23)) (Idx h0_Rank.a h0_Rank.len x7 1 (fun a24 =>
  (∃ x25 : Int, w17.cell? a24 = some (.int .i64 x25) ∧
  (Idx h0_Rank.a h0_Rank.len x4 1 (fun a26 =>
  (∃ x27 : Int, w17.cell? a26 = some (.int .i64 x27) ∧
  (cond (decide (x25 ≥ x27)) (∀ w28, Ext w17 w28 →
  (K false w28)) (Idx h0_Rank.a h0_Rank.len x7 1 (fun a29 =>
  (∃ x30 : Int, w17.cell? a29 = some (.int .i64 x30) ∧
  (Idx h0_Rank.a h0_Rank.len x5 1 (fun a31 =>
  (∃ x32 : Int, w17.cell? a31 = some (.int .i64 x32) ∧
  (∀ w33, Ext w17 w33 →
  (cond (decide (x30 ≥ x32)) (K false w33) (sh_postroadref10_Find h0_Rank h0_Ways x4 x7 (fun x34 w35 =>
  (Keeps [b9, b1] w33 w35 ∧
  (sh_postroadref10_Find h0_Rank h0_Ways x7 x5 (fun x36 w37 =>
  (Keeps [b9, b1] w35 w37 ∧
  (cond (decide (x34 ≥ (0 : Int))) (cond (decide (x36 ≥ (0 : Int))) (Idx h0_Ways.a h0_Ways.len x34 5 (fun a38 =>
  (∃ x39 : Int, w37.cell? ((a38.add 2).add 0) = some (.int .i64 x39) ∧
  (Idx h0_Ways.a h0_Ways.len x36 5 (fun a40 =>
  (∃ x41 : Int, w37.cell? ((a40.add 2).add 0) = some (.int .i64 x41) ∧
  (∀ w42, Ext w37 w42 →
  (K ((IntKind.i64.wrap (x39 + x41)) == x6) w42)))))))) (∀ w43, Ext w37 w43 →
  (K false w43))) (∀ w44, Ext w37 w44 →
  (K false w44))))) w35))) w33)))))))))))))))))))))))) w15))))))) w13)))) w11)))))))

/-- postroad/postroadref10.Check -/
def sh_postroadref10_Check (h0_Rank : SV) (h0_Ways : SV) (K : Int → World → Prop) (w : World) : Prop :=
  (∀ b1 w2, Ext w w2 → w.heap.size ≤ b1 → b1 < w2.heap.size →
  (cond (decide ((h0_Rank.len : Int) > (16777216 : Int))) (K (3 : Int) w2) (cond (decide ((h0_Ways.len : Int) > (67108864 : Int))) (K (3 : Int) w2) (Join (Unit) (fun J3 =>
  (LoopT (Int × Unit) (fun t5 again4 w6 =>
  (cond (decide (t5.1 < (h0_Rank.len : Int))) (sh_postroadref10_At h0_Rank h0_Ways t5.1 (fun x7 w8 =>
  (Keeps [b1] w6 w8 ∧
  (cond (decide (x7 < (0 : Int))) (K (2 : Int) w8) (again4 ((IntKind.i64.wrap (t5.1 + (1 : Int))), ()) w8)))) w6) (J3 () w6))) ((0 : Int), ()) w2))
  (fun t9 w10 =>
  (LoopT (Int × Unit) (fun t12 again11 w13 =>
  (cond (decide (t12.1 < (h0_Ways.len : Int))) (sh_postroadref10_right h0_Rank h0_Ways t12.1 (fun t14 w15 =>
  (Keeps [b1] w13 w15 ∧
  (cond (!t14) (K (2 : Int) w15) (again11 ((IntKind.i64.wrap (t12.1 + (1 : Int))), ()) w15)))) w13) (K (0 : Int) w13))) ((0 : Int), ()) w10))))))

/-- postroad/postroadref11.Fit -/
def sh_postroadref11_Fit (h0_Rank : SV) (h0_Ways : SV) (K : Bool → World → Prop) (w : World) : Prop :=
  (∀ b1 w2, Ext w w2 → w.heap.size ≤ b1 → b1 < w2.heap.size →
  (cond (decide ((h0_Rank.len : Int) > (14 : Int))) (K false w2) (cond (decide ((h0_Ways.len : Int) > (80 : Int))) (K false w2) (sh_postroadref10_Check h0_Rank h0_Ways (fun x3 w4 =>
  (Keeps [b1] w2 w4 ∧
  (cond (x3 != (0 : Int)) (K false w4) (LoopT (Int × Unit) (fun t6 again5 w7 =>
  (cond (decide (t6.1 < (h0_Ways.len : Int))) (Idx h0_Ways.a h0_Ways.len t6.1 5 (fun a8 =>
  (∃ x9 : Int, w7.cell? ((a8.add 2).add 0) = some (.int .i64 x9) ∧
  (cond (decide (x9 > (1125899906842624 : Int))) (K false w7) (again5 ((IntKind.i64.wrap (t6.1 + (1 : Int))), ()) w7))))) (K true w7))) ((0 : Int), ()) w4)))) w2))))

/-- postroad/hier.placed -/
def sh_hier_placed (rank0 : SV) (K : SV → Bool → World → Prop) (w : World) : Prop :=
  (MkS 8 [(.int .i64 (0 : Int))] (rank0.len : Int) (rank0.len : Int) w (fun s1 w2 =>
  (Join (Unit) (fun J3 =>
  (LoopT (Int × Unit) (fun t5 again4 w6 =>
  (cond (decide (t5.1 < (s1.len : Int))) (Idx s1.a s1.len t5.1 1 (fun a7 =>
  (stL w6 a7 [(.int .i64 (-1 : Int))] 0 (fun w8 =>
  (again4 ((IntKind.i64.wrap (t5.1 + (1 : Int))), ()) w8))))) (J3 () w6))) ((0 : Int), ()) w2))
  (fun t9 w10 =>
  (Join (Unit) (fun J11 =>
  (LoopT (Int × Unit) (fun t13 again12 w14 =>
  (cond (decide (t13.1 < (rank0.len : Int))) (Idx rank0.a rank0.len t13.1 1 (fun a15 =>
  (∃ x16 : Int, w14.cell? a15 = some (.int .i64 x16) ∧
  (cond (decide (x16 < (0 : Int))) (K ⟨none, 0, 0⟩ false w14) (cond (decide (x16 ≥ (s1.len : Int))) (K ⟨none, 0, 0⟩ false w14) (Idx s1.a s1.len x16 1 (fun a17 =>
  (∃ x18 : Int, w14.cell? a17 = some (.int .i64 x18) ∧
  (cond (x18 != (-1 : Int)) (K ⟨none, 0, 0⟩ false w14) (Idx s1.a s1.len x16 1 (fun a19 =>
  (stL w14 a19 [(.int .i64 t13.1)] 0 (fun w20 =>
  (again12 ((IntKind.i64.wrap (t13.1 + (1 : Int))), ()) w20)))))))))))))) (J11 () w14))) ((0 : Int), ()) w10))
  (fun t21 w22 =>
  (K s1 true w22)))))))

/-- postroad/hier.found -/
def sh_hier_found (h0_Rank : SV) (h0_Ways : SV) (K : Option Nat → Bool → World → Prop) (w : World) : Prop :=
  (∀ b1 w2, Ext w w2 → w.heap.size ≤ b1 → b1 < w2.heap.size →
  (MkM w2 (fun m3 w4 =>
  (Join (Unit) (fun J5 =>
  (LoopT (Int × Unit) (fun t7 again6 w8 =>
  (cond (decide (t7.1 < (h0_Ways.len : Int))) (Idx h0_Ways.a h0_Ways.len t7.1 5 (fun a9 =>
  (∃ x10 : Int, w8.cell? (a9.add 0) = some (.int .i64 x10) ∧ ∃ x11 : Int, w8.cell? (a9.add 1) = some (.int .i64 x11) ∧ ∃ x12 : Int, w8.cell? (a9.add 2) = some (.int .i64 x12) ∧ ∃ x13 : Int, w8.cell? (a9.add 3) = some (.int .i64 x13) ∧ ∃ x14 : Int, w8.cell? (a9.add 4) = some (.int .i64 x14) ∧
  (∀ b15 w16, Ext w8 w16 → w8.heap.size ≤ b15 → b15 < w16.heap.size →
  (∀ w17, Off b15 w16 w17 →
  (Join (Unit) (fun J18 =>
  (∃ mm19, MapR true 2 w17 m3 mm19 ∧ ∃ x20 : Int, (assoc mm19 [x10, x11]).getD (.int .i64 (0 : Int)) = (.int .i64 x20) ∧
  (cond ((assoc mm19 [x10, x11]).isSome) (cond ((assoc mm19 [x10, x11]).isSome) (K none false w17) (J18 () w17)) (cond (x10 == x11) (cond (x10 == x11) (K none false w17) (J18 () w17)) (cond (decide ((if x12 < (if x11 < x10 then x11 else x10) then x12 else (if x11 < x10 then x11 else x10)) < (0 : Int))) (cond (decide ((if x12 < (if x11 < x10 then x11 else x10) then x12 else (if x11 < x10 then x11 else x10)) < (0 : Int))) (K none false w17) (J18 () w17)) (cond (decide ((if x11 > x10 then x11 else x10) ≥ (h0_Rank.len : Int))) (cond (decide ((if x11 > x10 then x11 else x10) ≥ (h0_Rank.len : Int))) (K none false w17) (J18 () w17)) (cond (decide (x12 > (1152921504606846976 : Int))) (K none false w17) (J18 () w17))))))))
  (fun t21 w22 =>
  (MUp true m3 [x10, x11] (.int .i64 t7.1) w22 (fun w23 =>
  (Keeps [b15, b1] w22 w23 ∧
  (again6 ((IntKind.i64.wrap (t7.1 + (1 : Int))), ()) w23))))))))))) (J5 () w8))) ((0 : Int), ()) w4))
  (fun t24 w25 =>
  (K m3 true w25))))))

/-- postroad/hier.halves -/
def sh_hier_halves (h0_Rank : SV) (h0_Ways : SV) (find0 : Option Nat) (w_0_From : Int) (w_0_To : Int) (w_0_Way_W : Int) (w_0_Way_Mid : Int) (w_0_Way_Arc : Int) (K : Int → Int → Bool → World → Prop) (w : World) : Prop :=
  (∀ b1 w2, Ext w w2 → w.heap.size ≤ b1 → b1 < w2.heap.size →
  (∀ b3 w4, Ext w2 w4 → w2.heap.size ≤ b3 → b3 < w4.heap.size →
  (∃ mm5, MapR true 2 w4 find0 mm5 ∧ ∃ x6 : Int, (assoc mm5 [w_0_From, w_0_Way_Mid]).getD (.int .i64 (0 : Int)) = (.int .i64 x6) ∧
  (∃ mm7, MapR true 2 w4 find0 mm7 ∧ ∃ x8 : Int, (assoc mm7 [w_0_Way_Mid, w_0_To]).getD (.int .i64 (0 : Int)) = (.int .i64 x8) ∧
  (cond ((assoc mm5 [w_0_From, w_0_Way_Mid]).isSome) (K x6 x8 ((assoc mm7 [w_0_Way_Mid, w_0_To]).isSome) w4) (K x6 x8 false w4))))))

/-- postroad/hier.right -/
def sh_hier_right (h0_Rank : SV) (h0_Ways : SV) (find0 : Option Nat) (w_0_From : Int) (w_0_To : Int) (w_0_Way_W : Int) (w_0_Way_Mid : Int) (w_0_Way_Arc : Int) (K : Bool → World → Prop) (w : World) : Prop :=
  (∀ b1 w2, Ext w w2 → w.heap.size ≤ b1 → b1 < w2.heap.size →
  (∀ b3 w4, Ext w2 w4 → w2.heap.size ≤ b3 → b3 < w4.heap.size →
  (cond (w_0_Way_Mid == (-1 : Int)) (cond (decide (w_0_Way_Arc ≥ (0 : Int))) (K (decide (w_0_Way_Arc < (67108864 : Int))) w4) (K false w4)) (cond (w_0_Way_Arc != (-1 : Int)) (∀ w5, Ext w4 w5 →
  (K false w5)) (cond (decide (w_0_Way_Mid < (0 : Int))) (∀ w6, Ext w4 w6 →
  (K false w6)) (cond (decide (w_0_Way_Mid ≥ (h0_Rank.len : Int))) (∀ w7, Ext w4 w7 →
  (K false w7)) (Idx h0_Rank.a h0_Rank.len w_0_Way_Mid 1 (fun a8 =>
  (∃ x9 : Int, w4.cell? a8 = some (.int .i64 x9) ∧
  (Idx h0_Rank.a h0_Rank.len w_0_From 1 (fun a10 =>
  (∃ x11 : Int, w4.cell? a10 = some (.int .i64 x11) ∧
  (Idx h0_Rank.a h0_Rank.len w_0_To 1 (fun a12 =>
  (∃ x13 : Int, w4.cell? a12 = some (.int .i64 x13) ∧
  (∀ w14, Ext w4 w14 →
  (cond (decide (x9 ≥ (if x13 < x11 then x13 else x11))) (K false w14) (sh_hier_halves h0_Rank h0_Ways find0 w_0_From w_0_To w_0_Way_W w_0_Way_Mid w_0_Way_Arc (fun x15 x16 t17 w18 =>
  (Keeps [b3, b1] w14 w18 ∧
  (cond t17 (Idx h0_Ways.a h0_Ways.len x15 5 (fun a19 =>
  (∃ x20 : Int, w18.cell? ((a19.add 2).add 0) = some (.int .i64 x20) ∧
  (Idx h0_Ways.a h0_Ways.len x16 5 (fun a21 =>
  (∃ x22 : Int, w18.cell? ((a21.add 2).add 0) = some (.int .i64 x22) ∧
  (∀ w23, Ext w18 w23 →
  (K ((IntKind.i64.wrap (x20 + x22)) == w_0_Way_W) w23)))))))) (∀ w24, Ext w18 w24 →
  (K false w24))))) w14))))))))))))))))))

/-- postroad/hier.check -/
def sh_hier_check (h0_Rank : SV) (h0_Ways : SV) (K : Option Addr → Int → World → Prop) (w : World) : Prop :=
  (∀ b1 w2, Ext w w2 → w.heap.size ≤ b1 → b1 < w2.heap.size →
  (cond (decide ((h0_Rank.len : Int) > (16777216 : Int))) (K none (3 : Int) w2) (cond (decide ((h0_Ways.len : Int) > (67108864 : Int))) (K none (3 : Int) w2) (sh_hier_placed h0_Rank (fun s3 t4 w5 =>
  (Keeps [b1] w2 w5 ∧
  (sh_hier_found h0_Rank h0_Ways (fun m6 t7 w8 =>
  (Keeps [b1] w5 w8 ∧
  (cond (!t4) (K none (2 : Int) w8) (cond (!t7) (K none (2 : Int) w8) (Join (Unit) (fun J9 =>
  (LoopT (Int × Unit) (fun t11 again10 w12 =>
  (cond (decide (t11.1 < (h0_Ways.len : Int))) (Idx h0_Ways.a h0_Ways.len t11.1 5 (fun a13 =>
  (∃ x14 : Int, w12.cell? (a13.add 0) = some (.int .i64 x14) ∧ ∃ x15 : Int, w12.cell? (a13.add 1) = some (.int .i64 x15) ∧ ∃ x16 : Int, w12.cell? (a13.add 2) = some (.int .i64 x16) ∧ ∃ x17 : Int, w12.cell? (a13.add 3) = some (.int .i64 x17) ∧ ∃ x18 : Int, w12.cell? (a13.add 4) = some (.int .i64 x18) ∧
  (∀ b19 w20, Ext w12 w20 → w12.heap.size ≤ b19 → b19 < w20.heap.size →
  (∀ w21, Off b19 w20 w21 →
  (sh_hier_right h0_Rank h0_Ways m6 x14 x15 x16 x17 x18 (fun t22 w23 =>
  (Keeps [b19, b1] w21 w23 ∧
  (cond (!t22) (K none (2 : Int) w23) (again10 ((IntKind.i64.wrap (t11.1 + (1 : Int))), ()) w23)))) w21)))))) (J9 () w12))) ((0 : Int), ()) w8))
  (fun t24 w25 =>
  (∀ b26 w27, Ext w25 w27 → w25.heap.size ≤ b26 → b26 < w27.heap.size →
  (Blk w27 b26 [(.slice h0_Rank.a h0_Rank.len h0_Rank.cap), (.slice h0_Ways.a h0_Ways.len h0_Ways.cap), (.slice s3.a s3.len s3.cap), (.map m6), (.slice none 0 0), (.slice none 0 0)] →
  (K (some ⟨b26, 0, none⟩) (0 : Int) w27))))))))) w5))) w2))))

/-- postroad/hier.put -/
def sh_hier_put (l0 : SV) (e0_V : Int) (e0_W : Int) (e0_Arc : Int) (K : SV → World → Prop) (w : World) : Prop :=
  (∀ b1 w2, Ext w w2 → w.heap.size ≤ b1 → b1 < w2.heap.size →
  (Join (Int × Unit) (fun J3 =>
  (LoopT (Int × Unit) (fun t5 again4 w6 =>
  (cond (decide (t5.1 > (0 : Int))) (Idx l0.a l0.len (IntKind.i64.wrap (t5.1 - (1 : Int))) 3 (fun a7 =>
  (∃ x8 : Int, w6.cell? (a7.add 0) = some (.int .i64 x8) ∧
  (∀ w9, Ext w6 w9 →
  (cond (decide (x8 < e0_V)) (J3 (t5.1, ()) w9) (again4 ((IntKind.i64.wrap (t5.1 - (1 : Int))), ()) w9)))))) (J3 (t5.1, ()) w6))) ((l0.len : Int), ()) w2))
  (fun t10 w11 =>
  (NewB [(.int .i64 e0_V), (.int .i64 e0_W), (.int .i64 e0_Arc)] w11 (fun b12 w13 =>
  (App 24 [(.int .i64 (0 : Int)), (.int .i64 (0 : Int)), (.int .i64 (0 : Int))] l0 ⟨(some ⟨b12, 0, none⟩), 1, 1⟩ w13 (fun s14 w15 =>
  (Keeps [b1] w13 w15 ∧
  (semSlice 3 s14.a s14.len s14.cap (some (IntKind.i64.wrap (t10.1 + (1 : Int)))) none (fun s16 =>
  (semSlice 3 s14.a s14.len s14.cap (some t10.1) none (fun s17 =>
  (∀ w18, Ext w15 w18 →
  (Cpy 3 s16 s17 w18 (fun w19 =>
  (Keeps [b1] w18 w19 ∧
  (∀ w20, Ext w19 w20 →
  (Idx s14.a s14.len t10.1 3 (fun a21 =>
  (stL w20 a21 [(.int .i64 e0_V), (.int .i64 e0_W), (.int .i64 e0_Arc)] 0 (fun w22 =>
  (Keeps [b1] w20 w22 ∧
  (K s14 w22)))))))))))))))))))))))

/-- postroad/hier.New -/
def sh_hier_New (h0_Rank : SV) (h0_Ways : SV) (K : Option Addr → World → Prop) (w : World) : Prop :=
  (∀ b1 w2, Ext w w2 → w.heap.size ≤ b1 → b1 < w2.heap.size →
  (App 8 [(.int .i64 (0 : Int))] ⟨none, 0, 0⟩ h0_Rank w2 (fun s3 w4 =>
  (Keeps [b1] w2 w4 ∧
  (∀ w5, Off b1 w4 w5 →
  (App 40 [(.int .i64 (0 : Int)), (.int .i64 (0 : Int)), (.int .i64 (0 : Int)), (.int .i64 (0 : Int)), (.int .i64 (0 : Int))] ⟨none, 0, 0⟩ h0_Ways w5 (fun s6 w7 =>
  (Keeps [b1] w5 w7 ∧
  (∀ w8, Off b1 w7 w8 →
  (sh_hier_check s3 s6 (fun p9 x10 w11 =>
  (Keeps [b1] w8 w11 ∧
  (cond (x10 != (0 : Int)) (K none w11) (∀ w12, Ext w11 w12 →
  (MkS 24 [(.slice none 0 0)] (s3.len : Int) (s3.len : Int) w12 (fun s13 w14 =>
  (Nn p9 (fun a15 =>
  (∀ w16, Ext w14 w16 →
  (stL w16 (a15.add 4) [(.slice s13.a s13.len s13.cap)] 0 (fun w17 =>
  (KeepZ (zI (zI (fun _ => False) w11 w12) w14 w16) w16 w17 ∧
  (Keeps [b1] w16 w17 ∧
  (MkA 24 [(.slice none 0 0)] (s3.len : Int) (s3.len : Int) (zI (zI (fun _ => False) w11 w12) w14 w16) w17 (fun b18 w19 =>
  (Nn p9 (fun a20 =>
  (∀ w21, Ext w19 w21 →
  (stL w21 (a20.add 5) [(.slice (some ⟨b18, 0, none⟩) (((s3.len : Int)).toNat) (((s3.len : Int)).toNat))] 0 (fun w22 =>
  (Keeps [b1] w21 w22 ∧
  (∀ w23, Ext w22 w23 →
  (LoopT (Int × Unit) (fun t25 again24 w26 =>
  (cond (decide (t25.1 < (s6.len : Int))) (Idx s6.a s6.len t25.1 5 (fun a27 =>
  (∃ x28 : Int, w26.cell? (a27.add 0) = some (.int .i64 x28) ∧ ∃ x29 : Int, w26.cell? (a27.add 1) = some (.int .i64 x29) ∧ ∃ x30 : Int, w26.cell? (a27.add 2) = some (.int .i64 x30) ∧ ∃ x31 : Int, w26.cell? (a27.add 3) = some (.int .i64 x31) ∧ ∃ x32 : Int, w26.cell? (a27.add 4) = some (.int .i64 x32) ∧
  (∀ b33 w34, Ext w26 w34 → w26.heap.size ≤ b33 → b33 < w34.heap.size →
  (∀ w35, Off b33 w34 w35 →
  (Idx s3.a s3.len x28 1 (fun a36 =>
  (∃ x37 : Int, w35.cell? a36 = some (.int .i64 x37) ∧
  (Idx s3.a s3.len x29 1 (fun a38 =>
  (∃ x39 : Int, w35.cell? a38 = some (.int .i64 x39) ∧
  (∀ w40, Ext w35 w40 →
  (cond (decide (x37 < x39)) (Nn p9 (fun a41 =>
  (∃ s42 : SV, w40.cell? (a41.add 4) = some (.slice s42.a s42.len s42.cap) ∧
  (Nn p9 (fun a44 =>
  (∃ s45 : SV, w40.cell? (a44.add 4) = some (.slice s45.a s45.len s45.cap) ∧
  (Idx s45.a s45.len x28 1 (fun a46 =>
  (∃ s47 : SV, w40.cell? a46 = some (.slice s47.a s47.len s47.cap) ∧
  (∀ w49, Ext w40 w49 →
  (sh_hier_put s47 x29 x30 t25.1 (fun s48 w50 =>
  (Keeps [b33, b1] w49 w50 ∧
  ((∃ y43 : SV, w50.cell? (a41.add 4) = some (.slice y43.a y43.len y43.cap) ∧
  ((.slice y43.a y43.len y43.cap) : Value) = (.slice s42.a s42.len s42.cap)) ∧
  (Idx s42.a s42.len x28 1 (fun a51 =>
  (∀ w52, Ext w50 w52 →
  (stL w52 a51 [(.slice s48.a s48.len s48.cap)] 0 (fun w53 =>
  (Keeps [b33, b1] w52 w53 ∧
  (∀ w54, Ext w53 w54 →
  (again24 ((IntKind.i64.wrap (t25.1 + (1 : Int))), ()) w54))))))))))) w49))))))))))) (Nn p9 (fun a55 =>
  (∃ s56 : SV, w40.cell? (a55.add 5) = some (.slice s56.a s56.len s56.cap) ∧
  (Nn p9 (fun a58 =>
  (∃ s59 : SV, w40.cell? (a58.add 5) = some (.slice s59.a s59.len s59.cap) ∧
  (Idx s59.a s59.len x29 1 (fun a60 =>
  (∃ s61 : SV, w40.cell? a60 = some (.slice s61.a s61.len s61.cap) ∧
  (∀ w63, Ext w40 w63 →
  (sh_hier_put s61 x28 x30 t25.1 (fun s62 w64 =>
  (Keeps [b33, b1] w63 w64 ∧
  ((∃ y57 : SV, w64.cell? (a55.add 5) = some (.slice y57.a y57.len y57.cap) ∧
  ((.slice y57.a y57.len y57.cap) : Value) = (.slice s56.a s56.len s56.cap)) ∧
  (Idx s56.a s56.len x29 1 (fun a65 =>
  (∀ w66, Ext w64 w66 →
  (stL w66 a65 [(.slice s62.a s62.len s62.cap)] 0 (fun w67 =>
  (Keeps [b33, b1] w66 w67 ∧
  (∀ w68, Ext w67 w68 →
  (again24 ((IntKind.i64.wrap (t25.1 + (1 : Int))), ()) w68))))))))))) w63)))))))))))))))))))))))) (K p9 w26))) ((0 : Int), ()) w23))))))))))))))))))))))) w8))))))))))

/-- slices.Clone[[]int,int] -/
def sh_slices_Clone_int_int (s0 : SV) (K : SV → World → Prop) (w : World) : Prop :=
  (cond s0.a.isNone (K ⟨none, 0, 0⟩ w) (NewB [] w (fun b1 w2 => (App 8 [(.int .i64 (0 : Int))] ⟨(some ⟨b1, 0, none⟩), 0, 0⟩ s0 w2 (fun s3 w4 => (K s3 w4))))))

/-- slices.Reverse[[]int,int] -/
def sh_slices_Reverse_int_int (s0 : SV) (K : World → Prop) (w : World) : Prop :=
  (LoopT (Int × Int × Unit) (fun t2 again1 w3 =>
  (cond (decide (t2.1 < t2.2.1)) (Idx s0.a s0.len t2.2.1 1 (fun a4 =>
  (∃ x5 : Int, w3.cell? a4 = some (.int .i64 x5) ∧
  (Idx s0.a s0.len t2.1 1 (fun a6 =>
  (∃ x7 : Int, w3.cell? a6 = some (.int .i64 x7) ∧
  (Idx s0.a s0.len t2.1 1 (fun a8 =>
  (∀ w9, Ext w3 w9 →
  (stL w9 a8 [(.int .i64 x5)] 0 (fun w10 =>
  (Idx s0.a s0.len t2.2.1 1 (fun a11 =>
  (∀ w12, Ext w10 w12 →
  (stL w12 a11 [(.int .i64 x7)] 0 (fun w13 =>
  (∀ w14, Ext w13 w14 →
  (again1 ((IntKind.i64.wrap (t2.1 + (1 : Int))), (IntKind.i64.wrap (t2.2.1 - (1 : Int))), ()) w14)))))))))))))))))) (K w3))) ((0 : Int), (IntKind.i64.wrap ((s0.len : Int) - (1 : Int))), ()) w)

/-- (*postroad/hier.Hier).Way -/
def sh_hier_Hier_Way (h0 : Option Addr) (k0 : Int) (K : Int → Int → Int → Int → Int → Bool → World → Prop) (w : World) : Prop :=
  (∀ b1 w2, Ext w w2 → w.heap.size ≤ b1 → b1 < w2.heap.size →
  (cond h0.isNone (∀ w3, Off b1 w2 w3 →
  (K (0 : Int) (0 : Int) (0 : Int) (0 : Int) (0 : Int) false w3)) (cond (decide (k0 < (0 : Int))) (∀ w4, Off b1 w2 w4 →
  (K (0 : Int) (0 : Int) (0 : Int) (0 : Int) (0 : Int) false w4)) (Nn h0 (fun a5 =>
  (∃ s6 : SV, w2.cell? ((a5.add 0).add 1) = some (.slice s6.a s6.len s6.cap) ∧
  (cond (decide (k0 ≥ (s6.len : Int))) (∀ w7, Off b1 w2 w7 →
  (K (0 : Int) (0 : Int) (0 : Int) (0 : Int) (0 : Int) false w7)) (Nn h0 (fun a8 =>
  (∃ s9 : SV, w2.cell? ((a8.add 0).add 1) = some (.slice s9.a s9.len s9.cap) ∧
  (Idx s9.a s9.len k0 5 (fun a10 =>
  (∃ x11 : Int, w2.cell? (a10.add 0) = some (.int .i64 x11) ∧ ∃ x12 : Int, w2.cell? (a10.add 1) = some (.int .i64 x12) ∧ ∃ x13 : Int, w2.cell? (a10.add 2) = some (.int .i64 x13) ∧ ∃ x14 : Int, w2.cell? (a10.add 3) = some (.int .i64 x14) ∧ ∃ x15 : Int, w2.cell? (a10.add 4) = some (.int .i64 x15) ∧
  (∀ w16, Off b1 w2 w16 →
  (K x11 x12 x13 x14 x15 true w16)))))))))))))))

/-- (*postroad/hier.Hier).Halves -/
def sh_hier_Hier_Halves (h0 : Option Addr) (k0 : Int) (K : Int → Int → Bool → World → Prop) (w : World) : Prop :=
  (sh_hier_Hier_Way h0 k0 (fun x1 x2 x3 x4 x5 t6 w7 =>
  (∀ b8 w9, Ext w7 w9 → w7.heap.size ≤ b8 → b8 < w9.heap.size →
  (∀ w10, Off b8 w9 w10 →
  (cond (!t6) (K (0 : Int) (0 : Int) false w10) (cond (x4 == (-1 : Int)) (K (0 : Int) (0 : Int) false w10) (Nn h0 (fun a11 =>
  (∃ s12 : SV, w10.cell? ((a11.add 0).add 0) = some (.slice s12.a s12.len s12.cap) ∧ ∃ s13 : SV, w10.cell? ((a11.add 0).add 1) = some (.slice s13.a s13.len s13.cap) ∧
  (Nn h0 (fun a14 =>
  (∃ m15 : Option Nat, w10.cell? (a14.add 3) = some (.map m15) ∧
  (Quiet (Int × Int × Bool) (fun r19 =>
  (.tuple #[(.int .i64 r19.1), (.int .i64 r19.2.1), (.bool r19.2.2)])) (fun K20 w21' => sh_hier_halves s12 s13 m15 x1 x2 x3 x4 x5 (fun x16 x17 t18 w21 => K20 (x16, x17, t18) w21) w21') w10 (fun r19 =>
  (∀ w22, Ext w10 w22 →
  (K r19.1 r19.2.1 r19.2.2 w22))))))))))))))) w)

/-- postroad/unpack.open -/
def sh_unpack_open (h0 : Option Addr) (l0 : SV) (K : SV → World → Prop) (w : World) : Prop :=
  (sh_slices_Clone_int_int l0 (fun s1 w2 =>
  (sh_slices_Reverse_int_int s1 (fun w3 =>
  (LoopT (SV × SV × Unit) (fun t5 again4 w6 =>
  (cond (decide ((t5.2.1.len : Int) > (0 : Int))) (Idx t5.2.1.a t5.2.1.len (IntKind.i64.wrap ((t5.2.1.len : Int) - (1 : Int))) 1 (fun a7 =>
  (∃ x8 : Int, w6.cell? a7 = some (.int .i64 x8) ∧
  (semSlice 1 t5.2.1.a t5.2.1.len t5.2.1.cap none (some (IntKind.i64.wrap ((t5.2.1.len : Int) - (1 : Int)))) (fun s9 =>
  (sh_hier_Hier_Halves h0 x8 (fun x10 x11 t12 w13 =>
  (cond t12 (NewB [(.int .i64 x11), (.int .i64 x10)] w13 (fun b14 w15 =>
  (App 8 [(.int .i64 (0 : Int))] s9 ⟨(some ⟨b14, 0, none⟩), 2, 2⟩ w15 (fun s16 w17 =>
  (again4 (t5.1, s16, ()) w17))))) (sh_hier_Hier_Way h0 x8 (fun x18 x19 x20 x21 x22 t23 w24 =>
  (∀ b25 w26, Ext w24 w26 → w24.heap.size ≤ b25 → b25 < w26.heap.size →
  (∀ w27, Off b25 w26 w27 →
  (cond t23 (NewB [(.int .i64 x22)] w27 (fun b28 w29 =>
  (App 8 [(.int .i64 (0 : Int))] t5.1 ⟨(some ⟨b28, 0, none⟩), 1, 1⟩ w29 (fun s30 w31 =>
  (Keeps [b25] w29 w31 ∧
  (again4 (s30, s9, ()) w31)))))) (again4 (t5.1, s9, ()) w27))))) w13))) w6)))))) (K t5.1 w6))) (⟨none, 0, 0⟩, s1, ()) w3)) w2)) w)

/-- postroad/unpack.Open -/
def sh_unpack_Open (h0 : Option Addr) (k0 : Int) (K : SV → World → Prop) (w : World) : Prop :=
  (NewB [(.int .i64 k0)] w (fun b1 w2 => (sh_unpack_open h0 (⟨(some ⟨b1, 0, none⟩), 1, 1⟩) (fun s3 w4 => (K s3 w4)) w2)))

/-- postroad/postroadref00.SameInts -/
def sh_postroadref00_SameInts (a0 : SV) (b0 : SV) (K : Bool → World → Prop) (w : World) : Prop :=
  (cond ((a0.len : Int) != (b0.len : Int)) (K false w) (LoopT (Int × Unit) (fun t2 again1 w3 =>
  (cond (decide (t2.1 < (a0.len : Int))) (Idx a0.a a0.len t2.1 1 (fun a4 =>
  (∃ x5 : Int, w3.cell? a4 = some (.int .i64 x5) ∧
  (Idx b0.a b0.len t2.1 1 (fun a6 =>
  (∃ x7 : Int, w3.cell? a6 = some (.int .i64 x7) ∧
  (∀ w8, Ext w3 w8 →
  (cond (x5 != x7) (K false w8) (again1 ((IntKind.i64.wrap (t2.1 + (1 : Int))), ()) w8))))))))) (K true w3))) ((0 : Int), ()) w))

/-- postroad/unpack.Deep: once, over what is known of itself -/
def sh_unpack_Deep.step (rec_ : Option Addr → Int → (Int → World → Prop) → World → Prop) (h0 : Option Addr) (k0 : Int) (K : Int → World → Prop) (w : World) : Prop :=
  (sh_hier_Hier_Way h0 k0 (fun x1 x2 x3 x4 x5 t6 w7 =>
  (∀ b8 w9, Ext w7 w9 → w7.heap.size ≤ b8 → b8 < w9.heap.size →
  (∀ w10, Off b8 w9 w10 →
  (cond (!t6) (K (0 : Int) w10) (sh_hier_Hier_Halves h0 k0 (fun x11 x12 t13 w14 =>
  (Keeps [b8] w10 w14 ∧
  (cond (!t13) (K (1 : Int) w14) (rec_ h0 x11 (fun x15 w16 =>
  (Keeps [b8] w14 w16 ∧
  (rec_ h0 x12 (fun x17 w18 =>
  (Keeps [b8] w16 w18 ∧
  (K (IntKind.i64.wrap ((1 : Int) + (if x17 > x15 then x17 else x15))) w18))) w16))) w14)))) w10))))) w)
def sh_unpack_Deep.n : Nat → Option Addr → Int → (Int → World → Prop) → World → Prop
  | 0 => fun _ _ _ _ => False
  | n + 1 => sh_unpack_Deep.step (sh_unpack_Deep.n n)
/-- postroad/unpack.Deep -/
def sh_unpack_Deep (h0 : Option Addr) (k0 : Int) (K : Int → World → Prop) (w : World) : Prop := ∃ n, sh_unpack_Deep.n n h0 k0 K w

/-- postroad/postroadlaw13.known -/
def sh_postroadlaw13_known  (K : Bool → World → Prop) (w : World) : Prop :=
  (NewB [(.int .i64 (1 : Int)), (.int .i64 (0 : Int)), (.int .i64 (2 : Int))] w (fun b1 w2 =>
  (NewB [(.int .i64 (0 : Int)), (.int .i64 (1 : Int)), (.int .i64 (2 : Int)), (.int .i64 (-1 : Int)), (.int .i64 (5 : Int)), (.int .i64 (1 : Int)), (.int .i64 (2 : Int)), (.int .i64 (3 : Int)), (.int .i64 (-1 : Int)), (.int .i64 (3 : Int)), (.int .i64 (0 : Int)), (.int .i64 (2 : Int)), (.int .i64 (5 : Int)), (.int .i64 (1 : Int)), (.int .i64 (-1 : Int))] w2 (fun b3 w4 =>
  (sh_hier_New (⟨(some ⟨b1, 0, none⟩), 3, 3⟩) (⟨(some ⟨b3, 0, none⟩), 3, 3⟩) (fun p5 w6 =>
  (sh_unpack_Open p5 (2 : Int) (fun s7 w8 =>
  (NewB [(.int .i64 (5 : Int)), (.int .i64 (3 : Int))] w8 (fun b9 w10 =>
  (sh_postroadref00_SameInts s7 (⟨(some ⟨b9, 0, none⟩), 2, 2⟩) (fun t11 w12 =>
  (cond t11 (sh_unpack_Deep p5 (2 : Int) (fun x13 w14 =>
  (cond (x13 == (2 : Int)) (sh_unpack_Deep p5 (3 : Int) (fun x15 w16 =>
  (K (x15 == (0 : Int)) w16)) w14) (K false w14))) w12) (K false w12))) w10)))) w6)) w4)))))

/-- postroad/postroadref10.Halves -/
def sh_postroadref10_Halves (h0_Rank : SV) (h0_Ways : SV) (k0 : Int) (K : Int → Int → Bool → World → Prop) (w : World) : Prop :=
  (∀ b1 w2, Ext w w2 → w.heap.size ≤ b1 → b1 < w2.heap.size →
  (cond (decide (k0 < (0 : Int))) (K (0 : Int) (0 : Int) false w2) (cond (decide (k0 ≥ (h0_Ways.len : Int))) (K (0 : Int) (0 : Int) false w2) (Idx h0_Ways.a h0_Ways.len k0 5 (fun a3 =>
  (∃ x4 : Int, w2.cell? ((a3.add 2).add 1) = some (.int .i64 x4) ∧
  (cond (x4 == (-1 : Int)) (K (0 : Int) (0 : Int) false w2) (Idx h0_Ways.a h0_Ways.len k0 5 (fun a5 =>
  (∃ x6 : Int, w2.cell? (a5.add 0) = some (.int .i64 x6) ∧ ∃ x7 : Int, w2.cell? (a5.add 1) = some (.int .i64 x7) ∧ ∃ x8 : Int, w2.cell? (a5.add 2) = some (.int .i64 x8) ∧ ∃ x9 : Int, w2.cell? (a5.add 3) = some (.int .i64 x9) ∧ ∃ x10 : Int, w2.cell? (a5.add 4) = some (.int .i64 x10) ∧
  (∀ b11 w12, Ext w2 w12 → w2.heap.size ≤ b11 → b11 < w12.heap.size →
  (∀ w13, Off b11 w12 w13 →
  (Quiet (Int) (fun r15 =>
  (.int .i64 r15)) (fun K16 w17' => sh_postroadref10_Find h0_Rank h0_Ways x6 x9 (fun x14 w17 => K16 x14 w17) w17') w13 (fun r15 =>
  (Quiet (Int) (fun r19 =>
  (.int .i64 r19)) (fun K20 w21' => sh_postroadref10_Find h0_Rank h0_Ways x9 x7 (fun x18 w21 => K20 x18 w21) w21') w13 (fun r19 =>
  (∀ w22, Ext w13 w22 →
  (K r15 r19 true w22))))))))))))))))))

/-- postroad/postroadref13.Open: once, over what is known of itself -/
def sh_postroadref13_Open.step (rec_ : SV → SV → Int → (SV → World → Prop) → World → Prop) (h0_Rank : SV) (h0_Ways : SV) (k0 : Int) (K : SV → World → Prop) (w : World) : Prop :=
  (∀ b1 w2, Ext w w2 → w.heap.size ≤ b1 → b1 < w2.heap.size →
  (cond (decide (k0 < (0 : Int))) (K ⟨none, 0, 0⟩ w2) (cond (decide (k0 ≥ (h0_Ways.len : Int))) (K ⟨none, 0, 0⟩ w2) (sh_postroadref10_Halves h0_Rank h0_Ways k0 (fun x3 x4 t5 w6 =>
  (Keeps [b1] w2 w6 ∧
  (cond (!t5) (Idx h0_Ways.a h0_Ways.len k0 5 (fun a7 =>
  (∃ x8 : Int, w6.cell? ((a7.add 2).add 2) = some (.int .i64 x8) ∧
  (NewB [(.int .i64 x8)] w6 (fun b9 w10 =>
  (K (⟨(some ⟨b9, 0, none⟩), 1, 1⟩) w10)))))) (rec_ h0_Rank h0_Ways x3 (fun s11 w12 =>
  (Keeps [b1] w6 w12 ∧
  (rec_ h0_Rank h0_Ways x4 (fun s13 w14 =>
  (Keeps [b1] w12 w14 ∧
  (App 8 [(.int .i64 (0 : Int))] s11 s13 w14 (fun s15 w16 =>
  (Keeps [b1] w14 w16 ∧
  (K s15 w16)))))) w12))) w6)))) w2))))
def sh_postroadref13_Open.n : Nat → SV → SV → Int → (SV → World → Prop) → World → Prop
  | 0 => fun _ _ _ _ _ => False
  | n + 1 => sh_postroadref13_Open.step (sh_postroadref13_Open.n n)
/-- postroad/postroadref13.Open -/
def sh_postroadref13_Open (h0_Rank : SV) (h0_Ways : SV) (k0 : Int) (K : SV → World → Prop) (w : World) : Prop := ∃ n, sh_postroadref13_Open.n n h0_Rank h0_Ways k0 K w

/-- postroad/postroadref13.Deep: once, over what is known of itself -/
def sh_postroadref13_Deep.step (rec_ : SV → SV → Int → (Int → World → Prop) → World → Prop) (h0_Rank : SV) (h0_Ways : SV) (k0 : Int) (K : Int → World → Prop) (w : World) : Prop :=
  (∀ b1 w2, Ext w w2 → w.heap.size ≤ b1 → b1 < w2.heap.size →
  (cond (decide (k0 < (0 : Int))) (K (0 : Int) w2) (cond (decide (k0 ≥ (h0_Ways.len : Int))) (K (0 : Int) w2) (sh_postroadref10_Halves h0_Rank h0_Ways k0 (fun x3 x4 t5 w6 =>
  (Keeps [b1] w2 w6 ∧
  (cond (!t5) (K (1 : Int) w6) (Quiet (Int) (fun r8 =>
  (.int .i64 r8)) (fun K9 w10' => rec_ h0_Rank h0_Ways x3 (fun x7 w10 => K9 x7 w10) w10') w6 (fun r8 =>
  (Quiet (Int) (fun r12 =>
  (.int .i64 r12)) (fun K13 w14' => rec_ h0_Rank h0_Ways x4 (fun x11 w14 => K13 x11 w14) w14') w6 (fun r12 =>
  (∀ w15, Ext w6 w15 →
  (K (IntKind.i64.wrap ((1 : Int) + (if r12 > r8 then r12 else r8))) w15))))))))) w2))))
def sh_postroadref13_Deep.n : Nat → SV → SV → Int → (Int → World → Prop) → World → Prop
  | 0 => fun _ _ _ _ _ => False
  | n + 1 => sh_postroadref13_Deep.step (sh_postroadref13_Deep.n n)
/-- postroad/postroadref13.Deep -/
def sh_postroadref13_Deep (h0_Rank : SV) (h0_Ways : SV) (k0 : Int) (K : Int → World → Prop) (w : World) : Prop := ∃ n, sh_postroadref13_Deep.n n h0_Rank h0_Ways k0 K w

/-- postroad/postroadlaw13.UnpackOpens -/
def sh_postroadlaw13_UnpackOpens (h0_Rank : SV) (h0_Ways : SV) (K : Bool → World → Prop) (w : World) : Prop :=
  (∀ b1 w2, Ext w w2 → w.heap.size ≤ b1 → b1 < w2.heap.size →
  (sh_postroadref11_Fit h0_Rank h0_Ways (fun t3 w4 =>
  (Keeps [b1] w2 w4 ∧
  (cond (!t3) (sh_postroadlaw13_known  (fun t5 w6 =>
  (Keeps [b1] w4 w6 ∧
  (K t5 w6))) w4) (sh_hier_New h0_Rank h0_Ways (fun p7 w8 =>
  (Keeps [b1] w4 w8 ∧
  (Join (Unit) (fun J9 =>
  (LoopT (Int × Unit) (fun t11 again10 w12 =>
  (cond (decide (t11.1 ≤ (h0_Ways.len : Int))) (∀ w14, Ext w12 w14 →
  (sh_unpack_Open p7 t11.1 (fun s13 w15 =>
  (Keeps [b1] w14 w15 ∧
  (∀ w17, Ext w15 w17 →
  (sh_postroadref13_Open h0_Rank h0_Ways t11.1 (fun s16 w18 =>
  (Keeps [b1] w17 w18 ∧
  (Quiet (Bool) (fun r20 =>
  (.bool r20)) (fun K21 w22' => sh_postroadref00_SameInts s13 s16 (fun t19 w22 => K21 t19 w22) w22') w18 (fun r20 =>
  (cond (!r20) (∀ w23, Ext w18 w23 →
  (K false w23)) (Quiet (Int) (fun r25 =>
  (.int .i64 r25)) (fun K26 w27' => sh_unpack_Deep p7 t11.1 (fun x24 w27 => K26 x24 w27) w27') w18 (fun r25 =>
  (Quiet (Int) (fun r29 =>
  (.int .i64 r29)) (fun K30 w31' => sh_postroadref13_Deep h0_Rank h0_Ways t11.1 (fun x28 w31 => K30 x28 w31) w31') w18 (fun r29 =>
  (∀ w32, Ext w18 w32 →
  (cond (r25 != r29) (K false w32) (again10 ((IntKind.i64.wrap (t11.1 + (1 : Int))), ()) w32)))))))))))) w17)))) w14)) (J9 () w12))) ((-1 : Int), ()) w8))
  (fun t33 w34 =>
  (sh_postroadlaw13_known  (fun t35 w36 =>
  (Keeps [b1] w34 w36 ∧
  (K t35 w36))) w34))))) w4)))) w2))

/-- postroad/postroadref06.part -/
def sh_postroadref06_part (x0 : Int) (n0 : Int) (K : Int → World → Prop) (w : World) : Prop :=
  (if n0 = 0 then False else (cond (decide ((x0.tmod n0) < (0 : Int))) (K (IntKind.i64.wrap ((x0.tmod n0) + n0)) w) (K (x0.tmod n0) w)))

/-- postroad/postroadref06.Of -/
def sh_postroadref06_Of (n0 : Int) (arcs0 : SV) (K : Int → SV → World → Prop) (w : World) : Prop :=
  (∀ b1 w2, Ext w w2 → w.heap.size ≤ b1 → b1 < w2.heap.size →
  (∀ b3 w4, Ext w2 w4 → w2.heap.size ≤ b3 → b3 < w4.heap.size →
  (∀ w5, Off b3 w4 w5 →
  (Join ((Int × SV × Unit) × Unit) (fun J6 =>
  (LoopT (Int × (Int × SV × Unit) × Unit) (fun t8 again7 w9 =>
  (cond (decide (t8.1 < (arcs0.len : Int))) (cond (decide (t8.1 < (40 : Int))) (Idx arcs0.a arcs0.len t8.1 3 (fun a10 =>
  (∃ x11 : Int, w9.cell? (a10.add 0) = some (.int .i64 x11) ∧ ∃ x12 : Int, w9.cell? (a10.add 1) = some (.int .i64 x12) ∧ ∃ x13 : Int, w9.cell? (a10.add 2) = some (.int .i64 x13) ∧
  (∀ b14 w15, Ext w9 w15 → w9.heap.size ≤ b14 → b14 < w15.heap.size →
  (∀ w16, Off b14 w15 w16 →
  (Quiet (Int) (fun r18 =>
  (.int .i64 r18)) (fun K19 w20' => sh_postroadref06_part x11 (if (if (12 : Int) < n0 then (12 : Int) else n0) > (1 : Int) then (if (12 : Int) < n0 then (12 : Int) else n0) else (1 : Int)) (fun x17 w20 => K19 x17 w20) w20') w16 (fun r18 =>
  (Quiet (Int) (fun r22 =>
  (.int .i64 r22)) (fun K23 w24' => sh_postroadref06_part x12 (if (if (12 : Int) < n0 then (12 : Int) else n0) > (1 : Int) then (if (12 : Int) < n0 then (12 : Int) else n0) else (1 : Int)) (fun x21 w24 => K23 x21 w24) w24') w16 (fun r22 =>
  (Quiet (Int) (fun r26 =>
  (.int .i64 r26)) (fun K27 w28' => sh_postroadref06_part x13 (2147483649 : Int) (fun x25 w28 => K27 x25 w28) w28') w16 (fun r26 =>
  (∀ w29, Ext w16 w29 →
  (NewB [(.int .i64 r18), (.int .i64 r22), (.int .i64 r26)] w29 (fun b30 w31 =>
  (∀ w32, Ext w31 w32 →
  (App 24 [(.int .i64 (0 : Int)), (.int .i64 (0 : Int)), (.int .i64 (0 : Int))] t8.2.1.2.1 ⟨(some ⟨b30, 0, none⟩), 1, 1⟩ w32 (fun s33 w34 =>
  (Keeps [b14, b3, b1] w32 w34 ∧
  (∀ w35, Ext w34 w35 →
  (∀ w36, Off b3 w35 w36 →
  (∀ w37, Ext w36 w37 →
  (again7 ((IntKind.i64.wrap (t8.1 + (1 : Int))), (t8.2.1.1, s33, ()), ()) w37)))))))))))))))))))))) (J6 ((t8.2.1.1, t8.2.1.2.1, ()), ()) w9)) (J6 ((t8.2.1.1, t8.2.1.2.1, ()), ()) w9))) ((0 : Int), ((if (if (12 : Int) < n0 then (12 : Int) else n0) > (1 : Int) then (if (12 : Int) < n0 then (12 : Int) else n0) else (1 : Int)), ⟨none, 0, 0⟩, ()), ()) w5))
  (fun t38 w39 =>
  (∀ w40, Off b1 w39 w40 →
  (K t38.1.1 t38.1.2.1 w40)))))))

/-- postroad/postroadref07.Of -/
def sh_postroadref07_Of (n0 : Int) (arcs0 : SV) (K : Int → SV → World → Prop) (w : World) : Prop :=
  (∀ b1 w2, Ext w w2 → w.heap.size ≤ b1 → b1 < w2.heap.size → (sh_postroadref06_Of n0 arcs0 (fun x3 s4 w5 => (Keeps [b1] w2 w5 ∧ (∀ w6, Off b1 w5 w6 → (K x3 s4 w6)))) w2))

/-- postroad/postroadref05.Check -/
def sh_postroadref05_Check (m0_N : Int) (m0_Arcs : SV) (K : Int → World → Prop) (w : World) : Prop :=
  (∀ b1 w2, Ext w w2 → w.heap.size ≤ b1 → b1 < w2.heap.size →
  (cond (decide (m0_N > (16777216 : Int))) (K (3 : Int) w2) (cond (decide ((m0_Arcs.len : Int) > (67108864 : Int))) (K (3 : Int) w2) (cond (decide (m0_N < (0 : Int))) (K (2 : Int) w2) (LoopT (Int × Unit) (fun t4 again3 w5 =>
  (cond (decide (t4.1 < (m0_Arcs.len : Int))) (Idx m0_Arcs.a m0_Arcs.len t4.1 3 (fun a6 =>
  (∃ x7 : Int, w5.cell? (a6.add 0) = some (.int .i64 x7) ∧ ∃ x8 : Int, w5.cell? (a6.add 1) = some (.int .i64 x8) ∧ ∃ x9 : Int, w5.cell? (a6.add 2) = some (.int .i64 x9) ∧
  (∀ b10 w11, Ext w5 w11 → w5.heap.size ≤ b10 → b10 < w11.heap.size →
  (∀ w12, Off b10 w11 w12 →
  (cond (decide (x7 < (0 : Int))) (K (2 : Int) w12) (cond (decide (x7 ≥ m0_N)) (K (2 : Int) w12) (cond (decide (x8 < (0 : Int))) (K (2 : Int) w12) (cond (decide (x8 ≥ m0_N)) (K (2 : Int) w12) (cond (decide (x9 < (0 : Int))) (K (2 : Int) w12) (cond (decide (x9 > (2147483648 : Int))) (K (2 : Int) w12) (again3 ((IntKind.i64.wrap (t4.1 + (1 : Int))), ()) w12)))))))))))) (K (0 : Int) w5))) ((0 : Int), ()) w2)))))

/-- postroad/postroadref06.counts -/
def sh_postroadref06_counts (m0_N : Int) (m0_Arcs : SV) (k0 : Int) (K : Bool → World → Prop) (w : World) : Prop :=
  (∀ b1 w2, Ext w w2 → w.heap.size ≤ b1 → b1 < w2.heap.size →
  (Idx m0_Arcs.a m0_Arcs.len k0 3 (fun a3 =>
  (∃ x4 : Int, w2.cell? (a3.add 0) = some (.int .i64 x4) ∧ ∃ x5 : Int, w2.cell? (a3.add 1) = some (.int .i64 x5) ∧ ∃ x6 : Int, w2.cell? (a3.add 2) = some (.int .i64 x6) ∧
  (∀ b7 w8, Ext w2 w8 → w2.heap.size ≤ b7 → b7 < w8.heap.size →
  (∀ w9, Off b7 w8 w9 →
  (cond (x4 == x5) (K false w9) (LoopT (Int × Unit) (fun t11 again10 w12 =>
  (cond (decide (t11.1 < (m0_Arcs.len : Int))) (Join (Unit) (fun J13 =>
  (Idx m0_Arcs.a m0_Arcs.len t11.1 3 (fun a14 =>
  (∃ x15 : Int, w12.cell? (a14.add 0) = some (.int .i64 x15) ∧ ∃ x16 : Int, w12.cell? (a14.add 1) = some (.int .i64 x16) ∧ ∃ x17 : Int, w12.cell? (a14.add 2) = some (.int .i64 x17) ∧
  (∀ b18 w19, Ext w12 w19 → w12.heap.size ≤ b18 → b18 < w19.heap.size →
  (∀ w20, Off b18 w19 w20 →
  (cond (x15 == x4) (cond (x16 == x5) (cond (decide (x17 < x6)) (K false w20) (cond (x17 == x6) (cond (decide (t11.1 < k0)) (K false w20) (J13 () w20)) (J13 () w20))) (J13 () w20)) (J13 () w20))))))))
  (fun t21 w22 =>
  (again10 ((IntKind.i64.wrap (t11.1 + (1 : Int))), ()) w22))) (K true w12))) ((0 : Int), ()) w9))))))))

/-- postroad/postroadref06.New -/
def sh_postroadref06_New (m0_N : Int) (m0_Arcs : SV) (K : Int → SV → SV → Bool → World → Prop) (w : World) : Prop :=
  (∀ b1 w2, Ext w w2 → w.heap.size ≤ b1 → b1 < w2.heap.size →
  (∀ b3 w4, Ext w2 w4 → w2.heap.size ≤ b3 → b3 < w4.heap.size →
  (sh_postroadref05_Check m0_N m0_Arcs (fun x5 w6 =>
  (Keeps [b3, b1] w4 w6 ∧
  (cond (x5 != (0 : Int)) (∀ w7, Off b3 w6 w7 →
  (K (0 : Int) ⟨none, 0, 0⟩ ⟨none, 0, 0⟩ false w7)) (∀ b8 w9, Ext w6 w9 → w6.heap.size ≤ b8 → b8 < w9.heap.size →
  (∀ w10, Off b8 w9 w10 →
  (Join ((Int × SV × SV × Unit) × Unit) (fun J11 =>
  (LoopT (Int × (Int × SV × SV × Unit) × Unit) (fun t13 again12 w14 =>
  (cond (decide (t13.1 < (m0_Arcs.len : Int))) (Join (Int × Unit) (fun J15 =>
  (sh_postroadref06_counts m0_N m0_Arcs t13.1 (fun t16 w17 =>
  (Keeps [b8, b3, b1] w14 w17 ∧
  (cond t16 (J15 ((1 : Int), ()) w17) (J15 ((0 : Int), ()) w17)))) w14))
  (fun t18 w19 =>
  (NewB [(.int .i64 t18.1)] w19 (fun b20 w21 =>
  (App 8 [(.int .i64 (0 : Int))] t13.2.1.2.2.1 ⟨(some ⟨b20, 0, none⟩), 1, 1⟩ w21 (fun s22 w23 =>
  (Keeps [b8, b3, b1] w21 w23 ∧
  (∀ w24, Off b8 w23 w24 →
  (again12 ((IntKind.i64.wrap (t13.1 + (1 : Int))), (t13.2.1.1, t13.2.1.2.1, s22, ()), ()) w24))))))))) (J11 ((t13.2.1.1, t13.2.1.2.1, t13.2.1.2.2.1, ()), ()) w14))) ((0 : Int), (m0_N, m0_Arcs, ⟨none, 0, 0⟩, ()), ()) w10))
  (fun t25 w26 =>
  (∀ w27, Off b3 w26 w27 →
  (K t25.1.1 t25.1.2.1 t25.1.2.2.1 true w27))))))))) w4)))

/-- postroad/postroadref06.put -/
def sh_postroadref06_put (l0 : SV) (e0_V : Int) (e0_W : Int) (e0_Arc : Int) (K : SV → World → Prop) (w : World) : Prop :=
  (∀ b1 w2, Ext w w2 → w.heap.size ≤ b1 → b1 < w2.heap.size →
  (Join (Int × Unit) (fun J3 =>
  (LoopT (Int × Unit) (fun t5 again4 w6 =>
  (cond (decide (t5.1 < (l0.len : Int))) (Idx l0.a l0.len t5.1 3 (fun a7 =>
  (∃ x8 : Int, w6.cell? (a7.add 0) = some (.int .i64 x8) ∧
  (∀ w9, Ext w6 w9 →
  (cond (decide (x8 < e0_V)) (again4 ((IntKind.i64.wrap (t5.1 + (1 : Int))), ()) w9) (J3 (t5.1, ()) w9)))))) (∀ w10, Ext w6 w10 →
  (J3 (t5.1, ()) w10)))) ((0 : Int), ()) w2))
  (fun t11 w12 =>
  (semSlice 3 l0.a l0.len l0.cap none (some t11.1) (fun s13 =>
  (App 24 [(.int .i64 (0 : Int)), (.int .i64 (0 : Int)), (.int .i64 (0 : Int))] ⟨none, 0, 0⟩ s13 w12 (fun s14 w15 =>
  (Keeps [b1] w12 w15 ∧
  (NewB [(.int .i64 e0_V), (.int .i64 e0_W), (.int .i64 e0_Arc)] w15 (fun b16 w17 =>
  (App 24 [(.int .i64 (0 : Int)), (.int .i64 (0 : Int)), (.int .i64 (0 : Int))] s14 ⟨(some ⟨b16, 0, none⟩), 1, 1⟩ w17 (fun s18 w19 =>
  (Keeps [b1] w17 w19 ∧
  (semSlice 3 l0.a l0.len l0.cap (some t11.1) none (fun s20 =>
  (App 24 [(.int .i64 (0 : Int)), (.int .i64 (0 : Int)), (.int .i64 (0 : Int))] s18 s20 w19 (fun s21 w22 =>
  (Keeps [b1] w19 w22 ∧
  (K s21 w22)))))))))))))))))))

/-- postroad/postroadref06.Out -/
def sh_postroadref06_Out (g0_M_N : Int) (g0_M_Arcs : SV) (g0_Kept : SV) (v0 : Int) (K : SV → World → Prop) (w : World) : Prop :=
  (∀ b1 w2, Ext w w2 → w.heap.size ≤ b1 → b1 < w2.heap.size →
  (LoopT (SV × Int × Unit) (fun t4 again3 w5 =>
  (cond (decide (t4.2.1 < (g0_Kept.len : Int))) (Join (SV × Unit) (fun J6 =>
  (Idx g0_Kept.a g0_Kept.len t4.2.1 1 (fun a7 =>
  (∃ x8 : Int, w5.cell? a7 = some (.int .i64 x8) ∧
  (cond (x8 == (1 : Int)) (Idx g0_M_Arcs.a g0_M_Arcs.len t4.2.1 3 (fun a9 =>
  (∃ x10 : Int, w5.cell? (a9.add 0) = some (.int .i64 x10) ∧
  (cond (x10 == v0) (Idx g0_M_Arcs.a g0_M_Arcs.len t4.2.1 3 (fun a11 =>
  (∃ x12 : Int, w5.cell? (a11.add 1) = some (.int .i64 x12) ∧
  (Idx g0_M_Arcs.a g0_M_Arcs.len t4.2.1 3 (fun a13 =>
  (∃ x14 : Int, w5.cell? (a13.add 2) = some (.int .i64 x14) ∧
  (∀ w16, Ext w5 w16 →
  (sh_postroadref06_put t4.1 x12 x14 t4.2.1 (fun s15 w17 =>
  (Keeps [b1] w16 w17 ∧
  (∀ w18, Ext w17 w18 →
  (J6 (s15, ()) w18)))) w16)))))))) (J6 (t4.1, ()) w5))))) (J6 (t4.1, ()) w5))))))
  (fun t19 w20 =>
  (again3 (t19.1, (IntKind.i64.wrap (t4.2.1 + (1 : Int))), ()) w20))) (K t4.1 w5))) (⟨none, 0, 0⟩, (0 : Int), ()) w2))

/-- postroad/postroadref08.New -/
def sh_postroadref08_New (g0_M_N : Int) (g0_M_Arcs : SV) (g0_Kept : SV) (K : Int → SV → SV → SV → World → Prop) (w : World) : Prop :=
  (∀ b1 w2, Ext w w2 → w.heap.size ≤ b1 → b1 < w2.heap.size →
  (∀ b3 w4, Ext w2 w4 → w2.heap.size ≤ b3 → b3 < w4.heap.size →
  (∀ b5 w6, Ext w4 w6 → w4.heap.size ≤ b5 → b5 < w6.heap.size →
  (∀ w7, Off b5 w6 w7 →
  (Join ((Int × SV × SV × SV × Unit) × Unit) (fun J8 =>
  (LoopT (Int × (Int × SV × SV × SV × Unit) × Unit) (fun t10 again9 w11 =>
  (cond (decide (t10.1 < t10.2.1.1)) (Join ((Int × SV × SV × SV × Unit) × Unit) (fun J12 =>
  (NewB [(.int .i64 (1 : Int))] w11 (fun b13 w14 =>
  (App 8 [(.int .i64 (0 : Int))] t10.2.1.2.1 ⟨(some ⟨b13, 0, none⟩), 1, 1⟩ w14 (fun s15 w16 =>
  (Keeps [b5, b3, b1] w14 w16 ∧
  (∀ w17, Off b5 w16 w17 →
  (NewB [(.int .i64 (0 : Int))] w17 (fun b18 w19 =>
  (App 8 [(.int .i64 (0 : Int))] t10.2.1.2.2.2.1 ⟨(some ⟨b18, 0, none⟩), 1, 1⟩ w19 (fun s20 w21 =>
  (Keeps [b5, b3, b1] w19 w21 ∧
  (∀ w22, Off b5 w21 w22 →
  (sh_postroadref06_Out g0_M_N g0_M_Arcs g0_Kept t10.1 (fun s23 w24 =>
  (Keeps [b5, b3, b1] w22 w24 ∧
  (LoopT (Int × (Int × SV × SV × SV × Unit) × Unit) (fun t26 again25 w27 =>
  (cond (decide (t26.1 < (s23.len : Int))) (Idx s23.a s23.len t26.1 3 (fun a28 =>
  (∃ x29 : Int, w27.cell? (a28.add 0) = some (.int .i64 x29) ∧
  (Idx s23.a s23.len t26.1 3 (fun a30 =>
  (∃ x31 : Int, w27.cell? (a30.add 1) = some (.int .i64 x31) ∧
  (Idx s23.a s23.len t26.1 3 (fun a32 =>
  (∃ x33 : Int, w27.cell? (a32.add 2) = some (.int .i64 x33) ∧
  (∀ w34, Ext w27 w34 →
  (NewB [(.int .i64 t10.1), (.int .i64 x29), (.int .i64 x31), (.int .i64 (-1 : Int)), (.int .i64 x33)] w34 (fun b35 w36 =>
  (∀ w37, Ext w36 w37 →
  (App 40 [(.int .i64 (0 : Int)), (.int .i64 (0 : Int)), (.int .i64 (0 : Int)), (.int .i64 (0 : Int)), (.int .i64 (0 : Int))] t26.2.1.2.2.1 ⟨(some ⟨b35, 0, none⟩), 1, 1⟩ w37 (fun s38 w39 =>
  (Keeps [b5, b3, b1] w37 w39 ∧
  (∀ w40, Ext w39 w40 →
  (∀ w41, Off b5 w40 w41 →
  (∀ w42, Ext w41 w42 →
  (again25 ((IntKind.i64.wrap (t26.1 + (1 : Int))), (t26.2.1.1, t26.2.1.2.1, s38, t26.2.1.2.2.2.1, ()), ()) w42)))))))))))))))))))) (J12 ((t26.2.1.1, t26.2.1.2.1, t26.2.1.2.2.1, t26.2.1.2.2.2.1, ()), ()) w27))) ((0 : Int), (t10.2.1.1, s15, t10.2.1.2.2.1, s20, ()), ()) w24))) w22))))))))))))))
  (fun t43 w44 =>
  (again9 ((IntKind.i64.wrap (t10.1 + (1 : Int))), (t43.1.1, t43.1.2.1, t43.1.2.2.1, t43.1.2.2.2.1, ()), ()) w44))) (J8 ((t10.2.1.1, t10.2.1.2.1, t10.2.1.2.2.1, t10.2.1.2.2.2.1, ()), ()) w11))) ((0 : Int), (g0_M_N, ⟨none, 0, 0⟩, ⟨none, 0, 0⟩, ⟨none, 0, 0⟩, ()), ()) w7))
  (fun t45 w46 =>
  (∀ w47, Off b3 w46 w47 →
  (K t45.1.1 t45.1.2.1 t45.1.2.2.1 t45.1.2.2.2.1 w47))))))))

/-- postroad/postroadref08.Places -/
def sh_postroadref08_Places (t0_N : Int) (t0_In : SV) (t0_L : SV) (t0_Lost : SV) (K : SV → World → Prop) (w : World) : Prop :=
  (∀ b1 w2, Ext w w2 → w.heap.size ≤ b1 → b1 < w2.heap.size →
  (LoopT (SV × Int × Unit) (fun t4 again3 w5 =>
  (cond (decide (t4.2.1 < t0_N)) (Join (SV × Unit) (fun J6 =>
  (Idx t0_In.a t0_In.len t4.2.1 1 (fun a7 =>
  (∃ x8 : Int, w5.cell? a7 = some (.int .i64 x8) ∧
  (cond (x8 == (1 : Int)) (NewB [(.int .i64 t4.2.1)] w5 (fun b9 w10 =>
  (App 8 [(.int .i64 (0 : Int))] t4.1 ⟨(some ⟨b9, 0, none⟩), 1, 1⟩ w10 (fun s11 w12 =>
  (Keeps [b1] w10 w12 ∧
  (J6 (s11, ()) w12)))))) (J6 (t4.1, ()) w5))))))
  (fun t13 w14 =>
  (again3 (t13.1, (IntKind.i64.wrap (t4.2.1 + (1 : Int))), ()) w14))) (K t4.1 w5))) (⟨none, 0, 0⟩, (0 : Int), ()) w2))

/-- postroad/postroadref08.is -/
def sh_postroadref08_is (t0_N : Int) (t0_In : SV) (t0_L : SV) (t0_Lost : SV) (v0 : Int) (K : Bool → World → Prop) (w : World) : Prop :=
  (∀ b1 w2, Ext w w2 → w.heap.size ≤ b1 → b1 < w2.heap.size →
  (cond (decide (v0 ≥ (0 : Int))) (cond (decide (v0 < t0_N)) (Idx t0_In.a t0_In.len v0 1 (fun a3 =>
  (∃ x4 : Int, w2.cell? a3 = some (.int .i64 x4) ∧
  (K (x4 == (1 : Int)) w2)))) (K false w2)) (K false w2)))

/-- postroad/postroadref08.Way -/
def sh_postroadref08_Way (t0_N : Int) (t0_In : SV) (t0_L : SV) (t0_Lost : SV) (u0 : Int) (v0 : Int) (K : Int → Int → Int → Bool → World → Prop) (w : World) : Prop :=
  (∀ b1 w2, Ext w w2 → w.heap.size ≤ b1 → b1 < w2.heap.size →
  (∀ b3 w4, Ext w2 w4 → w2.heap.size ≤ b3 → b3 < w4.heap.size →
  (Join ((Int × Int × Int × Unit) × Unit) (fun J5 =>
  (LoopT (Int × (Int × Int × Int × Unit) × Unit) (fun t7 again6 w8 =>
  (cond (decide (t7.1 < (t0_L.len : Int))) (Join ((Int × Int × Int × Unit) × Unit) (fun J9 =>
  (Idx t0_L.a t0_L.len t7.1 5 (fun a10 =>
  (∃ x11 : Int, w8.cell? (a10.add 0) = some (.int .i64 x11) ∧
  (cond (x11 == u0) (Idx t0_L.a t0_L.len t7.1 5 (fun a12 =>
  (∃ x13 : Int, w8.cell? (a12.add 1) = some (.int .i64 x13) ∧
  (cond (x13 == v0) (Idx t0_L.a t0_L.len t7.1 5 (fun a14 =>
  (∃ x15 : Int, w8.cell? ((a14.add 2).add 0) = some (.int .i64 x15) ∧ ∃ x16 : Int, w8.cell? ((a14.add 2).add 1) = some (.int .i64 x16) ∧ ∃ x17 : Int, w8.cell? ((a14.add 2).add 2) = some (.int .i64 x17) ∧
  (∀ w18, Off b3 w8 w18 →
  (K x15 x16 x17 true w18))))) (J9 ((t7.2.1.1, t7.2.1.2.1, t7.2.1.2.2.1, ()), ()) w8))))) (J9 ((t7.2.1.1, t7.2.1.2.1, t7.2.1.2.2.1, ()), ()) w8))))))
  (fun t19 w20 =>
  (again6 ((IntKind.i64.wrap (t7.1 + (1 : Int))), (t19.1.1, t19.1.2.1, t19.1.2.2.1, ()), ()) w20))) (J5 ((t7.2.1.1, t7.2.1.2.1, t7.2.1.2.2.1, ()), ()) w8))) ((0 : Int), ((0 : Int), (0 : Int), (0 : Int), ()), ()) w4))
  (fun t21 w22 =>
  (∀ w23, Off b3 w22 w23 →
  (K (0 : Int) (0 : Int) (0 : Int) false w23))))))

/-- postroad/postroadref08.Ins -/
def sh_postroadref08_Ins (t0_N : Int) (t0_In : SV) (t0_L : SV) (t0_Lost : SV) (v0 : Int) (K : SV → World → Prop) (w : World) : Prop :=
  (∀ b1 w2, Ext w w2 → w.heap.size ≤ b1 → b1 < w2.heap.size →
  (LoopT (SV × Int × Unit) (fun t4 again3 w5 =>
  (cond (decide (t4.2.1 < t0_N)) (Join (SV × Unit) (fun J6 =>
  (sh_postroadref08_Way t0_N t0_In t0_L t0_Lost t4.2.1 v0 (fun x7 x8 x9 t10 w11 =>
  (Keeps [b1] w5 w11 ∧
  (∀ b12 w13, Ext w11 w13 → w11.heap.size ≤ b12 → b12 < w13.heap.size →
  (∀ w14, Off b12 w13 w14 →
  (cond t10 (NewB [(.int .i64 t4.2.1)] w14 (fun b15 w16 =>
  (App 8 [(.int .i64 (0 : Int))] t4.1 ⟨(some ⟨b15, 0, none⟩), 1, 1⟩ w16 (fun s17 w18 =>
  (Keeps [b12, b1] w16 w18 ∧
  (J6 (s17, ()) w18)))))) (J6 (t4.1, ()) w14)))))) w5))
  (fun t19 w20 =>
  (again3 (t19.1, (IntKind.i64.wrap (t4.2.1 + (1 : Int))), ()) w20))) (K t4.1 w5))) (⟨none, 0, 0⟩, (0 : Int), ()) w2))

/-- postroad/postroadref08.Outs -/
def sh_postroadref08_Outs (t0_N : Int) (t0_In : SV) (t0_L : SV) (t0_Lost : SV) (v0 : Int) (K : SV → World → Prop) (w : World) : Prop :=
  (∀ b1 w2, Ext w w2 → w.heap.size ≤ b1 → b1 < w2.heap.size →
  (LoopT (SV × Int × Unit) (fun t4 again3 w5 =>
  (cond (decide (t4.2.1 < t0_N)) (Join (SV × Unit) (fun J6 =>
  (sh_postroadref08_Way t0_N t0_In t0_L t0_Lost v0 t4.2.1 (fun x7 x8 x9 t10 w11 =>
  (Keeps [b1] w5 w11 ∧
  (∀ b12 w13, Ext w11 w13 → w11.heap.size ≤ b12 → b12 < w13.heap.size →
  (∀ w14, Off b12 w13 w14 →
  (cond t10 (NewB [(.int .i64 t4.2.1)] w14 (fun b15 w16 =>
  (App 8 [(.int .i64 (0 : Int))] t4.1 ⟨(some ⟨b15, 0, none⟩), 1, 1⟩ w16 (fun s17 w18 =>
  (Keeps [b12, b1] w16 w18 ∧
  (J6 (s17, ()) w18)))))) (J6 (t4.1, ()) w14)))))) w5))
  (fun t19 w20 =>
  (again3 (t19.1, (IntKind.i64.wrap (t4.2.1 + (1 : Int))), ()) w20))) (K t4.1 w5))) (⟨none, 0, 0⟩, (0 : Int), ()) w2))

/-- postroad/postroadref08.Cost -/
def sh_postroadref08_Cost (t0_N : Int) (t0_In : SV) (t0_L : SV) (t0_Lost : SV) (v0 : Int) (K : Int → World → Prop) (w : World) : Prop :=
  (∀ b1 w2, Ext w w2 → w.heap.size ≤ b1 → b1 < w2.heap.size →
  (sh_postroadref08_is t0_N t0_In t0_L t0_Lost v0 (fun t3 w4 =>
  (Keeps [b1] w2 w4 ∧
  (cond (!t3) (K (0 : Int) w4) (sh_postroadref08_Ins t0_N t0_In t0_L t0_Lost v0 (fun s5 w6 =>
  (Keeps [b1] w4 w6 ∧
  (sh_postroadref08_Outs t0_N t0_In t0_L t0_Lost v0 (fun s7 w8 =>
  (Keeps [b1] w6 w8 ∧
  (Join (Int × Unit) (fun J9 =>
  (LoopT (Int × Int × Unit) (fun t11 again10 w12 =>
  (cond (decide (t11.2.1 < (s5.len : Int))) (Join (Int × Unit) (fun J13 =>
  (LoopT (Int × Int × Unit) (fun t15 again14 w16 =>
  (cond (decide (t15.2.1 < (s7.len : Int))) (Join (Int × Unit) (fun J17 =>
  (Idx s5.a s5.len t11.2.1 1 (fun a18 =>
  (∃ x19 : Int, w16.cell? a18 = some (.int .i64 x19) ∧
  (Idx s7.a s7.len t15.2.1 1 (fun a20 =>
  (∃ x21 : Int, w16.cell? a20 = some (.int .i64 x21) ∧
  (∀ w22, Ext w16 w22 →
  (cond (x19 != x21) (J17 ((IntKind.i64.wrap (t15.1 + (1 : Int))), ()) w22) (J17 (t15.1, ()) w22))))))))))
  (fun t23 w24 =>
  (again14 (t23.1, (IntKind.i64.wrap (t15.2.1 + (1 : Int))), ()) w24))) (J13 (t15.1, ()) w16))) (t11.1, (0 : Int), ()) w12))
  (fun t25 w26 =>
  (again10 (t25.1, (IntKind.i64.wrap (t11.2.1 + (1 : Int))), ()) w26))) (J9 (t11.1, ()) w12))) ((0 : Int), (0 : Int), ()) w8))
  (fun t27 w28 =>
  (Idx t0_Lost.a t0_Lost.len v0 1 (fun a29 =>
  (∃ x30 : Int, w28.cell? a29 = some (.int .i64 x30) ∧
  (K (IntKind.i64.wrap ((IntKind.i64.wrap ((IntKind.i64.wrap (t27.1 - (s5.len : Int))) - (s7.len : Int))) + x30)) w28)))))))) w6))) w4)))) w2))

/-- postroad/postroadref09.Next -/
def sh_postroadref09_Next (t0_N : Int) (t0_In : SV) (t0_L : SV) (t0_Lost : SV) (K : Int → World → Prop) (w : World) : Prop :=
  (∀ b1 w2, Ext w w2 → w.heap.size ≤ b1 → b1 < w2.heap.size →
  (sh_postroadref08_Places t0_N t0_In t0_L t0_Lost (fun s3 w4 =>
  (Keeps [b1] w2 w4 ∧
  (LoopT (Int × Int × Unit) (fun t6 again5 w7 =>
  (cond (decide (t6.2.1 < (s3.len : Int))) (Join (Int × Unit) (fun J8 =>
  (cond (decide (t6.1 < (0 : Int))) (∀ w9, Ext w7 w9 →
  (Idx s3.a s3.len t6.2.1 1 (fun a10 =>
  (∃ x11 : Int, w9.cell? a10 = some (.int .i64 x11) ∧
  (J8 (x11, ()) w9))))) (Idx s3.a s3.len t6.2.1 1 (fun a12 =>
  (∃ x13 : Int, w7.cell? a12 = some (.int .i64 x13) ∧
  (Quiet (Int) (fun r15 =>
  (.int .i64 r15)) (fun K16 w17' => sh_postroadref08_Cost t0_N t0_In t0_L t0_Lost x13 (fun x14 w17 => K16 x14 w17) w17') w7 (fun r15 =>
  (Quiet (Int) (fun r19 =>
  (.int .i64 r19)) (fun K20 w21' => sh_postroadref08_Cost t0_N t0_In t0_L t0_Lost t6.1 (fun x18 w21 => K20 x18 w21) w21') w7 (fun r19 =>
  (∀ w22, Ext w7 w22 →
  (cond (decide (r15 < r19)) (Idx s3.a s3.len t6.2.1 1 (fun a23 =>
  (∃ x24 : Int, w22.cell? a23 = some (.int .i64 x24) ∧
  (J8 (x24, ()) w22)))) (J8 (t6.1, ()) w22))))))))))))
  (fun t25 w26 =>
  (again5 (t25.1, (IntKind.i64.wrap (t6.2.1 + (1 : Int))), ()) w26))) (K t6.1 w7))) ((-1 : Int), (0 : Int), ()) w4))) w2))

/-- postroad/postroadref08.Near -/
def sh_postroadref08_Near (t0_N : Int) (t0_In : SV) (t0_L : SV) (t0_Lost : SV) (u0 : Int) (v0 : Int) (without0 : Int) (most0 : Int) (K : Bool → World → Prop) (w : World) : Prop :=
  (∀ b1 w2, Ext w w2 → w.heap.size ≤ b1 → b1 < w2.heap.size →
  (sh_postroadref08_is t0_N t0_In t0_L t0_Lost u0 (fun t3 w4 =>
  (Keeps [b1] w2 w4 ∧
  (cond (!t3) (K false w4) (sh_postroadref08_is t0_N t0_In t0_L t0_Lost v0 (fun t5 w6 =>
  (Keeps [b1] w4 w6 ∧
  (cond (!t5) (K false w6) (cond (u0 == without0) (K false w6) (cond (v0 == without0) (K false w6) (MkS 8 [(.int .i64 (0 : Int))] t0_N t0_N w6 (fun s7 w8 =>
  (Join (Unit) (fun J9 =>
  (LoopT (Int × Unit) (fun t11 again10 w12 =>
  (cond (decide (t11.1 < t0_N)) (Idx s7.a s7.len t11.1 1 (fun a13 =>
  (stL w12 a13 [(.int .i64 (-1 : Int))] 0 (fun w14 =>
  (Keeps [b1] w12 w14 ∧
  (again10 ((IntKind.i64.wrap (t11.1 + (1 : Int))), ()) w14)))))) (J9 () w12))) ((0 : Int), ()) w8))
  (fun t15 w16 =>
  (Idx s7.a s7.len u0 1 (fun a17 =>
  (stL w16 a17 [(.int .i64 (0 : Int))] 0 (fun w18 =>
  (Keeps [b1] w16 w18 ∧
  (Join (Unit) (fun J19 =>
  (LoopT (Bool × Unit) (fun t21 again20 w22 =>
  (cond t21.1 (LoopT (Bool × Int × Unit) (fun t24 again23 w25 =>
  (cond (decide (t24.2.1 < (t0_L.len : Int))) (Join (Bool × Unit) (fun J26 =>
  (Idx t0_L.a t0_L.len t24.2.1 5 (fun a27 =>
  (∃ x28 : Int, w25.cell? (a27.add 0) = some (.int .i64 x28) ∧ ∃ x29 : Int, w25.cell? (a27.add 1) = some (.int .i64 x29) ∧ ∃ x30 : Int, w25.cell? (a27.add 2) = some (.int .i64 x30) ∧ ∃ x31 : Int, w25.cell? (a27.add 3) = some (.int .i64 x31) ∧ ∃ x32 : Int, w25.cell? (a27.add 4) = some (.int .i64 x32) ∧
  (∀ b33 w34, Ext w25 w34 → w25.heap.size ≤ b33 → b33 < w34.heap.size →
  (∀ w35, Off b33 w34 w35 →
  (cond (x28 != without0) (cond (x29 != without0) (Idx s7.a s7.len x28 1 (fun a36 =>
  (∃ x37 : Int, w35.cell? a36 = some (.int .i64 x37) ∧
  (cond (decide (x37 ≥ (0 : Int))) (Idx s7.a s7.len x29 1 (fun a38 =>
  (∃ x39 : Int, w35.cell? a38 = some (.int .i64 x39) ∧
  (cond (decide (x39 < (0 : Int))) (∀ w40, Ext w35 w40 →
  (Idx s7.a s7.len x28 1 (fun a41 =>
  (∃ x42 : Int, w40.cell? a41 = some (.int .i64 x42) ∧
  (Idx s7.a s7.len x29 1 (fun a43 =>
  (∀ w44, Ext w40 w44 →
  (stL w44 a43 [(.int .i64 (IntKind.i64.wrap (x42 + x30)))] 0 (fun w45 =>
  (Keeps [b33, b1] w44 w45 ∧
  (∀ w46, Ext w45 w46 →
  (J26 (true, ()) w46)))))))))))) (Idx s7.a s7.len x28 1 (fun a47 =>
  (∃ x48 : Int, w35.cell? a47 = some (.int .i64 x48) ∧
  (Idx s7.a s7.len x29 1 (fun a49 =>
  (∃ x50 : Int, w35.cell? a49 = some (.int .i64 x50) ∧
  (∀ w51, Ext w35 w51 →
  (cond (decide ((IntKind.i64.wrap (x48 + x30)) < x50)) (Idx s7.a s7.len x28 1 (fun a52 =>
  (∃ x53 : Int, w51.cell? a52 = some (.int .i64 x53) ∧
  (Idx s7.a s7.len x29 1 (fun a54 =>
  (∀ w55, Ext w51 w55 →
  (stL w55 a54 [(.int .i64 (IntKind.i64.wrap (x53 + x30)))] 0 (fun w56 =>
  (Keeps [b33, b1] w55 w56 ∧
  (∀ w57, Ext w56 w57 →
  (J26 (true, ()) w57))))))))))) (J26 (t24.1, ()) w51))))))))))))) (∀ w58, Ext w35 w58 →
  (J26 (t24.1, ()) w58)))))) (∀ w59, Ext w35 w59 →
  (J26 (t24.1, ()) w59))) (∀ w60, Ext w35 w60 →
  (J26 (t24.1, ()) w60)))))))))
  (fun t61 w62 =>
  (again23 (t61.1, (IntKind.i64.wrap (t24.2.1 + (1 : Int))), ()) w62))) (again20 (t24.1, ()) w25))) (false, (0 : Int), ()) w22) (J19 () w22))) (true, ()) w18))
  (fun t63 w64 =>
  (Idx s7.a s7.len v0 1 (fun a65 =>
  (∃ x66 : Int, w64.cell? a65 = some (.int .i64 x66) ∧
  (cond (decide (x66 ≥ (0 : Int))) (Idx s7.a s7.len v0 1 (fun a67 =>
  (∃ x68 : Int, w64.cell? a67 = some (.int .i64 x68) ∧
  (K (decide (x68 ≤ most0)) w64)))) (K false w64))))))))))))))))))))) w4)))) w2))

/-- postroad/postroadref09.Needed -/
def sh_postroadref09_Needed (t0_N : Int) (t0_In : SV) (t0_L : SV) (t0_Lost : SV) (v0 : Int) (K : SV → World → Prop) (w : World) : Prop :=
  (∀ b1 w2, Ext w w2 → w.heap.size ≤ b1 → b1 < w2.heap.size →
  (sh_postroadref08_Ins t0_N t0_In t0_L t0_Lost v0 (fun s3 w4 =>
  (Keeps [b1] w2 w4 ∧
  (sh_postroadref08_Outs t0_N t0_In t0_L t0_Lost v0 (fun s5 w6 =>
  (Keeps [b1] w4 w6 ∧
  (LoopT (SV × Int × Unit) (fun t8 again7 w9 =>
  (cond (decide (t8.2.1 < (s3.len : Int))) (Join (SV × Unit) (fun J10 =>
  (Idx s3.a s3.len t8.2.1 1 (fun a11 =>
  (∃ x12 : Int, w9.cell? a11 = some (.int .i64 x12) ∧
  (Quiet (Int × Int × Int × Bool) (fun r17 =>
  (.tuple #[(.agg #[(.int .i64 r17.1), (.int .i64 r17.2.1), (.int .i64 r17.2.2.1)]), (.bool r17.2.2.2)])) (fun K18 w19' => sh_postroadref08_Way t0_N t0_In t0_L t0_Lost x12 v0 (fun x13 x14 x15 t16 w19 => K18 (x13, x14, x15, t16) w19) w19') w9 (fun r17 =>
  (∀ b20 w21, Ext w9 w21 → w9.heap.size ≤ b20 → b20 < w21.heap.size →
  (∀ w22, Ext w21 w22 →
  (∀ w23, Off b20 w22 w23 →
  (∀ w24, Ext w23 w24 →
  (LoopT (SV × Int × Unit) (fun t26 again25 w27 =>
  (cond (decide (t26.2.1 < (s5.len : Int))) (Join (SV × Unit) (fun J28 =>
  (Idx s5.a s5.len t26.2.1 1 (fun a29 =>
  (∃ x30 : Int, w27.cell? a29 = some (.int .i64 x30) ∧
  (Quiet (Int × Int × Int × Bool) (fun r35 =>
  (.tuple #[(.agg #[(.int .i64 r35.1), (.int .i64 r35.2.1), (.int .i64 r35.2.2.1)]), (.bool r35.2.2.2)])) (fun K36 w37' => sh_postroadref08_Way t0_N t0_In t0_L t0_Lost v0 x30 (fun x31 x32 x33 t34 w37 => K36 (x31, x32, x33, t34) w37) w37') w27 (fun r35 =>
  (∀ b38 w39, Ext w27 w39 → w27.heap.size ≤ b38 → b38 < w39.heap.size →
  (∀ w40, Ext w39 w40 →
  (∀ w41, Off b38 w40 w41 →
  (∀ w42, Ext w41 w42 →
  (Idx s3.a s3.len t8.2.1 1 (fun a43 =>
  (∃ x44 : Int, w42.cell? a43 = some (.int .i64 x44) ∧
  (Idx s5.a s5.len t26.2.1 1 (fun a45 =>
  (∃ x46 : Int, w42.cell? a45 = some (.int .i64 x46) ∧
  (cond (x44 != x46) (Idx s3.a s3.len t8.2.1 1 (fun a47 =>
  (∃ x48 : Int, w42.cell? a47 = some (.int .i64 x48) ∧
  (Idx s5.a s5.len t26.2.1 1 (fun a49 =>
  (∃ x50 : Int, w42.cell? a49 = some (.int .i64 x50) ∧
  (∀ w52, Ext w42 w52 →
  (sh_postroadref08_Near t0_N t0_In t0_L t0_Lost x48 x50 v0 (IntKind.i64.wrap (r17.1 + r35.1)) (fun t51 w53 =>
  (Keeps [b38, b20, b1] w52 w53 ∧
  (∀ w54, Ext w53 w54 →
  (cond (!t51) (Idx s3.a s3.len t8.2.1 1 (fun a55 =>
  (∃ x56 : Int, w54.cell? a55 = some (.int .i64 x56) ∧
  (Idx s5.a s5.len t26.2.1 1 (fun a57 =>
  (∃ x58 : Int, w54.cell? a57 = some (.int .i64 x58) ∧
  (∀ w59, Ext w54 w59 →
  (NewB [(.int .i64 x56), (.int .i64 x58), (.int .i64 (IntKind.i64.wrap (r17.1 + r35.1))), (.int .i64 v0), (.int .i64 (-1 : Int))] w59 (fun b60 w61 =>
  (∀ w62, Ext w61 w62 →
  (App 40 [(.int .i64 (0 : Int)), (.int .i64 (0 : Int)), (.int .i64 (0 : Int)), (.int .i64 (0 : Int)), (.int .i64 (0 : Int))] t26.1 ⟨(some ⟨b60, 0, none⟩), 1, 1⟩ w62 (fun s63 w64 =>
  (Keeps [b38, b20, b1] w62 w64 ∧
  (∀ w65, Ext w64 w65 →
  (J28 (s63, ()) w65))))))))))))))) (J28 (t26.1, ()) w54))))) w52)))))))) (∀ w66, Ext w42 w66 →
  (J28 (t26.1, ()) w66)))))))))))))))))))
  (fun t67 w68 =>
  (again25 (t67.1, (IntKind.i64.wrap (t26.2.1 + (1 : Int))), ()) w68))) (J10 (t26.1, ()) w27))) (t8.1, (0 : Int), ()) w24)))))))))))
  (fun t69 w70 =>
  (again7 (t69.1, (IntKind.i64.wrap (t8.2.1 + (1 : Int))), ()) w70))) (K t8.1 w9))) (⟨none, 0, 0⟩, (0 : Int), ()) w6))) w4))) w2))

/-- postroad/postroadref08.Put -/
def sh_postroadref08_Put (t0_N : Int) (t0_In : SV) (t0_L : SV) (t0_Lost : SV) (u0 : Int) (v0 : Int) (w_0 : Int) (mid0 : Int) (K : Int → SV → SV → SV → Bool → World → Prop) (w : World) : Prop :=
  (∀ b1 w2, Ext w w2 → w.heap.size ≤ b1 → b1 < w2.heap.size →
  (∀ b3 w4, Ext w2 w4 → w2.heap.size ≤ b3 → b3 < w4.heap.size →
  (sh_postroadref08_Way t0_N t0_In t0_L t0_Lost u0 v0 (fun x5 x6 x7 t8 w9 =>
  (Keeps [b3, b1] w4 w9 ∧
  (∀ b10 w11, Ext w9 w11 → w9.heap.size ≤ b10 → b10 < w11.heap.size →
  (∀ w12, Off b10 w11 w12 →
  (Join ((Int × SV × SV × SV × Unit) × Unit) (fun J13 =>
  (sh_postroadref08_is t0_N t0_In t0_L t0_Lost u0 (fun t14 w15 =>
  (Keeps [b3, b10, b1] w12 w15 ∧
  (cond (!t14) (∀ w16, Off b3 w15 w16 →
  (K t0_N t0_In t0_L t0_Lost false w16)) (sh_postroadref08_is t0_N t0_In t0_L t0_Lost v0 (fun t17 w18 =>
  (Keeps [b3, b10, b1] w15 w18 ∧
  (cond (!t17) (∀ w19, Off b3 w18 w19 →
  (K t0_N t0_In t0_L t0_Lost false w19)) (cond (u0 == v0) (∀ w20, Off b3 w18 w20 →
  (K t0_N t0_In t0_L t0_Lost false w20)) (cond (decide (w_0 < (0 : Int))) (∀ w21, Off b3 w18 w21 →
  (K t0_N t0_In t0_L t0_Lost false w21)) (cond (decide (mid0 < (0 : Int))) (∀ w22, Off b3 w18 w22 →
  (K t0_N t0_In t0_L t0_Lost false w22)) (cond t8 (cond (decide (x5 ≤ w_0)) (∀ w23, Off b3 w18 w23 →
  (K t0_N t0_In t0_L t0_Lost false w23)) (J13 (((0 : Int), ⟨none, 0, 0⟩, ⟨none, 0, 0⟩, ⟨none, 0, 0⟩, ()), ()) w18)) (J13 (((0 : Int), ⟨none, 0, 0⟩, ⟨none, 0, 0⟩, ⟨none, 0, 0⟩, ()), ()) w18)))))))) w15)))) w12))
  (fun t24 w25 =>
  (Join (SV × Unit) (fun J26 =>
  (LoopT (SV × Int × Unit) (fun t28 again27 w29 =>
  (cond (decide (t28.2.1 < (t0_L.len : Int))) (Join (SV × Unit) (fun J30 =>
  (Idx t0_L.a t0_L.len t28.2.1 5 (fun a31 =>
  (∃ x32 : Int, w29.cell? (a31.add 0) = some (.int .i64 x32) ∧
  (cond (x32 != u0) (Idx t0_L.a t0_L.len t28.2.1 5 (fun a33 =>
  (∃ x34 : Int, w29.cell? (a33.add 0) = some (.int .i64 x34) ∧ ∃ x35 : Int, w29.cell? (a33.add 1) = some (.int .i64 x35) ∧ ∃ x36 : Int, w29.cell? (a33.add 2) = some (.int .i64 x36) ∧ ∃ x37 : Int, w29.cell? (a33.add 3) = some (.int .i64 x37) ∧ ∃ x38 : Int, w29.cell? (a33.add 4) = some (.int .i64 x38) ∧
  (NewB [(.int .i64 x34), (.int .i64 x35), (.int .i64 x36), (.int .i64 x37), (.int .i64 x38)] w29 (fun b39 w40 =>
  (App 40 [(.int .i64 (0 : Int)), (.int .i64 (0 : Int)), (.int .i64 (0 : Int)), (.int .i64 (0 : Int)), (.int .i64 (0 : Int))] t28.1 ⟨(some ⟨b39, 0, none⟩), 1, 1⟩ w40 (fun s41 w42 =>
  (Keeps [b3, b10, b1] w40 w42 ∧
  (J30 (s41, ()) w42))))))))) (Idx t0_L.a t0_L.len t28.2.1 5 (fun a43 =>
  (∃ x44 : Int, w29.cell? (a43.add 1) = some (.int .i64 x44) ∧
  (cond (x44 != v0) (Idx t0_L.a t0_L.len t28.2.1 5 (fun a45 =>
  (∃ x46 : Int, w29.cell? (a45.add 0) = some (.int .i64 x46) ∧ ∃ x47 : Int, w29.cell? (a45.add 1) = some (.int .i64 x47) ∧ ∃ x48 : Int, w29.cell? (a45.add 2) = some (.int .i64 x48) ∧ ∃ x49 : Int, w29.cell? (a45.add 3) = some (.int .i64 x49) ∧ ∃ x50 : Int, w29.cell? (a45.add 4) = some (.int .i64 x50) ∧
  (NewB [(.int .i64 x46), (.int .i64 x47), (.int .i64 x48), (.int .i64 x49), (.int .i64 x50)] w29 (fun b51 w52 =>
  (App 40 [(.int .i64 (0 : Int)), (.int .i64 (0 : Int)), (.int .i64 (0 : Int)), (.int .i64 (0 : Int)), (.int .i64 (0 : Int))] t28.1 ⟨(some ⟨b51, 0, none⟩), 1, 1⟩ w52 (fun s53 w54 =>
  (Keeps [b3, b10, b1] w52 w54 ∧
  (J30 (s53, ()) w54))))))))) (J30 (t28.1, ()) w29))))))))))
  (fun t55 w56 =>
  (again27 (t55.1, (IntKind.i64.wrap (t28.2.1 + (1 : Int))), ()) w56))) (J26 (t28.1, ()) w29))) (⟨none, 0, 0⟩, (0 : Int), ()) w25))
  (fun t57 w58 =>
  (NewB [(.int .i64 u0), (.int .i64 v0), (.int .i64 w_0), (.int .i64 mid0), (.int .i64 (-1 : Int))] w58 (fun b59 w60 =>
  (App 40 [(.int .i64 (0 : Int)), (.int .i64 (0 : Int)), (.int .i64 (0 : Int)), (.int .i64 (0 : Int)), (.int .i64 (0 : Int))] t57.1 ⟨(some ⟨b59, 0, none⟩), 1, 1⟩ w60 (fun s61 w62 =>
  (Keeps [b3, b10, b1] w60 w62 ∧
  (∀ w63, Off b1 w62 w63 →
  (∀ w64, Off b3 w63 w64 →
  (K t0_N t0_In s61 t0_Lost true w64)))))))))))))))) w4)))

/-- postroad/postroadref08.Take -/
def sh_postroadref08_Take (t0_N : Int) (t0_In : SV) (t0_L : SV) (t0_Lost : SV) (v0 : Int) (K : Int → SV → SV → SV → Bool → World → Prop) (w : World) : Prop :=
  (∀ b1 w2, Ext w w2 → w.heap.size ≤ b1 → b1 < w2.heap.size →
  (∀ b3 w4, Ext w2 w4 → w2.heap.size ≤ b3 → b3 < w4.heap.size →
  (sh_postroadref08_is t0_N t0_In t0_L t0_Lost v0 (fun t5 w6 =>
  (Keeps [b3, b1] w4 w6 ∧
  (cond (!t5) (∀ w7, Off b3 w6 w7 →
  (K t0_N t0_In t0_L t0_Lost false w7)) (∀ b8 w9, Ext w6 w9 → w6.heap.size ≤ b8 → b8 < w9.heap.size →
  (∀ w10, Off b8 w9 w10 →
  (Join ((Int × SV × SV × SV × Unit) × Unit) (fun J11 =>
  (LoopT (Int × (Int × SV × SV × SV × Unit) × Unit) (fun t13 again12 w14 =>
  (cond (decide (t13.1 < t0_N)) (Idx t0_In.a t0_In.len t13.1 1 (fun a15 =>
  (∃ x16 : Int, w14.cell? a15 = some (.int .i64 x16) ∧
  (Idx t0_Lost.a t0_Lost.len t13.1 1 (fun a17 =>
  (∃ x18 : Int, w14.cell? a17 = some (.int .i64 x18) ∧
  (sh_postroadref08_Way t0_N t0_In t0_L t0_Lost v0 t13.1 (fun x19 x20 x21 t22 w23 =>
  (Keeps [b8, b3, b1] w14 w23 ∧
  (∀ b24 w25, Ext w23 w25 → w23.heap.size ≤ b24 → b24 < w25.heap.size →
  (∀ w26, Off b24 w25 w26 →
  (sh_postroadref08_Way t0_N t0_In t0_L t0_Lost t13.1 v0 (fun x27 x28 x29 t30 w31 =>
  (Keeps [b24, b8, b3, b1] w26 w31 ∧
  (∀ b32 w33, Ext w31 w33 → w31.heap.size ≤ b32 → b32 < w33.heap.size →
  (∀ w34, Off b32 w33 w34 →
  (Join (Int × Unit) (fun J35 =>
  (cond (t13.1 == v0) (J35 ((0 : Int), ()) w34) (J35 (x16, ()) w34)))
  (fun t36 w37 =>
  (Join (Int × Unit) (fun J38 =>
  (cond t22 (J38 ((IntKind.i64.wrap (x18 + (1 : Int))), ()) w37) (cond t30 (J38 ((IntKind.i64.wrap (x18 + (1 : Int))), ()) w37) (J38 (x18, ()) w37))))
  (fun t39 w40 =>
  (NewB [(.int .i64 t36.1)] w40 (fun b41 w42 =>
  (App 8 [(.int .i64 (0 : Int))] t13.2.1.2.1 ⟨(some ⟨b41, 0, none⟩), 1, 1⟩ w42 (fun s43 w44 =>
  (Keeps [b32, b24, b8, b3, b1] w42 w44 ∧
  (∀ w45, Off b8 w44 w45 →
  (NewB [(.int .i64 t39.1)] w45 (fun b46 w47 =>
  (App 8 [(.int .i64 (0 : Int))] t13.2.1.2.2.2.1 ⟨(some ⟨b46, 0, none⟩), 1, 1⟩ w47 (fun s48 w49 =>
  (Keeps [b8, b32, b24, b3, b1] w47 w49 ∧
  (∀ w50, Off b8 w49 w50 →
  (again12 ((IntKind.i64.wrap (t13.1 + (1 : Int))), (t13.2.1.1, s43, t13.2.1.2.2.1, s48, ()), ()) w50))))))))))))))))))))) w26))))) w14))))))) (J11 ((t13.2.1.1, t13.2.1.2.1, t13.2.1.2.2.1, t13.2.1.2.2.2.1, ()), ()) w14))) ((0 : Int), (t0_N, ⟨none, 0, 0⟩, ⟨none, 0, 0⟩, ⟨none, 0, 0⟩, ()), ()) w10))
  (fun t51 w52 =>
  (Join ((Int × SV × SV × SV × Unit) × Unit) (fun J53 =>
  (LoopT (Int × (Int × SV × SV × SV × Unit) × Unit) (fun t55 again54 w56 =>
  (cond (decide (t55.1 < (t0_L.len : Int))) (Join ((Int × SV × SV × SV × Unit) × Unit) (fun J57 =>
  (Idx t0_L.a t0_L.len t55.1 5 (fun a58 =>
  (∃ x59 : Int, w56.cell? (a58.add 0) = some (.int .i64 x59) ∧
  (cond (x59 != v0) (Idx t0_L.a t0_L.len t55.1 5 (fun a60 =>
  (∃ x61 : Int, w56.cell? (a60.add 1) = some (.int .i64 x61) ∧
  (cond (x61 != v0) (Idx t0_L.a t0_L.len t55.1 5 (fun a62 =>
  (∃ x63 : Int, w56.cell? (a62.add 0) = some (.int .i64 x63) ∧ ∃ x64 : Int, w56.cell? (a62.add 1) = some (.int .i64 x64) ∧ ∃ x65 : Int, w56.cell? (a62.add 2) = some (.int .i64 x65) ∧ ∃ x66 : Int, w56.cell? (a62.add 3) = some (.int .i64 x66) ∧ ∃ x67 : Int, w56.cell? (a62.add 4) = some (.int .i64 x67) ∧
  (∀ w68, Ext w56 w68 →
  (NewB [(.int .i64 x63), (.int .i64 x64), (.int .i64 x65), (.int .i64 x66), (.int .i64 x67)] w68 (fun b69 w70 =>
  (∀ w71, Ext w70 w71 →
  (App 40 [(.int .i64 (0 : Int)), (.int .i64 (0 : Int)), (.int .i64 (0 : Int)), (.int .i64 (0 : Int)), (.int .i64 (0 : Int))] t55.2.1.2.2.1 ⟨(some ⟨b69, 0, none⟩), 1, 1⟩ w71 (fun s72 w73 =>
  (Keeps [b8, b3, b1] w71 w73 ∧
  (∀ w74, Ext w73 w74 →
  (∀ w75, Off b8 w74 w75 →
  (∀ w76, Ext w75 w76 →
  (J57 ((t55.2.1.1, t55.2.1.2.1, s72, t55.2.1.2.2.2.1, ()), ()) w76)))))))))))))) (J57 ((t55.2.1.1, t55.2.1.2.1, t55.2.1.2.2.1, t55.2.1.2.2.2.1, ()), ()) w56))))) (J57 ((t55.2.1.1, t55.2.1.2.1, t55.2.1.2.2.1, t55.2.1.2.2.2.1, ()), ()) w56))))))
  (fun t77 w78 =>
  (again54 ((IntKind.i64.wrap (t55.1 + (1 : Int))), (t77.1.1, t77.1.2.1, t77.1.2.2.1, t77.1.2.2.2.1, ()), ()) w78))) (J53 ((t55.2.1.1, t55.2.1.2.1, t55.2.1.2.2.1, t55.2.1.2.2.2.1, ()), ()) w56))) ((0 : Int), (t51.1.1, t51.1.2.1, t51.1.2.2.1, t51.1.2.2.2.1, ()), ()) w52))
  (fun t79 w80 =>
  (∀ w81, Off b3 w80 w81 →
  (K t79.1.1 t79.1.2.1 t79.1.2.2.1 t79.1.2.2.2.1 true w81))))))))))) w4)))

/-- postroad/postroadref09.Build -/
def sh_postroadref09_Build (g0_M_N : Int) (g0_M_Arcs : SV) (g0_Kept : SV) (K : SV → SV → World → Prop) (w : World) : Prop :=
  (∀ b1 w2, Ext w w2 → w.heap.size ≤ b1 → b1 < w2.heap.size →
  (∀ b3 w4, Ext w2 w4 → w2.heap.size ≤ b3 → b3 < w4.heap.size →
  (sh_postroadref08_New g0_M_N g0_M_Arcs g0_Kept (fun x5 s6 s7 s8 w9 =>
  (Keeps [b3, b1] w4 w9 ∧
  (∀ b10 w11, Ext w9 w11 → w9.heap.size ≤ b10 → b10 < w11.heap.size →
  (∀ w12, Off b10 w11 w12 →
  (∀ b13 w14, Ext w12 w14 → w12.heap.size ≤ b13 → b13 < w14.heap.size →
  (∀ w15, Off b13 w14 w15 →
  (Join ((SV × SV × Unit) × Unit) (fun J16 =>
  (LoopT (Int × (SV × SV × Unit) × Unit) (fun t18 again17 w19 =>
  (cond (decide (t18.1 < g0_M_N)) (NewB [(.int .i64 (0 : Int))] w19 (fun b20 w21 =>
  (App 8 [(.int .i64 (0 : Int))] t18.2.1.1 ⟨(some ⟨b20, 0, none⟩), 1, 1⟩ w21 (fun s22 w23 =>
  (Keeps [b13, b10, b3, b1] w21 w23 ∧
  (∀ w24, Off b13 w23 w24 →
  (again17 ((IntKind.i64.wrap (t18.1 + (1 : Int))), (s22, t18.2.1.2.1, ()), ()) w24))))))) (J16 ((t18.2.1.1, t18.2.1.2.1, ()), ()) w19))) ((0 : Int), (⟨none, 0, 0⟩, ⟨none, 0, 0⟩, ()), ()) w15))
  (fun t25 w26 =>
  (Join ((SV × SV × Unit) × Unit) (fun J27 =>
  (LoopT (Int × (Int × SV × SV × SV × Unit) × (SV × SV × Unit) × Unit) (fun t29 again28 w30 =>
  (cond (decide (t29.1 < g0_M_N)) (Join ((Int × SV × SV × SV × Unit) × (SV × SV × Unit) × Unit) (fun J31 =>
  (sh_postroadref09_Next t29.2.1.1 t29.2.1.2.1 t29.2.1.2.2.1 t29.2.1.2.2.2.1 (fun x32 w33 =>
  (Keeps [b10, b13, b3, b1] w30 w33 ∧
  (Idx t29.2.2.1.1.a t29.2.2.1.1.len x32 1 (fun a34 =>
  (stL w33 a34 [(.int .i64 t29.1)] 0 (fun w35 =>
  (Keeps [b10, b13, b3, b1] w33 w35 ∧
  (sh_postroadref09_Needed t29.2.1.1 t29.2.1.2.1 t29.2.1.2.2.1 t29.2.1.2.2.2.1 x32 (fun s36 w37 =>
  (Keeps [b10, b13, b3, b1] w35 w37 ∧
  (Join ((Int × SV × SV × SV × Unit) × Unit) (fun J38 =>
  (LoopT (Int × (Int × SV × SV × SV × Unit) × Unit) (fun t40 again39 w41 =>
  (cond (decide (t40.1 < (s36.len : Int))) (Idx s36.a s36.len t40.1 5 (fun a42 =>
  (∃ x43 : Int, w41.cell? (a42.add 0) = some (.int .i64 x43) ∧
  (Idx s36.a s36.len t40.1 5 (fun a44 =>
  (∃ x45 : Int, w41.cell? (a44.add 1) = some (.int .i64 x45) ∧
  (Idx s36.a s36.len t40.1 5 (fun a46 =>
  (∃ x47 : Int, w41.cell? ((a46.add 2).add 0) = some (.int .i64 x47) ∧
  (Idx s36.a s36.len t40.1 5 (fun a48 =>
  (∃ x49 : Int, w41.cell? ((a48.add 2).add 1) = some (.int .i64 x49) ∧
  (∀ w55, Ext w41 w55 →
  (sh_postroadref08_Put t40.2.1.1 t40.2.1.2.1 t40.2.1.2.2.1 t40.2.1.2.2.2.1 x43 x45 x47 x49 (fun x50 s51 s52 s53 t54 w56 =>
  (KeepZ (zI (fun _ => False) w41 w55) w55 w56 ∧
  (Keeps [b10, b13, b3, b1] w55 w56 ∧
  (∀ b57 w58, Ext w56 w58 →
  ((zI (fun _ => False) w41 w55) b57 ∨ w56.heap.size ≤ b57) → b57 < w58.heap.size →
  (∀ w59, Ext w58 w59 →
  (∀ w60, Off b57 w59 w60 →
  (∀ w61, Ext w60 w61 →
  (∀ w62, Off b10 w61 w62 →
  (again39 ((IntKind.i64.wrap (t40.1 + (1 : Int))), (x50, s51, s52, s53, ()), ()) w62))))))))) w55)))))))))))))) (J38 ((t40.2.1.1, t40.2.1.2.1, t40.2.1.2.2.1, t40.2.1.2.2.2.1, ()), ()) w41))) ((0 : Int), (t29.2.1.1, t29.2.1.2.1, t29.2.1.2.2.1, t29.2.1.2.2.2.1, ()), ()) w37))
  (fun t63 w64 =>
  (sh_postroadref08_Outs t63.1.1 t63.1.2.1 t63.1.2.2.1 t63.1.2.2.2.1 x32 (fun s65 w66 =>
  (Keeps [b10, b13, b3, b1] w64 w66 ∧
  (Join ((SV × SV × Unit) × Unit) (fun J67 =>
  (LoopT (Int × (SV × SV × Unit) × Unit) (fun t69 again68 w70 =>
  (cond (decide (t69.1 < (s65.len : Int))) (Idx s65.a s65.len t69.1 1 (fun a71 =>
  (∃ x72 : Int, w70.cell? a71 = some (.int .i64 x72) ∧
  (Quiet (Int × Int × Int × Bool) (fun r77 =>
  (.tuple #[(.agg #[(.int .i64 r77.1), (.int .i64 r77.2.1), (.int .i64 r77.2.2.1)]), (.bool r77.2.2.2)])) (fun K78 w79' => sh_postroadref08_Way t63.1.1 t63.1.2.1 t63.1.2.2.1 t63.1.2.2.2.1 x32 x72 (fun x73 x74 x75 t76 w79 => K78 (x73, x74, x75, t76) w79) w79') w70 (fun r77 =>
  (∀ b80 w81, Ext w70 w81 → w70.heap.size ≤ b80 → b80 < w81.heap.size →
  (∀ w82, Ext w81 w82 →
  (∀ w83, Off b80 w82 w83 →
  (∀ w84, Ext w83 w84 →
  (Idx s65.a s65.len t69.1 1 (fun a85 =>
  (∃ x86 : Int, w84.cell? a85 = some (.int .i64 x86) ∧
  (∀ w87, Ext w84 w87 →
  (NewB [(.int .i64 x32), (.int .i64 x86), (.int .i64 r77.1), (.int .i64 r77.2.1), (.int .i64 r77.2.2.1)] w87 (fun b88 w89 =>
  (∀ w90, Ext w89 w90 →
  (App 40 [(.int .i64 (0 : Int)), (.int .i64 (0 : Int)), (.int .i64 (0 : Int)), (.int .i64 (0 : Int)), (.int .i64 (0 : Int))] t69.2.1.2.1 ⟨(some ⟨b88, 0, none⟩), 1, 1⟩ w90 (fun s91 w92 =>
  (Keeps [b80, b13, b10, b3, b1] w90 w92 ∧
  (∀ w93, Ext w92 w93 →
  (∀ w94, Off b13 w93 w94 →
  (∀ w95, Ext w94 w95 →
  (again68 ((IntKind.i64.wrap (t69.1 + (1 : Int))), (t69.2.1.1, s91, ()), ()) w95))))))))))))))))))))))) (J67 ((t69.2.1.1, t69.2.1.2.1, ()), ()) w70))) ((0 : Int), (t29.2.2.1.1, t29.2.2.1.2.1, ()), ()) w66))
  (fun t96 w97 =>
  (sh_postroadref08_Ins t63.1.1 t63.1.2.1 t63.1.2.2.1 t63.1.2.2.2.1 x32 (fun s98 w99 =>
  (Keeps [b13, b10, b3, b1] w97 w99 ∧
  (Join ((SV × SV × Unit) × Unit) (fun J100 =>
  (LoopT (Int × (SV × SV × Unit) × Unit) (fun t102 again101 w103 =>
  (cond (decide (t102.1 < (s98.len : Int))) (Idx s98.a s98.len t102.1 1 (fun a104 =>
  (∃ x105 : Int, w103.cell? a104 = some (.int .i64 x105) ∧
  (Quiet (Int × Int × Int × Bool) (fun r110 =>
  (.tuple #[(.agg #[(.int .i64 r110.1), (.int .i64 r110.2.1), (.int .i64 r110.2.2.1)]), (.bool r110.2.2.2)])) (fun K111 w112' => sh_postroadref08_Way t63.1.1 t63.1.2.1 t63.1.2.2.1 t63.1.2.2.2.1 x105 x32 (fun x106 x107 x108 t109 w112 => K111 (x106, x107, x108, t109) w112) w112') w103 (fun r110 =>
  (∀ b113 w114, Ext w103 w114 → w103.heap.size ≤ b113 → b113 < w114.heap.size →
  (∀ w115, Ext w114 w115 →
  (∀ w116, Off b113 w115 w116 →
  (∀ w117, Ext w116 w117 →
  (Idx s98.a s98.len t102.1 1 (fun a118 =>
  (∃ x119 : Int, w117.cell? a118 = some (.int .i64 x119) ∧
  (∀ w120, Ext w117 w120 →
  (NewB [(.int .i64 x119), (.int .i64 x32), (.int .i64 r110.1), (.int .i64 r110.2.1), (.int .i64 r110.2.2.1)] w120 (fun b121 w122 =>
  (∀ w123, Ext w122 w123 →
  (App 40 [(.int .i64 (0 : Int)), (.int .i64 (0 : Int)), (.int .i64 (0 : Int)), (.int .i64 (0 : Int)), (.int .i64 (0 : Int))] t102.2.1.2.1 ⟨(some ⟨b121, 0, none⟩), 1, 1⟩ w123 (fun s124 w125 =>
  (Keeps [b113, b13, b10, b3, b1] w123 w125 ∧
  (∀ w126, Ext w125 w126 →
  (∀ w127, Off b13 w126 w127 →
  (∀ w128, Ext w127 w128 →
  (again101 ((IntKind.i64.wrap (t102.1 + (1 : Int))), (t102.2.1.1, s124, ()), ()) w128))))))))))))))))))))))) (J100 ((t102.2.1.1, t102.2.1.2.1, ()), ()) w103))) ((0 : Int), (t96.1.1, t96.1.2.1, ()), ()) w99))
  (fun t129 w130 =>
  (sh_postroadref08_Take t63.1.1 t63.1.2.1 t63.1.2.2.1 t63.1.2.2.2.1 x32 (fun x131 s132 s133 s134 t135 w136 =>
  (Keeps [b13, b10, b3, b1] w130 w136 ∧
  (∀ b137 w138, Ext w136 w138 → w136.heap.size ≤ b137 → b137 < w138.heap.size →
  (∀ w139, Off b137 w138 w139 →
  (∀ w140, Off b10 w139 w140 →
  (J31 ((x131, s132, s133, s134, ()), (t129.1.1, t129.1.2.1, ()), ()) w140)))))) w130))))) w97))))) w64))))) w35)))))))) w30))
  (fun t141 w142 =>
  (again28 ((IntKind.i64.wrap (t29.1 + (1 : Int))), (t141.1.1, t141.1.2.1, t141.1.2.2.1, t141.1.2.2.2.1, ()), (t141.2.1.1, t141.2.1.2.1, ()), ()) w142))) (J27 ((t29.2.2.1.1, t29.2.2.1.2.1, ()), ()) w30))) ((0 : Int), (x5, s6, s7, s8, ()), (t25.1.1, t25.1.2.1, ()), ()) w26))
  (fun t143 w144 =>
  (∀ w145, Off b3 w144 w145 →
  (K t143.1.1 t143.1.2.1 w145)))))))))))) w4)))

/-- postroad/postroadref09.Of -/
def sh_postroadref09_Of (m0_N : Int) (m0_Arcs : SV) (K : SV → SV → World → Prop) (w : World) : Prop :=
  (∀ b1 w2, Ext w w2 → w.heap.size ≤ b1 → b1 < w2.heap.size →
  (∀ b3 w4, Ext w2 w4 → w2.heap.size ≤ b3 → b3 < w4.heap.size →
  (sh_postroadref06_New m0_N m0_Arcs (fun x5 s6 s7 t8 w9 =>
  (Keeps [b3, b1] w4 w9 ∧
  (∀ b10 w11, Ext w9 w11 → w9.heap.size ≤ b10 → b10 < w11.heap.size →
  (∀ w12, Off b10 w11 w12 →
  (sh_postroadref09_Build x5 s6 s7 (fun s13 s14 w15 =>
  (Keeps [b10, b3, b1] w12 w15 ∧
  (∀ w16, Off b3 w15 w16 →
  (K s13 s14 w16)))) w12))))) w4)))

/-- postroad/postroadref07.Walk -/
def sh_postroadref07_Walk (m0_N : Int) (m0_Arcs : SV) (s0 : Int) (arcs0 : SV) (K : Int → Int → Bool → World → Prop) (w : World) : Prop :=
  (∀ b1 w2, Ext w w2 → w.heap.size ≤ b1 → b1 < w2.heap.size →
  (sh_postroadref05_Check m0_N m0_Arcs (fun x3 w4 =>
  (Keeps [b1] w2 w4 ∧
  (cond (x3 != (0 : Int)) (K (0 : Int) (0 : Int) false w4) (cond (decide (s0 < (0 : Int))) (K (0 : Int) (0 : Int) false w4) (cond (decide (s0 ≥ m0_N)) (K (0 : Int) (0 : Int) false w4) (Join (Int × Int × Unit) (fun J5 =>
  (LoopT (Int × Int × Int × Unit) (fun t7 again6 w8 =>
  (cond (decide (t7.2.2.1 < (arcs0.len : Int))) (Idx arcs0.a arcs0.len t7.2.2.1 1 (fun a9 =>
  (∃ x10 : Int, w8.cell? a9 = some (.int .i64 x10) ∧
  (cond (decide (x10 < (0 : Int))) (K (0 : Int) (0 : Int) false w8) (cond (decide (x10 ≥ (m0_Arcs.len : Int))) (K (0 : Int) (0 : Int) false w8) (Idx m0_Arcs.a m0_Arcs.len x10 3 (fun a11 =>
  (∃ x12 : Int, w8.cell? (a11.add 0) = some (.int .i64 x12) ∧
  (cond (x12 != t7.1) (K (0 : Int) (0 : Int) false w8) (Idx m0_Arcs.a m0_Arcs.len x10 3 (fun a13 =>
  (∃ x14 : Int, w8.cell? (a13.add 2) = some (.int .i64 x14) ∧
  (Idx m0_Arcs.a m0_Arcs.len x10 3 (fun a15 =>
  (∃ x16 : Int, w8.cell? (a15.add 1) = some (.int .i64 x16) ∧
  (again6 (x16, (IntKind.i64.wrap (t7.2.1 + x14)), (IntKind.i64.wrap (t7.2.2.1 + (1 : Int))), ()) w8)))))))))))))))) (J5 (t7.1, t7.2.1, ()) w8))) (s0, (0 : Int), (0 : Int), ()) w4))
  (fun t17 w18 =>
  (K t17.1 t17.2.1 true w18)))))))) w2))

/-- postroad/postroadlaw13.UnpackWays -/
def sh_postroadlaw13_UnpackWays (n0 : Int) (arcs0 : SV) (K : Bool → World → Prop) (w : World) : Prop :=
  (sh_postroadref07_Of n0 arcs0 (fun x1 s2 w3 =>
  (∀ b4 w5, Ext w3 w5 → w3.heap.size ≤ b4 → b4 < w5.heap.size →
  (∀ w6, Off b4 w5 w6 →
  (sh_postroadref09_Of x1 s2 (fun s7 s8 w9 =>
  (Keeps [b4] w6 w9 ∧
  (∀ b10 w11, Ext w9 w11 → w9.heap.size ≤ b10 → b10 < w11.heap.size →
  (∀ w12, Off b10 w11 w12 →
  (sh_hier_New s7 s8 (fun p13 w14 =>
  (Keeps [b10, b4] w12 w14 ∧
  (Join (Unit) (fun J15 =>
  (LoopT (Int × Unit) (fun t17 again16 w18 =>
  (cond (decide (t17.1 < (s8.len : Int))) (Idx s8.a s8.len t17.1 5 (fun a19 =>
  (∃ x20 : Int, w18.cell? (a19.add 0) = some (.int .i64 x20) ∧ ∃ x21 : Int, w18.cell? (a19.add 1) = some (.int .i64 x21) ∧ ∃ x22 : Int, w18.cell? (a19.add 2) = some (.int .i64 x22) ∧ ∃ x23 : Int, w18.cell? (a19.add 3) = some (.int .i64 x23) ∧ ∃ x24 : Int, w18.cell? (a19.add 4) = some (.int .i64 x24) ∧
  (∀ b25 w26, Ext w18 w26 → w18.heap.size ≤ b25 → b25 < w26.heap.size →
  (∀ w27, Off b25 w26 w27 →
  (sh_unpack_Open p13 t17.1 (fun s28 w29 =>
  (Keeps [b25, b10, b4] w27 w29 ∧
  (sh_postroadref07_Walk x1 s2 x20 s28 (fun x30 x31 t32 w33 =>
  (Keeps [b25, b10, b4] w29 w33 ∧
  (sh_unpack_Deep p13 t17.1 (fun x34 w35 =>
  (Keeps [b25, b10, b4] w33 w35 ∧
  (cond (!t32) (K false w35) (cond (x30 != x21) (K false w35) (cond (x31 != x22) (K false w35) (cond ((s28.len : Int) == (0 : Int)) (K false w35) (cond (decide (x34 < (1 : Int))) (K false w35) (cond (decide (x34 > x1)) (K false w35) (cond (!((x34 == (1 : Int)) == (x23 == (-1 : Int)))) (K false w35) (again16 ((IntKind.i64.wrap (t17.1 + (1 : Int))), ()) w35)))))))))) w33))) w29))) w27)))))) (J15 () w18))) ((0 : Int), ()) w14))
  (fun t36 w37 =>
  (sh_postroadlaw13_known  (fun t38 w39 =>
  (Keeps [b10, b4] w37 w39 ∧
  (K t38 w39))) w37))))) w12))))) w6)))) w)

end Go.Sh

/- What the heap's inner functions do to memory. -/
set_option maxRecDepth 100000
namespace Go.Sh
open Go.RowKit

section
variable {w : World} {hb : Nat} {s t : SV} {es : List (Int × Int)} {pl : List Int}

end
end Go.Sh

/- Heaps as lists: the plain law, no program in sight. -/
namespace Go.Sh

def g (es : List (Int × Int)) (i : Nat) : Int × Int := es.getD i (0, 0)
end Go.Sh

/- What the heap's rise, sink, put and drop do. -/
set_option maxRecDepth 100000
namespace Go.Sh
open Go.RowKit

section
variable {w : World} {hb : Nat} {s t : SV} {es : List (Int × Int)} {pl : List Int}

/-- The blocks of a heap's entries and places. -/
def hF (s t : SV) (k : Nat) : Prop := s.blk k ∨ t.blk k

end
end Go.Sh

/- A heap, by what is in: put and drop. -/
set_option maxRecDepth 100000
namespace Go.Sh
open Go.RowKit

section
variable {w : World} {hb : Nat} {s t : SV} {es : List (Int × Int)} {pl : List Int}

end
end Go.Sh

/- A heap: drop. -/
set_option maxRecDepth 100000
namespace Go.Sh
open Go.RowKit

section
variable {w : World} {hb : Nat} {s t : SV} {es : List (Int × Int)} {pl : List Int}

end
end Go.Sh

/- The heap, as it is handed out. -/
set_option maxRecDepth 100000
namespace Go.Sh
open Go.RowKit

section
variable {w w' : World} {p : Option Addr} {N : Nat} {L : List (Int × Int)} {F : Nat → Prop}

end
end Go.Sh

/- The nearest first: from a place on, by edges. -/
set_option maxRecDepth 100000
namespace Go.Sh
open Go.RowKit

end Go.Sh

/- A stable counting sort, in plain lists; arrays told by functions. -/
set_option maxRecDepth 100000
namespace Go.Sh
open Go.RowKit

/-- An array of numbers, told by a function. -/
def fl (n : Nat) (f : Nat → Nat) : List Int := (List.range n).map fun j => (f j : Int)
def sortedL (n : Nat) (l : List Nat) (e : Nat → Nat) : List Nat := (List.range n).flatMap fun v => l.filter (e · == v)
def pre (l : List Nat) (e : Nat → Nat) (v : Nat) : Nat := (sortedL v l e).length

theorem take_snoc {α : Type} {l : List α} {i : Nat} (h : i < l.length) : l.take (i + 1) = l.take i ++ [l[i]] := by
  rw [List.take_add_one, List.getElem?_eq_getElem h]; rfl

end Go.Sh

/- Maps and what of them counts, in plain lists. -/
set_option maxRecDepth 100000
namespace Go.Sh
open Go.RowKit

abbrev Arc := Int × Int × Int
def arcA (arcs : List Arc) (k : Nat) : Arc := arcs.getD k (0, 0, 0)
def frA (arcs : List Arc) (k : Nat) : Nat := (arcA arcs k).1.toNat
def toA (arcs : List Arc) (k : Nat) : Nat := (arcA arcs k).2.1.toNat
def wtA (arcs : List Arc) (k : Nat) : Int := (arcA arcs k).2.2
theorem arcA_get {arcs : List Arc} {k : Nat} (h : k < arcs.length) : arcs[k] = arcA arcs k := by
  unfold arcA; rw [List.getD_eq_getElem?_getD, List.getElem?_eq_getElem h]; rfl
theorem arcA_mem {arcs : List Arc} {k : Nat} (h : k < arcs.length) : arcA arcs k ∈ arcs := by rw [← arcA_get h]; exact List.getElem_mem h

/-- One arc may be. -/
def OkArc (n : Int) (a : Arc) : Prop := 0 ≤ a.1 ∧ a.1 < n ∧ 0 ≤ a.2.1 ∧ a.2.1 < n ∧ 0 ≤ a.2.2 ∧ a.2.2 ≤ 2147483648
/-- A map may be. -/
structure OkMap (n : Int) (arcs : List Arc) : Prop where
  n0 : 0 ≤ n
  n1 : n ≤ 16777216
  len : arcs.length ≤ 67108864
  arc : ∀ a ∈ arcs, OkArc n a
section
variable {n : Int} {arcs : List Arc}
theorem OkMap.at (h : OkMap n arcs) {k : Nat} (hk : k < arcs.length) : OkArc n (arcA arcs k) := h.arc _ (arcA_mem hk)
theorem OkMap.fr (h : OkMap n arcs) {k : Nat} (hk : k < arcs.length) : (arcA arcs k).1 = (frA arcs k : Int) ∧ frA arcs k < n.toNat := by
  have := h.at hk; unfold OkArc at this; unfold frA; omega
theorem OkMap.to (h : OkMap n arcs) {k : Nat} (hk : k < arcs.length) : (arcA arcs k).2.1 = (toA arcs k : Int) ∧ toA arcs k < n.toNat := by
  have := h.at hk; unfold OkArc at this; unfold toA; omega
end

/-- The same ends. -/
def Same (arcs : List Arc) (i k : Nat) : Prop := frA arcs i = frA arcs k ∧ toA arcs i = toA arcs k
/-- One arc is less. -/
def Less (arcs : List Arc) (i k : Nat) : Prop := wtA arcs i < wtA arcs k ∨ wtA arcs i = wtA arcs k ∧ i < k
instance (arcs : List Arc) (i k : Nat) : Decidable (Same arcs i k) := by unfold Same; infer_instance
instance (arcs : List Arc) (i k : Nat) : Decidable (Less arcs i k) := by unfold Less; infer_instance
/-- It counts. -/
def Kept (arcs : List Arc) (k : Nat) : Prop := frA arcs k ≠ toA arcs k ∧ ∀ i, i < arcs.length → Same arcs i k → ¬ Less arcs i k
instance (arcs : List Arc) (k : Nat) : Decidable (Kept arcs k) := by unfold Kept; infer_instance
def keptL (arcs : List Arc) : List Nat := (List.range arcs.length).filter fun k => decide (Kept arcs k)
theorem Less.total {arcs : List Arc} {i k : Nat} (h1 : ¬ Less arcs i k) (h2 : ¬ Less arcs k i) : i = k := by unfold Less at *; omega
theorem Same.symm {arcs : List Arc} {i k : Nat} (h : Same arcs i k) : Same arcs k i := ⟨h.1.symm, h.2.symm⟩
theorem Same.trans {arcs : List Arc} {i j k : Nat} (h : Same arcs i j) (h2 : Same arcs j k) : Same arcs i k := ⟨h.1.trans h2.1, h.2.trans h2.2⟩
theorem Same.refl (arcs : List Arc) (i : Nat) : Same arcs i i := ⟨rfl, rfl⟩

/-- The arcs of one place, by the other end. -/
def outK (n : Nat) (l : List Nat) (fr to : Nat → Nat) (v : Nat) : List Nat := (sortedL n l to).filter (fr · == v)
end Go.Sh

/- The graph's counting sort. -/
set_option maxRecDepth 100000
namespace Go.Sh
open Go.RowKit

end Go.Sh

/- The graph's inner functions. -/
set_option maxRecDepth 100000
namespace Go.Sh
open Go.RowKit

section
variable {w : World} {s : SV} {arcs : List Arc} {N : Int}

theorem okMap_of {N : Int} {arcs : List Arc} (h1 : ¬ N > 16777216) (h2 : ¬ (arcs.length : Int) > 67108864) (h3 : ¬ N < 0) (h : ∀ a ∈ arcs, OkArc N a) : OkMap N arcs :=
  ⟨by omega, by omega, by omega, h⟩

theorem check5_ok {K : Int → World → Prop} (h : View RD w s arcs) (hk : ∀ c w', Ext w w' → (c = 0 ↔ OkMap N arcs) → K c w') : sh_postroadref05_Check N s K w := by
  unfold sh_postroadref05_Check
  intro b1 w2 e2 _ _
  have hl := h.len
  rw [Bool.cond_decide]; split
  · rename_i c; exact hk _ _ e2 ⟨fun h => by omega, fun h => absurd h.n1 (by omega)⟩
  rename_i c1
  rw [Bool.cond_decide]; split
  · rename_i c; exact hk _ _ e2 ⟨fun h => by omega, fun h => absurd h.len (by omega)⟩
  rename_i c2
  rw [Bool.cond_decide]; split
  · rename_i c; exact hk _ _ e2 ⟨fun h => by omega, fun h => absurd h.n0 (by omega)⟩
  rename_i c3
  refine LoopT.gh (γ := Nat) (fun i (st : Int × Unit) w' => st.1 = i ∧ i ≤ arcs.length ∧ Ext w w' ∧ ∀ a ∈ arcs.take i, OkArc N a) (fun i => arcs.length - i) 0
    ⟨rfl, Nat.zero_le _, e2, fun a ha => by simp at ha⟩ ?_
  rintro i ⟨x, _⟩ w5 ⟨hx, hi, e5, ho⟩ J1 hJ1
  simp only at hx; subst hx
  rw [Bool.cond_decide]
  by_cases hc : (i : Int) < (s.len : Int)
  · rw [if_pos hc]
    have hi' : i < arcs.length := by omega
    refine do_idx (h.ext e5) hi' fun a a0 a1 a2 => ⟨_, a0, _, a1, _, a2, ?_⟩
    intro b10 w11 e11 h10 _ w12 o12
    have e12 : Ext w w12 := ext_off (e5.trans e11) o12 (by have := e5.size; omega)
    have bad : ¬ OkArc N arcs[i] → K 2 w12 := fun hb => hk _ _ e12 ⟨fun h => by omega, fun h => absurd (h.arc _ (List.getElem_mem hi')) hb⟩
    rw [Bool.cond_decide]; split
    · exact bad fun hb => by unfold OkArc at hb; omega
    rw [Bool.cond_decide]; split
    · exact bad fun hb => by unfold OkArc at hb; omega
    rw [Bool.cond_decide]; split
    · exact bad fun hb => by unfold OkArc at hb; omega
    rw [Bool.cond_decide]; split
    · exact bad fun hb => by unfold OkArc at hb; omega
    rw [Bool.cond_decide]; split
    · exact bad fun hb => by unfold OkArc at hb; omega
    rw [Bool.cond_decide]; split
    · exact bad fun hb => by unfold OkArc at hb; omega
    refine hJ1 (i + 1) _ _ ⟨wsucc (m := 2 ^ 40) (by omega) (by omega), by omega, e12, fun a ha => ?_⟩ (by omega)
    rw [take_snoc hi'] at ha
    rcases List.mem_append.1 ha with ha | ha
    · exact ho a ha
    · simp at ha; subst ha
      unfold OkArc
      omega
  · rw [if_neg hc]
    have : i = arcs.length := by omega
    subst this
    rw [List.take_length] at ho
    exact hk _ _ e5 ⟨fun _ => okMap_of c1 (by omega) c3 ho, fun _ => rfl⟩

end

end Go.Sh

/- The graph's sides, and which arcs count, as they are laid. -/
set_option maxRecDepth 100000
namespace Go.Sh
open Go.RowKit

def edgeL (arcs : List Arc) (to : Nat → Nat) (S : List Nat) : List Arc := S.map fun k => ((to k : Int), wtA arcs k, (k : Int))
end Go.Sh

/- A graph in memory; New and Kept. -/
set_option maxRecDepth 100000
namespace Go.Sh
open Go.RowKit

def gF (gb : Nat) (sA f1 e1 f2 e2 sc : SV) (k : Nat) : Prop := k = gb ∨ sA.blk k ∨ f1.blk k ∨ e1.blk k ∨ f2.blk k ∨ e2.blk k ∨ sc.blk k
section
variable {w w' : World} {p : Option Addr} {N : Int} {arcs : List Arc} {F : Nat → Prop}
end

section
variable {w0 w w' : World} {b1 b11 D : Nat} {s5 s9 : SV} {n : Nat} {arcs : List Arc} {c : Nat → Bool}
end

end Go.Sh

/- The graph's methods. -/
set_option maxRecDepth 100000
namespace Go.Sh
open Go.RowKit

/-- The edges out of a place, and into it. -/
def outE (N : Int) (arcs : List Arc) (v : Int) : List Arc := if 0 ≤ v ∧ v < N then edgeL arcs (toA arcs) (outK N.toNat (keptL arcs) (frA arcs) (toA arcs) v.toNat) else []
def inE (N : Int) (arcs : List Arc) (v : Int) : List Arc := if 0 ≤ v ∧ v < N then edgeL arcs (frA arcs) (outK N.toNat (keptL arcs) (toA arcs) (frA arcs) v.toNat) else []

section
variable {w w' : World} {p : Option Addr} {N : Int} {arcs : List Arc} {F : Nat → Prop}

end
end Go.Sh

/- What the laws of the graph lean on. -/
set_option maxRecDepth 100000
namespace Go.Sh
open Go.RowKit

section
variable {w : World}

theorem sameI_ok {a b : SV} {xs : List Int} {K : Bool → World → Prop} (ha : View RI w a xs) (hb : View RI w b xs) (hn : xs.length < 2 ^ 40) (hk : ∀ w', Ext w w' → K true w') : sh_postroadref00_SameInts a b K w := by
  unfold sh_postroadref00_SameInts
  have la := ha.len; have lb := hb.len
  rw [show ((a.len : Int) != (b.len : Int)) = false by rw [bne_eq_false_iff_eq]; omega, cond_false]
  refine LoopT.gh (γ := Nat) (fun i (st : Int × Unit) w' => st.1 = i ∧ i ≤ xs.length ∧ Ext w w') (fun i => xs.length - i) 0 ⟨rfl, Nat.zero_le _, .refl _⟩ ?_
  rintro i ⟨x, _⟩ w3 ⟨hx, hi, e3⟩ J1 hJ1
  simp only at hx; subst hx
  rw [Bool.cond_decide]
  by_cases hc : (i : Int) < (a.len : Int)
  · rw [if_pos hc]
    have hi' : i < xs.length := by omega
    refine int_idx (ha.ext e3) hi' fun _ a0 => ⟨_, a0, ?_⟩
    refine int_idx (hb.ext e3) hi' fun _ a0 => ⟨_, a0, ?_⟩
    intro w12 e12
    rw [bne_self_eq_false, cond_false]
    exact hJ1 (i + 1) _ _ ⟨wsucc (m := 2 ^ 40) (by omega) (by omega), by omega, e3.trans e12⟩ (by omega)
  · rw [if_neg hc]; exact hk w3 e3
def partF (x n : Int) : Int := if x.tmod n < 0 then IntKind.i64.wrap (x.tmod n + n) else x.tmod n
theorem part_eq {x n : Int} {K : Int → World → Prop} (h0 : 0 < n) : sh_postroadref06_part x n K w = K (partF x n) w := by
  unfold sh_postroadref06_part partF
  rw [if_neg (by omega), Bool.cond_decide]
  split <;> rfl
theorem partF_ok (x : Int) {n : Int} (h0 : 0 < n) (h1 : n ≤ 2147483649) : 0 ≤ partF x n ∧ partF x n < n := by
  unfold partF
  have hlt := Int.tmod_lt_of_pos x h0
  have hgt : -n < x.tmod n := by
    have := Int.tmod_lt_of_pos (-x) h0
    rw [Int.neg_tmod] at this; omega
  split
  · rw [w64 (by omega) (by omega)]; omega
  · omega
theorem part_quiet {x n : Int} {K : Int → Prop} (h0 : 0 < n) (hk : K (partF x n)) :
    Quiet Int (fun r => .int .i64 r) (fun K19 w20' => sh_postroadref06_part x n (fun x17 w20 => K19 x17 w20) w20') w K :=
  Quiet.mk (partF x n) (fun w' _ _ hK' => by rw [part_eq h0]; exact hK' w' (.refl _)) hk

def clampF (n : Int) : Int := if (if (12 : Int) < n then (12 : Int) else n) > (1 : Int) then (if (12 : Int) < n then (12 : Int) else n) else (1 : Int)
theorem clampF_ok (n : Int) : 1 ≤ clampF n ∧ clampF n ≤ 12 := by
  unfold clampF
  by_cases h : (12 : Int) < n
  · rw [if_pos h]; decide
  · rw [if_neg h]; split <;> omega

theorem Of_ok {n0 : Int} {s : SV} {as : List Arc} {K : Int → SV → World → Prop} (h : View RD w s as)
    (hk : ∀ n t w' arcs, Ext w w' → 1 ≤ n → n ≤ 12 → OkMap n arcs → arcs.length ≤ 40 → Own RD w' t arcs → Fsh w t → K n t w') : sh_postroadref06_Of n0 s K w := by
  unfold sh_postroadref06_Of
  intro b1 w2 e2 g1 g1' b3 w4 e4 g3 g3' w5 o5
  have z2 := e2.size; have z4 := e4.size; have z5 := o5.size
  obtain ⟨hc1, hc2⟩ := clampF_ok n0
  unfold clampF at hc1 hc2
  generalize (if (if (12 : Int) < n0 then (12 : Int) else n0) > (1 : Int) then (if (12 : Int) < n0 then (12 : Int) else n0) else (1 : Int)) = n at hc1 hc2 ⊢
  have e5 : Ext w w5 := ext_off (e2.trans e4) o5 (by omega)
  have hl := h.len
  refine Join.cut (fun (x : (Int × SV × Unit) × Unit) w' => Ext w w' ∧ x.1.1 = n ∧ ∃ arcs, OkMap n arcs ∧ arcs.length ≤ 40 ∧ Own RD w' x.1.2.1 arcs ∧ Fsh w5 x.1.2.1) (fun J hJ => ?_) ?_
  · refine LoopT.gh (γ := Nat × List Arc) (fun gh (st : Int × (Int × SV × Unit) × Unit) w' => st.1 = gh.1 ∧ gh.1 ≤ 40 ∧ gh.1 = gh.2.length ∧ Ext w w' ∧ w5.heap.size ≤ w'.heap.size ∧ st.2.1.1 = n ∧ OkMap n gh.2 ∧ Own RD w' st.2.1.2.1 gh.2 ∧ Fsh w5 st.2.1.2.1) (fun gh => 40 - gh.1) (0, [])
      ⟨rfl, Nat.zero_le _, rfl, e5, Nat.le_refl _, rfl, ⟨by omega, by omega, by simp, fun a ha => by simp at ha⟩, Own.nil, fsh_nil⟩ ?_
    rintro ⟨i, arcs⟩ ⟨x, ⟨m, t, _⟩, _⟩ w9 ⟨hx, hi, hia, e9, z9, hm, ok, hO, hF⟩ J1 hJ1
    simp only at hx hi hia hm ok hO hF
    subst hx hm
    rw [Bool.cond_decide]
    by_cases hc : (i : Int) < (s.len : Int)
    · rw [if_pos hc, Bool.cond_decide]
      by_cases hc40 : (i : Int) < 40
      · rw [if_pos hc40]
        have hi' : i < as.length := by omega
        refine do_idx (h.ext e9) hi' fun a a0 a1 a2 => ⟨_, a0, _, a1, _, a2, ?_⟩
        intro b14 w15 e15 g14 g14' w16 o16
        have z15 := e15.size; have z16 := o16.size
        refine part_quiet (by omega) (part_quiet (by omega) (part_quiet (by omega) ?_))
        intro w29 e29 b30 w31 e31 g30 hB w32 e32
        have z29 := e29.size; have z31 := e31.size; have z32 := e32.size
        have n14 : ¬ t.blk b14 := fun hk => by have := hO.lt hk; omega
        have hO32 := ((((hO.ext e15).off o16 n14).ext e29).ext e31).ext e32
        refine Own.app (R := RD) hO32 (View.one (R := RD) (x := (partF as[i].1 m, partF as[i].2.1 m, partF as[i].2.2 2147483649)) (e32.blkE hB)) (by simp only [List.length_cons, List.length_nil]; omega) (by simp only [List.length_cons, List.length_nil]; omega) fun s33 w34 c34 hs hO34 => ?_
        have z34 := c34.size
        refine ⟨kp_chg c34 fun c hc => ?_, ?_⟩
        · simp only [List.mem_cons, List.not_mem_nil, or_false] at hc
          exact ⟨by omega, fun hk => by have := hF c hk; have := hO.lt hk; omega⟩
        intro w35 e35 w36 o36 w37 e37
        have z35 := e35.size; have z36 := o36.size; have z37 := e37.size
        have hF33 : Fsh w5 s33 := fun k hk => by
          rcases hs k hk with h' | h'
          · exact hF k h'
          · omega
        have e32' : Ext w w32 := (((ext_off (e9.trans e15) o16 (by have := e9.size; omega)).trans e29).trans e31).trans e32
        have e37' : Ext w w37 := (ext_off ((ext_chg e32' c34 (hF.ext e5)).trans e35) o36 (by omega)).trans e37
        have p1 := partF_ok as[i].1 (n := m) (by omega) (by omega)
        have p2 := partF_ok as[i].2.1 (n := m) (by omega) (by omega)
        have p3 := partF_ok as[i].2.2 (n := 2147483649) (by omega) (by omega)
        refine hJ1 (i + 1, arcs ++ [(partF as[i].1 m, partF as[i].2.1 m, partF as[i].2.2 2147483649)]) _ _ ⟨wsucc (m := 2 ^ 40) (by omega) (by omega), by simp only; omega, by simp; omega, e37', by omega, rfl, ?_, ?_, hF33⟩ (by simp only; omega)
        · refine ⟨ok.n0, ok.n1, by simp; omega, fun a ha => ?_⟩
          rcases List.mem_append.1 ha with ha | ha
          · exact ok.arc a ha
          · simp at ha; subst ha
            unfold OkArc; simp only; omega
        · exact ((hO34.ext e35).off o36 fun hk => by have := hF33 _ hk; omega).ext e37
      · rw [if_neg hc40]
        exact hJ _ _ ⟨e9, rfl, arcs, ok, by omega, hO, hF⟩
    · rw [if_neg hc]
      exact hJ _ _ ⟨e9, rfl, arcs, ok, by omega, hO, hF⟩
  · rintro ⟨⟨m, t, _⟩, _⟩ w39 ⟨e39, hm, arcs, ok, hl40, hO, hF⟩ w40 o40
    simp only at hm hO hF
    subst hm
    exact hk m t w40 arcs (ext_off e39 o40 (by omega)) hc1 hc2 ok hl40 (hO.off o40 fun hk => by have := hF _ hk; omega) (hF.ext e5)

end
end Go.Sh

/- GraphTurned. -/
set_option maxRecDepth 100000
namespace Go.Sh
open Go.RowKit

end Go.Sh

/- GraphLoops. -/
set_option maxRecDepth 100000
namespace Go.Sh
open Go.RowKit

end Go.Sh

/- GraphLeast. -/
set_option maxRecDepth 100000
namespace Go.Sh
open Go.RowKit

end Go.Sh

/- Places are taken one by one; ways stand in for what goes through them: in plain lists. -/
set_option maxRecDepth 100000
namespace Go.Sh

/-- The edges of a list of ways. -/
def EL (L : List Wy) (u v : Nat) (x : Int) : Prop := ∃ y ∈ L, yF y = (u : Int) ∧ yT y = (v : Int) ∧ yW y = x
/-- .. that lead up, by ranks; .. down. -/
def EU (L : List Wy) (r : Nat → Int) (u v : Nat) (x : Int) : Prop := EL L u v x ∧ r u < r v
def ED (L : List Wy) (r : Nat → Int) (u v : Nat) (x : Int) : Prop := EL L u v x ∧ r v < r u
/-- No two of them have the same ends. -/
def Uq (L : List Wy) : Prop := L.Pairwise fun a b => ¬ (yF a = yF b ∧ yT a = yT b)

theorem Uq.same {L : List Wy} (h : Uq L) {a b : Wy} (ha : a ∈ L) (hb : b ∈ L) (h1 : yF a = yF b) (h2 : yT a = yT b) : a = b := by
  obtain ⟨i, hi, rfl⟩ := List.getElem_of_mem ha
  obtain ⟨j, hj, rfl⟩ := List.getElem_of_mem hb
  rcases Nat.lt_trichotomy i j with hlt | rfl | hgt
  · exact absurd ⟨h1, h2⟩ (List.pairwise_iff_getElem.1 h i j hi hj hlt)
  · rfl
  · exact absurd ⟨h1.symm, h2.symm⟩ (List.pairwise_iff_getElem.1 h j i hj hi hgt)
theorem Uq.append {L M : List Wy} (h : Uq L) (k : Uq M) (d : ∀ a ∈ L, ∀ b ∈ M, ¬ (yF a = yF b ∧ yT a = yT b)) : Uq (L ++ M) := List.pairwise_append.2 ⟨h, k, d⟩

/-- What a way stands for: an arc of the map, or two ways that are known. -/
def Stand (arcs : List (Int × Int × Int)) (n : Nat) (r : Nat → Int) (H : List Wy) (y : Wy) : Prop :=
  (yM y = -1 ∧ ∃ k : Nat, yA y = (k : Int) ∧ arcs[k]? = some (yF y, yT y, yW y)) ∨
  (∃ m : Nat, m < n ∧ yM y = (m : Int) ∧ yA y = -1 ∧ (∀ u : Nat, yF y = (u : Int) → r m < r u) ∧ (∀ u : Nat, yT y = (u : Int) → r m < r u) ∧
    ∃ a ∈ H, ∃ b ∈ H, yF a = yF y ∧ yT a = (m : Int) ∧ yF b = (m : Int) ∧ yT b = yT y ∧ yW a + yW b = yW y)
/-- A way's ends are places, its length is no more than b. -/
def Ends (P : Nat → Prop) (b : Int) (y : Wy) : Prop := (∃ u, P u ∧ yF y = (u : Int)) ∧ (∃ u, P u ∧ yT y = (u : Int)) ∧ yF y ≠ yT y ∧ 0 ≤ yW y ∧ yW y ≤ b

/-- When k places are taken: E is the map, L is left, H is told, r are the ranks (n: not taken). -/
structure Ctr (E : Nat → Nat → Int → Prop) (arcs : List (Int × Int × Int)) (n k : Nat) (B : Int) (L H : List Wy) (r : Nat → Int) : Prop where
  r1 : ∀ v, v < n → r v = n ∨ 0 ≤ r v ∧ r v < k
  r2 : ∀ u v, u < n → v < n → r u = r v → r u < k → u = v
  r3 : ∀ i : Nat, i < k → ∃ v, v < n ∧ r v = i
  kn : k ≤ n
  lu : Uq L
  le : ∀ y ∈ L, Ends (fun u => u < n ∧ r u = n) B y
  ls : ∀ y ∈ L, Stand arcs n r H y
  lw : ∀ u v x, EL L u v x → Wk E u v x
  hu : Uq H
  he : ∀ y ∈ H, Ends (fun u => u < n) B y
  hk : ∀ y ∈ H, ∃ u : Nat, u < n ∧ r u < k ∧ (yF y = (u : Int) ∨ yT y = (u : Int))
  hs : ∀ y ∈ H, Stand arcs n r H y
  hw : ∀ u v x, EL H u v x → Wk E u v x
  up : ∀ s t d, s < n → t < n → Wk E s t d →
    (∃ a b x y z, a < n ∧ r a = n ∧ b < n ∧ r b = n ∧ Wk (EU H r) s a x ∧ Wk (EL L) a b y ∧ Wk (ED H r) b t z ∧ x + y + z ≤ d) ∨
    (∃ m x z, Wk (EU H r) s m x ∧ Wk (ED H r) m t z ∧ x + z ≤ d)

/-- What ways stand in for v: by two ways each; all, but those that something without v goes around. -/
structure Need (L : List Wy) (v : Nat) (N : List Wy) : Prop where
  a : ∀ y ∈ N, ∃ p ∈ L, ∃ q ∈ L, yF p = yF y ∧ yT p = (v : Int) ∧ yF q = (v : Int) ∧ yT q = yT y ∧ yW y = yW p + yW q ∧ yM y = (v : Int) ∧ yA y = -1 ∧ yF y ≠ yT y
  b : ∀ p ∈ L, ∀ q ∈ L, yT p = (v : Int) → yF q = (v : Int) → yF p ≠ yT q → (∃ y ∈ N, yF y = yF p ∧ yT y = yT q ∧ yW y = yW p + yW q) ∨
    ∃ (a c : Nat) (d : Int), yF p = (a : Int) ∧ yT q = (c : Int) ∧ d ≤ yW p + yW q ∧ Wk (fun i j x => EL L i j x ∧ i ≠ v ∧ j ≠ v) a c d
/-- L with N put into it. -/
structure Puts (L N L1 : List Wy) : Prop where
  u : Uq L1
  l : ∀ y ∈ L, ∃ z ∈ L1, yF z = yF y ∧ yT z = yT y ∧ yW z ≤ yW y
  n : ∀ y ∈ N, ∃ z ∈ L1, yF z = yF y ∧ yT z = yT y ∧ yW z ≤ yW y
  o : ∀ z ∈ L1, z ∈ L ∨ z ∈ N

theorem Puts.nil {L : List Wy} (h : Uq L) : Puts L [] L := ⟨h, fun y hy => ⟨y, hy, rfl, rfl, Int.le_refl _⟩, fun y hy => by simp at hy, fun z hz => .inl hz⟩
/-- One more is put: kept out by what is no longer, or instead of what is longer. -/
theorem Puts.skip {L N L1 : List Wy} {y z : Wy} (h : Puts L N L1) (hz : z ∈ L1) (h1 : yF z = yF y) (h2 : yT z = yT y) (h3 : yW z ≤ yW y) : Puts L (N ++ [y]) L1 :=
  ⟨h.u, h.l, fun x hx => by
    rcases List.mem_append.1 hx with hx | hx
    · exact h.n x hx
    · simp only [List.mem_singleton] at hx; subst hx; exact ⟨z, hz, h1, h2, h3⟩, fun z hz => (h.o z hz).imp id (List.mem_append_left _)⟩
def offE (u v : Int) (y : Wy) : Bool := !(yF y == u && yT y == v)
theorem offE_iff {u v : Int} {y : Wy} : offE u v y = true ↔ ¬ (yF y = u ∧ yT y = v) := by
  unfold offE
  rw [Bool.not_eq_true', Bool.and_eq_false_iff, beq_eq_false_iff_ne, beq_eq_false_iff_ne]
  constructor
  · rintro (h | h) ⟨h1, h2⟩
    · exact h h1
    · exact h h2
  · intro h
    by_cases h1 : yF y = u
    · exact .inr fun h2 => h ⟨h1, h2⟩
    · exact .inl h1
theorem Puts.put {L N L1 : List Wy} {y : Wy} (h : Puts L N L1) (hb : ∀ z ∈ L1, yF z = yF y → yT z = yT y → yW y ≤ yW z) : Puts L (N ++ [y]) (L1.filter (offE (yF y) (yT y)) ++ [y]) := by
  have one : ∀ x z : Wy, z ∈ L1 → yF z = yF x → yT z = yT x → yW z ≤ yW x → ∃ z' ∈ L1.filter (offE (yF y) (yT y)) ++ [y], yF z' = yF x ∧ yT z' = yT x ∧ yW z' ≤ yW x := by
    intro x z hz h1 h2 h3
    by_cases e : yF z = yF y ∧ yT z = yT y
    · exact ⟨y, by simp, by rw [← e.1, h1], by rw [← e.2, h2], by have := hb z hz e.1 e.2; omega⟩
    · exact ⟨z, List.mem_append_left _ (List.mem_filter.2 ⟨hz, offE_iff.2 e⟩), h1, h2, h3⟩
  refine ⟨?_, fun x hx => ?_, fun x hx => ?_, fun z hz => ?_⟩
  · refine Uq.append (h.u.filter _) (List.pairwise_singleton _ _) fun a ha b hb => ?_
    simp only [List.mem_singleton] at hb; subst hb
    exact offE_iff.1 (List.mem_filter.1 ha).2
  · obtain ⟨z, hz, h1, h2, h3⟩ := h.l x hx
    exact one x z hz h1 h2 h3
  · rcases List.mem_append.1 hx with hx | hx
    · obtain ⟨z, hz, h1, h2, h3⟩ := h.n x hx
      exact one x z hz h1 h2 h3
    · simp only [List.mem_singleton] at hx; subst hx
      exact ⟨x, by simp, rfl, rfl, Int.le_refl _⟩
  · rcases List.mem_append.1 hz with hz | hz
    · exact (h.o z (List.mem_filter.1 hz).1).imp id (List.mem_append_left _)
    · exact .inr (List.mem_append_right _ hz)

section
variable {E : Nat → Nat → Int → Prop} {arcs : List (Int × Int × Int)} {n k : Nat} {B : Int} {L H N L1 : List Wy} {r : Nat → Int} {v : Nat}

/-- What is left without v goes as well. -/
theorem around (h0 : ∀ y ∈ L, 0 ≤ yW y) (he : ∀ y ∈ L, yF y ≠ yT y) (hN : Need L v N) (hP : Puts L N L1) {a : Nat} (ha : a ≠ v) {b : Nat} {d : Int} (hw : Wk (EL L) a b d) :
    (b ≠ v → ∃ d', d' ≤ d ∧ Wk (fun i j x => EL L1 i j x ∧ i ≠ v ∧ j ≠ v) a b d') ∧
    (b = v → ∃ (u : Nat) (d' x : Int), u ≠ v ∧ Wk (fun i j x => EL L1 i j x ∧ i ≠ v ∧ j ≠ v) a u d' ∧ EL L u v x ∧ d' + x ≤ d) := by
  have ed : ∀ i j x, EL L i j x → i ≠ v → j ≠ v → ∃ x', x' ≤ x ∧ (EL L1 i j x' ∧ i ≠ v ∧ j ≠ v) := by
    rintro i j x ⟨y, hy, h1, h2, rfl⟩ hi hj
    obtain ⟨z, hz, q1, q2, q3⟩ := hP.l y hy
    exact ⟨yW z, q3, ⟨z, hz, by rw [q1, h1], by rw [q2, h2], rfl⟩, hi, hj⟩
  induction hw with
  | nil => exact ⟨fun _ => ⟨0, by omega, .nil⟩, fun h => absurd h ha⟩
  | snoc hw e ih =>
    rename_i u b d x
    by_cases huv : u = v
    · subst huv
      obtain ⟨u', d', x', hu', hw', e', hle⟩ := ih.2 rfl
      have hb : b ≠ u := fun eb => by
        obtain ⟨y, hy, h1, h2, _⟩ := e
        exact he y hy (by rw [h1, h2, eb])
      refine ⟨fun _ => ?_, fun h => absurd h hb⟩
      obtain ⟨p, hp, p1, p2, p3⟩ := e'
      obtain ⟨q, hq, q1, q2, q3⟩ := e
      by_cases eub : u' = b
      · subst eub
        have := h0 p hp; have := h0 q hq
        exact ⟨d', by omega, hw'⟩
      · rcases hN.b p hp q hq p2 q1 (fun ee => eub (by rw [p1, q2] at ee; omega)) with ⟨y, hy, y1, y2, y3⟩ | ⟨a', c', d2, h1, h2, h3, h4⟩
        · obtain ⟨z, hz, z1, z2, z3⟩ := hP.n y hy
          refine ⟨d' + yW z, by omega, hw'.snoc ⟨⟨z, hz, by rw [z1, y1, p1], by rw [z2, y2, q2], rfl⟩, hu', hb⟩⟩
        · have e1 : a' = u' := by rw [p1] at h1; omega
          have e2 : c' = b := by rw [q2] at h2; omega
          subst e1 e2
          obtain ⟨d3, hd3, hw3⟩ := h4.le (F := fun i j x => EL L1 i j x ∧ i ≠ u ∧ j ≠ u) fun i j x hx => ed i j x hx.1 hx.2.1 hx.2.2
          exact ⟨d' + d3, by omega, hw'.trans hw3⟩
    · obtain ⟨d', hd', hw'⟩ := ih.1 huv
      refine ⟨fun hb => ?_, fun hb => ?_⟩
      · obtain ⟨x', hx', hh⟩ := ed u b x e huv hb
        exact ⟨d' + x', by omega, hw'.snoc hh⟩
      · subst hb; exact ⟨u, d', x, huv, hw', e, by omega⟩

theorem sub_len : ∀ (l l' : List Int), l.Nodup → (∀ x ∈ l, x ∈ l') → l.length ≤ l'.length
  | [], _, _, _ => Nat.zero_le _
  | x :: l, l', hn, hs => by
    have hx := hs x List.mem_cons_self
    have hn' := List.nodup_cons.1 hn
    have ih := sub_len l (l'.erase x) hn'.2 fun y hy => (List.mem_erase_of_ne (show y ≠ x from fun e => hn'.1 (e ▸ hy))).2 (hs y (List.mem_cons_of_mem _ hy))
    rw [List.length_erase_of_mem hx] at ih
    have : 0 < l'.length := List.length_pos_of_mem hx
    simp only [List.length_cons]; omega
theorem Ctr.full (h : Ctr E arcs n n B L H r) {a : Nat} (ha : a < n) : r a ≠ n := fun e => by
  have hL : ((List.range (n + 1)).map fun (i : Nat) => (i : Int)).Nodup := by
    rw [List.nodup_iff_pairwise_ne, List.pairwise_map]
    exact List.pairwise_lt_range.imp fun h e => by omega
  have := sub_len _ ((List.range n).map r) hL fun x hx => by
    obtain ⟨i, hi, rfl⟩ := List.mem_map.1 hx
    rw [List.mem_range] at hi
    rw [List.mem_map]
    by_cases e2 : i = n
    · subst e2; exact ⟨a, List.mem_range.2 ha, e⟩
    · obtain ⟨v, hv, hr⟩ := h.r3 i (by omega)
      exact ⟨v, List.mem_range.2 hv, hr⟩
  simp only [List.length_map, List.length_range] at this
  omega
theorem Ctr.rlt (h : Ctr E arcs n k B L H r) (hv : v < n) (hrv : r v = n) (hk : k < n) {i j : Nat} (hi : i < n) (hj : j < n) (hlt : r i < r j) : up1 r v k i < up1 r v k j := by
  have hri := h.r1 i hi
  have hrj := h.r1 j hj
  by_cases e1 : i = v
  · subst e1; omega
  · rw [up1_ne e1]
    by_cases e2 : j = v
    · subst e2; rw [up1_at]; omega
    · rw [up1_ne e2]; exact hlt
theorem EL.app {L M : List Wy} {u v : Nat} {x : Int} (h : EL L u v x) : EL (L ++ M) u v x := by
  obtain ⟨y, hy, q⟩ := h; exact ⟨y, List.mem_append_left _ hy, q⟩
theorem Ctr.step (h : Ctr E arcs n k B L H r) (hv : v < n) (hrv : r v = n) (hk : k < n) (_hB : 0 ≤ B) (hN : Need L v N) (hP : Puts L N L1) {O I L2 : List Wy}
    (hO : ∀ y, y ∈ O ↔ y ∈ L1 ∧ yF y = (v : Int)) (hI : ∀ y, y ∈ I ↔ y ∈ L1 ∧ yT y = (v : Int)) (uO : Uq O) (uI : Uq I) (hL2 : ∀ y, y ∈ L2 ↔ y ∈ L1 ∧ yF y ≠ (v : Int) ∧ yT y ≠ (v : Int)) (u2 : Uq L2) :
    Ctr E arcs n (k + 1) (2 * B) L2 (H ++ (O ++ I)) (up1 r v k) := by
  have ne : ∀ y ∈ L, yF y ≠ yT y := fun y hy => (h.le y hy).2.2.1
  have n0 : ∀ y ∈ L, 0 ≤ yW y := fun y hy => (h.le y hy).2.2.2.1
  have nN : ∀ y ∈ N, yF y ≠ (v : Int) ∧ yT y ≠ (v : Int) := fun y hy => by
    obtain ⟨p, hp, q, hq, p1, p2, q1, q2, _⟩ := hN.a y hy
    exact ⟨fun e => ne p hp (by rw [p1, e, p2]), fun e => ne q hq (by rw [q1, q2, e])⟩
  have inL : ∀ y ∈ L1, yF y = (v : Int) ∨ yT y = (v : Int) → y ∈ L := fun y hy he => by
    rcases hP.o y hy with h1 | h1
    · exact h1
    · have := nN y h1; rcases he with e | e
      · exact absurd e this.1
      · exact absurd e this.2
  have inL1 : ∀ y ∈ L, yF y = (v : Int) ∨ yT y = (v : Int) → y ∈ L1 := fun y hy he => by
    obtain ⟨z, hz, z1, z2, _⟩ := hP.l y hy
    have := inL z hz (by rw [z1, z2]; exact he)
    rw [h.lu.same hy this z1.symm z2.symm]; exact hz
  have lO : ∀ y ∈ O, y ∈ L := fun y hy => inL y ((hO y).1 hy).1 (.inl ((hO y).1 hy).2)
  have lI : ∀ y ∈ I, y ∈ L := fun y hy => inL y ((hI y).1 hy).1 (.inr ((hI y).1 hy).2)
  have rlt : ∀ {i j : Nat}, i < n → j < n → r i < r j → up1 r v k i < up1 r v k j := fun hi hj => h.rlt hv hrv hk hi hj
  have rn : ∀ u, u < n → r u = n → u ≠ v → up1 r v k u = n := fun u _ e hne => by rw [up1_ne hne]; exact e
  have eu : ∀ i j x, EU H r i j x → EU (H ++ (O ++ I)) (up1 r v k) i j x := fun i j x ⟨h1, h2⟩ => by
    refine ⟨h1.app, ?_⟩
    obtain ⟨y, hy, y1, y2, _⟩ := h1
    obtain ⟨⟨a, ha, a1⟩, ⟨b, hb, b1⟩, _⟩ := h.he y hy
    exact rlt (by omega) (by omega) h2
  have edd : ∀ i j x, ED H r i j x → ED (H ++ (O ++ I)) (up1 r v k) i j x := fun i j x ⟨h1, h2⟩ => by
    refine ⟨h1.app, ?_⟩
    obtain ⟨y, hy, y1, y2, _⟩ := h1
    obtain ⟨⟨a, ha, a1⟩, ⟨b, hb, b1⟩, _⟩ := h.he y hy
    exact rlt (by omega) (by omega) h2
  have el2 : ∀ i j x, (EL L1 i j x ∧ i ≠ v ∧ j ≠ v) → EL L2 i j x := fun i j x ⟨⟨y, hy, y1, y2, y3⟩, h1, h2⟩ => ⟨y, (hL2 y).2 ⟨hy, by omega, by omega⟩, y1, y2, y3⟩
  have mono : ∀ y, (∀ u : Nat, yF y = (u : Int) → u < n) → (∀ u : Nat, yT y = (u : Int) → u < n) → Stand arcs n r H y → Stand arcs n (up1 r v k) (H ++ (O ++ I)) y := by
    rintro y hf ht (h1 | ⟨m, m1, m2, m3, m4, m5, a, ha, b, hb, q⟩)
    · exact .inl h1
    · exact .inr ⟨m, m1, m2, m3, fun u hu => rlt m1 (hf u hu) (m4 u hu), fun u hu => rlt m1 (ht u hu) (m5 u hu), a, List.mem_append_left _ ha, b, List.mem_append_left _ hb, q⟩
  have endsF : ∀ {P : Nat → Prop} {b : Int} {y : Wy}, Ends P b y → (∀ u : Nat, yF y = (u : Int) → P u) ∧ (∀ u : Nat, yT y = (u : Int) → P u) := fun {P b y} he => by
    obtain ⟨⟨a, ha, a1⟩, ⟨c, hc, c1⟩, _⟩ := he
    refine ⟨fun u hu => ?_, fun u hu => ?_⟩
    · have : u = a := by omega
      subst this; exact ha
    · have : u = c := by omega
      subst this; exact hc
  constructor
  · intro i hi
    by_cases e : i = v
    · subst e; rw [up1_at]; right; omega
    · rw [up1_ne e]; have := h.r1 i hi; omega
  · intro i j hi hj he hlt
    have hri := h.r1 i hi; have hrj := h.r1 j hj
    by_cases e1 : i = v
    · by_cases e2 : j = v
      · rw [e1, e2]
      · rw [e1, up1_at, up1_ne e2] at he; omega
    · by_cases e2 : j = v
      · rw [e2, up1_at, up1_ne e1] at he; omega
      · rw [up1_ne e1, up1_ne e2] at he
        rw [up1_ne e1] at hlt
        exact h.r2 i j hi hj he (by omega)
  · intro i hi
    by_cases e : i = k
    · subst e; exact ⟨v, hv, up1_at⟩
    · obtain ⟨u, hu, hr⟩ := h.r3 i (by omega)
      exact ⟨u, hu, by rw [up1_ne (fun e => by subst e; omega)]; exact hr⟩
  · omega
  · exact u2
  · intro y hy
    obtain ⟨hy1, hf, ht⟩ := (hL2 y).1 hy
    rcases hP.o y hy1 with hL | hNy
    · obtain ⟨⟨a, ⟨ha, ha2⟩, a1⟩, ⟨c, ⟨hc, hc2⟩, c1⟩, q1, q2, q3⟩ := h.le y hL
      exact ⟨⟨a, ⟨ha, rn a ha ha2 (by omega)⟩, a1⟩, ⟨c, ⟨hc, rn c hc hc2 (by omega)⟩, c1⟩, q1, q2, by omega⟩
    · obtain ⟨p, hp, q, hq, p1, p2, q1, q2, w1, _, _, w2⟩ := hN.a y hNy
      obtain ⟨⟨a, ⟨ha, ha2⟩, a1⟩, _, _, a2, a3⟩ := h.le p hp
      obtain ⟨_, ⟨c, ⟨hc, hc2⟩, c1⟩, _, c2, c3⟩ := h.le q hq
      exact ⟨⟨a, ⟨ha, rn a ha ha2 (by omega)⟩, by omega⟩, ⟨c, ⟨hc, rn c hc hc2 (by omega)⟩, by omega⟩, w2, by omega, by omega⟩
  · intro y hy
    obtain ⟨hy1, hf, ht⟩ := (hL2 y).1 hy
    rcases hP.o y hy1 with hL | hNy
    · obtain ⟨e1, e2⟩ := endsF (h.le y hL)
      exact mono y (fun u hu => (e1 u hu).1) (fun u hu => (e2 u hu).1) (h.ls y hL)
    · obtain ⟨p, hp, q, hq, p1, p2, q1, q2, w1, m1, m2, _⟩ := hN.a y hNy
      obtain ⟨e1, _⟩ := endsF (h.le p hp)
      obtain ⟨_, e2⟩ := endsF (h.le q hq)
      refine .inr ⟨v, hv, m1, m2, fun u hu => ?_, fun u hu => ?_, p, ?_, q, ?_, p1, p2, q1, q2, w1.symm⟩
      · have := e1 u (by rw [p1, hu])
        rw [up1_at, rn u this.1 this.2 (by omega)]; omega
      · have := e2 u (by rw [q2, hu])
        rw [up1_at, rn u this.1 this.2 (by omega)]; omega
      · exact List.mem_append_right _ (List.mem_append_right _ ((hI p).2 ⟨inL1 p hp (.inr p2), p2⟩))
      · exact List.mem_append_right _ (List.mem_append_left _ ((hO q).2 ⟨inL1 q hq (.inl q1), q1⟩))
  · rintro i j x ⟨y, hy, y1, y2, rfl⟩
    obtain ⟨hy1, hf, ht⟩ := (hL2 y).1 hy
    rcases hP.o y hy1 with hL | hNy
    · exact h.lw i j _ ⟨y, hL, y1, y2, rfl⟩
    · obtain ⟨p, hp, q, hq, p1, p2, q1, q2, w1, m1, m2, _⟩ := hN.a y hNy
      rw [w1]
      exact (h.lw i v _ ⟨p, hp, by rw [p1, y1], p2, rfl⟩).trans (h.lw v j _ ⟨q, hq, q1, by rw [q2, y2], rfl⟩)
  · refine Uq.append h.hu (Uq.append uO uI fun a ha b hb hh => ?_) fun a ha b hb hh => ?_
    · have h1 := ((hO a).1 ha).2
      have h2 := ((hI b).1 hb).2
      exact ne b (lI b hb) (by rw [← hh.1, h1, h2])
    · obtain ⟨u, hu, hru, hor⟩ := h.hk a ha
      have hbL : b ∈ L := by
        rcases List.mem_append.1 hb with hb | hb
        · exact lO b hb
        · exact lI b hb
      obtain ⟨e1, e2⟩ := endsF (h.le b hbL)
      rcases hor with e | e
      · have := (e1 u (by rw [← hh.1, e])).2; omega
      · have := (e2 u (by rw [← hh.2, e])).2; omega
  · intro y hy
    rcases List.mem_append.1 hy with hy | hy
    · obtain ⟨a, b, c, d, e⟩ := h.he y hy
      exact ⟨a, b, c, d, by omega⟩
    · have hyL : y ∈ L := by
        rcases List.mem_append.1 hy with hy | hy
        · exact lO y hy
        · exact lI y hy
      obtain ⟨⟨a, ⟨ha, _⟩, a1⟩, ⟨c, ⟨hc, _⟩, c1⟩, q1, q2, q3⟩ := h.le y hyL
      exact ⟨⟨a, ha, a1⟩, ⟨c, hc, c1⟩, q1, q2, by omega⟩
  · intro y hy
    rcases List.mem_append.1 hy with hy | hy
    · obtain ⟨u, hu, hru, hor⟩ := h.hk y hy
      exact ⟨u, hu, by rw [up1_ne (fun e => by subst e; omega)]; omega, hor⟩
    · refine ⟨v, hv, by rw [up1_at]; omega, ?_⟩
      rcases List.mem_append.1 hy with hy | hy
      · exact .inl ((hO y).1 hy).2
      · exact .inr ((hI y).1 hy).2
  · intro y hy
    rcases List.mem_append.1 hy with hy | hy
    · obtain ⟨e1, e2⟩ := endsF (h.he y hy)
      exact mono y e1 e2 (h.hs y hy)
    · have hyL : y ∈ L := by
        rcases List.mem_append.1 hy with hy | hy
        · exact lO y hy
        · exact lI y hy
      obtain ⟨e1, e2⟩ := endsF (h.le y hyL)
      exact mono y (fun u hu => (e1 u hu).1) (fun u hu => (e2 u hu).1) (h.ls y hyL)
  · rintro i j x ⟨y, hy, q⟩
    rcases List.mem_append.1 hy with hy | hy
    · exact h.hw i j x ⟨y, hy, q⟩
    · have hyL : y ∈ L := by
        rcases List.mem_append.1 hy with hy | hy
        · exact lO y hy
        · exact lI y hy
      exact h.lw i j x ⟨y, hyL, q⟩
  · intro s t d hs ht hw
    rcases h.up s t d hs ht hw with ⟨a, b, x, y, z, ha, ha2, hb, hb2, w1, w2, w3, hle⟩ | ⟨m, x, z, w1, w2, hle⟩
    · have w1' := w1.mono eu
      have w3' := w3.mono edd
      have lL : ∀ {i j x}, EL L i j x → (i < n ∧ r i = n) ∧ (j < n ∧ r j = n) := fun {i j x} ⟨y, hy, y1, y2, _⟩ => by
        obtain ⟨e1, e2⟩ := endsF (h.le y hy); exact ⟨e1 i y1, e2 j y2⟩
      have neL : ∀ {i j x}, EL L i j x → i ≠ j := fun {i j x} ⟨y, hy, y1, y2, _⟩ e => ne y hy (by rw [y1, y2, e])
      have outE : ∀ {j x}, EL L v j x → EU (H ++ (O ++ I)) (up1 r v k) v j x := fun {j x} he => by
        have hj := (lL he).2
        have hne := neL he
        obtain ⟨y, hy, y1, y2, y3⟩ := he
        refine ⟨⟨y, List.mem_append_right _ (List.mem_append_left _ ((hO y).2 ⟨inL1 y hy (.inl y1), y1⟩)), y1, y2, y3⟩, ?_⟩
        rw [up1_at, rn j hj.1 hj.2 (Ne.symm hne)]; omega
      have inE : ∀ {j x}, EL L j v x → ED (H ++ (O ++ I)) (up1 r v k) j v x := fun {j x} he => by
        have hj := (lL he).1
        have hne := neL he
        obtain ⟨y, hy, y1, y2, y3⟩ := he
        refine ⟨⟨y, List.mem_append_right _ (List.mem_append_right _ ((hI y).2 ⟨inL1 y hy (.inr y2), y2⟩)), y1, y2, y3⟩, ?_⟩
        rw [up1_at, rn j hj.1 hj.2 hne]; omega
      have fin : ∀ (a : Nat) (x : Int) (y : Int), a < n → r a = n → a ≠ v → Wk (EU (H ++ (O ++ I)) (up1 r v k)) s a x → Wk (EL L) a b y → x + y + z ≤ d →
          (∃ a b x y z, a < n ∧ up1 r v k a = n ∧ b < n ∧ up1 r v k b = n ∧ Wk (EU (H ++ (O ++ I)) (up1 r v k)) s a x ∧ Wk (EL L2) a b y ∧ Wk (ED (H ++ (O ++ I)) (up1 r v k)) b t z ∧ x + y + z ≤ d) ∨
          (∃ m x z, Wk (EU (H ++ (O ++ I)) (up1 r v k)) s m x ∧ Wk (ED (H ++ (O ++ I)) (up1 r v k)) m t z ∧ x + z ≤ d) := by
        intro a x y ha ha2 hav hx hy hle
        obtain ⟨g1, g2⟩ := around n0 ne hN hP hav hy
        by_cases hbv : b = v
        · obtain ⟨u, d', x', hu, hw', he', hle'⟩ := g2 hbv
          subst hbv
          have hu2 := (lL he').1
          exact .inl ⟨a, u, x, d', x' + z, ha, rn a ha ha2 hav, hu2.1, rn u hu2.1 hu2.2 hu, hx, hw'.mono el2, Wk.cons (inE he') w3', by omega⟩
        · obtain ⟨d', hd', hw'⟩ := g1 hbv
          exact .inl ⟨a, b, x, d', z, ha, rn a ha ha2 hav, hb, rn b hb hb2 hbv, hx, hw'.mono el2, w3', by omega⟩
      by_cases hav : a = v
      · subst hav
        rcases w2.first with ⟨rfl, rfl⟩ | ⟨c, x1, y1, he, hw', rfl⟩
        · exact .inr ⟨b, x, z, w1', w3', by omega⟩
        · have hc := (lL he).2
          exact fin c (x + x1) y1 hc.1 hc.2 (Ne.symm (neL he)) (w1'.snoc (outE he)) hw' (by omega)
      · exact fin a x y ha ha2 hav w1' w2 hle
    · exact .inr ⟨m, x, z, w1.mono eu, w2.mono edd, hle⟩

theorem Ctr.begin (hE : ∀ u v x, E u v x → 0 ≤ x) (hEn : ∀ u v x, E u v x → u < n → v < n) (lu : Uq L) (le : ∀ y ∈ L, Ends (fun u => u < n) B y) (ls : ∀ y ∈ L, yM y = -1 ∧ ∃ k : Nat, yA y = (k : Int) ∧ arcs[k]? = some (yF y, yT y, yW y))
    (lw : ∀ u v x, EL L u v x → E u v x) (al : ∀ u v x, E u v x → u ≠ v → u < n → ∃ y, y ≤ x ∧ EL L u v y) : Ctr E arcs n 0 B L [] (fun _ => (n : Int)) := by
  refine ⟨fun v _ => .inl rfl, fun u v _ _ _ h => by omega, fun i h => by omega, by omega, lu, fun y hy => ?_, fun y hy => .inl (ls y hy), fun u v x h => .edge (lw u v x h), List.Pairwise.nil, fun y hy => by simp at hy, fun y hy => by simp at hy, fun y hy => by simp at hy, fun u v x ⟨y, hy, _⟩ => by simp at hy, ?_⟩
  · obtain ⟨⟨a, ha, a1⟩, ⟨c, hc, c1⟩, q1, q2, q3⟩ := le y hy
    exact ⟨⟨a, ⟨ha, rfl⟩, a1⟩, ⟨c, ⟨hc, rfl⟩, c1⟩, q1, q2, q3⟩
  · intro s t d hs ht hw
    have key : t < n ∧ ∃ y, y ≤ d ∧ Wk (EL L) s t y := by
      clear ht
      induction hw with
      | nil => exact ⟨hs, 0, by omega, .nil⟩
      | snoc hw0 e ih =>
        rename_i u v d x
        obtain ⟨hu, y, hy, hw⟩ := ih
        refine ⟨hEn _ _ _ e hu, ?_⟩
        by_cases huv : u = v
        · subst huv
          have := hE _ _ _ e
          exact ⟨y, by omega, hw⟩
        · obtain ⟨z, hz, hz2⟩ := al u v x e huv hu
          exact ⟨y + z, by omega, hw.snoc hz2⟩
    obtain ⟨_, y, hy, hw⟩ := key
    exact .inl ⟨s, t, 0, y, 0, hs, rfl, ht, rfl, .nil, hw, .nil, by omega⟩

/-- All are taken: as far as by a way up, and a way down. -/
theorem Ctr.all (h : Ctr E arcs n n B L H r) {s t : Nat} {d : Int} (hs : s < n) (ht : t < n) (hw : Wk E s t d) : ∃ m x z, Wk (EU H r) s m x ∧ Wk (ED H r) m t z ∧ x + z ≤ d := by
  rcases h.up s t d hs ht hw with ⟨a, b, x, y, z, ha, ha2, hb, hb2, _⟩ | h'
  · exact absurd ha2 (h.full ha)
  · exact h'
end
end Go.Sh

/- When all places are taken: the hierarchy may be, and is as far as the map. -/
set_option maxRecDepth 100000
namespace Go.Sh

/-- A map's edges: its arcs. -/
def EA (arcs : List (Int × Int × Int)) (u v : Nat) (x : Int) : Prop := ∃ k : Nat, arcs[k]? = some ((u : Int), (v : Int), x)
def rkN (rank : List Int) (v : Nat) : Int := rkA rank (v : Int)
theorem rkN_fi {n : Nat} {r : Nat → Int} {v : Nat} (h : v < n) : rkN (fi n r) v = r v := by
  unfold rkN; rw [← rk_get (by rw [fi_len]; exact h), fi_get]

/-- What is known of a map's hierarchy. -/
structure MapH (N : Nat) (arcs : List (Int × Int × Int)) (rank : List Int) (ways : List Wy) : Prop where
  ok : OkH rank ways
  n : rank.length = N
  b : ∀ y ∈ ways, yW y ≤ 1125899906842624
  k : ways.length ≤ N * N
  st : ∀ y ∈ ways, yM y = -1 → ∃ k : Nat, yA y = (k : Int) ∧ arcs[k]? = some (yF y, yT y, yW y)
  so : ∀ u v x, EL ways u v x → Wk (EA arcs) u v x
  co : ∀ s t d, s < N → t < N → Wk (EA arcs) s t d → ∃ m x z, Wk (EU ways (rkN rank)) s m x ∧ Wk (ED ways (rkN rank)) m t z ∧ x + z ≤ d

theorem Uq.len {H : List Wy} {n : Nat} {b : Int} (h : Uq H) (he : ∀ y ∈ H, Ends (fun u => u < n) b y) : H.length ≤ n * n := by
  have hnd : (H.map fun y => yF y * n + yT y).Nodup := by
    rw [List.nodup_iff_pairwise_ne, List.pairwise_map]
    refine List.Pairwise.imp_of_mem (fun {a c} ha hc hne e => ?_) h
    obtain ⟨⟨f, hf, f1⟩, ⟨t, ht, t1⟩, _⟩ := he a ha
    obtain ⟨⟨f', hf', f1'⟩, ⟨t', ht', t1'⟩, _⟩ := he c hc
    apply hne
    rw [f1, t1, f1', t1'] at e
    rw [f1, t1, f1', t1']
    have e' : f * n + t = f' * n + t' := by exact_mod_cast e
    have h1 : f = f' := by
      have a1 : (f * n + t) / n = f := by rw [Nat.mul_comm, Nat.mul_add_div (by omega), Nat.div_eq_of_lt ht]; rfl
      have a2 : (f' * n + t') / n = f' := by rw [Nat.mul_comm, Nat.mul_add_div (by omega), Nat.div_eq_of_lt ht']; rfl
      rw [← a1, ← a2, e']
    subst h1
    exact ⟨rfl, by omega⟩
  have := sub_len _ ((List.range (n * n)).map fun (i : Nat) => (i : Int)) hnd fun x hx => by
    obtain ⟨y, hy, rfl⟩ := List.mem_map.1 hx
    obtain ⟨⟨f, hf, f1⟩, ⟨t, ht, t1⟩, _⟩ := he y hy
    rw [List.mem_map]
    refine ⟨f * n + t, List.mem_range.2 ?_, by rw [f1, t1]; simp⟩
    calc f * n + t < f * n + n := by omega
      _ = (f + 1) * n := by rw [Nat.add_mul, Nat.one_mul]
      _ ≤ n * n := Nat.mul_le_mul_right _ hf
  simpa using this

theorem Uq.find {H : List Wy} (h : Uq H) {a : Wy} (ha : a ∈ H) {u v : Int} (h1 : yF a = u) (h2 : yT a = v) : ∃ k, findW H u v = some k ∧ wW H k = yW a := by
  cases hf : findW H u v with
  | none =>
    obtain ⟨i, hi, rfl⟩ := List.getElem_of_mem ha
    exact absurd ⟨h1, h2⟩ (findW_none hf i hi)
  | some k =>
    obtain ⟨hk, q1, q2, _⟩ := findW_some hf
    refine ⟨k, rfl, ?_⟩
    have : H[k] = a := h.same (List.getElem_mem hk) ha (q1.trans h1.symm) (q2.trans h2.symm)
    unfold wW
    rw [List.getD_eq_getElem?_getD, List.getElem?_eq_getElem hk, Option.getD_some, this]

theorem Ctr.mapH {arcs : List (Int × Int × Int)} {n : Nat} {B : Int} {L H : List Wy} {r : Nat → Int} (h : Ctr (EA arcs) arcs n n B L H r) (hn : n ≤ 4096) (ha : arcs.length ≤ 67108864) (hB : B ≤ 1125899906842624) : MapH n arcs (fi n r) H := by
  have hlen := h.hu.len h.he
  have hr : ∀ v, v < n → 0 ≤ r v ∧ r v < n := fun v hv => by
    have h1 := h.r1 v hv; have h2 := h.full hv; omega
  have hok : OkH (fi n r) H := by
    refine ⟨by rw [fi_len]; omega, ?_, ⟨fun x hx => ?_, ?_⟩, fun i hi => ?_, fun y hy => ?_⟩
    · have : n * n ≤ 4096 * 4096 := Nat.mul_le_mul hn hn
      omega
    · rw [fi_len]
      unfold fi at hx
      obtain ⟨v, hv, rfl⟩ := List.mem_map.1 hx
      exact hr v (List.mem_range.1 hv)
    · unfold fi
      rw [List.nodup_iff_pairwise_ne, List.pairwise_map]
      refine List.Pairwise.imp_of_mem (fun {a c} ha hc hne e => ?_) List.pairwise_lt_range
      have ha' := List.mem_range.1 ha; have hc' := List.mem_range.1 hc
      have := h.r2 a c ha' hc' e (hr a ha').2
      omega
    · obtain ⟨⟨f, hf, f1⟩, ⟨t, ht, t1⟩, q1, q2, q3⟩ := h.he _ (List.getElem_mem hi)
      rw [fi_len]
      refine ⟨?_, q1, by omega, by omega, by omega, by omega, q2, by omega⟩
      cases hfn : findW (H.take i) (yF H[i]) (yT H[i]) with
      | none => rfl
      | some j =>
        obtain ⟨hj, e1, e2, _⟩ := findW_some hfn
        rw [List.length_take] at hj
        rw [List.getElem_take] at e1 e2
        exact absurd ⟨e1, e2⟩ (List.pairwise_iff_getElem.1 h.hu j i (by omega) hi (by omega))
    · obtain ⟨⟨f, hf, f1⟩, ⟨t, ht, t1⟩, q1, q2, q3⟩ := h.he y hy
      unfold OkW
      rcases h.hs y hy with ⟨m1, k, k1, k2⟩ | ⟨m, m1, m2, m3, m4, m5, a, hA, b, hb, a1, a2, b1, b2, e⟩
      · rw [if_pos m1]
        have : k < arcs.length := (List.getElem?_eq_some_iff.1 k2).1
        omega
      · rw [if_neg (by omega), fi_len]
        have g1 : rkA (fi n r) (yM y) = r m := by rw [m2]; exact rkN_fi m1
        have g2 : rkA (fi n r) (yF y) = r f := by rw [f1]; exact rkN_fi hf
        have g3 : rkA (fi n r) (yT y) = r t := by rw [t1]; exact rkN_fi ht
        obtain ⟨i, hi1, hi2⟩ := h.hu.find hA a1 (a2.trans m2.symm)
        obtain ⟨j, hj1, hj2⟩ := h.hu.find hb (b1.trans m2.symm) b2
        exact ⟨m3, by omega, by omega, by rw [g1, g2]; exact m4 f f1, by rw [g1, g3]; exact m5 t t1, i, j, hi1, hj1, by omega⟩
  have heq : ∀ u v x, EL H u v x → u < n ∧ v < n := fun u v x ⟨y, hy, y1, y2, _⟩ => by
    obtain ⟨⟨f, hf, f1⟩, ⟨t, ht, t1⟩, _⟩ := h.he y hy
    exact ⟨by omega, by omega⟩
  refine ⟨hok, fi_len _ _, fun y hy => by have := (h.he y hy).2.2.2.2; omega, hlen, fun y hy hm => ?_, h.hw, fun s t d hs ht hw => ?_⟩
  · rcases h.hs y hy with ⟨_, q⟩ | ⟨m, _, m2, _⟩
    · exact q
    · omega
  · obtain ⟨m, x, z, w1, w2, hle⟩ := h.all hs ht hw
    refine ⟨m, x, z, w1.mono fun i j q ⟨e1, e2⟩ => ⟨e1, ?_⟩, w2.mono fun i j q ⟨e1, e2⟩ => ⟨e1, ?_⟩, hle⟩
    · obtain ⟨a, b⟩ := heq i j q e1
      rw [rkN_fi a, rkN_fi b]; exact e2
    · obtain ⟨a, b⟩ := heq i j q e1
      rw [rkN_fi a, rkN_fi b]; exact e2
end Go.Sh

/- How far it is in a map, in plain words; the graph's edges tell the same. -/
set_option maxRecDepth 100000
namespace Go.Sh
open Go.RowKit

/-- How far it is by arcs; below 0: there is no way. -/
noncomputable def dst (arcs : List Arc) (s v : Nat) : Int := by
  classical exact if h : ∃ x, IsD (EA arcs) s v x then h.choose else -1

section
variable {N : Int} {arcs : List Arc}
theorem EA_of (ok : OkMap N arcs) {k : Nat} (hk : k < arcs.length) : EA arcs (frA arcs k) (toA arcs k) (wtA arcs k) := by
  refine ⟨k, ?_⟩
  rw [List.getElem?_eq_getElem hk, arcA_get hk]
  have h1 := (ok.fr hk).1
  have h2 := (ok.to hk).1
  rw [← h1, ← h2]; rfl
end
end Go.Sh

/- No place is farther than all arcs together. -/
set_option maxRecDepth 100000
namespace Go.Sh
open Go.RowKit

end Go.Sh

/- dist's functions. -/
set_option maxRecDepth 100000
namespace Go.Sh
open Go.RowKit

section
variable {CV : CVT} {w : World} {p : Option Addr} {N : Int} {arcs : List Arc} {F : Nat → Prop}

end
end Go.Sh

/- The reference of layer 7, and what its laws lean on. -/
set_option maxRecDepth 100000
namespace Go.Sh
open Go.RowKit

section
variable {CV : CVT} {w : World} {N : Int} {s : SV} {arcs : List Arc}

/-- Where arcs lead, and how long they are. -/
def walkF (arcs : List Arc) : Int → Int → List Int → Option (Int × Int)
  | s, d, [] => some (s, d)
  | s, d, k :: l => if 0 ≤ k ∧ k < (arcs.length : Int) ∧ (arcA arcs k.toNat).1 = s then walkF arcs (arcA arcs k.toNat).2.1 (d + (arcA arcs k.toNat).2.2) l else none
noncomputable def walkR (N : Int) (arcs : List Arc) (s : Int) (l : List Int) : Option (Int × Int) := by
  classical exact if OkMap N arcs ∧ 0 ≤ s ∧ s < N then walkF arcs s 0 l else none
theorem walkF_snoc (arcs : List Arc) : ∀ (l : List Int) (s d : Int) (k : Int), walkF arcs s d (l ++ [k]) = match walkF arcs s d l with
    | some (s', d') => if 0 ≤ k ∧ k < (arcs.length : Int) ∧ (arcA arcs k.toNat).1 = s' then some ((arcA arcs k.toNat).2.1, d' + (arcA arcs k.toNat).2.2) else none
    | none => none
  | [], s, d, k => rfl
  | j :: l, s, d, k => by
    simp only [List.cons_append, walkF]
    split
    · exact walkF_snoc arcs l _ _ k
    · rfl
theorem walkF_app (arcs : List Arc) : ∀ (l m : List Int) (s d : Int), walkF arcs s d (l ++ m) = match walkF arcs s d l with
    | some (s', d') => walkF arcs s' d' m
    | none => none
  | [], m, s, d => rfl
  | j :: l, m, s, d => by
    simp only [List.cons_append, walkF]
    split
    · exact walkF_app arcs l m _ _
    · rfl
theorem walkF_take (arcs : List Arc) {l : List Int} {i : Nat} (_hi : i < l.length) {s d : Int} (h : walkF arcs s d (l.take (i + 1)) = none) : walkF arcs s d l = none := by
  have : l = l.take (i + 1) ++ l.drop (i + 1) := (List.take_append_drop _ _).symm
  rw [this, walkF_app, h]
theorem walkF_wk (ok : OkMap N arcs) : ∀ (l : List Int) (s d s' d' : Int), 0 ≤ s → s < N → walkF arcs s d l = some (s', d') → 0 ≤ s' ∧ s' < N ∧ d ≤ d' ∧ d' ≤ d + 2147483648 * (l.length : Int) ∧ Wk (EA arcs) s.toNat s'.toNat (d' - d)
  | [], s, d, s', d', h0, h1, h => by
    simp only [walkF, Option.some.injEq, Prod.mk.injEq] at h
    obtain ⟨rfl, rfl⟩ := h
    exact ⟨h0, h1, Int.le_refl _, by simp, by rw [Int.sub_self]; exact .nil⟩
  | k :: l, s, d, s', d', h0, h1, h => by
    simp only [walkF] at h
    split at h
    · rename_i hk
      have hkl : k.toNat < arcs.length := by omega
      have oka := ok.at hkl
      unfold OkArc at oka
      obtain ⟨q1, q2, q3, q4, q5⟩ := walkF_wk ok l _ _ _ _ (by omega) (by omega) h
      refine ⟨q1, q2, by omega, by simp only [List.length_cons]; omega, ?_⟩
      have e : EA arcs s.toNat (arcA arcs k.toNat).2.1.toNat (arcA arcs k.toNat).2.2 := by
        have := EA_of ok hkl
        unfold frA toA wtA at this
        rw [hk.2.2] at this; exact this
      exact (Wk.cons e q5).of_eq (by omega)
    · cases h
theorem rWalk_ok {t : SV} {l : List Int} {u : Int} {K : Int → Int → Bool → World → Prop} (h : View RD w s arcs) (ht : View RI w t l) (hn : l.length < 2 ^ 30)
    (h1 : ∀ v d, walkR N arcs u l = some (v, d) → ∀ w', Ext w w' → K v d true w') (h2 : walkR N arcs u l = none → ∀ w', Ext w w' → K 0 0 false w') : sh_postroadref07_Walk N s u t K w := by
  unfold sh_postroadref07_Walk
  intro b1 w2 e2 g1 g1'
  have hl := h.len; have hlt := ht.len
  refine check5_ok (h.ext e2) fun c w4 e4 hcc => ⟨kp1 e4 (by omega), ?_⟩
  have e04 := e2.trans e4
  by_cases ok : OkMap N arcs
  · rw [hcc.2 ok, bne_self_eq_false, cond_false]
    rw [Bool.cond_decide]
    split
    · exact h2 (by unfold walkR; rw [if_neg (fun h => by omega)]) _ e04
    rw [Bool.cond_decide]
    split
    · exact h2 (by unfold walkR; rw [if_neg (fun h => by omega)]) _ e04
    have hW : walkR N arcs u l = walkF arcs u 0 l := by unfold walkR; rw [if_pos ⟨ok, by omega, by omega⟩]
    rw [hW] at h1 h2
    refine Join.cut (fun (x : Int × Int × Unit) w' => w' = w4 ∧ walkF arcs u 0 l = some (x.1, x.2.1)) (fun J hJ => ?_) (fun x w' ⟨e, hx⟩ => h1 _ _ hx _ (by subst e; exact e04))
    refine LoopT.gh (γ := Nat) (fun i (st : Int × Int × Int × Unit) w' => walkF arcs u 0 (l.take i) = some (st.1, st.2.1) ∧ st.2.2.1 = i ∧ i ≤ l.length ∧ w' = w4) (fun i => l.length - i) 0 ⟨rfl, rfl, Nat.zero_le _, rfl⟩ ?_
    rintro i ⟨v, d, x, _⟩ w8 ⟨hv, hx, hi, rfl⟩ J1 hJ1
    simp only at hv hx; subst hx
    dsimp only
    rw [Bool.cond_decide]
    by_cases hc : (i : Int) < (t.len : Int)
    · rw [if_pos hc]
      have hi' : i < l.length := by omega
      refine int_idx (ht.ext e04) hi' fun _ q => ⟨_, q, ?_⟩
      have hst := walkF_snoc arcs (l.take i) u 0 l[i]
      rw [← take_snoc' hi', hv] at hst
      simp only at hst
      rw [Bool.cond_decide]
      split
      · rw [if_neg (fun h => by omega)] at hst; exact h2 (walkF_take arcs hi' hst) _ e04
      rw [Bool.cond_decide]
      split
      · rw [if_neg (fun h => by omega)] at hst; exact h2 (walkF_take arcs hi' hst) _ e04
      obtain ⟨k, hk⟩ := Int.eq_ofNat_of_zero_le (show 0 ≤ l[i] by omega)
      rw [hk] at hst ⊢
      rw [Int.toNat_natCast] at hst
      have hkl : k < arcs.length := by omega
      refine do_idx (h.ext e04) hkl fun _ a0 _ _ => ⟨_, a0, ?_⟩
      rw [arcA_get hkl]
      by_cases hf : (arcA arcs k).1 = v
      · rw [show ((arcA arcs k).1 != v) = false by simpa using hf, cond_false]
        rw [if_pos ⟨by omega, by omega, hf⟩] at hst
        refine do_idx (h.ext e04) hkl fun _ _ _ a2 => ⟨_, a2, ?_⟩
        refine do_idx (h.ext e04) hkl fun _ _ a1 _ => ⟨_, a1, ?_⟩
        rw [arcA_get hkl]
        obtain ⟨_, _, q3, q4, _⟩ := walkF_wk ok _ _ _ _ _ (show 0 ≤ u by omega) (by omega) hv
        have oka := ok.at hkl; unfold OkArc at oka
        have hli : (l.take i).length ≤ l.length := by rw [List.length_take]; omega
        exact hJ1 (i + 1) _ _ ⟨by rw [hst, w64 (by omega) (by omega)], wsucc (m := 2 ^ 40) (by omega) (by omega), by omega, rfl⟩ (by omega)
      · rw [show ((arcA arcs k).1 != v) = true by simpa using hf, cond_true]
        rw [if_neg (fun h => hf h.2.2)] at hst
        exact h2 (walkF_take arcs hi' hst) _ e04
    · rw [if_neg hc]
      have : i = l.length := by omega
      subst this
      rw [List.take_length] at hv
      exact hJ _ _ ⟨rfl, hv⟩
  · rw [show (c != 0) = true by simpa using fun e => ok (hcc.1 e), cond_true]
    exact h2 (by unfold walkR; rw [if_neg (fun h => ok h.1)]) _ e04
end
end Go.Sh
