/- 'den' is sound: steps, regions. -/
import Derived.Test.YtoomennincfkgaaSndM
namespace Go.Sh
open Go.RowKit

section
variable {cx : Cx} {n : Nat} {s : S} {a : Act} {w : World} {o : Oper}

theorem exL_some : ∀ {l : List Shp} {K : List Value → Prop}, exL l K → ∃ vs, K vs
  | [], K, h => ⟨[], h⟩
  | σ :: l, K, h => by
    obtain ⟨x, h⟩ := h
    obtain ⟨vs, h⟩ := exL_some h
    exact ⟨_, h⟩
theorem exV_some {g : Bool} {l : List Shp} {K : Value → Prop} (h : exV g l K) : ∃ v, K v := by
  unfold exV at h
  split at h
  · obtain ⟨vs, h⟩ := exL_some h; exact ⟨_, h⟩
  · obtain ⟨x, h⟩ := h; exact ⟨_, h⟩
  · exact h.elim
theorem exVs_some : ∀ {l : List (Bool × List Shp)} {K : List Value → Prop}, exVs l K → ∃ vs, K vs
  | [], K, h => ⟨[], h⟩
  | (g, l) :: r, K, h => by
    obtain ⟨v, h⟩ := exV_some h
    obtain ⟨vs, h⟩ := exVs_some h
    exact ⟨_, h⟩

theorem ok_lookup (h : Rel cx.P n s a w) {t : TypeId} {x k : Operand} {c : Bool} (hop : o.op = .lookup t x k c) {ag : Bool} {m : Nat} {e : TypeId} (hm : mapB cx.P t = some (ag, m, e)) {r : Option Nat} (ex : ev s x = some (.v (.map r))) {kv : Value} (ek : evv s k = some kv)
    {ks : List Int} (hk : keyV ag m kv = some ks) {z : Value} (hz : zeroB cx.P e = some z) {g : Bool} {l : List Shp} :
    SemOk cx s a o w (.read fun w K => MLk ag r ks z w fun v is => exV g l fun u => v = u ∧ K (match c with | true => .v (.tuple #[u, .bool is]) | false => .v u)) := by
  rintro K ⟨mm, hr, hx⟩
  obtain ⟨u, rfl, hK⟩ := exV_some hx
  obtain ⟨g1, _⟩ := ev_ok h ex
  simp only [conc, cc] at g1
  have g2 := evv_ok h ek
  obtain ⟨k0, hu, hkb⟩ := mapB_ok hm
  obtain ⟨rfl, hlen⟩ := keyV_ok hk (keyB_one hkb)
  refine ⟨_, hK, by cases c <;> exact locOk_v _, fun w' e => ?_⟩
  have hr' : MapR ag ks.length w' r mm := by
    cases r with
    | none => exact hr
    | some b => exact MapIs.ext hr e
  have := look_ok hm hlen hz hr' c
  simp only [execOp, hop, g1, g2, Sem.run_bind, this, Result.andThen_ok]
  cases c <;> rfl

theorem ok_mapUpdate (h : Rel cx.P n s a w) {t : TypeId} {x k y : Operand} (hop : o.op = .mapUpdate t x k y) {ag : Bool} {m : Nat} {e : TypeId} (hm : mapB cx.P t = some (ag, m, e)) {r : Option Nat} (ex : ev s x = some (.v (.map r))) {kv vv : Value} (ek : evv s k = some kv) (ev : evv s y = some vv)
    {ks : List Int} (hk : keyV ag m kv = some ks) : SemOk cx s a o w (.big fun w K => MUp ag r ks vv w (fun w' => K (.v undef) w')) := by
  rintro w1 K ⟨b, rfl, mm, hr, hK⟩
  obtain ⟨g1, _⟩ := ev_ok h ex
  simp only [conc, cc] at g1
  have g2 := evv_ok h ek
  have g3 := evv_ok h ev
  obtain ⟨k0, hu, hkb⟩ := mapB_ok hm
  obtain ⟨rfl, hlen⟩ := keyV_ok hk (keyB_one hkb)
  obtain ⟨w2, r1, r2, r3⟩ := mup_ok hm hlen hr vv
  refine ⟨.v undef, w2, .inr ⟨?_, rfl⟩, argOk_v _, by rw [r2.size]; exact Nat.le_refl _, hK w2 r2 r3⟩
  simp only [execOp, hop, g1, g2, g3, Sem.run_bind, r1, Result.andThen_ok]
  rfl

theorem sem1_ok (h : Rel cx.P n s a w) : SemOk cx s a o w (sem1 cx s o) := by
  unfold sem1
  split
  · rename_i x hop
    split
    · rename_i y e; exact ok_move h (.inl hop) e
    · trivial
  · rename_i x hop
    split
    · rename_i y e; exact ok_move h (.inr hop) e
    · trivial
  · rename_i c x y hop
    split
    · rename_i e
      obtain ⟨g1, _⟩ := ev_ok h e
      simp only [conc, cc] at g1
      split
      · rename_i z ez
        obtain ⟨g2, g3⟩ := ev_ok h ez
        exact fun K hk => ⟨_, hk, g3, fun w' => by simp [execOp, hop, g1, g2, asBool]⟩
      · trivial
    · rename_i e
      obtain ⟨g1, _⟩ := ev_ok h e
      simp only [conc, cc] at g1
      split
      · rename_i z ez
        obtain ⟨g2, g3⟩ := ev_ok h ez
        exact fun K hk => ⟨_, hk, g3, fun w' => by simp [execOp, hop, g1, g2, asBool]⟩
      · trivial
    · trivial
  · rename_i t hop
    split
    · rename_i z e; exact ok_alloc hop e
    · trivial
  · rename_i t x hop
    split
    · rename_i v e; exact ok_box h hop e
    · trivial
  · rename_i t parts hop
    split
    · rename_i vs e
      split
      · rename_i cells hc; exact ok_build h hop e hc
      · trivial
    · trivial
  · rename_i t x hop
    split
    · rename_i d off e
      split
      · rename_i b cs hb
        have g1 : a.eval x = .pointer (some ⟨b, off, none⟩) := by
          rw [(ev_ok h e).1]; simp [conc, hb]
        split
        · rename_i hag
          split
          · rename_i l _
            split
            · rename_i hsz; exact ok_load_p hop g1 hag hsz
            · trivial
          · trivial
        · rename_i hag
          split
          · rename_i σ hl; exact ok_load_p1 hop g1 hag hl
          · trivial
      · rename_i b cs m hm hb
        split
        · rename_i hag
          split
          · rename_i l _
            split
            · rename_i hsz
              simp only [Bool.and_eq_true] at hsz
              exact ok_load_agg (b := ⟨b, cs, m⟩) h hop e hb hm hag hsz.1 (Nat.le_of_ble_eq_true hsz.2)
            · trivial
          · trivial
        · rename_i hag
          split
          · rename_i v hv
            split
            · rename_i hun
              exact ok_load_one (b := ⟨b, cs, m⟩) h hop e hb hm hag hun hv
            · trivial
          · trivial
      · trivial
    · rename_i p e
      have g1 : a.eval x = .pointer (some p) := (ev_ok h e).1
      split
      · rename_i hag
        split
        · rename_i l _
          split
          · rename_i hsz; exact ok_load_p hop g1 hag hsz
          · trivial
        · trivial
      · rename_i hag
        split
        · rename_i σ hl; exact ok_load_p1 hop g1 hag hl
        · trivial
    · trivial
  · rename_i t x y hop
    split
    · rename_i v hv
      split
      · rename_i hsz
        split
        · rename_i d off e
          split
          · rename_i b cs hb
            split
            · rename_i hle; exact ok_store_l h hop e hv hsz hb hle
            · trivial
          · rename_i b cs hb
            exact ok_store_p h hop (by rw [(ev_ok h e).1]; simp [conc, hb]) hv hsz
          · trivial
        · rename_i p e; exact ok_store_p h hop (ev_ok h e).1 hv hsz
        · trivial
      · trivial
    · trivial
  · rename_i x hop
    split
    · rename_i d off e; exact ok_nil h hop e
    · rename_i p e; exact ok_nil h hop e
    · rename_i f i cap e; exact ok_nil h hop e
    · trivial
  · rename_i op t x y yt hop
    split
    · rename_i u v e1 e2; exact ok_bin h hop e1 e2
    · trivial
  · rename_i op t x hop
    split
    · rename_i b e; exact ok_not h hop e
    · rename_i k i e; exact ok_neg h hop e
    · trivial
  · rename_i src dst x hop
    split
    · rename_i j i k' k e h1 h2; exact ok_conv h hop e h1 h2
    · trivial
  · rename_i f first cap hop
    split
    · rename_i fs vs hf e; exact ok_makeFunc h hop hf e
    · trivial
  · rename_i t len parts hop
    split
    · rename_i sz bytes z vs he e
      split
      · rename_i cells hl hc; exact ok_buildSlice h hop he e hl hc
      · trivial
    · trivial
  · rename_i t l c hop
    split
    · rename_i sz bytes z kl x kc y he e1 e2; exact ok_makeSlice h hop he e1 e2
    · trivial
  · rename_i t hop; exact ok_makeMap hop
  · rename_i t x k c hop
    split
    · rename_i ag m e r kv hm ex ek
      split
      · rename_i ks z g l hk hz _; cases c <;> exact ok_lookup h hop hm ex ek hk hz
      · trivial
    · trivial
  · rename_i t x k y hop
    split
    · rename_i ag m e r kv vv hm ex ek ey
      split
      · rename_i ks hk; exact ok_mapUpdate h hop hm ex ek ey hk
      · trivial
    · trivial
  · rename_i t x lo hi mx hop
    split
    · rename_i sz bytes z p len cap l r km m he e e1 e2 e3; exact ok_slice3 h hop he e e1 e2 e3
    · trivial
  · rename_i t x lo hi hop
    split
    · rename_i sz bytes z p len cap l r he e e1 e2; exact ok_slice h hop he e e1 e2
    · trivial
  · rename_i t x f hop
    split
    · rename_i off ft hf
      split
      · rename_i hsz
        split
        · rename_i d o' e; exact ok_fieldAddr h hop hf hsz e
        · rename_i p e; exact ok_fieldAddr h hop hf hsz e
        · trivial
      · trivial
    · trivial
  · rename_i t x f hop
    split
    · rename_i off ft cs hf e
      split
      · rename_i hag
        split
        · rename_i i hi; exact ok_field h hop hf e hag hi
        · trivial
      · rename_i hag
        split
        · rename_i v hv
          split
          · rename_i hun; exact ok_field1 h hop hf e hag hun hv
          · trivial
        · trivial
    · trivial
  · rename_i t x y hop
    split
    · rename_i sz bytes z p len cap k i he e1 e2; exact ok_index h hop he e1 e2
    · trivial
  · rename_i x i hop
    split
    · rename_i vs e
      split
      · rename_i v hv; exact ok_extract h hop e hv
      · trivial
    · trivial
  · rename_i c hop
    split
    · rename_i b xs hb e; exact ok_builtin h hop hb e
    · rename_i f xs hb e
      split
      · rename_i g fs cap ef
        split
        · rename_i hnb; exact ok_call h hop hb e ef hnb
        · trivial
      · rename_i v ef
        split
        · rename_i vs r hv _; exact ok_callV h hop hb e ef hv r
        · trivial
      · rename_i v E ef
        split
        · rename_i vs hv; exact ok_yield h hop hb e ef hv
        · trivial
      · trivial
    · trivial
  · trivial
end

/-! ### Frames, worlds, states -/
theorem find_cons {α : Type} (k : Nat) (x : α) (l : List (Nat × α)) (i : Nat) : find ((k, x) :: l) i = if k = i then some x else find l i := by
  show (match Nat.beq k i with | true => some x | false => find l i) = _
  by_cases h : k = i
  · subst h; simp
  · rw [if_neg h]
    have : Nat.beq k i = false := by
      cases hb : Nat.beq k i with
      | false => rfl
      | true => exact absurd (Nat.eq_of_beq_eq_true hb) h
    rw [this]
theorem find_append {α : Type} : ∀ (l r : List (Nat × α)) (i : Nat), find (l ++ r) i = match find l i with | some x => some x | none => find r i
  | [], r, i => rfl
  | (k, x) :: l, r, i => by
    rw [List.cons_append, find_cons, find_cons]
    split
    · rfl
    · exact find_append l r i
theorem find_mem {α : Type} : ∀ {l : List (Nat × α)} {i : Nat} {x : α}, find l i = some x → (i, x) ∈ l
  | (k, y) :: l, i, x, h => by
    rw [find_cons] at h
    split at h
    · rename_i hk; subst hk; injection h with h; subst h; exact List.mem_cons_self
    · exact List.mem_cons_of_mem _ (find_mem h)
theorem find_kill {f : Nat → Bool} : ∀ {l : List (Nat × X)} {i : Nat} {x : X}, find (kill f l) i = some x → x ≠ .bad → find l i = some x ∧ ∀ d o, x = .loc d o → f d = false
  | [], i, x, h, _ => by cases h
  | (t, y) :: l, i, x, h, hx => by
    rw [find_cons]
    cases y with
    | loc d o =>
      simp only [kill] at h
      rw [find_cons] at h
      split at h
      · rename_i ht
        rw [if_pos ht]
        injection h with h
        cases hf : f d with
        | true => rw [hf] at h; exact absurd h.symm hx
        | false =>
          rw [hf] at h
          subst h
          exact ⟨rfl, fun d' o' e => by injection e with e1 _; rw [← e1]; exact hf⟩
      · rename_i ht
        rw [if_neg ht]
        exact find_kill h hx
    | _ =>
      simp only [kill] at h
      rw [find_cons] at h
      split at h
      · rename_i ht
        rw [if_pos ht]
        injection h with h
        subst h
        exact ⟨rfl, fun d' o' e => by cases e⟩
      · rename_i ht
        rw [if_neg ht]
        exact find_kill h hx
theorem find_filter {α : Type} {p : Nat × α → Bool} {l : List (Nat × α)} {i : Nat} {x : α} : find (l.filter p) i = some x → (∀ y, (i, y) ∈ l → p (i, y) = false → find l i = some y → False) → find l i = some x := by
  induction l with
  | nil => intro h; cases h
  | cons e l ih =>
    obtain ⟨k, y⟩ := e
    intro h hp
    rw [find_cons]
    rw [List.filter_cons] at h
    by_cases hk : k = i
    · subst hk
      rw [if_pos rfl]
      split at h
      · rw [find_cons, if_pos rfl] at h; exact h
      · rename_i hf
        exact (hp y List.mem_cons_self (by simpa using hf) (by rw [find_cons, if_pos rfl])).elim
    · rw [if_neg hk]
      refine ih ?_ (fun z hz hpz hfz => hp z (List.mem_cons_of_mem _ hz) hpz (by rw [find_cons, if_neg hk]; exact hfz))
      split at h
      · rw [find_cons, if_neg hk] at h; exact h
      · exact h

structure Fr (W : List Nat) (s : S) (a : Act) (w : World) (s' : S) (a' : Act) (w' : World) : Prop where
  tm : ∀ t, t ∉ W → a'.tmps[t]? = a.tmps[t]?
  ro : ∀ b ∈ s.ro, b ∈ s'.ro
  df : ∃ pre, s'.df = pre ++ s.df
  hp : ∀ b ∈ s.ro, w'.heap[b]? = w.heap[b]?
  bk : ∀ d, d ∉ W → ∀ b', find s'.bx d = some b' → ∃ b, find s.bx d = some b ∧ b.b = b'.b

theorem Fr.refl (W : List Nat) (s : S) (a : Act) (w : World) : Fr W s a w s a w := ⟨fun _ _ => rfl, fun _ h => h, ⟨[], rfl⟩, fun _ _ => rfl, fun _ _ b' h => ⟨b', h, rfl⟩⟩
theorem Fr.trans {W : List Nat} {s s' s'' : S} {a a' a'' : Act} {w w' w'' : World} (h : Fr W s a w s' a' w') (k : Fr W s' a' w' s'' a'' w'') : Fr W s a w s'' a'' w'' :=
  ⟨fun t ht => (k.tm t ht).trans (h.tm t ht), fun b hb => k.ro b (h.ro b hb), let ⟨p, hp⟩ := h.df; let ⟨q, hq⟩ := k.df; ⟨q ++ p, by rw [hq, hp, List.append_assoc]⟩, fun b hb => (k.hp b (h.ro b hb)).trans (h.hp b hb), fun d hd b' hb' => by
    obtain ⟨b1, h1, e1⟩ := k.bk d hd b' hb'
    obtain ⟨b2, h2, e2⟩ := h.bk d hd b1 h1
    exact ⟨b2, h2, e2.trans e1⟩⟩
theorem Fr.mono {W W' : List Nat} {s s' : S} {a a' : Act} {w w' : World} (h : Fr W s a w s' a' w') (hs : ∀ t ∈ W, t ∈ W') : Fr W' s a w s' a' w' :=
  ⟨fun t ht => h.tm t (fun hm => ht (hs t hm)), h.ro, h.df, h.hp, fun d hd => h.bk d (fun hm => hd (hs d hm))⟩
theorem Fr.same {W : List Nat} {s s' : S} {a a' : Act} {w w' : World} (h : Fr W s a w s' a' w') {p : Prop} (hk : dfOk s s' p) : s'.df = s.df ∧ p := by
  unfold dfOk at hk
  split at hk
  · rename_i hb
    have hl := Nat.eq_of_beq_eq_true hb
    obtain ⟨pre, hp⟩ := h.df
    rw [hp, List.length_append] at hl
    have : pre = [] := List.eq_nil_of_length_eq_zero (by omega)
    exact ⟨by rw [hp, this]; rfl, hk⟩
  · exact hk.elim

section
variable {P : Program} {n : Nat} {s : S} {a : Act} {w w' : World}

theorem Rel.world (h : Rel P n s a w) (hr : ∀ b ∈ s.ro, w'.heap[b]? = w.heap[b]?) (hl : ∀ d b, find s.bx d = some b → b.m = .rw → w'.heap[b.b]? = w.heap[b.b]?) : Rel P n s a w' := by
  refine ⟨h.sl, h.size, h.df, fun D hD => ⟨(h.dfw D hD).1, by rw [hr D (h.dfw D hD).1]; exact (h.dfw D hD).2⟩, h.dfn, fun d b hb => ⟨fun hm => ?_, (h.bx d b hb).2⟩, h.dist, fun b hb => ?_⟩
  · obtain ⟨T, hT⟩ := (h.bx d b hb).1 hm
    refine ⟨T, ?_⟩
    cases hbm : b.m with
    | rw => rw [hl d b hb hbm]; exact hT
    | ro => rw [hr b.b ((h.bx d b hb).2.2 hbm)]; exact hT
    | out => exact absurd hbm hm
  · have := h.ro b hb
    have e := hr b hb
    rw [Array.getElem?_eq_getElem this] at e
    exact (Array.getElem?_eq_some_iff.1 e).1

theorem Rel.ext (h : Rel P n s a w) (e : Ext w w') : Rel P n s a w' :=
  h.world (fun b hb => e.blk (h.ro b hb)) (fun d b hb hm => e.blk (blk_lt ((h.bx d b hb).1 (by rw [hm]; intro h; cases h))))

theorem Fr.ext {W : List Nat} {s0 : S} {a0 : Act} {w0 : World} (f : Fr W s0 a0 w0 s a w) (h : Rel P n s a w) (e : Ext w w') : Fr W s0 a0 w0 s a w' :=
  ⟨f.tm, f.ro, f.df, fun b hb => (e.blk (h.ro b (f.ro b hb))).trans (f.hp b hb), f.bk⟩

theorem Rel.put (h : Rel P n s a w) {d : Nat} (hd : d < n) {x : X} (hx : LocOk P s x) : Rel P n (s.put d x) (a.put (some d) (conc s.bx x)) w := by
  refine ⟨fun t y hy hyb => ?_, by simp [Act.put, h.size], h.df, h.dfw, h.dfn, h.bx, h.dist, h.ro⟩
  have hy : find ((d, x) :: s.sl) t = some y := hy
  rw [find_cons] at hy
  by_cases hdt : d = t
  · subst hdt
    rw [if_pos rfl] at hy
    injection hy with hy
    subst hy
    refine ⟨?_, hx⟩
    have : d < a.tmps.size := by rw [h.size]; exact hd
    simp [Act.put, this, S.put]
  · rw [if_neg hdt] at hy
    obtain ⟨h1, h2⟩ := h.sl t y hy hyb
    refine ⟨?_, h2⟩
    simp only [Act.put, S.put]
    rw [Array.getElem?_setIfInBounds_ne hdt]
    exact h1

theorem Rel.putO (h : Rel P n s a w) {d : Option Nat} (hd : dstOk n d = true) {x : X} (hx : LocOk P s x) : Rel P n (s.putO d x) (a.put d (conc s.bx x)) w := by
  cases d with
  | none => exact h
  | some d => exact h.put (by simpa [dstOk] using hd) hx

theorem Fr.putO {W : List Nat} {s0 : S} {a0 : Act} {w0 : World} (f : Fr W s0 a0 w0 s a w) {d : Option Nat} (hd : ∀ t, d = some t → t ∈ W) (x : X) (v : Value) : Fr W s0 a0 w0 (s.putO d x) (a.put d v) w := by
  cases d with
  | none => exact f
  | some d =>
    refine ⟨fun t ht => ?_, f.ro, f.df, f.hp, f.bk⟩
    have : d ≠ t := fun e => ht (e ▸ hd d rfl)
    simp only [Act.put]
    rw [Array.getElem?_setIfInBounds_ne this]
    exact f.tm t ht

/-- A fact on a slot that is there already. -/
theorem Rel.again (h : Rel P n s a w) {d : Nat} {x : X} (hx : find s.sl d = some x) : Rel P n (s.put d x) a w := by
  refine ⟨fun t y hy hyb => ?_, h.size, h.df, h.dfw, h.dfn, h.bx, h.dist, h.ro⟩
  have hy2 : (if d = t then some x else find s.sl t) = some y := by rw [← find_cons]; exact hy
  split at hy2
  · rename_i hdt; subst hdt
    have hy3 := Option.some.inj hy2
    subst hy3; exact h.sl d x hx hyb
  · exact h.sl t y hy2 hyb
theorem Fr.again {W : List Nat} {s0 : S} {a0 : Act} {w0 : World} (f : Fr W s0 a0 w0 s a w) (d : Nat) (x : X) : Fr W s0 a0 w0 (s.put d x) a w := ⟨f.tm, f.ro, f.df, f.hp, f.bk⟩

theorem conc_setbox {bx : List (Nat × Bx)} {d : Nat} {b b' : Bx} (hb : find bx d = some b) (he : b'.b = b.b) (x : X) : conc ((d, b') :: bx) x = conc bx x := by
  cases x with
  | loc d' off =>
    simp only [conc, find_cons]
    by_cases hd : d = d'
    · subst hd; simp [hb, he]
    · simp [hd]
  | _ => rfl

/-- A box's cells, or its mode, turn; its block stays. -/
theorem Rel.setbox (h : Rel P n s a w) {d : Nat} {b b' : Bx} (hb : find s.bx d = some b) (he : b'.b = b.b) (hblk : b'.m ≠ .out → Blk w' b'.b b'.cs) (hrw : b'.m = .rw → b'.b ∉ s.ro) (hro : b'.m = .ro → b'.b ∈ s.ro) (hm : b'.m ≠ .out → b.m ≠ .out)
    (hoth : ∀ k, k ≠ b.b ∨ b.m = .out ∨ w'.heap[k]? = w.heap[k]? → w'.heap[k]? = w.heap[k]?) (hnr : ∀ k ∈ s.ro, w'.heap[k]? = w.heap[k]?) : Rel P n (s.setbox d b') a w' := by
  refine ⟨fun t y hy hyb => ?_, h.size, h.df, fun D hD => ⟨(h.dfw D hD).1, by rw [hnr D (h.dfw D hD).1]; exact (h.dfw D hD).2⟩, h.dfn, fun d1 b1 hb1 => ?_, fun d1 d2 b1 b2 hne h1 h2 m1 m2 => ?_, fun k hk => ?_⟩
  · obtain ⟨h1, h2⟩ := h.sl t y hy hyb
    refine ⟨by simp only [S.setbox]; rw [conc_setbox hb he]; exact h1, fun d' off hx => ?_, h2.2⟩
    obtain ⟨b2, hb2⟩ := h2.1 d' off hx
    simp only [S.setbox, find_cons]
    split
    · exact ⟨_, rfl⟩
    · exact ⟨b2, hb2⟩
  · simp only [S.setbox, find_cons] at hb1
    split at hb1
    · injection hb1 with hb1; subst hb1; exact ⟨hblk, hrw, hro⟩
    · rename_i hd
      obtain ⟨g1, g2⟩ := h.bx d1 b1 hb1
      refine ⟨fun hm1 => ?_, g2⟩
      obtain ⟨T, hT⟩ := g1 hm1
      refine ⟨T, ?_⟩
      by_cases hout : b.m = .out
      · rw [hoth b1.b (.inr (.inl hout))]; exact hT
      · rw [hoth b1.b (.inl (fun e => h.dist d1 d b1 b (fun e => hd e.symm) hb1 hb hm1 hout e))]; exact hT
  · simp only [S.setbox, find_cons] at h1 h2
    split at h1 <;> split at h2
    · rename_i e1 e2; exact absurd (e1.symm.trans e2) hne
    · injection h1 with h1; subst h1
      rename_i e1 e2
      rw [he]
      exact h.dist d d2 b b2 e2 hb h2 (hm m1) m2
    · injection h2 with h2; subst h2
      rename_i e1 e2
      rw [he]
      exact h.dist d1 d b1 b (fun e => e1 e.symm) h1 hb m1 (hm m2)
    · exact h.dist d1 d2 b1 b2 hne h1 h2 m1 m2
  · have := h.ro k hk
    have e := hnr k hk
    rw [Array.getElem?_eq_getElem this] at e
    exact (Array.getElem?_eq_some_iff.1 e).1

theorem Fr.setbox {s : S} {a : Act} {w w' : World} {W : List Nat} {s0 : S} {a0 : Act} {w0 : World} (f : Fr W s0 a0 w0 s a w) {d : Nat} {b b' : Bx} (hb : find s.bx d = some b) (he : b'.b = b.b) (hnr : ∀ k ∈ s.ro, w'.heap[k]? = w.heap[k]?) : Fr W s0 a0 w0 (s.setbox d b') a w' := by
  refine ⟨f.tm, f.ro, f.df, fun k hk => (hnr k (f.ro k hk)).trans (f.hp k hk), fun d1 hd1 b1 hb1 => ?_⟩
  simp only [S.setbox, find_cons] at hb1
  split at hb1
  · rename_i e; subst e
    injection hb1 with hb1; subst hb1
    obtain ⟨b2, h2, e2⟩ := f.bk d hd1 b hb
    exact ⟨b2, h2, by rw [he]; exact e2⟩
  · exact f.bk d1 hd1 b1 hb1

/-- A new box. -/
theorem Rel.newboxZ (h' : Rel P n s a w') {d : Nat} (hd : d < n) {k : Nat} {cs : List Value} (hblk : Blk w' k cs) (hne : ∀ d b, find s.bx d = some b → b.m ≠ .out → b.b ≠ k) (hnr : k ∉ s.ro) : Rel P n (s.newbox d k cs) (a.put (some d) (.pointer (some ⟨k, 0, none⟩))) w' := by
  have h := h'
  refine ⟨fun t y hy hyb => ?_, by simp [Act.put, h.size], h.df, h'.dfw, h.dfn, fun d1 b1 hb1 => ?_, fun d1 d2 b1 b2 hne' h1 h2 m1 m2 => ?_, h'.ro⟩
  · simp only [S.newbox, find_cons] at hy
    by_cases hdt : d = t
    · subst hdt
      rw [if_pos rfl] at hy
      injection hy with hy
      subst hy
      have : d < a.tmps.size := by rw [h.size]; exact hd
      refine ⟨by simp [Act.put, this, S.newbox, conc, find_cons], fun d' off hx => ?_, xok_loc _ _⟩
      injection hx with hx _; subst hx
      exact ⟨_, by simp [S.newbox, find_cons]; rfl⟩
    · rw [if_neg hdt] at hy
      obtain ⟨hy, hnl⟩ := find_kill hy hyb
      have hnl : ∀ off, y ≠ .loc d off := fun off hx => by have := hnl d off hx; simp at this
      obtain ⟨h1, h2⟩ := h.sl t y hy hyb
      have hc : conc (s.newbox d k cs).bx y = conc s.bx y := by
        cases y with
        | loc d' off =>
          simp only [conc, S.newbox, find_cons]
          by_cases hdd : d = d'
          · subst hdd; exact absurd rfl (hnl off)
          · simp [hdd]
        | _ => rfl
      refine ⟨?_, fun d' off hx => ?_, h2.2⟩
      · rw [hc]
        simp only [Act.put]
        rw [Array.getElem?_setIfInBounds_ne hdt]
        exact h1
      · obtain ⟨b2, hb2⟩ := h2.1 d' off hx
        simp only [S.newbox, find_cons]
        split
        · exact ⟨_, rfl⟩
        · exact ⟨b2, hb2⟩
  · simp only [S.newbox, find_cons] at hb1
    split at hb1
    · injection hb1 with hb1; subst hb1
      exact ⟨fun _ => hblk, fun _ hm => hnr hm, fun hm => by cases hm⟩
    · exact h'.bx d1 b1 hb1
  · simp only [S.newbox, find_cons] at h1 h2
    split at h1 <;> split at h2
    · rename_i e1 e2; exact absurd (e1.symm.trans e2) hne'
    · injection h1 with h1; subst h1
      exact fun e => hne d2 b2 h2 m2 e.symm
    · injection h2 with h2; subst h2
      exact hne d1 b1 h1 m1
    · exact h.dist d1 d2 b1 b2 hne' h1 h2 m1 m2
theorem Rel.newbox (h : Rel P n s a w) {d : Nat} (hd : d < n) {k : Nat} {cs : List Value} (e : Ext w w') (hk : w.heap.size ≤ k) (hblk : Blk w' k cs) : Rel P n (s.newbox d k cs) (a.put (some d) (.pointer (some ⟨k, 0, none⟩))) w' :=
  (h.ext e).newboxZ hd hblk (fun d b hb hm e => by have := blk_lt ((h.bx d b hb).1 hm); omega) (fun hr => by have := h.ro _ hr; omega)
end
end Go.Sh
