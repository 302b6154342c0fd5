/- HeapKeys. -/
import Derived.Test.YthpbelgmppaafaaHeapClears
set_option maxRecDepth 100000
namespace Go.Sh
open Go.RowKit

/-- What is in, told by two lists. -/
structure Told (L : List (Int × Int)) (key inn : List Int) : Prop where
  k : key.length = 8
  i : inn.length = 8
  b : ∀ v : Nat, v < 8 → inn.getD v 0 = 0 ∨ inn.getD v 0 = 1
  m : ∀ v : Nat, v < 8 → ∀ x, ((v : Int), x) ∈ L ↔ inn.getD v 0 = 1 ∧ key.getD v 0 = x

theorem getD_set {l : List Int} {i j : Nat} {x : Int} (h : i < l.length) : (l.set i x).getD j 0 = if i = j then x else l.getD j 0 := by
  simp only [List.getD_eq_getElem?_getD, List.getElem?_set]
  split
  · rfl
  · rfl

theorem Told.set {L : List (Int × Int)} {key inn : List Int} (h : Told L key inn) {id : Nat} (hid : id < 8) (k : Int) : Told (((id : Int), k) :: rid L (id : Int)) (key.set id k) (inn.set id 1) := by
  have hk := h.k
  have hi := h.i
  refine ⟨by simp [hk], by simp [hi], fun v hv => ?_, fun v hv x => ?_⟩
  · rw [getD_set (by omega)]
    split
    · exact .inr rfl
    · exact h.b v hv
  · rw [getD_set (by omega), getD_set (by omega), List.mem_cons]
    by_cases e : id = v
    · subst e
      simp [rid, List.mem_filter, eq_comm]
    · rw [if_neg e, if_neg e, ← h.m v hv x]
      simp only [rid, List.mem_filter, bne_iff_ne, Prod.mk.injEq]
      constructor
      · rintro (⟨h1, _⟩ | ⟨h1, _⟩)
        · omega
        · exact h1
      · intro h1; exact .inr ⟨h1, by omega⟩

theorem Told.drop {L : List (Int × Int)} {key inn : List Int} (h : Told L key inn) {id : Nat} (hid : id < 8) : Told (rid L (id : Int)) key (inn.set id 0) := by
  have hi := h.i
  refine ⟨h.k, by simp [hi], fun v hv => ?_, fun v hv x => ?_⟩
  · rw [getD_set (by omega)]
    split
    · exact .inl rfl
    · exact h.b v hv
  · rw [getD_set (by omega)]
    simp only [rid, List.mem_filter, bne_iff_ne]
    by_cases e : id = v
    · subst e; simp
    · rw [if_neg e, ← h.m v hv x]
      constructor
      · exact fun h1 => h1.1
      · exact fun h1 => ⟨h1, by omega⟩

theorem Told.same {L : List (Int × Int)} {key inn : List Int} (h : Told L key inn) {id : Nat} (hid : id < 8) (h0 : inn.getD id 0 = 0) : inn.set id 0 = inn := by
  have hi := h.i
  apply List.ext_getElem?
  intro j
  rw [List.getElem?_set]
  split
  · rename_i e; subst e
    rw [List.getD_eq_getElem?_getD, List.getElem?_eq_getElem (by omega)] at h0
    simp at h0
    rw [if_pos (by omega), List.getElem?_eq_getElem (by omega), h0]
  · rfl

/-- The law's own memory. -/
structure KeysM (w0 w : World) (p : Option Addr) (s5 s7 : SV) (b5 b7 : Nat) (L : List (Int × Int)) (F : Nat → Prop) (key inn : List Int) : Prop where
  e : Ext w0 w
  h : HeapA w p 8 L F
  f : Since w0 F
  o5 : Own RI w s5 key
  o7 : Own RI w s7 inn
  a5 : s5.a = some ⟨b5, 0, none⟩
  a7 : s7.a = some ⟨b7, 0, none⟩
  n5 : ¬ F b5
  n7 : ¬ F b7
  ne : b5 ≠ b7
  g5 : w0.heap.size ≤ b5
  g7 : w0.heap.size ≤ b7

section
variable {w0 w w' : World} {p : Option Addr} {s5 s7 : SV} {b5 b7 : Nat} {L : List (Int × Int)} {F : Nat → Prop} {key inn : List Int}
theorem KeysM.blk5 (h : KeysM w0 w p s5 s7 b5 b7 L F key inn) {k : Nat} (hk : s5.blk k) : k = b5 := by
  obtain ⟨q, hq, rfl⟩ := hk; rw [h.a5] at hq; cases hq; rfl
theorem KeysM.blk7 (h : KeysM w0 w p s5 s7 b5 b7 L F key inn) {k : Nat} (hk : s7.blk k) : k = b7 := by
  obtain ⟨q, hq, rfl⟩ := hk; rw [h.a7] at hq; cases hq; rfl
theorem KeysM.ext (h : KeysM w0 w p s5 s7 b5 b7 L F key inn) (e : Ext w w') : KeysM w0 w' p s5 s7 b5 b7 L F key inn :=
  ⟨h.e.trans e, h.h.ext e, h.f, h.o5.ext e, h.o7.ext e, h.a5, h.a7, h.n5, h.n7, h.ne, h.g5, h.g7⟩
theorem KeysM.off (h : KeysM w0 w p s5 s7 b5 b7 L F key inn) {b : Nat} (o : Off b w w') (hb : w0.heap.size ≤ b) (h5 : b ≠ b5) (h7 : b ≠ b7) (hF : ¬ F b) : KeysM w0 w' p s5 s7 b5 b7 L F key inn := by
  have c : Chg (fun k => k = b) w w' := .of_off o rfl
  exact ⟨((Chg.of_ext (F := fun k => k = b) h.e).trans c (fun _ _ h => h)).ext fun i hi e => by omega, h.h.chg c fun k hk e => hF (e ▸ hk), h.f, h.o5.chg c fun k hk e => h5 (by rw [← e, h.blk5 hk]), h.o7.chg c fun k hk e => h7 (by rw [← e, h.blk7 hk]), h.a5, h.a7, h.n5, h.n7, h.ne, h.g5, h.g7⟩
theorem KeysM.heap (h : KeysM w0 w p s5 s7 b5 b7 L F key inn) {L' : List (Int × Int)} {F' : Nat → Prop} (c : Chg F w w') (f : ∀ k, F' k → F k ∨ w.heap.size ≤ k) (h' : HeapA w' p 8 L' F') : KeysM w0 w' p s5 s7 b5 b7 L' F' key inn := by
  have l5 := h.o5.lt ⟨_, h.a5, rfl⟩
  have l7 := h.o7.lt ⟨_, h.a7, rfl⟩
  exact ⟨h.f.ext h.e c, h', h.f.grow h.e f, h.o5.chg c fun k hk hF => h.n5 (h.blk5 hk ▸ hF), h.o7.chg c fun k hk hF => h.n7 (h.blk7 hk ▸ hF), h.a5, h.a7,
    fun hF => (f _ hF).elim h.n5 fun h' => by simp at l5; omega, fun hF => (f _ hF).elim h.n7 fun h' => by simp at l7; omega, h.ne, h.g5, h.g7⟩

theorem KeysM.put7 (h : KeysM w0 w p s5 s7 b5 b7 L F key inn) {i : Nat} (hi : i < inn.length) {v : Int} {K : World → Prop} (hk : ∀ w', Off b7 w w' → KeysM w0 w' p s5 s7 b5 b7 L F key (inn.set i v) → K w') :
    Idx s7.a s7.len (i : Int) 1 (fun a => stL w a [.int .i64 v] 0 K) := by
  refine h.o7.put (i := (i : Int)) (by omega) (by simpa using hi) fun b' hb' hput => ?_
  have hbb : b' = b7 := h.blk7 ⟨_, hb', rfl⟩
  subst hbb
  refine hput v w _ h.o7 fun w1 o1 O1 => hk w1 o1 ?_
  have c : Chg (fun k => k = b') w w1 := .of_off o1 rfl
  have hg := h.g7
  exact ⟨((Chg.of_ext (F := fun k => k = b') h.e).trans c (fun _ _ h => h)).ext fun i hi e => by omega, h.h.chg c fun k hk e => h.n7 (e ▸ hk), h.f, h.o5.chg c fun k hk e => h.ne (by rw [← h.blk5 hk, e]), by simpa using O1, h.a5, h.a7, h.n5, h.n7, h.ne, h.g5, h.g7⟩
theorem KeysM.put5 (h : KeysM w0 w p s5 s7 b5 b7 L F key inn) {i : Nat} (hi : i < key.length) {v : Int} {K : World → Prop} (hk : ∀ w', Off b5 w w' → KeysM w0 w' p s5 s7 b5 b7 L F (key.set i v) inn → K w') :
    Idx s5.a s5.len (i : Int) 1 (fun a => stL w a [.int .i64 v] 0 K) := by
  refine h.o5.put (i := (i : Int)) (by omega) (by simpa using hi) fun b' hb' hput => ?_
  have hbb : b' = b5 := h.blk5 ⟨_, hb', rfl⟩
  subst hbb
  refine hput v w _ h.o5 fun w1 o1 O1 => hk w1 o1 ?_
  have c : Chg (fun k => k = b') w w1 := .of_off o1 rfl
  have hg := h.g5
  exact ⟨((Chg.of_ext (F := fun k => k = b') h.e).trans c (fun _ _ h => h)).ext fun i hi e => by omega, h.h.chg c fun k hk e => h.n5 (e ▸ hk), h.f, by simpa using O1, h.o7.chg c fun k hk e => h.ne (by rw [← h.blk7 hk, e]), h.a5, h.a7, h.n5, h.n7, h.ne, h.g5, h.g7⟩
end

theorem int_idxb {w : World} {s : SV} {xs : List Int} (h : View RI w s xs) {i : Nat} (hl : i < xs.length) {K : Addr → Prop}
    (hk : ∀ a, s.blk a.block → w.cell? a = some (.int .i64 xs[i]) → K a) : Idx s.a s.len (i : Int) 1 K := by
  obtain ⟨p, hp, hc⟩ := h.at_ i _ (List.getElem?_eq_getElem hl)
  have hs := h.spot (fun e => by subst e; simp at hl) p hp
  refine ⟨p, hp, by omega, by rw [h.len]; omega, ?_⟩
  rw [add_add _ hs]
  refine hk _ ⟨p, hp, rfl⟩ ?_
  have := hc 0 _ rfl
  simpa [RI] using this

theorem getD_get {l : List Int} {i : Nat} (h : i < l.length) : l.getD i 0 = l[i] := by
  simp [List.getD_eq_getElem?_getD, List.getElem?_eq_getElem h]

/-- Those that are in, by the lists. -/
def ins (key inn : List Int) (n : Nat) : List (Int × Int) := ((List.range n).filter (fun u => inn.getD u 0 == 1)).map (fun (u : Nat) => ((u : Int), key.getD u 0))
theorem ins_mem {key inn : List Int} {n : Nat} {e : Int × Int} : e ∈ ins key inn n ↔ ∃ u : Nat, u < n ∧ inn.getD u 0 = 1 ∧ e = ((u : Int), key.getD u 0) := by
  simp only [ins, List.mem_map, List.mem_filter, List.mem_range, beq_iff_eq]
  constructor
  · rintro ⟨u, ⟨h1, h2⟩, rfl⟩; exact ⟨u, h1, h2, rfl⟩
  · rintro ⟨u, h1, h2, rfl⟩; exact ⟨u, ⟨h1, h2⟩, rfl⟩
theorem ins_succ (key inn : List Int) (n : Nat) : ins key inn (n + 1) = ins key inn n ++ (if inn.getD n 0 = 1 then [((n : Int), key.getD n 0)] else []) := by
  unfold ins
  rw [List.range_succ, List.filter_append, List.map_append]
  congr 1
  by_cases h : inn.getD n 0 = 1
  · rw [if_pos h, List.filter_cons_of_pos (by simpa using h)]; rfl
  · rw [if_neg h, List.filter_cons_of_neg (by simpa using h)]; rfl
theorem ins_nodup (key inn : List Int) : ∀ n : Nat, (ins key inn n).Nodup
  | 0 => by simp [ins]
  | n + 1 => by
    rw [ins_succ]
    split
    · rw [List.nodup_append]
      refine ⟨ins_nodup key inn n, by simp, fun a ha b hb => ?_⟩
      obtain ⟨u, hu, _, rfl⟩ := ins_mem.1 ha
      simp only [List.mem_singleton] at hb
      subst hb
      intro e
      injection e with e1 _
      omega
    · rw [List.append_nil]; exact ins_nodup key inn n
theorem Told.perm {L : List (Int × Int)} {key inn : List Int} (h : Told L key inn) (hn : (L.map (·.1)).Nodup) (hr : ∀ e ∈ L, 0 ≤ e.1 ∧ e.1.toNat < 8) : L.Perm (ins key inn 8) := by
  have hnd : L.Nodup := by
    rw [List.nodup_iff_pairwise_ne, List.pairwise_map] at hn
    rw [List.nodup_iff_pairwise_ne]
    exact hn.imp fun hne e => hne (by rw [e])
  rw [List.perm_ext_iff_of_nodup hnd (ins_nodup _ _ _)]
  intro e
  rw [ins_mem]
  constructor
  · intro he
    obtain ⟨h0, h8⟩ := hr e he
    obtain ⟨a, x⟩ := e
    simp only at h0 h8
    obtain ⟨u, rfl⟩ : ∃ u : Nat, a = u := ⟨a.toNat, by omega⟩
    have hu : u < 8 := by simpa using h8
    obtain ⟨h1, h2⟩ := (h.m u hu x).1 he
    exact ⟨u, hu, h1, by rw [h2]⟩
  · rintro ⟨u, hu, h1, rfl⟩
    exact (h.m u hu _).2 ⟨h1, rfl⟩

theorem HeapKeys_ok {w : World} {l : SV} {ds : List (Int × Int × Int)} {K : Bool → World → Prop} (h : View RD w l ds) (hk : ∀ w', Ext w w' → K true w') : sh_postroadlaw03_HeapKeys l K w := by
  unfold sh_postroadlaw03_HeapKeys
  have hlen := h.len
  rw [Bool.cond_decide]
  by_cases hl : (l.len : Int) > 60
  · rw [if_pos hl]; exact known_ok hk
  rw [if_neg hl]
  refine New_ok (by decide) (by decide) fun p w4 F4 e4 h4 f4 => ?_
  refine Own.mk (R := RI) (bytes := 8) (by decide) (by decide) (by decide) fun b5 w6 e6 hb5 O5 => ?_
  refine Own.mk (R := RI) (bytes := 8) (by decide) (by decide) (by decide) fun b7 w8 e8 hb7 O7 => ?_
  generalize hs5 : (⟨some ⟨b5, 0, none⟩, (8 : Int).toNat, (8 : Int).toNat⟩ : SV) = s5 at *
  generalize hs7 : (⟨some ⟨b7, 0, none⟩, (8 : Int).toNat, (8 : Int).toNat⟩ : SV) = s7 at *
  have l5 : b5 < w6.heap.size := O5.lt ⟨⟨b5, 0, none⟩, by rw [← hs5], rfl⟩
  have z4 := e4.size
  have z6 := e6.size
  have k8 : KeysM w w8 p s5 s7 b5 b7 [] F4 (List.replicate 8 0) (List.replicate 8 0) :=
    ⟨(e4.trans e6).trans e8, (h4.ext e6).ext e8, f4, O5.ext e8, O7, by rw [← hs5], by rw [← hs7], fun hF => by have := h4.lt hF; omega, fun hF => by have := h4.lt hF; omega, by omega, by omega, by omega⟩
  have t8 : Told [] (List.replicate 8 0) (List.replicate 8 0) := by
    refine ⟨rfl, rfl, fun v hv => .inl ?_, fun v hv x => ?_⟩
    · rw [List.getD_eq_getElem?_getD, List.getElem?_replicate]; split <;> rfl
    · have : (List.replicate 8 (0 : Int)).getD v 0 = 0 := by
        rw [List.getD_eq_getElem?_getD, List.getElem?_replicate]; split <;> rfl
      rw [this]; simp
  refine Join.cut (fun _ w1 => ∃ L F key inn, KeysM w w1 p s5 s7 b5 b7 L F key inn ∧ Told L key inn) (fun J hJ => ?_) ?_
  · refine LoopT.gh (γ := Nat × List (Int × Int) × (Nat → Prop) × List Int × List Int) (fun gh (s : Int × Unit) w1 => s.1 = gh.1 ∧ gh.1 ≤ ds.length ∧ KeysM w w1 p s5 s7 b5 b7 gh.2.1 gh.2.2.1 gh.2.2.2.1 gh.2.2.2.2 ∧ Told gh.2.1 gh.2.2.2.1 gh.2.2.2.2)
      (fun gh => ds.length - gh.1) (0, [], F4, _, _) ⟨rfl, Nat.zero_le _, k8, t8⟩ ?_
    rintro ⟨i, L, F, key, inn⟩ ⟨x, _⟩ w1 ⟨hx, hi, km, tl⟩ J1 hJ1
    simp only at hx hi km tl ⊢
    subst hx
    rw [Bool.cond_decide]
    by_cases hlt : (i : Int) < (l.len : Int)
    · rw [if_pos hlt]
      refine Join.cut (fun _ w2 => ∃ L F key inn, KeysM w w2 p s5 s7 b5 b7 L F key inn ∧ Told L key inn) (fun J2 hJ2 => ?_)
        (fun _ w2 ⟨L2, F2, key2, inn2, q1, q2⟩ => hJ1 (i + 1, L2, F2, key2, inn2) _ _ ⟨wsucc (m := 61) (by omega) (by omega), by simp only; omega, q1, q2⟩ (by simp only; omega))
      refine do_idx (h.ext km.e) (by omega) fun a a0 a1 a2 => ⟨_, a0, _, a1, _, a2, ?_⟩
      generalize ds[i].1 = kind
      generalize ds[i].2.1 = id
      generalize ds[i].2.2 = k
      intro b18 w19 e19 hb18 hb18' w20 o20
      have hbw : w.heap.size ≤ b18 := by have := km.e.size; omega
      have l5' := km.o5.lt ⟨_, km.a5, rfl⟩
      have l7' := km.o7.lt ⟨_, km.a7, rfl⟩
      simp only at l5' l7'
      have nF : ¬ F b18 := fun hF => by have := km.h.lt hF; omega
      have km20 := (km.ext e19).off o20 hbw (by omega) (by omega) nF
      have hb20 : b18 < w20.heap.size := by rw [o20.size]; exact hb18'
      have keep0 : Keeps [b18] w20 w20 := fun c hc => rfl
      have bad : ¬ (0 ≤ id ∧ id.toNat < 8) → sh_heap_Heap_Set p id k (fun t21 w22 => Keeps [b18] w20 w22 ∧ (cond t21 (K false w22) (sh_heap_Heap_Drop p id (fun t23 w24 => Keeps [b18] w22 w24 ∧ (cond t23 (K false w24) (J2 () w24))) w22))) w20 := fun hr => by
        refine Set_out km20.h hr ⟨keep0, ?_⟩
        simp only [cond_false]
        refine Drop_ok km20.h (fun key hin => absurd (km20.h.range hin) hr) (fun _ => ⟨keep0, ?_⟩)
        simp only [cond_false]
        exact hJ2 _ _ ⟨L, F, key, inn, km20, tl⟩
      rw [Bool.cond_decide]
      by_cases h0 : id < 0
      · rw [if_pos h0]; exact bad (by omega)
      rw [if_neg h0, Bool.cond_decide]
      by_cases h7 : id > 7
      · rw [if_pos h7]; exact bad (by omega)
      rw [if_neg h7]
      obtain ⟨n, rfl⟩ : ∃ n : Nat, id = n := ⟨id.toNat, by omega⟩
      have hn : n < 8 := by omega
      have hi8 := tl.i
      have hk8 := tl.k
      have hin := getD_get (l := inn) (i := n) (by omega)
      by_cases h3 : kind = 3
      · subst h3
        simp only [show ((3 : Int) == 3) = true from rfl, cond_true]
        refine int_idxb km20.o7.view (by omega) fun a hab ha => ⟨_, ha, ?_⟩
        intro w33 e33
        have km33 := km20.ext e33
        have hb33 : b18 < w33.heap.size := Nat.lt_of_lt_of_le hb20 e33.size
        have fin : ∀ w34 t L' F', KeysM w w34 p s5 s7 b5 b7 L' F' key inn → Keeps [b18] w33 w34 → b18 < w34.heap.size → t = decide (inn.getD n 0 = 1) → Told L' key (inn.set n 0) → w34.cell? a = some (.int .i64 inn[n]) →
            (Keeps [b18] w33 w34 ∧ ((∃ y31 : Int, w34.cell? a = some (.int .i64 y31) ∧ ((.int .i64 y31) : Value) = (.int .i64 inn[n])) ∧
              (∀ w35, Ext w34 w35 → (cond (!(t == (inn[n] == (1 : Int)))) (K false w35) (Idx s7.a s7.len (n : Int) 1 (fun a36 => (stL w35 a36 [(.int .i64 (0 : Int))] 0 (fun w37 => (Keeps [b18] w35 w37 ∧ (J2 () w37)))))))))) := by
          intro w34 t L' F' k34 kp hb34 ht t34 hc
          refine ⟨kp, ⟨_, hc, rfl⟩, fun w35 e35 => ?_⟩
          rw [ht, hin]
          have : (decide (inn[n] = 1) == (inn[n] == (1 : Int))) = true := by
            by_cases e1 : inn[n] = 1 <;> simp [e1]
          rw [this]
          simp only [Bool.not_true, cond_false]
          refine (k34.ext e35).put7 (by omega) fun w37 o37 k37 => ⟨fun c hc => ?_, hJ2 _ _ ⟨L', F', key, _, k37, t34⟩⟩
          simp at hc; subst hc
          exact o37.block _ (by omega)
        have hc33 : w33.cell? a = some (.int .i64 inn[n]) := e33.cell ha
        refine Drop_ok km33.h (fun kk hin1 w34 F34 c34 f34 h34 => ?_) (fun hno => ?_)
        · refine fin w34 true _ F34 (km33.heap c34 f34 h34) (c34.keep hb33 nF) (Nat.lt_of_lt_of_le hb33 c34.size) ?_ (tl.drop hn) ?_
          · rw [((tl.m n hn kk).1 hin1).1]; rfl
          · exact c34.cell hc33 (by rw [km20.blk7 hab]; exact km20.n7)
        · have h0' : inn.getD n 0 = 0 := (tl.b n hn).resolve_right fun h1 => hno _ ((tl.m n hn _).2 ⟨h1, rfl⟩)
          refine fin w33 false L F km33 (fun c hc => rfl) hb33 (by rw [h0']; rfl) ?_ hc33
          rw [tl.same hn h0']; exact tl
      · rw [show (kind == 3) = false by simpa using h3, cond_false]
        refine Set_ok km20.h (by omega) (by simpa using hn) fun w39 F39 c39 f39 h39 => ?_
        have k39 := km20.heap c39 f39 h39
        have hb39 : b18 < w39.heap.size := Nat.lt_of_lt_of_le hb20 c39.size
        refine ⟨c39.keep hb20 nF, ?_⟩
        simp only [Bool.not_true, cond_false]
        refine k39.put7 (by omega) fun w41 o41 k41 => ⟨fun c hc => ?_, ?_⟩
        · simp at hc; subst hc; exact o41.block _ (by omega)
        refine k41.put5 (by omega) fun w43 o43 k43 => ⟨fun c hc => ?_, ?_⟩
        · simp at hc; subst hc; exact o43.block _ (by omega)
        exact hJ2 _ _ ⟨_, F39, _, _, k43, tl.set hn k⟩
    · rw [if_neg hlt]
      exact hJ _ _ ⟨L, F, key, inn, km, tl⟩
  · rintro _ w47 ⟨L, F, key, inn, km, tl⟩
    have hi8 := tl.i
    have hk8 := tl.k
    have hpm := tl.perm km.h.nodup fun e he => km.h.range he
    refine Join.cut (fun (x : Int × Int × Unit) w1 => KeysM w w1 p s5 s7 b5 b7 L F key inn ∧ x.2.1 = ((ins key inn 8).length : Int) ∧ ((x.1 = -1 ∧ ins key inn 8 = []) ∨ ∃ q : Nat, x.1 = q ∧ q < 8 ∧ Least (ins key inn 8) ((q : Int), key.getD q 0))) (fun J hJ => ?_) ?_
    · refine LoopT.gh (γ := Nat) (fun v (s : Int × Int × Int × Unit) w1 => s.2.2.1 = v ∧ v ≤ 8 ∧ KeysM w w1 p s5 s7 b5 b7 L F key inn ∧ s.2.1 = ((ins key inn v).length : Int) ∧ ((s.1 = -1 ∧ ins key inn v = []) ∨ ∃ q : Nat, s.1 = q ∧ q < 8 ∧ Least (ins key inn v) ((q : Int), key.getD q 0))) (fun v => 8 - v) 0
        ⟨rfl, by omega, km, rfl, .inl ⟨rfl, rfl⟩⟩ ?_
      rintro v ⟨best, n, x, _⟩ w1 ⟨hx, hv, k1, hn, hb⟩ J1 hJ1
      simp only at hx hn hb ⊢
      subst hx hn
      rw [Bool.cond_decide]
      by_cases hlt : (v : Int) < 8
      · rw [if_pos hlt]
        have hv8 : v < 8 := by omega
        have hgi := getD_get (l := inn) (i := v) (by omega)
        have hgk := getD_get (l := key) (i := v) (by omega)
        have hle : (ins key inn v).length ≤ 8 := by
          have : (ins key inn v).length ≤ (List.range v).length := by unfold ins; rw [List.length_map]; exact List.length_filter_le _ _
          simp at this; omega
        have hbt := tl.b v hv8
        have hsucc := ins_succ key inn v
        refine Join.cut (fun (x : Int × Int × Unit) w2 => KeysM w w2 p s5 s7 b5 b7 L F key inn ∧ x.2.1 = ((ins key inn (v + 1)).length : Int) ∧ ((x.1 = -1 ∧ ins key inn (v + 1) = []) ∨ ∃ q : Nat, x.1 = q ∧ q < 8 ∧ Least (ins key inn (v + 1)) ((q : Int), key.getD q 0))) (fun J2 hJ2 => ?_)
          (fun ⟨b', n', _⟩ w2 ⟨q1, q2, q3⟩ => hJ1 (v + 1) _ _ ⟨wsucc (m := 9) (by omega) (by omega), by omega, q1, q2, q3⟩ (by omega))
        refine Key_ok k1.h (fun kk hin w2 e2 => ?_) (fun hno => ?_)
        · obtain ⟨hi1, hkk⟩ := (tl.m v hv8 kk).1 hin
          have k2 := k1.ext e2
          refine Join.cut (fun _ w3 => w3 = w2) (fun J3 hJ3 => ?_) ?_
          · refine int_idx k2.o7.view (by omega) fun a ha => ⟨_, ha, ?_⟩
            rw [← hgi, hi1]
            simp only [show ((1 : Int) == 1) = true from rfl, beq_self_eq_true, Bool.not_true, cond_false, cond_true]
            refine int_idx k2.o5.view (by omega) fun a ha => ⟨_, ha, ?_⟩
            rw [← hgk, hkk]
            simp only [bne_self_eq_false, cond_false]
            exact hJ3 _ _ rfl
          · rintro _ w3 rfl
            refine int_idx k2.o7.view (by omega) fun a ha => ⟨_, ha, ?_⟩
            rw [← hgi, hi1]
            rw [hi1, if_pos rfl] at hsucc
            have hlen2 : IntKind.i64.wrap (((ins key inn v).length : Int) + 1) = ((ins key inn (v + 1)).length : Int) := by
              rw [w64 (by omega) (by omega), hsucc]; simp
            rw [hlen2]
            simp only [cond_true]
            rw [Bool.cond_decide]
            rcases hb with ⟨rfl, hnil⟩ | ⟨q, rfl, hq, hleast⟩
            · rw [if_pos (by omega)]
              refine hJ2 _ _ ⟨k2, rfl, .inr ⟨v, rfl, hv8, ?_⟩⟩
              rw [hsucc, hnil]
              exact ⟨by simp, fun y hy => by simp at hy; subst hy; exact eLt_irrefl _⟩
            · rw [if_neg (by omega)]
              have hgq := getD_get (l := key) (i := q) (by omega)
              obtain ⟨u, hu, _, hqu⟩ := ins_mem.1 hleast.1
              injection hqu with hqu1 _
              have hqv : q < v := by omega
              refine int_idx k2.o5.view (by omega) fun a ha => ⟨_, ha, ?_⟩
              rw [← hgq, Bool.cond_decide]
              by_cases hlt3 : kk < key.getD q 0
              · rw [if_pos hlt3]
                refine hJ2 _ _ ⟨k2, rfl, .inr ⟨v, rfl, hv8, ?_⟩⟩
                rw [hsucc]
                refine ⟨by simp, fun y hy => ?_⟩
                rcases List.mem_append.1 hy with hy | hy
                · have := hleast.2 y hy
                  refine eLt_trans ?_ this
                  unfold eLt
                  simp only [hkk, Bool.or_eq_false_iff, Bool.and_eq_false_iff, decide_eq_false_iff_not, beq_eq_false_iff_ne, ne_eq]
                  omega
                · simp at hy; subst hy; exact eLt_irrefl _
              · rw [if_neg hlt3]
                refine hJ2 _ _ ⟨k2, rfl, .inr ⟨q, rfl, hq, ?_⟩⟩
                rw [hsucc]
                refine ⟨List.mem_append_left _ hleast.1, fun y hy => ?_⟩
                rcases List.mem_append.1 hy with hy | hy
                · exact hleast.2 y hy
                · simp only [List.mem_singleton] at hy; subst hy
                  unfold eLt
                  simp only [hkk, Bool.or_eq_false_iff, Bool.and_eq_false_iff, decide_eq_false_iff_not, beq_eq_false_iff_ne, ne_eq]
                  omega
        · have hi0 : inn.getD v 0 = 0 := hbt.resolve_right fun h1 => hno _ ((tl.m v hv8 _).2 ⟨h1, rfl⟩)
          rw [hi0, if_neg (by omega), List.append_nil] at hsucc
          refine Join.cut (fun _ w3 => w3 = w1) (fun J3 hJ3 => ?_) ?_
          · refine int_idx k1.o7.view (by omega) fun a ha => ⟨_, ha, ?_⟩
            rw [← hgi, hi0]
            simp only [show ((0 : Int) == 1) = false from rfl, beq_self_eq_true, Bool.not_true, cond_false]
            exact hJ3 _ _ rfl
          · rintro _ w3 rfl
            refine int_idx k1.o7.view (by omega) fun a ha => ⟨_, ha, ?_⟩
            rw [← hgi, hi0, Int.add_zero, w64 (by omega) (by omega)]
            simp only [cond_false]
            exact hJ2 _ _ ⟨k1, by rw [hsucc], by rw [hsucc]; exact hb⟩
      · rw [if_neg hlt]
        have : v = 8 := by omega
        subst this
        exact hJ _ _ ⟨k1, rfl, hb⟩
    · rintro ⟨best, n, _⟩ w70 ⟨k70, hn, hb⟩
      simp only at hn hb ⊢
      subst hn
      rcases hb with ⟨rfl, hnil⟩ | ⟨q, rfl, hq, hleast⟩
      · have hL : L = [] := by rw [hnil] at hpm; exact List.perm_nil.1 hpm
        subst hL
        refine First_no k70.h (Len_ok k70.h ?_)
        rw [hnil]
        simp only [List.length_nil, show (((0 : Nat) : Int) == ((0 : Nat) : Int)) = true from rfl, cond_true, show (false == decide ((-1 : Int) ≥ 0)) = true from rfl, show decide ((-1 : Int) < 0) = true from rfl]
        exact known_ok fun w' e' => hk w' (k70.e.trans e')
      · have hne : L ≠ [] := fun e => by
          subst e
          have := hpm.length_eq
          have h2 := List.length_pos_of_mem hleast.1
          simp at this; omega
        refine First_ok k70.h hne fun m w74 hm e74 => ?_
        have hmq : m = ((q : Int), key.getD q 0) := by
          have h1 := hm.min
          rw [minE_perm hpm, hleast.min] at h1
          injection h1 with h1; exact h1.symm
        subst hmq
        have k74 := k70.ext e74
        refine Len_ok k74.h ?_
        rw [hpm.length_eq]
        have hgq := getD_get (l := key) (i := q) (by omega)
        simp only [beq_self_eq_true, cond_true]
        rw [show (true == decide ((q : Int) ≥ 0)) = true by simp, cond_true, Bool.cond_decide, if_neg (by omega)]
        refine int_idx k74.o5.view (by omega) fun a ha => ⟨_, ha, ?_⟩
        rw [← hgq]
        simp only [beq_self_eq_true, cond_true]
        exact known_ok fun w' e' => hk w' (k74.e.trans e')
end Go.Sh
