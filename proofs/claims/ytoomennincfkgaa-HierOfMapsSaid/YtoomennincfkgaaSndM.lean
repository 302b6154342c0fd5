/- What 'sem1' says of maps is what they do. -/
import Derived.Test.YtoomennincfkgaaSnd3
namespace Go.Sh
open Go.RowKit

theorem keyFs_eq {P : Program} {d : Nat} {xs ys : List Int} : ∀ (fs : List Field) (i : Nat), keyFs P fs i = true → fs.length + i = xs.length → xs.length = ys.length →
    fs.foldr (fun f acc => match f.name == "_", partB P f.type (xs.map (Value.int .i64)).toArray f.offset, partB P f.type (ys.map (Value.int .i64)).toArray f.offset with
          | false, some u, some v => (match eqV P (d + 1) f.type u v, acc with | some b, some r => some (b && r) | _, _ => none)
          | _, _, _ => none) (some true) = some (xs.drop i == ys.drop i)
  | [], i, _, hl, he => by
    simp at hl
    rw [List.foldr_nil, List.drop_eq_nil_of_le (by omega), List.drop_eq_nil_of_le (by omega)]; rfl
  | f :: fs, i, h, hl, he => by
    simp only [keyFs, Bool.and_eq_true] at h
    obtain ⟨⟨⟨h1, h2⟩, h3⟩, h4⟩ := h
    simp only [List.length_cons] at hl
    have ih := keyFs_eq (P := P) (d := d) (xs := xs) (ys := ys) fs (i + 1) h4 (by omega) he
    have ht : P.underlying f.type = some (.int .i64) := by
      unfold intB at h1
      cases hu : P.underlying f.type with
      | none => rw [hu] at h1; cases h1
      | some t =>
        rw [hu] at h1
        cases t with
        | int k => cases k <;> first | rfl | cases h1
        | _ => cases h1
    have ho := Nat.eq_of_beq_eq_true h2
    have hn : (f.name == "_") = false := by simpa using h3
    have hag : isAggB P f.type = false := by unfold isAggB; rw [ht]
    have part : ∀ zs : List Int, i < zs.length → partB P f.type (zs.map (Value.int .i64)).toArray f.offset = some (.int .i64 zs[i]!) := fun zs hz => by
      unfold partB
      rw [hag, ht, ho]
      simp [hz]
    rw [List.foldr_cons, ih, hn, part xs (by omega), part ys (by omega)]
    have hx : xs.drop i = xs[i]! :: xs.drop (i + 1) := by
      rw [List.drop_eq_getElem_cons (by omega)]; simp [show i < xs.length by omega]
    have hy : ys.drop i = ys[i]! :: ys.drop (i + 1) := by
      rw [List.drop_eq_getElem_cons (by omega)]; simp [show i < ys.length by omega]
    rw [hx, hy]
    simp [eqV, ht, kEq]

theorem encK_eq {P : Program} {kt : TypeId} {ag : Bool} {n : Nat} (hk : keyB P kt = some (ag, n)) {ks ls : List Int} (h1 : ks.length = n) (h2 : ls.length = n) (w : World) :
    (Op.equal kt (encK ag ks) (encK ag ls)).run P w = .ok (ks == ls) w := by
  unfold keyB at hk
  split at hk
  · rename_i hu
    injection hk with hk; injection hk with ha hn
    subst ha hn
    obtain ⟨a, rfl⟩ := List.length_eq_one_iff.1 h1
    obtain ⟨b, rfl⟩ := List.length_eq_one_iff.1 h2
    have he : eqV P 10 kt (encK false [a]) (encK false [b]) = some (a == b) := by simp only [eqV, hu, encK, kEq]
    have := eqV_ok 9990 he w
    have e2 : ([a] == [b]) = (a == b) := by simp
    rw [e2]
    exact this
  · rename_i fs hu
    split at hk
    · rename_i hb
      injection hk with hk; injection hk with ha hn
      subst ha hn
      simp only [Bool.and_eq_true, Bool.not_eq_true'] at hb
      have he : eqV P 10 kt (encK true ks) (encK true ls) = some (ks == ls) := by
        have := keyFs_eq (P := P) (d := 8) (xs := ks) (ys := ls) fs.toList 0 hb.1.1 (by simp [h1]) (by omega)
        simp only [List.drop_zero] at this
        simp only [eqV, hu, encK, hb.1.2]
        exact this
      have := eqV_ok 9990 he w
      exact this
    · cases hk
  · cases hk

/-- Where a key stands. -/
def findM : List (List Int × Value) → List Int → Nat → Option (Nat × Value)
  | [], _, _ => none
  | p :: m, k, i => if p.1 == k then some (i, p.2) else findM m k (i + 1)
theorem findM_assoc : ∀ (m : List (List Int × Value)) (k : List Int) (i : Nat), (findM m k i).map (·.2) = assoc m k
  | [], _, _ => rfl
  | p :: m, k, i => by
    unfold findM assoc
    rw [List.find?_cons]
    cases h : p.1 == k with
    | true => simp
    | false => simpa [assoc] using findM_assoc m k (i + 1)
theorem findM_some : ∀ (m : List (List Int × Value)) (k : List Int) (i j : Nat) (v : Value), findM m k i = some (j, v) → ∃ l r, m = l ++ (k, v) :: r ∧ j = i + l.length ∧ ∀ p ∈ l, (p.1 == k) = false
  | [], _, _, _, _, h => by cases h
  | p :: m, k, i, j, v, h => by
    simp only [findM] at h
    split at h
    · rename_i hp
      injection h with h; injection h with h1 h2
      have : p.1 = k := by simpa using hp
      exact ⟨[], m, by rw [← this, ← h2]; rfl, by simp [h1], by simp⟩
    · rename_i hp
      obtain ⟨l, r, e1, e2, e3⟩ := findM_some m k (i + 1) j v h
      exact ⟨p :: l, r, by rw [e1]; rfl, by simp [e2]; omega, fun q hq => by rcases List.mem_cons.1 hq with rfl | hq; simpa using hp; exact e3 q hq⟩
theorem findM_none : ∀ (m : List (List Int × Value)) (k : List Int) (i : Nat), findM m k i = none → ∀ p ∈ m, (p.1 == k) = false
  | [], _, _, _, p, hp => by cases hp
  | q :: m, k, i, h, p, hp => by
    simp only [findM] at h
    split at h
    · cases h
    · rename_i hq
      rcases List.mem_cons.1 hp with rfl | hp
      · simpa using hq
      · exact findM_none m k (i + 1) h p hp

theorem findAsking_ok {P : Program} {kt : TypeId} {ag : Bool} {n : Nat} (hk : keyB P kt = some (ag, n)) {ks : List Int} (h1 : ks.length = n) (w : World) : ∀ (es : List MapEntry) (m : List (List Int × Value)) (i : Nat),
    es.map (fun e => (e.key, e.val)) = m.map (fun p => (encK ag p.1, p.2)) → (∀ p ∈ m, p.1.length = n) → (Instr.findAsking kt (encK ag ks) es i).run P w = .ok (findM m ks i) w
  | [], [], i, _, _ => rfl
  | [], _ :: _, _, h, _ => by simp at h
  | _ :: _, [], _, h, _ => by simp at h
  | e :: es, p :: m, i, h, hl => by
    simp only [List.map_cons, List.cons.injEq, Prod.mk.injEq] at h
    obtain ⟨⟨e1, e2⟩, e3⟩ := h
    have ih := findAsking_ok hk h1 w es m (i + 1) e3 (fun p hp => hl p (List.mem_cons_of_mem _ hp))
    simp only [Instr.findAsking, Sem.run_bind, e1, encK_eq hk h1 (hl p List.mem_cons_self), Result.andThen_ok, findM]
    have hsym : (ks == p.1) = (p.1 == ks) := BEq.comm
    rw [hsym]
    cases hb : p.1 == ks with
    | true => simp [e2]
    | false => simpa using ih

theorem findNow_ok {k : TypeDesc} {ag : Bool} {n : Nat} {ks : List Int} (hn : ∀ ls : List Int, ls.length = n → Instr.sameNow k (encK ag ks) (encK ag ls) = none ∨ Instr.sameNow k (encK ag ks) (encK ag ls) = some (ks == ls)) : ∀ (es : List MapEntry) (m : List (List Int × Value)) (i : Nat),
    es.map (fun e => (e.key, e.val)) = m.map (fun p => (encK ag p.1, p.2)) → (∀ p ∈ m, p.1.length = n) → Instr.findNow k (encK ag ks) es i = none ∨ Instr.findNow k (encK ag ks) es i = some (findM m ks i)
  | [], [], i, _, _ => .inr rfl
  | [], _ :: _, _, h, _ => by simp at h
  | _ :: _, [], _, h, _ => by simp at h
  | e :: es, p :: m, i, h, hl => by
    simp only [List.map_cons, List.cons.injEq, Prod.mk.injEq] at h
    obtain ⟨⟨e1, e2⟩, e3⟩ := h
    have ih := findNow_ok hn es m (i + 1) e3 (fun p hp => hl p (List.mem_cons_of_mem _ hp))
    simp only [Instr.findNow, e1, findM]
    have hsym : (ks == p.1) = (p.1 == ks) := BEq.comm
    rcases hn p.1 (hl p List.mem_cons_self) with h0 | h0
    · rw [h0]; exact .inl rfl
    · rw [h0, hsym]
      cases hb : p.1 == ks with
      | true => simp [e2]
      | false => simpa using ih

theorem sameNow_ok {P : Program} {kt : TypeId} {ag : Bool} {n : Nat} (hk : keyB P kt = some (ag, n)) {t : TypeDesc} (ht : P.underlying kt = some t) {ks : List Int} (h1 : ks.length = n) :
    ∀ ls : List Int, ls.length = n → Instr.sameNow t (encK ag ks) (encK ag ls) = none ∨ Instr.sameNow t (encK ag ks) (encK ag ls) = some (ks == ls) := by
  intro ls h2
  unfold keyB at hk
  rw [ht] at hk
  split at hk
  · rename_i hu
    injection hu with hu; subst hu
    injection hk with hk; injection hk with ha hn
    subst ha hn
    obtain ⟨a, rfl⟩ := List.length_eq_one_iff.1 h1
    obtain ⟨b, rfl⟩ := List.length_eq_one_iff.1 h2
    right
    simp [encK, Instr.sameNow]
  · rename_i fs hu
    injection hu with hu; subst hu
    left; rfl
  · cases hk

theorem findKey_ok {P : Program} {kt : TypeId} {ag : Bool} {n : Nat} (hk : keyB P kt = some (ag, n)) {ks : List Int} (h1 : ks.length = n) (w : World) {es : List MapEntry} {m : List (List Int × Value)}
    (h : es.map (fun e => (e.key, e.val)) = m.map (fun p => (encK ag p.1, p.2))) (hl : ∀ p ∈ m, p.1.length = n) : (Instr.findKey kt (encK ag ks) es).run P w = .ok (findM m ks 0) w := by
  obtain ⟨t, ht⟩ : ∃ t, P.underlying kt = some t := by
    cases hu : P.underlying kt with
    | none => unfold keyB at hk; rw [hu] at hk; cases hk
    | some t => exact ⟨t, rfl⟩
  have ha := findAsking_ok hk h1 w es m 0 h hl
  simp only [Instr.findKey, Sem.run_bind, run_underlying ht, Result.andThen_ok]
  rcases findNow_ok (sameNow_ok hk ht h1) es m 0 h hl with hn | hn
  · rw [hn]; exact ha
  · rw [hn]; rfl

theorem checkKey_int {P : Program} {t : TypeId} (ht : P.underlying t = some (.int .i64)) (e : Bool) (d : Nat) (v : Value) (w : World) : (Instr.checkKey e (d + 1) t v).run P w = .ok () w := by
  simp [Instr.checkKey, run_underlying ht]

theorem checkFs_ok {P : Program} {e : Bool} {d : Nat} {xs : List Int} {w : World} : ∀ (fs : List Field) (i : Nat), keyFs P fs i = true → fs.length + i = xs.length →
    (forIn fs PUnit.unit fun f (_ : PUnit) => if f.name ≠ "_" then do
        let c ← part f.type (xs.map (Value.int .i64)).toArray f.offset
        Instr.checkKey e (d + 1) f.type c
        pure (ForInStep.yield PUnit.unit) else (pure (ForInStep.yield PUnit.unit) : Sem _)).run P w = .ok PUnit.unit w
  | [], i, _, _ => by simp
  | f :: fs, i, h, hl => by
    simp only [keyFs, Bool.and_eq_true] at h
    obtain ⟨⟨⟨h1, h2⟩, h3⟩, h4⟩ := h
    simp only [List.length_cons] at hl
    have ih := checkFs_ok (P := P) (e := e) (d := d) (xs := xs) (w := w) fs (i + 1) h4 (by omega)
    have ht : P.underlying f.type = some (.int .i64) := by
      unfold intB at h1
      cases hu : P.underlying f.type with
      | none => rw [hu] at h1; cases h1
      | some t =>
        rw [hu] at h1
        cases t with
        | int k => cases k <;> first | rfl | cases h1
        | _ => cases h1
    have ho := Nat.eq_of_beq_eq_true h2
    have hn : f.name ≠ "_" := by simpa using h3
    have hag : isAggB P f.type = false := by unfold isAggB; rw [ht]
    have hp : partB P f.type (xs.map (Value.int .i64)).toArray f.offset = some (.int .i64 xs[i]!) := by
      unfold partB
      rw [hag, ht, ho]
      simp [show i < xs.length by omega]
    simp only [List.forIn_cons, Sem.run_bind, hn, ne_eq, not_false_eq_true, if_true, part_ok hp, checkKey_int ht, Result.andThen_ok, Sem.run_pure] at ih ⊢
    exact ih

theorem checkKey_at {P : Program} {kt : TypeId} {ag : Bool} {n : Nat} (hk : keyB P kt = some (ag, n)) {ks : List Int} (h1 : ks.length = n) (e : Bool) (d : Nat) (w : World) : (Instr.checkKey e (d + 1 + 1) kt (encK ag ks)).run P w = .ok () w := by
  unfold keyB at hk
  split at hk
  · rename_i hu
    exact checkKey_int hu e (d + 1) _ w
  · rename_i fs hu
    split at hk
    · rename_i hb
      injection hk with hk; injection hk with ha hn
      subst ha hn
      simp only [Bool.and_eq_true, Bool.not_eq_true'] at hb
      have := checkFs_ok (P := P) (e := e) (d := d) (xs := ks) (w := w) fs.toList 0 hb.1.1 (by simp [h1])
      unfold Instr.checkKey
      simp only [Sem.run_bind, run_underlying hu, Result.andThen_ok, encK]
      rw [← Array.forIn_toList]
      have h2 := congrArg (fun r => r.andThen fun (_ : PUnit) w' => (Result.ok () w' : Result Unit)) this
      simpa using h2
    · cases hk
  · cases hk
theorem checkKey_ok {P : Program} {kt : TypeId} {ag : Bool} {n : Nat} (hk : keyB P kt = some (ag, n)) {ks : List Int} (h1 : ks.length = n) (e : Bool) (w : World) : (Instr.checkKey e 10000 kt (encK ag ks)).run P w = .ok () w := checkKey_at hk h1 e 9998 w

theorem intsV_ok : ∀ {l : List Value} {ns : List Int}, intsV l = some ns → l = ns.map (Value.int .i64)
  | [], ns, h => by simp [intsV] at h; subst h; rfl
  | .int k n :: l, ns, h => by
    cases k <;> simp only [intsV] at h <;> first
      | (split at h
         · rename_i ns' hns
           injection h with h; subst h
           rw [intsV_ok hns]; rfl
         · cases h)
      | cases h
  | .bool _ :: l, ns, h => by simp [intsV] at h
  | .float _ _ :: l, ns, h => by simp [intsV] at h
  | .complex _ _ _ :: l, ns, h => by simp [intsV] at h
  | .string _ :: l, ns, h => by simp [intsV] at h
  | .pointer _ :: l, ns, h => by simp [intsV] at h
  | .slice _ _ _ :: l, ns, h => by simp [intsV] at h
  | .map _ :: l, ns, h => by simp [intsV] at h
  | .chan _ :: l, ns, h => by simp [intsV] at h
  | .nilFunc :: l, ns, h => by simp [intsV] at h
  | .func _ _ _ :: l, ns, h => by simp [intsV] at h
  | .nilIface :: l, ns, h => by simp [intsV] at h
  | .iface _ _ :: l, ns, h => by simp [intsV] at h
  | .agg _ :: l, ns, h => by simp [intsV] at h
  | .tuple _ :: l, ns, h => by simp [intsV] at h

theorem keyV_ok {ag : Bool} {n : Nat} {v : Value} {ks : List Int} (h : keyV ag n v = some ks) (hn : ag = false → n = 1) : v = encK ag ks ∧ ks.length = n := by
  unfold keyV at h
  split at h
  · injection h with h; subst h; exact ⟨rfl, by simp [hn rfl]⟩
  · rename_i cs
    split at h
    · rename_i l hl
      split at h
      · rename_i hb
        injection h with h; subst h
        refine ⟨?_, Nat.eq_of_beq_eq_true hb⟩
        have := intsV_ok hl
        simp only [encK, ← this]
      · cases h
    · cases h
  · cases h

theorem keyB_one {P : Program} {kt : TypeId} {ag : Bool} {n : Nat} (hk : keyB P kt = some (ag, n)) : ag = false → n = 1 := by
  unfold keyB at hk
  intro h
  split at hk
  · injection hk with hk; injection hk with _ hn; exact hn.symm
  · split at hk
    · injection hk with hk; injection hk with ha _; rw [h] at ha; cases ha
    · cases hk
  · cases hk

theorem zeroB_ok {P : Program} {t : TypeId} {z : Value} (h : zeroB P t = some z) (w : World) : (zeroValue t).run P w = .ok z w := by
  unfold zeroB at h
  split at h
  · rename_i i hi
    simp [zeroValue, typeInfo, hi, h]
  · cases h

theorem mapB_ok {P : Program} {t : TypeId} {ag : Bool} {n : Nat} {e : TypeId} (h : mapB P t = some (ag, n, e)) : ∃ k, P.underlying t = some (.map k e) ∧ keyB P k = some (ag, n) := by
  unfold mapB at h
  split at h
  · rename_i k e' hu
    split at h
    · rename_i ag' n' hk
      injection h with h; injection h with h1 h; injection h with h2 h3
      subst h1 h2 h3
      exact ⟨k, hu, hk⟩
    · cases h
  · cases h

theorem MapIs.ext {ag : Bool} {n : Nat} {w w' : World} {b : Nat} {m : List (List Int × Value)} (h : MapIs ag n w b m) (e : Ext w w') : MapIs ag n w' b m := by
  obtain ⟨es, c, h1, h2⟩ := h
  exact ⟨es, c, by rw [e.blk (Array.getElem?_eq_some_iff.1 h1).1]; exact h1, h2⟩

theorem look_ok {P : Program} {t : TypeId} {ag : Bool} {n : Nat} {e : TypeId} (hm : mapB P t = some (ag, n, e)) {r : Option Nat} {ks : List Int} (h1 : ks.length = n) {z : Value} (hz : zeroB P e = some z) {w : World} {m : List (List Int × Value)} (hr : MapR ag ks.length w r m) (c : Bool) :
    (Instr.lookup t (.map r) (encK ag ks) c).run P w = .ok (match c with | true => .tuple #[(assoc m ks).getD z, .bool (assoc m ks).isSome] | false => (assoc m ks).getD z) w := by
  obtain ⟨k, hu, hk⟩ := mapB_ok hm
  subst h1
  have key : ∀ (es : Array MapEntry), es.toList.map (fun e => (e.key, e.val)) = m.map (fun p => (encK ag p.1, p.2)) → (∀ p ∈ m, p.1.length = ks.length) →
      (do
        Instr.checkKey es.isEmpty 10000 k (encK ag ks)
        let (v, ok) ← match ← Instr.findKey k (encK ag ks) es.toList with
          | some (_, v) => pure (v, true)
          | none => pure (← zeroValue e, false)
        pure (if c then .tuple #[v, .bool ok] else v) : Sem Value).run P w = .ok (match c with | true => .tuple #[(assoc m ks).getD z, .bool (assoc m ks).isSome] | false => (assoc m ks).getD z) w := fun es h2 h3 => by
    simp only [Sem.run_bind, checkKey_ok hk rfl, Result.andThen_ok, findKey_ok hk rfl w h2 h3]
    rw [← findM_assoc m ks 0]
    cases hf : findM m ks 0 with
    | none => cases c <;> simp [zeroB_ok hz]
    | some p => cases c <;> simp
  cases r with
  | none =>
    have hm0 : m = [] := hr
    subst hm0
    have := key #[] rfl (by simp)
    simp only [Instr.lookup, Sem.run_bind, run_underlying hu, Result.andThen_ok, Sem.run_pure] at this ⊢
    exact this
  | some b =>
    obtain ⟨es, cl, g1, g2, g3, _⟩ := hr
    have := key es g2 g3
    have hg : (getObj b).run P w = .ok (.map es cl) w := by simp [getObj, Sem.run, g1]
    simp only [Instr.lookup, Sem.run_bind, run_underlying hu, Result.andThen_ok, Sem.run_pure, hg] at this ⊢
    exact this

theorem sameBits_encK {ag : Bool} {ks : List Int} (d : Nat) (hn : ag = false → ks.length = 1) : Instr.sameBits (d + 1) (encK ag ks) (encK ag ks) = true := by
  cases ag with
  | true =>
    simp only [encK, Instr.sameBits, beq_self_eq_true, Bool.true_and, List.all_eq_true]
    rintro ⟨x, y⟩ hx
    have : ∀ (l : List Value) x y, (x, y) ∈ l.zip l → x = y := by
      intro l
      induction l with
      | nil => intro x y h; simp at h
      | cons a l ih =>
        intro x y h
        simp only [List.zip_cons_cons, List.mem_cons, Prod.mk.injEq] at h
        rcases h with ⟨rfl, rfl⟩ | h
        · rfl
        · exact ih x y h
    have hxy := this _ x y hx
    subst hxy
    have := List.of_mem_zip hx
    simp only [List.mem_map] at this
    obtain ⟨⟨n, _, rfl⟩, _⟩ := this
    cases d <;> simp [Instr.sameBits]
  | false =>
    match ks with
    | [] => exact absurd (hn rfl) (by simp)
    | [n] => simp [encK, Instr.sameBits]
    | _ :: _ :: _ => exact absurd (hn rfl) (by simp)

theorem upd_mid : ∀ (l r : List (List Int × Value)) (k : List Int) (v v' : Value), (∀ p ∈ l, (p.1 == k) = false) → upd (l ++ (k, v') :: r) k v = l ++ (k, v) :: r
  | [], r, k, v, v', _ => by simp [upd]
  | p :: l, r, k, v, v', h => by
    simp only [List.cons_append, upd, h p List.mem_cons_self]
    simp [upd_mid l r k v v' (fun q hq => h q (List.mem_cons_of_mem _ hq))]
theorem upd_end : ∀ (m : List (List Int × Value)) (k : List Int) (v : Value), (∀ p ∈ m, (p.1 == k) = false) → upd m k v = m ++ [(k, v)]
  | [], k, v, _ => rfl
  | p :: m, k, v, h => by
    simp only [List.cons_append, upd, h p List.mem_cons_self]
    simp [upd_end m k v (fun q hq => h q (List.mem_cons_of_mem _ hq))]

theorem map_modify {α β : Type} (f : α → β) (g : α → α) (y : β) : ∀ (l : List α) (i : Nat), (∀ x, l[i]? = some x → f (g x) = y) → (l.modify i g).map f = (l.map f).set i y
  | [], i, _ => by cases i <;> simp
  | a :: l, 0, h => by simp [h a rfl]
  | a :: l, i + 1, h => by simp [map_modify f g y l i (fun x hx => h x (by simpa using hx))]
theorem map_modify_same {α β : Type} (f : α → β) (g : α → α) (h : ∀ x, f (g x) = f x) : ∀ (l : List α) (i : Nat), (l.modify i g).map f = l.map f
  | [], i => by cases i <;> simp
  | a :: l, 0 => by simp [h a]
  | a :: l, i + 1 => by simp [map_modify_same f g h l i]

theorem putObj_off {w : World} {b : Nat} (o : Obj) : Off b w (w.putObj b o) :=
  ⟨rfl, rfl, rfl, by simp, fun k hk => World.putObj_heap_other hk⟩

theorem mup_ok {P : Program} {t : TypeId} {ag : Bool} {n : Nat} {e : TypeId} (hm : mapB P t = some (ag, n, e)) {b : Nat} {ks : List Int} (h1 : ks.length = n) {w : World} {m : List (List Int × Value)} (hr : MapIs ag ks.length w b m) (v : Value) :
    ∃ w2, (Instr.mapUpdate t (.map (some b)) (encK ag ks) v).run P w = .ok () w2 ∧ Off b w w2 ∧ MapIs ag ks.length w2 b (upd m ks v) := by
  obtain ⟨k, hu, hk⟩ := mapB_ok hm
  subst h1
  obtain ⟨es, cl, g1, g2, g3, g4, g5, g6⟩ := hr
  have hlt := (Array.getElem?_eq_some_iff.1 g1).1
  have hg : (getObj b).run P w = .ok (.map es cl) w := by simp [getObj, Sem.run, g1]
  have hs : ∀ o, (setObj b o).run P w = .ok () (w.putObj b o) := fun o => by simp [setObj, Sem.run, g1, World.putObj]
  simp only [Instr.mapUpdate, Sem.run_bind, run_underlying hu, Result.andThen_ok, hg, checkKey_ok hk rfl, findKey_ok hk rfl w g2 g3]
  cases hf : findM m ks 0 with
  | none =>
    have hno := findM_none m ks 0 hf
    refine ⟨_, hs _, putObj_off _, ?_⟩
    rw [upd_end m ks v hno]
    refine ⟨_, _, World.putObj_heap_same hlt, ?_, ?_, ?_, ?_, ?_⟩
    · simp [g2]
    · intro p hp
      rcases List.mem_append.1 hp with hp | hp
      · exact g3 p hp
      · simp at hp; subst hp; rfl
    · simp only [List.map_append, List.map_cons, List.map_nil]
      rw [List.nodup_append]
      refine ⟨g4, by simp, fun a ha c hc e => ?_⟩
      simp at hc
      subst e; subst hc
      obtain ⟨p, hp, e⟩ := List.mem_map.1 ha
      have := hno p hp
      simp [e] at this
    · intro x hx
      simp only [Array.toList_push, List.mem_append, List.mem_singleton] at hx
      rcases hx with hx | hx
      · have := g5 x hx; omega
      · subst hx; exact Nat.lt_succ_self _
    · simp only [Array.toList_push, List.map_append, List.map_cons, List.map_nil]
      rw [List.nodup_append]
      refine ⟨g6, by simp, fun a ha c hc e => ?_⟩
      simp at hc
      subst e; subst hc
      obtain ⟨p, hp, e⟩ := List.mem_map.1 ha
      have := g5 p hp
      omega
  | some iv =>
    obtain ⟨i, v0⟩ := iv
    obtain ⟨l, r, e1, e2, e3⟩ := findM_some m ks 0 i v0 hf
    simp only [Nat.zero_add] at e2
    have hi : (es.toList.map (fun e => (e.key, e.val)))[i]? = some (encK ag ks, v0) := by
      rw [g2, e1, e2]; simp
    rw [List.getElem?_map, Option.map_eq_some_iff] at hi
    obtain ⟨x, hx, hx2⟩ := hi
    injection hx2 with hx2 _
    have hxa : es[i]? = some x := by rw [← Array.getElem?_toList]; exact hx
    have hkeep : (Instr.keyThatStays x.key (encK ag ks)).run P w = .ok (encK ag ks) w := by
      rw [hx2]
      unfold Instr.keyThatStays
      rw [sameBits_encK 9999 (fun ha => keyB_one hk ha)]
      simp
    simp only [hxa, Option.map_some, Option.getD_some, Sem.run_bind, hkeep, Result.andThen_ok]
    refine ⟨_, hs _, putObj_off _, ?_⟩
    rw [e1, upd_mid l r ks v v0 e3]
    refine ⟨_, _, World.putObj_heap_same hlt, ?_, ?_, ?_, ?_, ?_⟩
    · rw [Array.toList_modify, map_modify (y := (encK ag ks, v))]
      · rw [g2, e1, e2]; simp
      · intro y _; rfl
    · intro p hp
      rw [e1] at g3
      simp only [List.mem_append, List.mem_cons] at hp g3
      rcases hp with hp | rfl | hp
      · exact g3 p (.inl hp)
      · rfl
      · exact g3 p (.inr (.inr hp))
    · rw [e1] at g4; simpa using g4
    · intro y hy
      rw [Array.toList_modify] at hy
      have h2 := map_modify_same (fun e : MapEntry => e.born) (fun e : MapEntry => { e with key := encK ag ks, val := v }) (fun _ => rfl) es.toList i
      have : y.born ∈ es.toList.map (·.born) := by rw [← h2]; exact List.mem_map.2 ⟨y, hy, rfl⟩
      obtain ⟨z, hz, e⟩ := List.mem_map.1 this
      rw [← e]; exact g5 z hz
    · have h2 := map_modify_same (fun e : MapEntry => e.born) (fun e : MapEntry => { e with key := encK ag ks, val := v }) (fun _ => rfl) es.toList i
      rw [Array.toList_modify]; exact h2 ▸ g6
end Go.Sh
