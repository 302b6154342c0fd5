/- Hierarchies, in plain lists. -/
import Derived.Test.YtoomennincfkgaaBase
set_option maxRecDepth 100000
namespace Go.Sh
open Go.RowKit

/-- From, To, W, Mid, Arc -/
abbrev Wy := Int × Int × Int × Int × Int
def yF (y : Wy) : Int := y.1
def yT (y : Wy) : Int := y.2.1
def yW (y : Wy) : Int := y.2.2.1
def yM (y : Wy) : Int := y.2.2.2.1
def yA (y : Wy) : Int := y.2.2.2.2
def RW : Rc Wy where
  sz := 5
  enc e := [.int .i64 e.1, .int .i64 e.2.1, .int .i64 e.2.2.1, .int .i64 e.2.2.2.1, .int .i64 e.2.2.2.2]
  len _ := rfl
  pos := by decide
  z := (0, 0, 0, 0, 0)
  one := by intro x v hv; simp at hv; rcases hv with rfl | rfl | rfl | rfl | rfl <;> rfl

theorem way_idx {w : World} {s : SV} {ys : List Wy} (h : View RW w s ys) {i : Nat} (hl : i < ys.length) {K : Addr → Prop}
    (hk : ∀ a, a.spot = none → w.cell? (a.add 0) = some (.int .i64 (yF ys[i])) → w.cell? (a.add 1) = some (.int .i64 (yT ys[i])) → w.cell? (a.add 2) = some (.int .i64 (yW ys[i])) → w.cell? (a.add 3) = some (.int .i64 (yM ys[i])) → w.cell? (a.add 4) = some (.int .i64 (yA ys[i])) → K a) : Idx s.a s.len (i : Int) 5 K := by
  refine View.idx (R := RW) h (by omega) (by simpa using hl) fun a ha hc => ?_
  simp only [Int.toNat_natCast] at hc
  exact hk a ha (hc 0 _ rfl) (hc 1 _ rfl) (hc 2 _ rfl) (hc 3 _ rfl) (hc 4 _ rfl)

/-- An array of ints, told by a function. -/
def fi (n : Nat) (f : Nat → Int) : List Int := (List.range n).map f
theorem fi_len (n : Nat) (f : Nat → Int) : (fi n f).length = n := by simp [fi]
theorem fi_get {n : Nat} {f : Nat → Int} {i : Nat} (h : i < (fi n f).length) : (fi n f)[i] = f i := by simp [fi]
theorem fi_congr {n : Nat} {f g : Nat → Int} (h : ∀ j, j < n → f j = g j) : fi n f = fi n g := by
  unfold fi; exact List.map_congr_left fun j hj => h j (List.mem_range.1 hj)
theorem fi_set {n : Nat} {f : Nat → Int} {i : Nat} {x : Int} : (fi n f).set i x = fi n (fun j => if j = i then x else f j) := by
  apply List.ext_getElem
  · simp [fi]
  · intro j h1 h2
    rw [List.getElem_set]
    by_cases e : i = j
    · subst e; rw [if_pos rfl, fi_get, if_pos rfl]
    · rw [if_neg e, fi_get, fi_get, if_neg (Ne.symm e)]
theorem fi_rep (n : Nat) (x : Int) : List.replicate n x = fi n (fun _ => x) := by
  apply List.ext_getElem <;> simp [fi]
theorem fi_rd {w : World} {s : SV} {n : Nat} {f : Nat → Int} (h : View RI w s (fi n f)) {i : Nat} (hi : i < n) {K : Addr → Prop} (hk : ∀ a, w.cell? a = some (.int .i64 (f i)) → K a) : Idx s.a s.len (i : Int) 1 K :=
  int_idx h (by rw [fi_len]; exact hi) fun a ha => hk a (by rw [fi_get] at ha; exact ha)
theorem fi_wr {w : World} {s : SV} {n : Nat} {f : Nat → Int} (h : Own RI w s (fi n f)) {i : Nat} (hi : i < n) {K : Addr → Prop}
    (hk : ∀ a, (∀ (w1 : World) (v : Int) (K' : World → Prop), Own RI w1 s (fi n f) → (∀ w', Chg s.blk w1 w' → Own RI w' s (fi n (fun j => if j = i then v else f j)) → K' w') → stL w1 a [.int .i64 v] 0 K') → K a) :
    Idx s.a s.len (i : Int) 1 K := by
  refine own_wr (R := RI) h (by rw [fi_len]; exact hi) fun b hb hput => ?_
  refine hk _ fun w1 v K' hO hK => ?_
  refine hput v w1 K' hO fun w' o hO' => hK w' (.of_off o ⟨_, hb, rfl⟩) ?_
  rw [fi_set] at hO'; exact hO'

theorem take_snoc' {α : Type} {l : List α} {i : Nat} (h : i < l.length) : l.take (i + 1) = l.take i ++ [l[i]] := by
  rw [List.take_add_one, List.getElem?_eq_getElem h]; rfl

/-- The ranks may be. -/
def OkR (rank : List Int) : Prop := (∀ r ∈ rank, 0 ≤ r ∧ r < rank.length) ∧ rank.Nodup
def rkA (rank : List Int) (v : Int) : Int := rank.getD v.toNat 0
theorem rk_get {rank : List Int} {v : Nat} (h : v < rank.length) : rank[v] = rkA rank (v : Int) := by
  unfold rkA; rw [Int.toNat_natCast, List.getD_eq_getElem?_getD, List.getElem?_eq_getElem h]; rfl

/-- Which way leads from u to v. -/
def isW (u v : Int) (y : Wy) : Bool := yF y == u && yT y == v
def findW (ways : List Wy) (u v : Int) : Option Nat := ways.findIdx? (isW u v)
def ofN : Option Nat → Int | none => -1 | some k => (k : Int)
theorem findW_some {ways : List Wy} {u v : Int} {k : Nat} (h : findW ways u v = some k) : ∃ hk : k < ways.length, yF ways[k] = u ∧ yT ways[k] = v ∧ ∀ j (hj : j < k), ¬ (yF ways[j] = u ∧ yT ways[j] = v) := by
  unfold findW at h
  rw [List.findIdx?_eq_some_iff_getElem] at h
  obtain ⟨hk, h1, h2⟩ := h
  simp only [isW, Bool.and_eq_true, beq_iff_eq] at h1
  refine ⟨hk, h1.1, h1.2, fun j hj hh => h2 j hj ?_⟩
  simp only [isW, hh.1, hh.2, beq_self_eq_true, Bool.and_self]
theorem findW_none {ways : List Wy} {u v : Int} (h : findW ways u v = none) : ∀ k (hk : k < ways.length), ¬ (yF ways[k] = u ∧ yT ways[k] = v) := by
  unfold findW at h
  rw [List.findIdx?_eq_none_iff] at h
  intro k hk hh
  have := h _ (List.getElem_mem hk)
  simp only [isW, hh.1, hh.2, beq_self_eq_true, Bool.and_self] at this
  cases this
theorem findW_snoc (ways : List Wy) (y : Wy) (u v : Int) : findW (ways ++ [y]) u v = match findW ways u v with | some k => some k | none => if yF y = u ∧ yT y = v then some ways.length else none := by
  unfold findW
  rw [List.findIdx?_append]
  cases h : List.findIdx? (isW u v) ways with
  | some k => rfl
  | none =>
    simp only [List.findIdx?_cons, List.findIdx?_nil, Option.none_or]
    by_cases hc : yF y = u ∧ yT y = v
    · rw [if_pos hc]; simp [isW, hc.1, hc.2]
    · rw [if_neg hc, show isW u v y = false by
        simp only [isW]
        rw [Bool.and_eq_false_iff]
        by_cases h1 : yF y = u
        · right; rw [beq_eq_false_iff_ne]; exact fun h2 => hc ⟨h1, h2⟩
        · left; rw [beq_eq_false_iff_ne]; exact h1]
      simp

/-- What a way is by itself, and of those ahead of it. -/
def OkF (n : Nat) (ahead : List Wy) (y : Wy) : Prop :=
  findW ahead (yF y) (yT y) = none ∧ yF y ≠ yT y ∧ 0 ≤ yF y ∧ 0 ≤ yT y ∧ yF y < n ∧ yT y < n ∧ 0 ≤ yW y ∧ yW y ≤ 1152921504606846976
def wW (ways : List Wy) (k : Nat) : Int := yW (ways.getD k (0, 0, 0, 0, 0))
/-- .. and of what it stands for. -/
def OkW (rank : List Int) (ways : List Wy) (y : Wy) : Prop :=
  if yM y = -1 then 0 ≤ yA y ∧ yA y < 67108864
  else yA y = -1 ∧ 0 ≤ yM y ∧ yM y < rank.length ∧ rkA rank (yM y) < rkA rank (yF y) ∧ rkA rank (yM y) < rkA rank (yT y) ∧
    ∃ a b, findW ways (yF y) (yM y) = some a ∧ findW ways (yM y) (yT y) = some b ∧ wW ways a + wW ways b = yW y
def OkFs (n : Nat) (ways : List Wy) : Prop := ∀ i (h : i < ways.length), OkF n (ways.take i) ways[i]
/-- A hierarchy may be. -/
structure OkH (rank : List Int) (ways : List Wy) : Prop where
  n : rank.length ≤ 16777216
  k : ways.length ≤ 67108864
  r : OkR rank
  f : OkFs rank.length ways
  w : ∀ y ∈ ways, OkW rank ways y

theorem OkFs.find {n : Nat} {ways : List Wy} (h : OkFs n ways) {k : Nat} (hk : k < ways.length) : findW ways (yF ways[k]) (yT ways[k]) = some k := by
  cases hf : findW ways (yF ways[k]) (yT ways[k]) with
  | none => exact absurd ⟨rfl, rfl⟩ (findW_none hf k hk)
  | some j =>
    obtain ⟨hj, h1, h2, h3⟩ := findW_some hf
    rcases Nat.lt_trichotomy j k with hlt | rfl | hgt
    · exfalso
      have := (h k hk).1
      refine findW_none this j (by rw [List.length_take]; omega) ?_
      rw [List.getElem_take]; exact ⟨h1, h2⟩
    · rfl
    · exact absurd ⟨rfl, rfl⟩ (h3 k hgt)
theorem OkFs.uniq {n : Nat} {ways : List Wy} (h : OkFs n ways) {j k : Nat} (hj : j < ways.length) (hk : k < ways.length) (h1 : yF ways[j] = yF ways[k]) (h2 : yT ways[j] = yT ways[k]) : j = k := by
  have a := h.find hj; have b := h.find hk
  rw [h1, h2, b] at a; injection a with a; exact a.symm

theorem assoc_upd (m : List (List Int × Value)) (k k' : List Int) (v : Value) : assoc (upd m k v) k' = if k = k' then some v else assoc m k' := by
  induction m with
  | nil =>
    unfold upd assoc
    by_cases h : k = k'
    · simp [h]
    · simp [h]
  | cons p m ih =>
    unfold upd
    by_cases hp : p.1 = k
    · rw [if_pos (by simpa using hp)]
      unfold assoc
      by_cases h : k = k'
      · simp [h]
      · rw [if_neg h]
        simp only [List.find?_cons]
        rw [show (k == k') = false by simpa using h, show (p.1 == k') = false by rw [hp]; simpa using h]
    · rw [if_neg (by simpa using hp)]
      unfold assoc at ih ⊢
      simp only [List.find?_cons]
      by_cases h2 : p.1 = k'
      · rw [show (p.1 == k') = true by simpa using h2]
        rw [if_neg (fun e => hp (h2.trans e.symm))]
      · rw [show (p.1 == k') = false by simpa using h2]
        exact ih

/-- The map of what was seen. -/
def MapOk (mm : List (List Int × Value)) (ways : List Wy) : Prop := ∀ u v, assoc mm [u, v] = (findW ways u v).map fun k => .int .i64 (k : Int)
theorem MapOk.nil : MapOk [] [] := fun u v => rfl
theorem MapOk.step {mm : List (List Int × Value)} {ways : List Wy} {y : Wy} (h : MapOk mm ways) (hn : findW ways (yF y) (yT y) = none) : MapOk (upd mm [yF y, yT y] (.int .i64 (ways.length : Int))) (ways ++ [y]) := by
  intro u v
  rw [assoc_upd, findW_snoc, h u v]
  by_cases hc : yF y = u ∧ yT y = v
  · obtain ⟨rfl, rfl⟩ := hc
    rw [if_pos rfl, hn]; simp
  · rw [if_neg (fun e => hc (by injection e with e1 e2; injection e2 with e2; exact ⟨e1, e2⟩))]
    cases findW ways u v with
    | none => simp [hc]
    | some k => rfl
end Go.Sh
