/- The graph's counting sort. -/
import Derived.Test.YtachbdfhbpmaeaaGraphPure
import Derived.Test.YtachbdfhbpmaeaaAllDef
set_option maxRecDepth 100000
namespace Go.Sh
open Go.RowKit

theorem fl_rd {w : World} {s : SV} {n : Nat} {f : Nat → Nat} (h : View RI w s (fl n f)) {i : Nat} (hi : i < n) {K : Addr → Prop} (hk : ∀ a, w.cell? a = some (.int .i64 (f i)) → K a) : Idx s.a s.len (i : Int) 1 K :=
  int_idx h (by rw [fl_len]; exact hi) fun a ha => hk a (by rw [fl_get] at ha; exact ha)
theorem fl_wr {w : World} {s : SV} {n : Nat} {f : Nat → Nat} (h : Own RI w s (fl n f)) {i : Nat} (hi : i < n) {K : Addr → Prop}
    (hk : ∀ a, (∀ (w1 : World) (v : Int) (x : Nat) (K' : World → Prop), v = (x : Int) → Own RI w1 s (fl n f) → (∀ w', Chg s.blk w1 w' → Own RI w' s (fl n (fun j => if j = i then x else f j)) → K' w') → stL w1 a [.int .i64 v] 0 K') → K a) :
    Idx s.a s.len (i : Int) 1 K := by
  refine own_wr (R := RI) h (by rw [fl_len]; exact hi) fun b hb hput => ?_
  refine hk _ fun w1 v x K' hv hO hK => ?_
  subst hv
  refine hput (x : Int) w1 K' hO fun w' o hO' => hK w' (.of_off o ⟨_, hb, rfl⟩) ?_
  rw [fl_set hi] at hO'; exact hO'

theorem cnt_le (l : List Nat) (e : Nat → Nat) (v : Nat) : cnt l e v ≤ l.length := List.length_filter_le _ _
theorem pre_le {l : List Nat} {e : Nat → Nat} {n v : Nat} (h : ∀ k ∈ l, e k < n) (hv : v ≤ n) : pre l e v ≤ l.length := by
  rw [← pre_all h]; exact pre_mono l e hv

theorem sorted_ok {CV : CVT} {n : Nat} {l0 : SV} {L : List Nat} {end_ : Value} {e : Nat → Nat} {K : SV → World → Prop} {w : World} (h : View RI w l0 (ints L)) (hn : n < 2 ^ 30) (hL : L.length < 2 ^ 30) (he : ∀ k ∈ L, e k < n)
    (hE : ∀ w', Ext w w' → ∀ k ∈ L, ∀ K : Value → World → Prop, K (.int .i64 (e k)) w' → CV end_ [.int .i64 k] K w')
    (hk : ∀ s w', Ext w w' → Own RI w' s (ints (sortedL n L e)) → Fsh w s → K s w') : sh_graph_sorted CV n l0 end_ K w := by
  unfold sh_graph_sorted
  have hlen := h.len
  rw [ints_len] at hlen
  rw [wsucc (m := 2 ^ 40) (by omega) (by omega)]
  refine own_mk (R := RI) (bytes := 8) (by omega) (by omega) (by omega) fun s1 w2 e2 g1 hO => ?_
  simp only [Int.toNat_natCast] at hO
  have idx : ∀ {i : Nat} (hi : i < L.length), (ints L)[i]'(by rw [ints_len]; exact hi) = (L[i] : Int) := fun hi => ints_get _
  refine Join.cut (fun _ w' => Ext w w' ∧ Own RI w' s1 (fl (n + 1) (cnt1 L e))) (fun J hJ => ?_) ?_
  · refine LoopT.gh (γ := Nat) (fun i (st : Int × Unit) w' => st.1 = i ∧ i ≤ L.length ∧ Ext w w' ∧ Own RI w' s1 (fl (n + 1) (cnt1 (L.take i) e))) (fun i => L.length - i) 0
      ⟨rfl, Nat.zero_le _, e2, ?_⟩ ?_
    · rw [show RI.z = (0 : Int) from rfl, fl_rep] at hO
      refine (congrArg (Own RI w2 s1) (fl_congr fun j _ => ?_)).mp hO
      cases j <;> simp [cnt1, cnt]
    · rintro i ⟨x, _⟩ w6 ⟨hx, hi, e6, hO6⟩ J1 hJ1
      simp only at hx; subst hx
      rw [Bool.cond_decide]
      by_cases hc : (i : Int) < (l0.len : Int)
      · rw [if_pos hc]
        have hi' : i < L.length := by omega
        refine int_idx (h.ext e6) (by rw [ints_len]; exact hi') fun a ha => ⟨_, ha, ?_⟩
        rw [idx hi']
        have hend := he _ (List.getElem_mem hi')
        refine hE w6 e6 _ (List.getElem_mem hi') _ ⟨_, rfl, ?_⟩
        rw [wsucc (m := 2 ^ 40) (by omega) (by omega)]
        refine fl_rd hO6.view (by omega) fun a ha => ⟨_, ha, ?_⟩
        refine fl_wr hO6 (by omega) fun a put => ?_
        have hcl := cnt_le (L.take i) e (e L[i])
        rw [List.length_take] at hcl
        have hc1 : cnt1 (L.take i) e (e L[i] + 1) < 2 ^ 40 := by simp only [cnt1]; omega
        refine put w6 _ (cnt1 (L.take i) e (e L[i] + 1) + 1) _ (wsucc (m := 2 ^ 40) hc1 (by omega)) hO6 fun w' c hO' => ?_
        refine hJ1 (i + 1) _ _ ⟨wsucc (m := 2 ^ 40) (by omega) (by omega), by omega, ext_chg e6 c g1, ?_⟩ (by omega)
        refine (congrArg (Own RI w' s1) (fl_congr fun j _ => ?_)).mp hO'
        rw [take_snoc hi']
        cases j with
        | zero => simp [cnt1]
        | succ j =>
          simp only [cnt1, cnt_snoc, Nat.add_right_cancel_iff]
          by_cases hj : j = e L[i]
          · rw [if_pos hj, if_pos hj.symm, hj]
          · rw [if_neg hj, if_neg (Ne.symm hj)]; rfl
      · rw [if_neg hc]
        have : i = L.length := by omega
        subst this
        rw [List.take_length] at hO6
        exact hJ _ _ ⟨e6, hO6⟩
  rintro _ w17 ⟨e17, hO17⟩
  refine Join.cut (fun _ w' => Ext w w' ∧ Own RI w' s1 (fl (n + 1) (pre L e))) (fun J hJ => ?_) ?_
  · refine LoopT.gh (γ := Nat) (fun i (st : Int × Unit) w' => st.1 = i ∧ i ≤ n ∧ Ext w w' ∧ Own RI w' s1 (fl (n + 1) (fun j => if j ≤ i then pre L e j else cnt1 L e j))) (fun i => n - i) 0
      ⟨rfl, Nat.zero_le _, e17, ?_⟩ ?_
    · refine (congrArg (Own RI w17 s1) (fl_congr fun j _ => ?_)).mp hO17
      cases j with
      | zero => rfl
      | succ j => rw [if_neg (by omega)]
    · rintro i ⟨x, _⟩ w21 ⟨hx, hi, e21, hO21⟩ J1 hJ1
      simp only at hx; subst hx
      rw [Bool.cond_decide]
      by_cases hc : (i : Int) < (n : Int)
      · rw [if_pos hc]
        rw [wsucc (m := 2 ^ 40) (by omega) (by omega)]
        refine fl_rd hO21.view (by omega) fun a ha => ⟨_, ha, ?_⟩
        refine fl_rd hO21.view (by omega) fun a ha => ⟨_, ha, ?_⟩
        refine fl_wr hO21 (by omega) fun a put => ?_
        intro w27 e27
        have p1 := pre_le he (show i + 1 ≤ n by omega)
        have p2 := pre_succ L e i
        simp only [Nat.le_refl, if_true, show ¬ (i + 1 ≤ i) by omega, if_false, cnt1]
        refine put w27 _ (pre L e (i + 1)) _ (by rw [w64 (by omega) (by omega)]; omega) (hO21.ext e27) fun w28 c hO' => ?_
        intro w29 e29
        refine hJ1 (i + 1) _ _ ⟨rfl, by omega, (ext_chg (e21.trans e27) c g1).trans e29, ?_⟩ (by omega)
        refine (congrArg (Own RI w29 s1) (fl_congr fun j _ => ?_)).mp (hO'.ext e29)
        by_cases hj : j = i + 1
        · subst hj; rw [if_pos rfl, if_pos (Nat.le_refl _)]
        · rw [if_neg hj]
          by_cases hj2 : j ≤ i
          · rw [if_pos hj2, if_pos (by omega)]
          · rw [if_neg hj2, if_neg (by omega)]
      · rw [if_neg hc]
        refine hJ _ _ ⟨e21, (congrArg (Own RI w21 s1) (fl_congr fun j hj => ?_)).mp hO21⟩
        rw [if_pos (by omega)]
  rintro _ w31 ⟨e31, hO31⟩
  rw [hlen]
  refine own_mk (R := RI) (bytes := 8) (by omega) (by omega) (by omega) fun s2 w33 e33 g2' hO2 => ?_
  simp only [Int.toNat_natCast] at hO2
  have l1 : ∀ k, s1.blk k → k < w31.heap.size := fun k hk => hO31.lt hk
  have g2 := g2'.ext e31
  have d12 : ∀ k, s1.blk k → ¬ s2.blk k := fun k h1 h2 => by have := l1 k h1; have := g2' k h2; omega
  refine LoopT.gh (γ := Nat) (fun i (st : Int × Unit) w' => st.1 = i ∧ i ≤ L.length ∧ Ext w w' ∧ Own RI w' s1 (fl (n + 1) (fun v => pre L e v + cnt (L.take i) e v)) ∧ ∃ X, Own RI w' s2 (fl L.length X) ∧ Laid n L e i X) (fun i => L.length - i) 0
      ⟨rfl, Nat.zero_le _, e31.trans e33, ?_, fun _ => 0, by rw [show RI.z = (0 : Int) from rfl, fl_rep] at hO2; exact hO2, fun v hv j hj => by simp [cnt] at hj⟩ ?_
  · refine (congrArg (Own RI w33 s1) (fl_congr fun j _ => ?_)).mp (hO31.ext e33)
    simp [cnt]
  · rintro i ⟨x, _⟩ w36 ⟨hx, hi, e36, hO36, X, hX, lX⟩ J1 hJ1
    simp only at hx; subst hx
    rw [Bool.cond_decide]
    by_cases hc : (i : Int) < (L.length : Int)
    · rw [if_pos hc]
      have hi' : i < L.length := by omega
      have hh := h.ext e36
      rw [← hlen]
      refine int_idx hh (by rw [ints_len]; exact hi') fun a ha => ⟨_, ha, ?_⟩
      rw [idx hi']
      have hm := List.getElem_mem hi'
      have hend := he _ hm
      refine hE w36 e36 _ hm _ ⟨_, rfl, ?_⟩
      refine fl_rd hO36.view (by omega) fun a ha => ⟨_, ha, ?_⟩
      have hct := cnt_take_lt (e := e) hi'
      have hps := pre_succ L e (e L[i])
      have hpl := pre_le he (show e L[i] + 1 ≤ n by omega)
      refine fl_wr hX (by omega) fun a put => ?_
      refine put w36 _ L[i] _ rfl hX fun w45 c45 hX' => ?_
      have e45 := ext_chg e36 c45 g2
      refine hE w45 e45 _ hm _ ⟨_, rfl, ?_⟩
      have hO45 := hO36.chg c45 d12
      refine fl_rd hO45.view (by omega) fun a ha => ⟨_, ha, ?_⟩
      refine fl_wr hO45 (by omega) fun a put => ?_
      refine put w45 _ (pre L e (e L[i]) + cnt (L.take i) e (e L[i]) + 1) _ (wsucc (m := 2 ^ 40) (by omega) (by omega)) hO45 fun w52 c52 hO' => ?_
      refine hJ1 (i + 1) _ _ ⟨wsucc (m := 2 ^ 40) (by omega) (by omega), by omega, ext_chg e45 c52 g1, ?_, _, hX'.chg c52 fun k h2 h1 => d12 k h1 h2, lX.step hi'⟩ (by omega)
      refine (congrArg (Own RI w52 s1) (fl_congr fun j _ => ?_)).mp hO'
      rw [take_snoc hi', cnt_snoc]
      by_cases hj : j = e L[i]
      · rw [if_pos hj, if_pos hj.symm, hj]; omega
      · rw [if_neg hj, if_neg (Ne.symm hj)]; rfl
    · rw [if_neg hc]
      have : i = L.length := by omega
      subst this
      rw [lX.all he] at hX
      exact hk _ _ e36 hX g2
end Go.Sh
