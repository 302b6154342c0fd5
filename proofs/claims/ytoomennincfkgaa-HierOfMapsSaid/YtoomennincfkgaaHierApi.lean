/- The hierarchy's methods. -/
import Derived.Test.YtoomennincfkgaaHierNew
set_option maxRecDepth 100000
namespace Go.Sh
open Go.RowKit

section
variable {w w' : World} {p : Option Addr} {rank : List Int} {ways : List Wy} {F : Nat → Prop}

theorem HierA.some (h : HierA w p rank ways F) : p.isNone = false := by
  obtain ⟨_, hb, _, _, _, _, _, _, _, _, _, _, rfl, _⟩ := h; rfl

theorem HN_ok {K : Int → World → Prop} (h : HierA w p rank ways F) (hk : K (rank.length : Int) w) : sh_hier_Hier_N p K w := by
  obtain ⟨ok, hb, sr, sy, s3, su, sd, r, g, mm, us, ds, rfl, hpl, hmo, hM, rfl⟩ := h
  unfold sh_hier_Hier_N
  simp only [Option.isNone_some, cond_false]
  refine ⟨_, rfl, s3, by rw [addm, cell_blk hM.hd]; rfl, ?_⟩
  rw [hM.at_.view.len, fi_len]; exact hk
theorem HN_nil {K : Int → World → Prop} (hk : K 0 w) : sh_hier_Hier_N none K w := hk

/-- A place's rank; below 0: there is none. -/
def rankF (rank : List Int) (v : Int) : Int := if 0 ≤ v ∧ v < rank.length then rkA rank v else -1
theorem Rank_ok {v : Int} {K : Int → World → Prop} (h : HierA w p rank ways F) (hk : K (rankF rank v) w) : sh_hier_Hier_Rank p v K w := by
  unfold sh_hier_Hier_Rank
  unfold rankF at hk
  rw [Bool.cond_decide]
  split
  · rw [if_neg (by omega)] at hk; exact hk
  · refine HN_ok h ?_
    rw [Bool.cond_decide]
    split
    · rw [if_neg (by omega)] at hk; exact hk
    · rw [if_pos (by omega)] at hk
      obtain ⟨ok, hb, sr, sy, s3, su, sd, r, g, mm, us, ds, rfl, hpl, hmo, hM, rfl⟩ := h
      obtain ⟨u, rfl⟩ := Int.eq_ofNat_of_zero_le (show 0 ≤ v by omega)
      refine ⟨_, rfl, sr, by rw [addm, addm, cell_blk hM.hd]; rfl, ?_⟩
      refine int_idx hM.rk.view (by omega) fun _ q => ⟨_, q, ?_⟩
      rw [rk_get]; exact hk
theorem Rank_nil {v : Int} {K : Int → World → Prop} (hk : K (-1) w) : sh_hier_Hier_Rank none v K w := by
  unfold sh_hier_Hier_Rank
  rw [Bool.cond_decide]
  split
  · exact hk
  · refine HN_nil ?_
    rw [decide_eq_true (by omega)]; exact hk

theorem rankF_neg (ok : OkH rank ways) {v : Int} : rankF rank v < 0 ↔ ¬ (0 ≤ v ∧ v < rank.length) := by
  unfold rankF
  split
  · rename_i h
    obtain ⟨u, rfl⟩ := Int.eq_ofNat_of_zero_le h.1
    have hu : u < rank.length := by omega
    have := (ok.r.1 _ (List.getElem_mem hu)).1
    rw [rk_get hu] at this
    constructor
    · intro h'; omega
    · intro h'; exact absurd h h'
  · rename_i h; exact ⟨fun _ => h, fun _ => by omega⟩

/-- The ways up from a place, and down to it. -/
def upF (rank : List Int) (ways : List Wy) (v : Int) : List Edg := if 0 ≤ v ∧ v < rank.length then upP rank ways v ways.length else []
def dnF (rank : List Int) (ways : List Wy) (v : Int) : List Edg := if 0 ≤ v ∧ v < rank.length then dnP rank ways v ways.length else []

theorem Up_ok {v : Int} {K : SV → World → Prop} (h : HierA w p rank ways F) (hk : ∀ s w', Ext w w' → Own RD w' s (upF rank ways v) → Fsh w s → K s w') : sh_hier_Hier_Up p v K w := by
  unfold sh_hier_Hier_Up
  refine Rank_ok h ?_
  rw [Bool.cond_decide]
  split
  · rename_i hn
    rw [rankF_neg h.ok] at hn
    refine hk _ w (.refl _) ?_ fsh_nil
    unfold upF; rw [if_neg hn]; exact Own.nil
  · rename_i hn
    rw [rankF_neg h.ok, Classical.not_not] at hn
    obtain ⟨ok, hb, sr, sy, s3, su, sd, r, g, mm, us, ds, rfl, hpl, hmo, hM, rfl⟩ := h
    obtain ⟨u, rfl⟩ := Int.eq_ofNat_of_zero_le hn.1
    have hlen := hM.up.len
    rw [upsL_len] at hlen
    refine ⟨_, rfl, su, by rw [addm, cell_blk hM.hd]; rfl, ?_⟩
    refine slot_idx hM.up.so.view (by omega) fun _ q => ⟨_, q, ?_⟩
    have hrow := hM.up.row u (by omega) (by rw [upsL_len]; omega)
    rw [upsL_get] at hrow
    have hl := upP_len rank ways (u : Int) ways.length
    have hk' := ok.k
    refine Own.app (R := RD) Own.nil hrow.view (by simp only [List.length_nil]; omega) (by simp only [List.length_nil]; omega) fun s7 w8 c8 hs hO => ?_
    rw [List.nil_append] at hO
    refine hk s7 w8 (c8.ext fun k _ ⟨q, hq, _⟩ => by cases hq) ?_ fun k hk => ?_
    · unfold upF; rw [if_pos hn]; exact hO
    · rcases hs k hk with ⟨q, hq, _⟩ | h'
      · cases hq
      · exact h'
theorem Down_ok {v : Int} {K : SV → World → Prop} (h : HierA w p rank ways F) (hk : ∀ s w', Ext w w' → Own RD w' s (dnF rank ways v) → Fsh w s → K s w') : sh_hier_Hier_Down p v K w := by
  unfold sh_hier_Hier_Down
  refine Rank_ok h ?_
  rw [Bool.cond_decide]
  split
  · rename_i hn
    rw [rankF_neg h.ok] at hn
    refine hk _ w (.refl _) ?_ fsh_nil
    unfold dnF; rw [if_neg hn]; exact Own.nil
  · rename_i hn
    rw [rankF_neg h.ok, Classical.not_not] at hn
    obtain ⟨ok, hb, sr, sy, s3, su, sd, r, g, mm, us, ds, rfl, hpl, hmo, hM, rfl⟩ := h
    obtain ⟨u, rfl⟩ := Int.eq_ofNat_of_zero_le hn.1
    have hlen := hM.dn.len
    rw [dnsL_len] at hlen
    refine ⟨_, rfl, sd, by rw [addm, cell_blk hM.hd]; rfl, ?_⟩
    refine slot_idx hM.dn.so.view (by omega) fun _ q => ⟨_, q, ?_⟩
    have hrow := hM.dn.row u (by omega) (by rw [dnsL_len]; omega)
    rw [dnsL_get] at hrow
    have hl := dnP_len rank ways (u : Int) ways.length
    have hk' := ok.k
    refine Own.app (R := RD) Own.nil hrow.view (by simp only [List.length_nil]; omega) (by simp only [List.length_nil]; omega) fun s7 w8 c8 hs hO => ?_
    rw [List.nil_append] at hO
    refine hk s7 w8 (c8.ext fun k _ ⟨q, hq, _⟩ => by cases hq) ?_ fun k hk => ?_
    · unfold dnF; rw [if_pos hn]; exact hO
    · rcases hs k hk with ⟨q, hq, _⟩ | h'
      · cases hq
      · exact h'
theorem Up_nil {v : Int} {K : SV → World → Prop} (hk : K ⟨none, 0, 0⟩ w) : sh_hier_Hier_Up none v K w := by
  unfold sh_hier_Hier_Up; exact Rank_nil hk
theorem Down_nil {v : Int} {K : SV → World → Prop} (hk : K ⟨none, 0, 0⟩ w) : sh_hier_Hier_Down none v K w := by
  unfold sh_hier_Hier_Down; exact Rank_nil hk

theorem HFind_ok {u v : Int} {K : Int → World → Prop} (h : HierA w p rank ways F) (hk : K (ofN (findW ways u v)) w) : sh_hier_Hier_Find p u v K w := by
  obtain ⟨ok, hb, sr, sy, s3, su, sd, r, g, mm, us, ds, rfl, hpl, hmo, hM, rfl⟩ := h
  unfold sh_hier_Hier_Find
  simp only [Option.isNone_some, cond_false]
  have hlk := hmo u v
  refine ⟨_, rfl, some r, by rw [addm, cell_blk hM.hd]; rfl, mm, hM.m, gN (findW ways u v), by rw [hlk]; cases findW ways u v <;> rfl, ?_⟩
  rw [hlk]
  cases hf : findW ways u v with
  | none => rw [hf] at hk; exact hk
  | some k => rw [hf] at hk; exact hk
theorem HFind_nil {u v : Int} {K : Int → World → Prop} (hk : K (-1) w) : sh_hier_Hier_Find none u v K w := hk

/-- The place of a rank. -/
def IsAt (rank : List Int) (r x : Int) : Prop := (∃ v : Nat, ∃ h : v < rank.length, rank[v] = r ∧ x = (v : Int)) ∨ (∀ v : Nat, ∀ h : v < rank.length, rank[v] ≠ r) ∧ x = -1
theorem IsAt.uniq {r x y : Int} (hr : OkR rank) (h1 : IsAt rank r x) (h2 : IsAt rank r y) : x = y := by
  rcases h1 with ⟨v, hv, e1, rfl⟩ | ⟨n1, rfl⟩ <;> rcases h2 with ⟨u, hu, e2, rfl⟩ | ⟨n2, rfl⟩
  · have := (List.getElem_inj (h₀ := hv) (h₁ := hu) hr.2).1 (e1.trans e2.symm)
    rw [this]
  · exact absurd e1 (n2 v hv)
  · exact absurd e2 (n1 u hu)
  · rfl

theorem nodup_sub_len : ∀ (l l' : List Int), l.Nodup → (∀ x ∈ l, x ∈ l') → l.length ≤ l'.length
  | [], _, _, _ => Nat.zero_le _
  | x :: l, l', hn, hs => by
    have hx := hs x List.mem_cons_self
    have hn' := List.nodup_cons.1 hn
    have ih := nodup_sub_len l (l'.erase x) hn'.2 fun y hy => (List.mem_erase_of_ne (show y ≠ x from fun e => hn'.1 (e ▸ hy))).2 (hs y (List.mem_cons_of_mem _ hy))
    rw [List.length_erase_of_mem hx] at ih
    have : 0 < l'.length := List.length_pos_of_mem hx
    simp only [List.length_cons]; omega

/-- Each rank has its place. -/
theorem okR_onto (h : OkR rank) {r : Nat} (hr : r < rank.length) : ∃ v : Nat, ∃ hv : v < rank.length, rank[v] = (r : Int) := by
  have hin : ∀ x ∈ rank, x ∈ (List.range rank.length).map (fun (n : Nat) => (n : Int)) := fun x hx => by
    have := h.1 x hx
    obtain ⟨n, rfl⟩ := Int.eq_ofNat_of_zero_le this.1
    exact List.mem_map.2 ⟨n, List.mem_range.2 (by omega), rfl⟩
  have hrm : (r : Int) ∈ (List.range rank.length).map (fun (n : Nat) => (n : Int)) := List.mem_map.2 ⟨r, List.mem_range.2 hr, rfl⟩
  have this : (r : Int) ∈ rank := Classical.byContradiction fun hno => by
    have h1 := nodup_sub_len rank (((List.range rank.length).map (fun (n : Nat) => (n : Int))).erase (r : Int)) h.2 fun x hx => (List.mem_erase_of_ne (show x ≠ (r : Int) from fun e => hno (e ▸ hx))).2 (hin x hx)
    rw [List.length_erase_of_mem hrm] at h1
    simp at h1; omega
  obtain ⟨v, hv, he⟩ := List.getElem_of_mem this
  exact ⟨v, hv, he⟩

theorem HAt_ok {r : Int} {K : Int → World → Prop} (h : HierA w p rank ways F) (hk : ∀ x, IsAt rank r x → K x w) : sh_hier_Hier_At p r K w := by
  unfold sh_hier_Hier_At
  have hran := h.ok.r.1
  rw [Bool.cond_decide]
  split
  · exact hk _ (.inr ⟨fun v hv e => by have := (hran _ (List.getElem_mem hv)).1; omega, rfl⟩)
  · refine HN_ok h ?_
    rw [Bool.cond_decide]
    split
    · exact hk _ (.inr ⟨fun v hv e => by have := (hran _ (List.getElem_mem hv)).2; omega, rfl⟩)
    · obtain ⟨ok, hb, sr, sy, s3, su, sd, r', g, mm, us, ds, rfl, hpl, hmo, hM, rfl⟩ := h
      obtain ⟨n, rfl⟩ := Int.eq_ofNat_of_zero_le (show 0 ≤ r by omega)
      obtain ⟨v, hv, he⟩ := okR_onto ok.r (r := n) (by omega)
      refine ⟨_, rfl, s3, by rw [addm, cell_blk hM.hd]; rfl, ?_⟩
      refine fi_rd hM.at_.view (by omega) fun _ q => ⟨_, q, ?_⟩
      have := hpl v hv
      rw [he, Int.toNat_natCast] at this
      rw [this]
      exact hk _ (.inl ⟨v, hv, he, rfl⟩)

theorem HWay_ok {k : Int} {K : Int → Int → Int → Int → Int → Bool → World → Prop} (h : HierA w p rank ways F)
    (h1 : ∀ i : Nat, k = (i : Int) → ∀ hi : i < ways.length, ∀ w', Ext w w' → K (yF ways[i]) (yT ways[i]) (yW ways[i]) (yM ways[i]) (yA ways[i]) true w') (h2 : ¬ (0 ≤ k ∧ k < (ways.length : Int)) → ∀ w', Ext w w' → K 0 0 0 0 0 false w') : sh_hier_Hier_Way p k K w := by
  obtain ⟨ok, hb, sr, sy, s3, su, sd, r, g, mm, us, ds, rfl, hpl, hmo, hM, rfl⟩ := h
  unfold sh_hier_Hier_Way
  intro b1 w2 e2 g1 g1'
  simp only [Option.isNone_some, cond_false]
  rw [Bool.cond_decide]
  split
  · intro w4 o4; exact h2 (by omega) w4 (ext_off e2 o4 g1)
  · have hB := e2.blkE hM.hd
    have hY := hM.wy.ext e2
    have hl := hY.view.len
    refine ⟨_, rfl, sy, by rw [addm, addm, cell_blk hB]; rfl, ?_⟩
    rw [Bool.cond_decide]
    split
    · intro w4 o4; exact h2 (by omega) w4 (ext_off e2 o4 g1)
    · refine ⟨_, rfl, sy, by rw [addm, addm, cell_blk hB]; rfl, ?_⟩
      obtain ⟨i, rfl⟩ := Int.eq_ofNat_of_zero_le (show 0 ≤ k by omega)
      refine way_idx hY.view (by omega) fun a _ a0 a1 a2 a3 a4 => ⟨_, a0, _, a1, _, a2, _, a3, _, a4, ?_⟩
      intro w16 o16
      exact h1 i rfl (by omega) w16 (ext_off e2 o16 g1)

theorem HHalves_ok {k : Int} {K : Int → Int → Bool → World → Prop} (h : HierA w p rank ways F)
    (h1 : ∀ i : Nat, k = (i : Int) → ∀ hi : i < ways.length, yM ways[i] ≠ -1 → ∀ w', Ext w w' → K (gN (findW ways (yF ways[i]) (yM ways[i]))) (gN (findW ways (yM ways[i]) (yT ways[i]))) ((findW ways (yF ways[i]) (yM ways[i])).isSome && (findW ways (yM ways[i]) (yT ways[i])).isSome) w')
    (h2 : (∀ i : Nat, k = (i : Int) → ∀ hi : i < ways.length, yM ways[i] = -1) → ∀ w', Ext w w' → K 0 0 false w') : sh_hier_Hier_Halves p k K w := by
  unfold sh_hier_Hier_Halves
  refine HWay_ok h (fun i hki hi w7 e7 => ?_) (fun hno w7 e7 => ?_)
  · intro b8 w9 e9 g8 _ w10 o10
    have e10 : Ext w w10 := ext_off (e7.trans e9) o10 (by have := e7.size; omega)
    simp only [Bool.not_true, cond_false]
    by_cases hm : yM ways[i] = -1
    · rw [show (yM ways[i] == -1) = true by simpa using hm, cond_true]
      exact h2 (fun j hj hjl => by have : j = i := by omega
                                   subst this; exact hm) w10 e10
    · rw [show (yM ways[i] == -1) = false by simpa using hm, cond_false]
      have h1' := h1 i hki hi hm
      obtain ⟨ok, hb, sr, sy, s3, su, sd, r, g, mm, us, ds, rfl, hpl, hmo, hM, rfl⟩ := h
      have hB := e10.blkE hM.hd
      refine ⟨_, rfl, sr, by rw [addm, addm, cell_blk hB]; rfl, sy, by rw [addm, addm, cell_blk hB]; rfl, _, rfl, some r, by rw [addm, cell_blk hB]; rfl, ?_⟩
      refine Quiet.mk (gN (findW ways (yF ways[i]) (yM ways[i])), gN (findW ways (yM ways[i]) (yT ways[i])), ((findW ways (yF ways[i]) (yM ways[i])).isSome && (findW ways (yM ways[i]) (yT ways[i])).isSome)) (fun w' e' K' hK' => ?_) ?_
      · exact halves_ok (hM.m.grow (e10.trans e')) hmo fun w'' e'' => hK' w'' e''
      · intro w22 e22; exact h1' w22 (e10.trans e22)
  · intro b8 w9 e9 g8 _ w10 o10
    have e10 : Ext w w10 := ext_off (e7.trans e9) o10 (by have := e7.size; omega)
    simp only [Bool.not_false, cond_true]
    exact h2 (fun i hki hi => absurd ⟨by omega, by omega⟩ hno) w10 e10
end

/-- What Check tells. -/
noncomputable def chkF (rank : List Int) (ways : List Wy) : Int := by
  classical exact if ¬ OkL rank ways then 3 else if OkH rank ways then 0 else 2
theorem OkH.l {rank : List Int} {ways : List Wy} (h : OkH rank ways) : OkL rank ways := ⟨h.n, h.k⟩
theorem chkF_ok {rank : List Int} {ways : List Wy} (h : OkH rank ways) : chkF rank ways = 0 := by
  unfold chkF; rw [if_neg (fun hn => hn h.l), if_pos h]
theorem chkF_no {rank : List Int} {ways : List Wy} (h : ¬ OkH rank ways) : chkF rank ways ≠ 0 ∧ (OkL rank ways → chkF rank ways = 2) ∧ (¬ OkL rank ways → chkF rank ways = 3) := by
  unfold chkF
  by_cases hl : OkL rank ways
  · rw [if_neg (fun hn => hn hl), if_neg h]; exact ⟨by decide, fun _ => rfl, fun hn => absurd hl hn⟩
  · rw [if_pos hl]; exact ⟨by decide, fun h => absurd h hl, fun _ => rfl⟩
theorem HCheck_ok {w : World} {sr sy : SV} {rank : List Int} {ways : List Wy} {K : Int → World → Prop} (hr : View RI w sr rank) (hy : View RW w sy ways) (hk : ∀ w', Ext w w' → K (chkF rank ways) w') : sh_hier_Check sr sy K w := by
  unfold sh_hier_Check
  intro b1 w2 e2 g1 g1'
  refine check_ok (hr.ext e2) (hy.ext e2) (fun ok hb s3 r g mm w5 e5 _ => ⟨kp_ext e5 (by (intro b hb; simp only [List.mem_cons, List.not_mem_nil, or_false] at hb; omega)), ?_⟩) (fun no c w5 e5 hc c2 c3 => ⟨kp_ext e5 (by (intro b hb; simp only [List.mem_cons, List.not_mem_nil, or_false] at hb; omega)), ?_⟩)
  · have := hk w5 (e2.trans e5); rw [chkF_ok ok] at this; exact this
  · have := hk w5 (e2.trans e5)
    obtain ⟨_, q2, q3⟩ := chkF_no no
    by_cases hl : OkL rank ways
    · rw [q2 hl] at this; rw [c2 hl]; exact this
    · rw [q3 hl] at this; rw [c3 hl]; exact this
end Go.Sh
