/- HeapSteps. -/
import Derived.Test.YthpbelgmppaafaaRef03
set_option maxRecDepth 100000
namespace Go.Sh
open Go.RowKit

theorem HeapSteps_ok {n id : Int} {w : World} {l : SV} {ds : List (Int × Int × Int)} {K : Bool → World → Prop} (h : View RD w l ds) (hk : ∀ w', Ext w w' → K true w') : sh_postroadlaw03_HeapSteps n l id K w := by
  unfold sh_postroadlaw03_HeapSteps
  have hlen := h.len
  refine Join.cut (fun _ w1 => w1 = w ∧ (l.len ≤ 60)) (fun J hJ => ?_) ?_
  · have rest : cond (decide ((l.len : Int) > (60 : Int))) (sh_postroadlaw03_known (fun t4 w5 => (K t4 w5)) w) (J () w) := by
      rw [Bool.cond_decide]
      split
      · exact known_ok hk
      · exact hJ _ _ ⟨rfl, by omega⟩
    rw [Bool.cond_decide]
    split
    · rw [Bool.cond_decide]
      split
      · exact known_ok hk
      · exact rest
    · exact rest
  rintro _ w9 ⟨rfl, hl⟩
  refine rNew_ok fun w13 e13 => ?_
  intro b14 w15 e15 h14 h14' w16 o16
  have s13 := e13.size; have s15 := e15.size; have s16 := o16.size
  have e16 : Ext w9 w16 := ext_off (e13.trans e15) o16 (by omega)
  by_cases hr : 0 ≤ n ∧ n ≤ 16777216
  · rw [decide_eq_true hr]
    refine New_ok hr.1 hr.2 fun p w18 F e18 hA fA => ?_
    have s18 := e18.size
    refine ⟨fun c hc => by simp only [List.mem_cons, List.not_mem_nil, or_false] at hc; exact e18.blk (by omega), ?_⟩
    have hp : p.isNone = false := by
      obtain ⟨hb, s, t, es, pl, rfl, _⟩ := hA; rfl
    rw [hp]
    simp only [Bool.not_false, beq_self_eq_true, Bool.not_true, cond_false]
    refine Join.cut (fun _ w1 => Ext w9 w1) (fun J hJ => ?_) (fun _ w1 e1 => known_ok fun w' e' => hk w' (e1.trans e'))
    refine LoopT.gh (γ := Nat × List (Int × Int) × (Nat → Prop)) (fun gh (s : Int × (Int × SV × Unit) × Unit) w1 => s.1 = gh.1 ∧ gh.1 ≤ ds.length ∧ gh.2.1.length ≤ gh.1 ∧ Ext w9 w1 ∧ w16.heap.size ≤ w1.heap.size ∧
        HeapA w1 p n.toNat gh.2.1 gh.2.2 ∧ Since w16 gh.2.2 ∧ s.2.1.1 = n ∧ Own RE w1 s.2.1.2.1 gh.2.1 ∧ Fsh w16 s.2.1.2.1 ∧ (∀ k, s.2.1.2.1.blk k → ¬ gh.2.2 k)) (fun gh => ds.length - gh.1) (0, [], F)
      ⟨rfl, Nat.zero_le _, Nat.le_refl _, e16.trans e18, s18, hA, fA, rfl, Own.nil, fsh_nil, fun k ⟨q, hq, _⟩ => by cases hq⟩ ?_
    rintro ⟨i, L, F⟩ ⟨x, ⟨m, s, _⟩, _⟩ w26 ⟨hx, hi, hL, e26, z26, hA, fA, hm, hO, fO, dj⟩ J1 hJ1
    simp only at hx hi hL hA fA hm hO fO dj
    subst hx hm
    rw [Bool.cond_decide]
    by_cases hc : (i : Int) < (l.len : Int)
    · rw [if_pos hc]
      have hi' : i < ds.length := by omega
      refine do_idx (h.ext e26) hi' fun a a0 a1 a2 => ⟨_, a0, _, a1, _, a2, ?_⟩
      intro w36 e36
      have s36 := e36.size
      refine rStep_ok (hO.ext e36) (by omega) fun s32 w37 e37 hO37 f37 => ?_
      have s37 := e37.size
      refine ⟨⟨s37, fun b hb => e37.blk ?_⟩, fun c hc => by simp only [List.mem_cons, List.not_mem_nil, or_false] at hc; exact e37.blk (by omega), ?_⟩
      · rcases hb with hb | hb
        · exact hb.elim
        · exact hb.2
      intro b38 w39 e39 h38 h38' b40 w41 e41 h40 h40' w42 e42 w43 o43 w44 e44 w45 o45 w46 e46 w47 o47
      have s39 := e39.size; have s41 := e41.size; have s42 := e42.size; have s43 := o43.size; have s44 := e44.size; have s45 := o45.size; have s46 := e46.size; have s47 := o47.size
      have g38 : w26.heap.size ≤ b38 ∧ (b38 < w36.heap.size ∨ w37.heap.size ≤ b38) := by
        rcases h38 with (h' | h') | h'
        · exact h'.elim
        · exact ⟨h'.1, .inl h'.2⟩
        · exact ⟨by omega, .inr h'⟩
      have g40 : w26.heap.size ≤ b40 ∧ (b40 < w36.heap.size ∨ w37.heap.size ≤ b40) := by
        rcases h40 with ⟨h', _⟩ | h'
        · rcases h' with (h' | h') | h'
          · exact h'.elim
          · exact ⟨h'.1, .inl h'.2⟩
          · exact ⟨by omega, .inr h'.1⟩
        · exact ⟨by omega, .inr (by omega)⟩
      have sb : ∀ b, (w26.heap.size ≤ b ∧ (b < w36.heap.size ∨ w37.heap.size ≤ b)) ∨ b = b14 → ¬ s32.blk b ∧ ¬ F b := fun b hb => by
        refine ⟨fun hk => ?_, fun hk => ?_⟩
        · rcases f37 b hk with h' | h'
          · have h1 := hO.lt h'; have h2 := fO b h'; omega
          · have h3 := hO37.lt hk; omega
        · have h1 := hA.lt hk; have h2 := fA b hk; omega
      have n38 := sb b38 (.inl g38); have n40 := sb b40 (.inl g40); have n14 := sb b14 (.inr rfl)
      have e47 : Ext w9 w47 := ext_off ((ext_off ((ext_off (((((e26.trans e36).trans e37).trans e39).trans e41).trans e42) o43 (by omega)).trans e44) o45 (by omega)).trans e46) o47 (by omega)
      have hA47 : HeapA w47 p m.toNat L F := (((((((((hA.ext e36).ext e37).ext e39).ext e41).ext e42).off o43 n38.2).ext e44).off o45 n40.2).ext e46).off o47 n14.2
      have hO47 := ((((((((hO37.ext e39).ext e41).ext e42).off o43 n38.1).ext e44).off o45 n40.1).ext e46).off o47 n14.1)
      have dj37 : ∀ k, s32.blk k → ¬ F k := fun k hk => by
        rcases f37 k hk with h' | h'
        · exact dj k h'
        · intro hF; have := hA.lt hF; omega
      refine do_idx (h.ext e47) hi' fun a a0 a1 a2 => ⟨_, a0, _, a1, _, a2, ?_⟩
      refine did_ok hA47 fun w55 F55 c55 f55 hA55 => ?_
      have s55 := c55.size
      have kp3 : ∀ c, c = b14 ∨ c = b40 ∨ c = b38 → c < w47.heap.size ∧ ¬ F c := fun c hc => by
        rcases hc with rfl | rfl | rfl
        · exact ⟨by omega, n14.2⟩
        · exact ⟨by omega, n40.2⟩
        · exact ⟨by omega, n38.2⟩
      refine ⟨fun c hc => by
        simp only [List.mem_cons, List.not_mem_nil, or_false] at hc
        exact c55.block c (kp3 c hc).1 (kp3 c hc).2, ?_⟩
      have hO55 := hO47.chg c55 dj37
      have hO47lt : ∀ k, s32.blk k → k < w47.heap.size := fun k hk => hO47.lt hk
      have e55 : Ext w9 w55 := ((Chg.of_ext (F := F) e47).trans c55 fun _ _ h => h).ext fun k hk hF => by have := fA k hF; omega
      obtain ⟨rs1, rs2⟩ := ref_step hr.1 (L := L) ds[i].1 ds[i].2.1 ds[i].2.2
      rw [rs1]
      have hA55' := hA55.perm rs2
      have hnd := hA55'.nodup
      have hL' : (refF m L ds[i].1 ds[i].2.1 ds[i].2.2).2.length ≤ i + 1 := Nat.le_trans (ref_len _ _ _) (by omega)
      generalize hRL : (refF m L ds[i].1 ds[i].2.1 ds[i].2.2).2 = L' at hO55 hA55' hnd hL'
      refine rFirst_ok hO55.view (by omega) fun w59 e59 => ?_
      have s59 := e59.size
      refine ⟨fun c hc => by
        simp only [List.mem_cons, List.not_mem_nil, or_false] at hc
        exact e59.blk (by have := (kp3 c hc).1; omega), ?_⟩
      intro b60 w61 e61 h60 h60' w62 o62
      have s61 := e61.size; have s62 := o62.size
      have nF60 : ¬ F55 b60 := fun hk => by have := hA55'.lt hk; omega
      have hA62 := ((hA55'.ext e59).ext e61).off o62 nF60
      have hO62 := ((hO55.ext e59).ext e61).off o62 fun hk => by have := hO55.lt hk; omega
      have e62 : Ext w9 w62 := ext_off ((e55.trans e59).trans e61) o62 (by have := e55.size; omega)
      -- behind the heap's First
      have kp4 : ∀ c, c = b60 ∨ c = b14 ∨ c = b40 ∨ c = b38 → c < w62.heap.size := fun c hc => by
        rcases hc with rfl | hc
        · omega
        · have := (kp3 c hc).1; omega
      have kp : ∀ {wa wb}, w62.heap.size ≤ wa.heap.size → Ext wa wb → Keeps [b60, b14, b40, b38] wa wb := fun hz e c hc => by
        simp only [List.mem_cons, List.not_mem_nil, or_false] at hc
        exact e.blk (by have := kp4 c hc; omega)
      have key : ∀ (x63 x64 : Int) (t65 : Bool) (w66 : World), x63 = (minD L').1 → x64 = (minD L').2 → t65 = decide (L' ≠ []) → Ext w62 w66 →
          Keeps [b60, b14, b40, b38] w62 w66 ∧ sh_postroadref03_Key m s32 id (fun x67 t68 w69 => Keeps [b60, b14, b40, b38] w66 w69 ∧
            sh_heap_Heap_Key p id (fun x70 t71 w72 => Keeps [b60, b14, b40, b38] w69 w72 ∧
              cond ((refF m L ds[i].1 ds[i].2.1 ds[i].2.2).1.1 != (refF m L ds[i].1 ds[i].2.1 ds[i].2.2).1.1) (∀ w73, Ext w72 w73 → K false w73) (cond ((refF m L ds[i].1 ds[i].2.1 ds[i].2.2).1.2.1 != (refF m L ds[i].1 ds[i].2.1 ds[i].2.2).1.2.1) (∀ w74, Ext w72 w74 → K false w74)
                (cond (!((refF m L ds[i].1 ds[i].2.1 ds[i].2.2).1.2.2 == (refF m L ds[i].1 ds[i].2.1 ds[i].2.2).1.2.2)) (∀ w75, Ext w72 w75 → K false w75) (cond (x63 != (minD L').1) (∀ w76, Ext w72 w76 → K false w76) (cond (x64 != (minD L').2) (∀ w77, Ext w72 w77 → K false w77)
                (cond (!(t65 == decide (L' ≠ []))) (∀ w78, Ext w72 w78 → K false w78) (cond (x67 != x70) (∀ w79, Ext w72 w79 → K false w79) (cond (!(t68 == t71)) (∀ w80, Ext w72 w80 → K false w80)
                (Quiet Int (fun r82 => .int .i64 r82) (fun K83 w84' => sh_heap_Heap_Len p (fun x81 w84 => K83 x81 w84) w84') w72 (fun r82 => ∀ w85, Ext w72 w85 → cond (r82 != (s32.len : Int)) (K false w85) (J1 (IntKind.i64.wrap ((i : Int) + 1), (m, s32, ()), ()) w85)))))))))))
              w69) w66 := by
        rintro x63 x64 t65 w66 rfl rfl rfl e66
        have s66 := e66.size
        refine ⟨kp (Nat.le_refl _) e66, ?_⟩
        have hA66 := hA62.ext e66
        have hO66 := hO62.ext e66
        have fin : ∀ w72, Ext w66 w72 → ∀ r82 : Int, r82 = (L'.length : Int) → ∀ w85, Ext w72 w85 → cond (r82 != (s32.len : Int)) (K false w85) (J1 (IntKind.i64.wrap ((i : Int) + 1), (m, s32, ()), ()) w85) := by
          rintro w72 e72 r82 rfl w85 e85
          have hl2 := hO66.view.len
          rw [show ((L'.length : Int) != (s32.len : Int)) = false by rw [hl2]; simp, cond_false]
          have e6685 := e72.trans e85
          refine hJ1 (i + 1, L', F55) _ _ ⟨wsucc (m := ds.length + 1) (by omega) (by omega), by simp only; omega, by simp only; omega, (e62.trans e66).trans e6685, ?_, hA66.ext e6685, ?_, rfl, hO66.ext e6685, ?_, ?_⟩ (by simp only; omega)
          · have := e6685.size; omega
          · intro k hk
            rcases f55 k hk with h' | h'
            · exact fA k h'
            · omega
          · intro k hk
            rcases f37 k hk with h' | h'
            · exact fO k h'
            · omega
          · intro k hk hF
            rcases f55 k hF with h' | h'
            · exact dj37 k hk h'
            · have := hO47lt k hk; omega
        have len : ∀ w72, Ext w66 w72 → Quiet Int (fun r82 => .int .i64 r82) (fun K83 w84' => sh_heap_Heap_Len p (fun x81 w84 => K83 x81 w84) w84') w72 (fun r82 => ∀ w85, Ext w72 w85 → cond (r82 != (s32.len : Int)) (K false w85) (J1 (IntKind.i64.wrap ((i : Int) + 1), (m, s32, ()), ()) w85)) := fun w72 e72 =>
          Quiet.mk (L'.length : Int) (fun w' e' K' hK' => Len_ok ((hA66.ext e72).ext e') (hK' _ (.refl _))) (fin w72 e72 _ rfl)
        have cmp : ∀ (x : Int) (t : Bool) w69 w72, Ext w66 w69 → Ext w69 w72 → Keeps [b60, b14, b40, b38] w69 w72 ∧
              cond ((refF m L ds[i].1 ds[i].2.1 ds[i].2.2).1.1 != (refF m L ds[i].1 ds[i].2.1 ds[i].2.2).1.1) (∀ w73, Ext w72 w73 → K false w73) (cond ((refF m L ds[i].1 ds[i].2.1 ds[i].2.2).1.2.1 != (refF m L ds[i].1 ds[i].2.1 ds[i].2.2).1.2.1) (∀ w74, Ext w72 w74 → K false w74)
                (cond (!((refF m L ds[i].1 ds[i].2.1 ds[i].2.2).1.2.2 == (refF m L ds[i].1 ds[i].2.1 ds[i].2.2).1.2.2)) (∀ w75, Ext w72 w75 → K false w75) (cond ((minD L').1 != (minD L').1) (∀ w76, Ext w72 w76 → K false w76) (cond ((minD L').2 != (minD L').2) (∀ w77, Ext w72 w77 → K false w77)
                (cond (!(decide (L' ≠ []) == decide (L' ≠ []))) (∀ w78, Ext w72 w78 → K false w78) (cond (x != x) (∀ w79, Ext w72 w79 → K false w79) (cond (!(t == t)) (∀ w80, Ext w72 w80 → K false w80)
                (Quiet Int (fun r82 => .int .i64 r82) (fun K83 w84' => sh_heap_Heap_Len p (fun x81 w84 => K83 x81 w84) w84') w72 (fun r82 => ∀ w85, Ext w72 w85 → cond (r82 != (s32.len : Int)) (K false w85) (J1 (IntKind.i64.wrap ((i : Int) + 1), (m, s32, ()), ()) w85)))))))))) := by
          intro x t w69 w72 ea eb
          refine ⟨kp (by have := ea.size; omega) eb, ?_⟩
          simp only [bne_self_eq_false, beq_self_eq_true, Bool.not_true, cond_false]
          exact len w72 (ea.trans eb)
        refine rKey_ok hO66.view (by omega) (fun key hin w69 e69 => ⟨kp (by omega) e69, ?_⟩) (fun hno w69 e69 => ⟨kp (by omega) e69, ?_⟩)
        · refine Key_ok (hA66.ext e69) (fun key' hin' w72 e72 => ?_) fun hno => absurd hin (hno key)
          have := hA66.uniq hin hin'
          subst this
          exact cmp key true w69 w72 e69 e72
        · exact Key_ok (hA66.ext e69) (fun key' hin' => absurd hin' (hno key')) fun _ => cmp 0 false w69 w69 e69 (.refl _)
      by_cases hne : L' = []
      · subst hne
        exact First_no hA62 (key _ _ _ _ rfl rfl rfl (.refl _))
      · refine First_ok hA62 hne fun mm w66 hmm e66 => ?_
        exact key _ _ _ _ (by rw [hmm.minD]) (by rw [hmm.minD]) (by simp [hne]) e66
    · rw [if_neg hc]
      exact hJ _ _ e26
  · rw [decide_eq_false hr]
    refine New_no hr ?_
    refine ⟨fun c _ => rfl, ?_⟩
    simp only [Option.isNone_none, Bool.not_true, beq_self_eq_true, cond_false, Bool.not_false, cond_true]
    refine Set_nil ⟨fun c _ => rfl, ?_⟩
    simp only [Bool.not_false, cond_true]
    refine known_ok fun w' e' => ⟨fun c hc => ?_, hk w' (e16.trans e')⟩
    simp only [List.mem_cons, List.not_mem_nil, or_false] at hc
    exact e'.blk (by omega)
end Go.Sh
