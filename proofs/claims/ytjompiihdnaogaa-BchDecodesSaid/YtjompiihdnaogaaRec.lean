/- Walks over firkinref02: what is left of bits by the generator. -/
import Derived.Test.YtjompiihdnaogaaReb
namespace Go.Proofs.Ytjompiihdnaogaa
open Go.RowKit Go.Mem

/-- The first K terms of the generator, the highest first, are taken off at I. -/
def dvk (G : List Nat) (f : Nat → Nat) (I K : Nat) (j : Nat) : Nat := if I ≤ j ∧ j - I < K then f j ^^^ G.getD (j - I) 0 else f j
/-- Behind I places. -/
def dv (G : List Nat) (f : Nat → Nat) : Nat → Nat → Nat
  | 0 => f
  | I + 1 => if dv G f I I = 1 then dvk G (dv G f I) I G.length else dv G f I
theorem dvk_zero (G : List Nat) (f : Nat → Nat) (I : Nat) : dvk G f I 0 = f := by funext j; simp [dvk]
theorem dvk_succ (G : List Nat) (f : Nat → Nat) (I K : Nat) (j : Nat) : upd (dvk G f I K) (I + K) (dvk G f I K (I + K) ^^^ G.getD K 0) j = dvk G f I (K + 1) j := by
  unfold upd dvk
  by_cases h : j = I + K
  · subst h
    rw [if_pos rfl, if_neg (by omega), if_pos (by omega), show I + K - I = K by omega]
  · rw [if_neg h]
    by_cases h2 : I ≤ j ∧ j - I < K
    · rw [if_pos h2, if_pos (by omega)]
    · rw [if_neg h2, if_neg (by omega)]
theorem dvk_le {G : List Nat} {f : Nat → Nat} (hG : ∀ i, G.getD i 0 ≤ 1) (hf : ∀ j, f j ≤ 1) (I K : Nat) : ∀ j, dvk G f I K j ≤ 1 := fun j => by
  unfold dvk
  split
  · have := Nat.xor_lt_two_pow (n := 1) (show f j < 2^1 by have := hf j; omega) (show G.getD (j - I) 0 < 2^1 by have := hG (j - I); omega)
    omega
  · exact hf j
theorem dv_le {G : List Nat} {f : Nat → Nat} (hG : ∀ i, G.getD i 0 ≤ 1) (hf : ∀ j, f j ≤ 1) (I : Nat) : ∀ j, dv G f I j ≤ 1 := by
  induction I with
  | zero => exact hf
  | succ I ih =>
    rw [dv]
    split
    · exact dvk_le hG ih _ _
    · exact ih

/-- What is left: the last r of the bits. -/
def rst (G : List Nat) (l : List Nat) (r : Nat) : List Nat := (List.range r).map fun i => dv G (l.getD · 0) (l.length - r) (l.length - r + i)

set_option maxRecDepth 100000 in
set_option maxHeartbeats 1600000 in
theorem rrest_any (v1 v2 : Value) (l : List Nat) (bytes t m : Nat) (w : World) (hp : Par bytes t m) (h : RC w v1 bytes t m) (hv : Rd .i64 w v2 l) (hb : ∀ y ∈ l, y ≤ 1) (hl : l.length ≤ 1000000) (hr : rr m t ≤ l.length) :
    Calls Try.prog 36 #[v1, v2] w fun e w' => ∃ v', e = .returned v' ∧ Rd .i64 w' v' (rst (Gf.gen m t).reverse l (rr m t)) ∧ Below w.heap.size w w' := by
  have HRC := hid h
  have HV := hid hv
  have HBB := hid hb
  have hl0 : 0 < l.length := by have := hp.r.2.1; omega
  obtain ⟨gv, rfl, ga, gcap, rfl, h4, h5, h6⟩ := h
  have hgl := hp.r.1
  obtain ⟨G, hG⟩ : ∃ G, (Gf.gen m t).reverse = G := ⟨_, rfl⟩
  have hGl : G.length = rr m t + 1 := by rw [← hG, List.length_reverse, hgl]
  have hG1 : ∀ i, G.getD i 0 ≤ 1 := fun i => by
    have : ∀ y ∈ G, y ≤ 1 := fun y hy => by
      rw [← hG] at hy
      rcases Gf.gen_bin hp.ok t y (by simpa using hy) with e | e <;> omega
    rcases Nat.lt_or_ge i G.length with hi | hi
    · exact this _ (getD_mem hi)
    · rw [Gf.getD_ge hi]; omega
  rw [hG] at h4 h6 ⊢
  have HG := hid hG
  have H6 := hid h6
  have r104 := hp.r.2.2.2.1
  obtain ⟨r, hrr⟩ : ∃ r, rr m t = r := ⟨_, rfl⟩
  have HRr : Hid (∀ v w', RC w' v bytes t m → Calls Try.prog 17 #[v] w' fun e w'' => e = .returned (.int .i64 (r : Nat)) ∧ Below w'.heap.size w' w'') := hid fun v w' h' => by rw [← hrr]; exact rR_any v bytes t m w' hp h'
  rw [hrr] at hGl r104 hr
  rw [hrr]
  have HRR := hid hrr
  have hGle := hid hG1
  have HGL := hid hGl
  clear h6 hv hb hG hgl hrr hG1 hGl
  obtain ⟨bx, hbx⟩ : ∃ bx, w.heap.size = bx := ⟨_, rfl⟩
  have HBX := hid hbx
  clear hbx
  go_enter Try.func36, Try.ntmps36
  go_wp2_with (at_builtin; refine app_row el_int rfl _ _ rfl w.heap.size (.slice none 0 0) [] rfl (Own.nil _ _ _ _) l (by exact HV.out.below ((Below.refl _ _).alloc (Nat.le_refl _) _)) hl0 (by simp; omega) (by simp) ?_; intro g1 cap1 w1 hown hgrow hat; have hC1 := (hgrow.block w.heap.size (by simp) (by simp [Value.ownBlock])).trans (alloc_new w _); have q0 := cell_at hC1 0; have q1 := cell_at hC1 1; have q2 := cell_at hC1 2; have q3 := cell_at hC1 3; have hbw := grow_below (v := .slice none 0 0) (((Below.refl w.heap.size w).alloc (Nat.le_refl _) _)) (by simp) hgrow (by simp [Value.ownBlock]); have hg1b : w.heap.size < g1 := (by rcases hat with hat | hat; simp [Value.ownBlock] at hat; simp at hat; omega); have HOWN := hid hown; have HBW := hid hbw; have HC1 := hid hC1; clear hown hbw hC1 hgrow hat)
  have HRC' : Hid (RC w (.agg #[.int .i64 m, .int .i64 bytes, .int .i64 t, .slice ga G.length gcap]) bytes t m) := hid (by rw [← HG.out]; exact HRC.out)
  refine (HRr.out _ _ (HRC'.out.below HBW.out)).mono ?_
  rintro e w2 ⟨rfl, hb2⟩
  have ho := HOWN.out
  simp only [List.length_nil, Nat.zero_add, List.nil_append] at ho
  obtain ⟨g1', cap1', he, hg1', ho1⟩ := ho.ow hl0
  cases he
  have HO2 : Hid (Ow .i64 3 w2 g1 l.length cap1 (dv G (l.getD · 0) 0)) := hid (ho1.same (hb2.block _ ho1.lt))
  have HC2 : Hid (w2.heap[w.heap.size]? = some (.cells #[.int .i64 m, .int .i64 bytes, .int .i64 t, .slice ga G.length gcap] 29 (0, 0))) := hid ((hb2.block _ (lt_at HC1.out)).trans HC1.out)
  have HB2 : Hid (Below w.heap.size w w2) := hid (HBW.out.comp hb2)
  clear q0 q1 q2 q3 ho ho1 hg1' hb2 HOWN HC1 HBW
  obtain ⟨M, hM⟩ : ∃ M, l.length - r = M := ⟨_, rfl⟩
  have hMz : l.length = M + r := by omega
  have HM := hid hMz
  have hlM : (l.length : Int) ≤ 1000000 := by omega
  have HF0 : Hid (∀ j, (fun x => l.getD x 0) j ≤ 1) := hid fun j => by
    show l.getD j 0 ≤ 1
    rcases Nat.lt_or_ge j l.length with hj | hj
    · exact HBB.out _ (getD_mem hj)
    · rw [Gf.getD_ge hj]; omega
  obtain ⟨f, hf⟩ : ∃ f, (fun x => l.getD x 0) = f := ⟨_, rfl⟩
  rw [hf] at HO2 HF0
  have HFE := hid hf
  clear hM hf hMz
  go_wp2_with fail
  go_loopg [7] M (fun gk i wr => ∃ I : Nat, I + gk = M ∧ i = .int .i64 I ∧ Ow .i64 3 wr g1 l.length cap1 (dv G f I) ∧ wr.heap[w.heap.size]? = some (.cells #[.int .i64 m, .int .i64 bytes, .int .i64 t, .slice ga G.length gcap] 29 (0, 0)) ∧ Below w.heap.size w wr)
  case atStart => exact ⟨0, by omega, rfl, HO2.out, HC2.out, HB2.out⟩
  case round =>
    clear HO2 HC2 HB2
    obtain ⟨I, hI, rfl, ho, hc, hb⟩ := hrel
    have HO := hid ho
    have HC := hid hc
    have HB := hid hb
    clear ho hc hb
    have hlen := HM.out
    by_cases hlt : I < M
    · have hltz : (I : Int) + r < (l.length : Int) := by omega
      have hIlt : (I : Int) < (l.length : Int) := by omega
      have cx : wr.cell? ⟨g1, I, none⟩ = some (.int .i64 ((dv G f I I : Nat) : Int)) := HO.out.cell (by omega)
      have hst : dv G f (I+1) = if dv G f I I = 1 then dvk G (dv G f I) I G.length else dv G f I := rfl
      obtain ⟨x, hx⟩ : ∃ x, dv G f I I = x := ⟨_, rfl⟩
      rw [hx] at cx hst
      have HST := hid hst
      have hfl := dv_le hGle.out HF0.out I
      obtain ⟨F, hF⟩ : ∃ F, dv G f I = F := ⟨_, rfl⟩
      rw [hF] at HST HO hfl
      have HFL := hid hfl
      have HLEN := hid hlen
      clear hst hx hF hfl hlen
      by_cases hx1 : x = 1
      · subst hx1
        obtain ⟨wo, rfl⟩ : ∃ wo : World, wo = wr := ⟨_, rfl⟩
        go_wp2_with fail
        clear cx
        go_loopg [8] G.length (fun gk i wr => ∃ K : Nat, K + gk = G.length ∧ i = .int .i64 K ∧ Ow .i64 3 wr g1 l.length cap1 (dvk G F I K) ∧ wr.heap[w.heap.size]? = some (.cells #[.int .i64 m, .int .i64 bytes, .int .i64 t, .slice ga G.length gcap] 29 (0, 0)) ∧ Below w.heap.size w wr)
        case atStart => exact ⟨0, by omega, rfl, by rw [dvk_zero]; exact HO.out, HC.out, HB.out⟩
        case round =>
          clear HO HC HB
          obtain ⟨K, hK, rfl, ho, hc, hb⟩ := hrel
          have HO := hid ho
          have HC := hid hc
          have HB := hid hb
          have cb3 : wr.cell? ⟨w.heap.size, 3, none⟩ = some (.slice ga G.length gcap) := cell_at hc 3
          clear ho hc hb
          by_cases hlt2 : K < G.length
          · obtain ⟨g2, o2, rfl, hy1⟩ := H6.out K hlt2
            have cy : wr.cell? ⟨g2, o2 + K, none⟩ = some (.int .i64 ((G.getD K 0 : Nat) : Int)) := by rw [HB.out.cell (World.block_lt_of_cell? _ _ hy1)]; exact hy1
            have HY1 := hid hy1
            have hGlen := HGL.out
            have hMl := HLEN.out
            have hIK : I + K < l.length := by omega
            have cz : wr.cell? ⟨g1, I + K, none⟩ = some (.int .i64 ((dvk G F I K (I + K) : Nat) : Int)) := HO.out.cell hIK
            have fz : wr.frozen? ⟨g1, I + K, none⟩ = false := HO.out.free _
            have es : IntKind.i64.wrap ((I : Int) + K) = ((I + K : Nat) : Int) := by rw [IntWalk.i64_in _ (by omega)]; simp
            have hb1 : ((I + K : Nat) : Int) < (l.length : Int) := by omega
            have hb2 : (K : Int) < (G.length : Int) := by omega
            have hv1 := dvk_le hGle.out HFL.out I K (I + K)
            have hv2 := hGle.out K
            have ex := xor_i64 (dvk G F I K (I + K)) (G.getD K 0) (by omega) (by omega)
            have hstep := dvk_succ G F I K
            have HSTEP := hid hstep
            clear hstep hGlen hMl hy1
            generalize dvk G F I K (I + K) = v0 at *
            generalize G.getD K 0 = z at *
            go_wp2_with fail
            refine wp_region_quiet_tail 17 (by kernel_rfl) (by kernel_rfl) ?_
            simp only [List.take_succ_cons, List.take_zero, List.drop_succ_cons, List.drop_zero]
            repeat (go_big_quiet_step (fail))
            refine wpQuiet_nil ?_
            intro _ hw'
            obtain ⟨nq, hw''⟩ := hw'
            subst hw''
            go_wp2_with fail
            go_roundg (G.length - (K + 1))
            case measure => omega
            case rel =>
              refine ⟨K + 1, by omega, by go_num, ?_, ?_, ?_⟩
              · refine Ow.congr (f := upd (dvk G F I K) (I + K) (v0 ^^^ z)) ?_ (fun j _ => HSTEP.out j)
                exact Ow.set (w := wr.drewN nq) HO.out _ _
              · exact (set_other (Nat.ne_of_lt hg1b)).trans HC.out
              · exact (HB.out.drewN nq).setCell (Nat.le_of_lt hg1b) _
          · obtain rfl : K = G.length := by omega
            go_wp2_with fail
            go_roundg (M - (I + 1))
            case measure => omega
            case rel => exact ⟨I + 1, by omega, by go_num, by rw [HST.out, if_pos (by first | rfl | trivial)]; exact HO.out, HC.out, HB.out⟩
      · have hxb : ((x : Int) == 1) = false := beq_eq_false_iff_ne.2 (by omega)
        have HX1 := hid hx1
        clear hx1
        go_wp2_with fail
        go_roundg (gk - 1)
        case measure => omega
        case rel => exact ⟨I + 1, by omega, by go_num, by rw [HST.out, if_neg HX1.out]; exact HO.out, HC.out, HB.out⟩
    · obtain rfl : I = M := by omega
      have hIr : (l.length : Int) - r = (I : Int) := by omega
      have r1 : 1 ≤ r := by have := HRR.out; have := hp.r.2.1; omega
      have hcap : l.length ≤ cap1 := by obtain ⟨_, _, _, h, _⟩ := HO.out; exact h
      have hIc : (I : Int) < (cap1 : Int) := by omega
      have hIl : (I : Int) ≤ (l.length : Int) := by omega
      have HLEN := hid hlen
      have HIR := hid hIr
      clear hlen
      go_wp2_with fail
      go_ret
      have hM := HM.out
      refine ⟨.slice (some ⟨g1, I, none⟩) (l.length - I) (cap1 - I), rfl, ⟨some ⟨g1, I, none⟩, cap1 - I, ?_, ?_, ?_, fun j hj => ⟨g1, I, rfl, ?_⟩⟩, HB.out⟩
      · rw [show (rst G l r).length = l.length - I by unfold rst; simp; omega]
      · unfold rst; simp; omega
      · obtain ⟨_, _, _, _, h, _⟩ := HO.out; omega
      · have hj' : j < r := by unfold rst at hj; simpa using hj
        rw [HO.out.cell (show I + j < l.length by omega)]
        unfold rst
        rw [rg_getD _ _ _ hj', HFE.out, show l.length - r = I by omega]
end Go.Proofs.Ytjompiihdnaogaa
