/- Walks over firkinref05: what is packed. -/
import Derived.Test.YtoanopegoilcnaaGreatZZm
import Derived.Test.YtoanopegoilcnaaGreatZKip
import Derived.Deep.RegionHeld3
set_option linter.unusedVariables false
namespace Go.Mem
open Go.RowKit
section
variable {P : Program} {T e ti : TypeId} {B : Nat} {w : World} {v : Value} {xs : List Nat}
variable {ops : Array Oper} {rest : List Oper} {o : Oper} {a : Act} {Q : Exit → Act → World → Prop}
/-- Bytes 0 more, in a region that does not draw. -/
theorem app_zeros (hgd : o.guard = none) (E : ElT P T e .u8 1) (hti : P.underlying ti = some (.int .i64)) (s x : Operand) (ho : o.op = .call { callee := .builtin .append, args := #[s, x], argTypes := #[T, ti] })
    (B : Nat) (v : Value) (xs : List Nat) (hs : a.eval s = v) (hown : Own .u8 e B w v xs) (h0 : 0 < xs.length) (m : Nat) (hx : a.eval x = .int .i64 (m : Nat)) (hm0 : 0 < m) (hm : m ≤ 1000000) (hl : xs.length ≤ 1000000000) (hB : B ≤ w.heap.size)
    (h : ∀ g cap w', Own .u8 e B w' (.slice (some ⟨g, 0, none⟩) (xs.length + m) cap) (xs ++ List.replicate m 0) → w.grownBy w' v.ownBlock → (v.ownBlock = some g ∨ g = w.heap.size) →
      wpList P ops Q rest (a.put o.dst (.slice (some ⟨g, 0, none⟩) (xs.length + m) cap)) w') : wpList P ops Q (o :: rest) a w :=
  wpList_plain hgd fun _ hK => wp_zeros E hti s x ho B v xs hs hown h0 m hx hm0 hm hl hB fun g cap w' h2 h3 h4 => hK _ _ (h g cap w' h2 h3 h4)
end
section
variable {P : Program} {T e : TypeId} {k : IntKind} {bytes : Nat} {B : Nat} {w : World} {v : Value} {xs : List Nat}
variable {ops : Array Oper} {o : Oper} {a : Act} {Q : Exit → Act → World → Prop} {K : Act → World → Prop} {E' : Prop}
/-- A row more, at a step of a region that draws. -/
theorem step_row (E : ElT P T e k bytes) (hgd : o.guard = none) (s x : Operand) (ho : o.op = .call { callee := .builtin .append, args := #[s, x], argTypes := #[T, T] })
    (B : Nat) (v : Value) (xs : List Nat) (hs : a.eval s = v) (hown : Own k e B w v xs) (ys : List Nat) (hsrc : Rd k w (a.eval x) ys) (h0 : 0 < ys.length)
    (hlen : xs.length + ys.length ≤ 1000000000) (hB : B ≤ w.heap.size)
    (h : ∀ g cap w', Own k e B w' (.slice (some ⟨g, 0, none⟩) (xs.length + ys.length) cap) (xs ++ ys) → w.grownBy w' v.ownBlock → (v.ownBlock = some g ∨ g = w.heap.size) →
      K (a.put o.dst (.slice (some ⟨g, 0, none⟩) (xs.length + ys.length) cap)) w') : if Region.wanted o (yielded ops a.tmps) = true then Oper.wp P o a w K Q else E' := by
  obtain ⟨i, hi, hz, hs', hb⟩ := info_parts E.inf
  have h8 := E.small
  obtain ⟨sa, c, hx, hc1, hc2, hcell⟩ := hsrc
  obtain ⟨g0, o0, rfl, _⟩ := hcell 0 h0
  refine step_append_lies w hgd s x T ho B e i (.int k 0) 1 bytes E.und hi hz hs' hb rfl (by decide) v xs.length _ hs hown ⟨g0, o0, none⟩ ys.length c (ys.map fun x => Value.int k (x : Nat)) hx (by simp) (fun j u hu => ?_) (fun u hu => ?_) h0 (by unfold maxLen; omega) ?_ hB _ rfl ?_
  · have hadd : (⟨g0, o0, none⟩ : Addr).add j = ⟨g0, o0 + j, none⟩ := by unfold Addr.add; split <;> simp_all
    rw [hadd]
    rw [List.getElem?_map] at hu
    rcases Nat.lt_or_ge j ys.length with hj | hj
    · obtain ⟨g', o', he, hx'⟩ := hcell j hj
      cases he
      rw [hx']
      rw [List.getElem?_eq_getElem hj] at hu
      simp only [Option.map_some, Option.some.injEq] at hu
      rw [← hu]; simp [List.getD, hj]
    · rw [List.getElem?_eq_none hj] at hu; cases hu
  · obtain ⟨y, _, rfl⟩ := List.mem_map.1 hu
    rfl
  · have : (xs.length + ys.length) * bytes ≤ (xs.length + ys.length) * 8 := Nat.mul_le_mul_left _ h8
    omega
  · intro g cap w' h2 h3 h4 _
    refine h g cap w' ?_ h3 h4
    unfold Own
    simpa using h2
end
end Go.Mem
namespace Go.Proofs.YtoanopegoilcnaaGreat
open Go.RowKit Go.Mem Go.Pg

theorem rd_zeros (S : Nat) {w : World} {g : Nat} (h : w.heap[g]? = some (.cells (fa .u8 S (fun _ => 0)) 5 (0, 0))) (hS : S ≤ 1000) : Rd .u8 w (.slice (some ⟨g, 0, none⟩) S S) (List.replicate S 0) := by
  have := Rd.of_fa h S S (Nat.le_refl _) (Nat.le_refl _) (by unfold maxLen; omega)
  have e : (List.range S).map (fun _ => 0) = List.replicate S 0 := by
    apply List.ext_getElem (by simp)
    intro i h1 h2
    simp
  rwa [e] at this
theorem fixR_get {S : Nat} {ys : List (List Nat)} {I : Nat} (hI : I < ys.length) (h : ys.getD I [] = [] ∨ (ys.getD I []).length = S) : (fixR S ys).getD I [] = ys.getD I [] := by
  unfold fixR
  rw [List.getD_eq_getElem?_getD, List.getElem?_map, List.getElem?_eq_getElem hI]
  rw [List.getD_eq_getElem?_getD, List.getElem?_eq_getElem hI] at h ⊢
  simp only [Option.map_some, Option.getD_some] at h ⊢
  by_cases e : ys[I].length = S
  · rw [if_pos e]
  · rw [if_neg e]; exact (h.resolve_right e).symm
theorem fixR_all {S : Nat} {ys : List (List Nat)} (h : ∀ x ∈ ys, x = [] ∨ x.length = S) : fixR S ys = ys := by
  unfold fixR
  refine (List.map_congr_left (fun x hx => ?_)).trans (List.map_id ys)
  by_cases e : x.length = S
  · rw [if_pos e]; rfl
  · rw [if_neg e]; exact ((h x hx).resolve_right e).symm
theorem sec_cases {S : Nat} {x : List Nat} (h : x = [] ∨ x.length = S) : secB S x = if x.length = 0 then List.replicate S 0 else x := by
  unfold secB
  by_cases e : x = []
  · rw [if_pos e, if_pos (by rw [e]; rfl)]
  · rw [if_neg e, if_neg (fun k => e (List.eq_nil_of_length_eq_zero k))]

set_option maxRecDepth 100000 in
set_option maxHeartbeats 6400000 in
theorem r5pack_any (S N T mw mh : Nat) (v5 v sv : Value) (h : Head) (ys : List (List Nat)) (w : World) (hL : Lay S N T mw mh) (hq : Par (13 + 11 * N) T mh) (h5 : F5 w v5 S N T mw mh) (hv : HdV w v h) (hw : h.Wf) (hs : RB w sv ys) (hx : ∀ x ∈ ys, ∀ y ∈ x, y < 256) :
    Calls Tryz.prog 9 #[v5, v, sv] w fun e w' => (if CanB S N h ys then ∃ v', e = .returned (.tuple #[v', .int .i64 0]) ∧ Own .u8 5 w.heap.size w' v' (packB S N T mw mh h ys) else e = .returned (.tuple #[.slice none 0 0, .int .i64 1])) ∧ Below w.heap.size w w' := by
  have HF5 := hid h5
  have HWF := hid hw
  have HL := hid hL
  have HQ := hid hq
  have HX := hid hx
  have hS2 := hL.s2
  have hN8 := hL.n2
  obtain ⟨ga, gl, gc, ha, hl, hc, rfl, hrw, hrh⟩ := h5.parts
  have HRW := hid hrw
  have HRH := hid hrh
  obtain ⟨zv, rfl, hsl⟩ := hv
  have HSL := hid hsl
  obtain ⟨za, zcap, rfl, z1, z2, z3⟩ := hsl
  obtain ⟨sa, scap, rfl, s1, s2, s3⟩ := hs
  have Z3 := hid z3
  have S3 := hid s3
  obtain ⟨n, hn⟩ : ∃ n, h.slots.length = n := ⟨_, rfl⟩
  obtain ⟨k, hk⟩ : ∃ k, ys.length = k := ⟨_, rfl⟩
  have HSL' : Hid (∀ V, Below w.heap.size w V → HdV V (.agg #[.int .i64 h.kind, .int .u32 (h.id : Nat), .int .i64 h.row, .int .i64 h.place, .int .i64 h.width, .slice za n zcap]) h) := hid fun V hV => ⟨_, by rw [← hn], HSL.out.below hV⟩
  rw [hn] at z1 ⊢
  rw [hk] at s1 ⊢
  have HN := hid hn
  have HK := hid hk
  have hz1 : (n : Int) ≤ (zcap : Int) := by omega
  have hz2 : (zcap : Int) ≤ 9223372036854775807 := by unfold maxLen at z2; omega
  have hs1 : (k : Int) ≤ (scap : Int) := by omega
  have hs2 : (scap : Int) ≤ 9223372036854775807 := by unfold maxLen at s2; omega
  clear h5 hrw hrh z1 z2 z3 s1 s2 s3 hw hL hq hx hn hk
  have BAD : Hid (∀ w', ¬ CanB S N h ys → Below w.heap.size w w' → (if CanB S N h ys then ∃ v', Ending.returned (.tuple #[.slice none 0 0, .int .i64 1]) = .returned (.tuple #[v', .int .i64 0]) ∧ Own .u8 5 w.heap.size w' v' (packB S N T mw mh h ys) else Ending.returned (.tuple #[.slice none 0 0, .int .i64 1]) = .returned (.tuple #[.slice none 0 0, .int .i64 1])) ∧ Below w.heap.size w w') := hid fun w' hb hbel => ⟨by rw [if_neg hb], hbel⟩
  go_enter Tryz.func9, Tryz.ntmps9
  go_upto_region 1 with (fail)
  obtain ⟨W, hW⟩ : ∃ W, (w.alloc (.cells #[.int .i64 S, .int .i64 N, .int .i64 T, .int .i64 mw, .int .i64 ((S : Int) + 4), .int .i64 T, .slice ga gl gc, .int .i64 mh, .int .i64 (13 + 11 * (N : Int)), .int .i64 T, .slice ha hl hc] 35)).alloc (.cells #[.int .i64 h.kind, .int .u32 (h.id : Nat), .int .i64 h.row, .int .i64 h.place, .int .i64 h.width, .slice za n zcap] 27) = W := ⟨_, rfl⟩
  have hfx : W.heap[w.heap.size]? = some (.cells #[.int .i64 S, .int .i64 N, .int .i64 T, .int .i64 mw, .int .i64 ((S : Int) + 4), .int .i64 T, .slice ga gl gc, .int .i64 mh, .int .i64 (13 + 11 * (N : Int)), .int .i64 T, .slice ha hl hc] 35 (0, 0)) := by rw [← hW]; exact (alloc_old (by simp)).trans (alloc_new w _)
  have hbx : W.heap[w.heap.size + 1]? = some (.cells #[.int .i64 h.kind, .int .u32 (h.id : Nat), .int .i64 h.row, .int .i64 h.place, .int .i64 h.width, .slice za n zcap] 27 (0, 0)) := by rw [← hW]; exact alloc_at (by simp)
  have hbW : Below w.heap.size w W := by rw [← hW]; exact bl_alloc (bl_alloc (Below.refl _ _) _) _
  rw [hW]
  obtain ⟨b, hbE⟩ : ∃ b, w.heap.size + 1 = b := ⟨_, rfl⟩
  rw [hbE] at hbx ⊢
  obtain ⟨fb, hfE⟩ : ∃ b, w.heap.size = b := ⟨_, rfl⟩
  rw [hfE] at hfx ⊢
  have q0 := cell_at hbx 0
  have q1 := cell_at hbx 1
  have q2 := cell_at hbx 2
  have q3 := cell_at hbx 3
  have q4 := cell_at hbx 4
  have q5 := cell_at hbx 5
  have c0 := cell_at hfx 0
  have c1 := cell_at hfx 1
  have c2 := cell_at hfx 2
  have c3 := cell_at hfx 3
  have c4 := cell_at hfx 4
  have c5 := cell_at hfx 5
  have c6 := cell_at hfx 6
  have c7 := cell_at hfx 7
  have c8 := cell_at hfx 8
  have c9 := cell_at hfx 9
  have c10 := cell_at hfx 10
  have HBX := hid hbx
  have HFX := hid hfx
  have HBW := hid hbW
  clear hW hfx hbx hbW hbE hfE
  go_wp2_with fail
  refine (r5may_any S N T mw mh _ _ h W (HF5.out.below HBW.out) (HSL'.out W HBW.out) HWF.out hN8).mono ?_
  rintro e w1 ⟨rfl, hb1⟩
  have HB1 := hid hb1
  have hf1 := (hb1.block fb (lt_at HFX.out)).trans HFX.out
  have g1 := cell_at hf1 1
  clear hb1 hf1 q0 q1 q2 q3 q4 q5 c0 c1 c2 c3 c4 c5 c6 c7 c8 c9 c10
  by_cases hm : h.May N
  · rw [decide_eq_true hm]
    have HM := hid hm
    clear hm
    by_cases hkN : k = N
    · subst hkN
      have e1 : ((k : Int) != (k : Int)) = false := bne_self_eq_false _
      have hnk : n = k := HN.out.symm.trans HM.out.1.2.2.2.2.2.2.2.2
      subst hnk
      have hcan := hid (fixR_can (S := S) HM.out HK.out)
      obtain ⟨xs, hxs⟩ : ∃ xs, fixR S ys = xs := ⟨_, rfl⟩
      have hxlt := fixR_lt (S := S) HX.out
      rw [hxs] at hcan hxlt
      have HCAN := hcan
      have HXLT := hid hxlt
      have HXS := hid hxs
      clear hcan hxlt hxs e1
      go_wp2_with fail
      have hmk := fun w => mk_bytes S (by omega) w
      go_loopg [9, 10] n (fun gk o i wr => ∃ I : Nat, I + gk = n ∧ i = .int .i64 I ∧ (∀ j, j < I → ys.getD j [] = [] ∨ (ys.getD j []).length = S) ∧ Own .u8 5 W.heap.size wr o (secsB S T mw h xs I) ∧ Below W.heap.size W wr)
      case atStart => exact ⟨0, by omega, rfl, fun j hj => by omega, Own.nil _ _ _ _, HB1.out⟩
      case round =>
        clear HB1
        obtain ⟨I, hI, rfl, hgd, ho, hb⟩ := hrel
        have HGD := hid hgd
        have HO := hid ho
        have HB := hid hb
        clear hgd ho hb
        by_cases hlt : I < n
        · obtain ⟨sg, so, u, rfl, su, sr⟩ := S3.out I (by rw [HK.out]; exact hlt)
          obtain ⟨xi, hxi⟩ : ∃ xi, ys.getD I [] = xi := ⟨_, rfl⟩
          rw [hxi] at sr
          have hym : xi ∈ ys := by rw [← hxi, List.getD_eq_getElem?_getD, List.getElem?_eq_getElem (by rw [HK.out]; exact hlt)]; exact List.getElem_mem _
          have hBt := HBW.out.comp HB.out
          have SR := hid (sr.below hBt)
          obtain ⟨xa, xcap, rfl, y1, y2, _⟩ := sr
          have cu := (hBt.cell (World.block_lt_of_cell? _ _ su)).trans su
          have c0 := cell_at ((HB.out.block fb (lt_at HFX.out)).trans HFX.out) 0
          obtain ⟨m, hm⟩ : ∃ m, xi.length = m := ⟨_, rfl⟩
          rw [hm] at cu y1 SR
          have hy1 : (m : Int) ≤ (xcap : Int) := by omega
          have hy2 : (xcap : Int) ≤ 9223372036854775807 := by unfold maxLen at y2; omega
          have hIk : (I : Int) < (n : Int) := by omega
          have hIc : (I : Int) < (scap : Int) := by omega
          have HXI := hid hxi
          have HYM := hid hym
          have HMM := hid hm
          clear su y1 y2 hxi hym hm hBt
          by_cases hbad : m ≠ 0 ∧ m ≠ S
          · have e1 : ((m : Int) == 0) = false := by rw [beq_eq_false_iff_ne]; omega
            have e2 : ((m : Int) != (S : Int)) = true := bne_iff_ne.2 (by omega)
            have NB := hid (show ¬ CanB S n h ys from fun c => by
              rcases c.2.2 xi HYM.out with e | e
              · exact hbad.1 (by rw [← HMM.out, e]; rfl)
              · exact hbad.2 (HMM.out.symm.trans e))
            clear hbad
            go_wp2_with fail
            go_ret2
            first | exact ⟨rfl, HBW.out.comp HB.out⟩ | exact BAD.out _ NB.out (HBW.out.comp HB.out)
          · have hgx : xi = [] ∨ xi.length = S := by
              by_cases e : m = 0
              · exact .inl (List.eq_nil_of_length_eq_zero (HMM.out.trans e))
              · exact .inr (HMM.out.trans (by omega))
            have hsc := sec_cases hgx
            have hsl := secB_len1 hgx
            rw [HMM.out] at hsc
            have HGX := hid hgx
            have HSC := hid hsc
            have HSLN := hid hsl
            clear hgx hsc hsl
            go_upto_if 39 with (fail)
            go_cut [11] (fun v wx => (∃ xa' xcap', v = .slice xa' S xcap' ∧ Rd .u8 wx v (secB S xi)) ∧ Below wr.heap.size wr wx)
            case first =>
              by_cases e : m = 0
              · subst e
                rw [if_pos rfl] at HSC
                clear hbad
                go_wp2_with fail
                go_meet
                refine ⟨⟨_, _, rfl, ?_⟩, (Below.refl _ _).alloc (Nat.le_refl _) _⟩
                rw [HSC.out]
                exact rd_zeros S (alloc_new wr _) (by omega)
              · have e1 : ((m : Int) == 0) = false := by rw [beq_eq_false_iff_ne]; omega
                rw [if_neg e] at HSC
                have hmS : m = S := by omega
                subst hmS
                clear hbad e
                go_wp2_with fail
                go_meet
                refine ⟨⟨_, _, rfl, ?_⟩, Below.refl _ _⟩
                rw [HSC.out]
                exact SR.out
            case rest =>
              obtain ⟨⟨xa', xcap', rfl, hrd⟩, hbc⟩ := hcut
              clear hbad cu c0 hy1 hy2
              have HRD := hid hrd
              have HBC := hid (HB.out.comp hbc)
              have HOC := hid (HO.out.below hbc)
              obtain ⟨zg, zo, rfl, zu0, zu1, zu2⟩ := Z3.out I (by rw [HN.out]; exact hlt)
              obtain ⟨s, hs⟩ : ∃ s, h.slots.getD I Slot.zero = s := ⟨_, rfl⟩
              have hsm : s ∈ h.slots := by rw [← hs]; exact slot_at HM.out hlt
              have hsok := HM.out.2 s hsm
              have hsk := (HWF.out.2 s hsm).1
              rw [hs] at zu0 zu1 zu2
              have hBt := HBW.out.comp HBC.out
              have d0 := (hBt.cell (World.block_lt_of_cell? _ _ zu0)).trans zu0
              have d1 := (hBt.cell (World.block_lt_of_cell? _ _ zu1)).trans zu1
              have d2 := (hBt.cell (World.block_lt_of_cell? _ _ zu2)).trans zu2
              have q5 := cell_at ((HBC.out.block b (lt_at HBX.out)).trans HBX.out) 5
              have c0 := cell_at ((HBC.out.block fb (lt_at HFX.out)).trans HFX.out) 0
              have HS := hid hs
              have HSOK := hid hsok
              have hrd2 := hrd
              obtain ⟨_, _, hee, hr1, hr2, _⟩ := hrd2
              rw [HSLN.out] at hee hr1
              cases hee
              have hr1' : (S : Int) ≤ (xcap' : Int) := by omega
              clear zu0 zu1 zu2 hs hsok hsm hBt hrd hbc hr1 hr2
              go_wp2_with fail
              refine (r5slot_any s wc HSOK.out hsk).mono ?_
              rintro e w7 ⟨v7, rfl, h7, hb7⟩
              have H7 := hid h7
              have HB7 := hid (HBC.out.comp hb7)
              have HO7 := hid (HOC.out.below hb7)
              have HRD7 := hid (HRD.out.below hb7)
              have hf7 := (HB7.out.block fb (lt_at HFX.out)).trans HFX.out
              have c3 := cell_at hf7 3
              have c4 := cell_at hf7 4
              have c5 := cell_at hf7 5
              have c6 := cell_at hf7 6
              have hxg : xs.getD I [] = xi := by rw [← HXS.out, fixR_get (by rw [HK.out]; exact hlt) (by rw [HXI.out]; exact HGX.out), HXI.out]
              have hslt : ∀ y ∈ secB S xi, y < 256 := by have := secB_lt (S := S) HXLT.out I; rwa [hxg] at this
              have HXG := hid hxg
              have HSLT := hid hslt
              have hsl8 := hid (sum_lt (slotB_lt HSOK.out))
              clear h7 hb7 hf7 d0 d1 d2 q5 c0 hxg hslt
              go_wp2_with fail
              refine (r3sum_any v7 (slotB s) w7 H7.out.rd (slotB_lt HSOK.out)).mono ?_
              rintro e w8 ⟨rfl, rfl⟩
              go_wp2_with fail
              refine (r3more_any (sum (slotB s)) _ (secB S xi) w7 hsl8.out HRD7.out HSLT.out).mono ?_
              rintro e w8 ⟨rfl, rfl⟩
              go_wp2_with fail
              refine (r5sealed_any _ _ (secB S xi) S T mw (more (sum (slotB s)) (secB S xi)) w7 HL.out.pw (HRW.out.below (HBW.out.comp HB7.out)) HRD7.out HSLN.out HL.out.s1 HSLT.out (more_lt hsl8.out HSLT.out)).mono ?_
              rintro e w9 ⟨v9, rfl, h9, hb9⟩
              have H9 := hid h9
              have HB9 := hid (HB7.out.comp hb9)
              have HO9 := hid (HO7.out.below hb9)
              have hll : (sealB mw T (secB S xi) (more (sum (slotB s)) (secB S xi))).length = S + 4 + pcn mw T := by rw [sealB_len, HSLN.out]
              have hp14 : pcn mw T ≤ 14 := by have := HL.out.pw.r.2.2.2.1; unfold pcn; omega
              have hlS : (secsB S T mw h xs I).length ≤ 1000000 := secs_le HL.out HCAN.out (by omega)
              have HLL := hid hll
              clear h9 hb9 hll c3 c4 c5 c6
              go_wp2_with (at_builtin; refine app_row el_b8 rfl _ _ rfl W.heap.size _ (secsB S T mw h xs I) (by rfl) HO9.out (sealB mw T (secB S xi) (more (sum (slotB s)) (secB S xi))) (by exact H9.out.rd) (by rw [HLL.out]; omega) (by rw [HLL.out]; omega) HB9.out.size ?_; intro g10 cap10 wA hown hgrow hat; have hbA : Below W.heap.size W wA := grow_below HB9.out HB9.out.size hgrow (fun g hg => (HO9.out.blk g hg).1); have HA := hid hown; have HBA := hid hbA; clear hown hgrow hat hbA)
              go_roundg (gk - 1)
              case measure => omega
              case rel =>
                refine ⟨I + 1, by omega, by go_num, fun j hj => ?_, ?_, HBA.out⟩
                · by_cases hj2 : j < I
                  · exact HGD.out j hj2
                  · obtain rfl : j = I := by omega
                    rw [HXI.out]; exact HGX.out
                · have hsec : secsB S T mw h xs (I + 1) = secsB S T mw h xs I ++ sealB mw T (secB S xi) (more (sum (slotB s)) (secB S xi)) := by
                    rw [secsB_succ]
                    unfold sectB sumB
                    rw [HXG.out, HS.out]
                  rw [hsec]
                  exact HA.out
        · obtain rfl : I = n := by omega
          have hall : ∀ x ∈ ys, x = [] ∨ x.length = S := fun x hx => by
            obtain ⟨j, hj, rfl⟩ := List.getElem_of_mem hx
            have := HGD.out j (by rw [← HK.out]; exact hj)
            rwa [List.getD_eq_getElem?_getD, List.getElem?_eq_getElem hj] at this
          have hxy : xs = ys := HXS.out.symm.trans (fixR_all hall)
          subst hxy
          have CN := HCAN
          have hbx := (HB.out.block b (lt_at HBX.out)).trans HBX.out
          have q0 := cell_at hbx 0
          have q1 := cell_at hbx 1
          have q2 := cell_at hbx 2
          have q3 := cell_at hbx 3
          have q4 := cell_at hbx 4
          have q5 := cell_at hbx 5
          clear hall hbx
          go_wp2_with fail
          refine (r5head_any I _ h wr (HSL'.out wr (HBW.out.comp HB.out)) HWF.out HM.out hN8).mono ?_
          rintro e w7 ⟨v7, rfl, h7, hb7⟩
          have H7 := hid h7
          have HB7 := hid (HB.out.comp hb7)
          have HO7 := hid (HO.out.below hb7)
          clear h7 hb7 q0 q1 q2 q3 q4 q5
          go_upto_region 16 with (fail)
          have hf7 := (HB7.out.block fb (lt_at HFX.out)).trans HFX.out
          have c7 := cell_at hf7 7
          have c8 := cell_at hf7 8
          have c9 := cell_at hf7 9
          have c10 := cell_at hf7 10
          have hhb := headB_lt HM.out
          have hhl := headB_len HM.out
          have HHB := hid hhb
          have HHL := hid hhl
          have HSUM : Hid (∀ V, Below w7.heap.size w7 V → Calls Tryz.prog 27 #[v7] V fun e w' => e = .returned (.int .u32 (sum (headB h) : Nat)) ∧ V = w') := hid fun V hV => r3sum_any v7 (headB h) V (H7.out.below hV).rd HHB.out
          have hps : 13 + 11 * I = 9 + 11 * I + 4 := by omega
          have HRHC := HRH.out
          rw [hps] at HRHC
          have hps14 : pcn mh T ≤ 14 := by have := HL.out.ph.r.2.2.2.1; unfold pcn; omega
          have hW7 : W.heap.size ≤ w7.heap.size := HB7.out.size
          have HSEAL : Hid (∀ V, Below w7.heap.size w7 V → Calls Tryz.prog 29 #[.agg #[.int .i64 mh, .int .i64 (13 + 11 * (I : Int)), .int .i64 T, .slice ha hl hc], v7, .int .u32 (sum (headB h) : Nat)] V fun e w' => ∃ v', e = .returned v' ∧ Own .u8 5 W.heap.size w' v' (sealB mh T (headB h) (sum (headB h))) ∧ Below w7.heap.size w7 w') := hid fun V hV =>
            (r5sealed_any _ v7 (headB h) (9 + 11 * I) T mh (sum (headB h)) V HL.out.ph (HRHC.below (HBW.out.comp (HB7.out.comp hV))) (H7.out.below hV).rd HHL.out (by omega) HHB.out (sum_lt HHB.out)).mono fun e w' ⟨v', h1, h2, h3⟩ => ⟨v', h1, h2.mono (Nat.le_trans hW7 hV.size), hV.comp h3⟩
          have hll : (sealB mh T (headB h) (sum (headB h))).length = 9 + 11 * I + 4 + pcn mh T := by rw [sealB_len, HHL.out]
          have hlS : (secsB S T mw h xs I).length ≤ 1000000 := secs_le HL.out CN.out (by omega)
          have hll1 : 0 < (sealB mh T (headB h) (sum (headB h))).length := by rw [hll]; omega
          have hll2 : (secsB S T mw h xs I).length + (sealB mh T (headB h) (sum (headB h))).length ≤ 1000000000 := by rw [hll]; omega
          have hcr : Below w7.heap.size w7 w7.drew := (Below.refl _ _).drew
          have hf7' := HB7.out
          clear hps HRHC hf7' hll
          go_wp2_with fail
          go_region_held3 (fun w' => w'.cell? ⟨fb, 7, none⟩ = some (.int .i64 mh) ∧ w'.cell? ⟨fb, 8, none⟩ = some (.int .i64 (13 + 11 * (I : Int))) ∧ w'.cell? ⟨fb, 9, none⟩ = some (.int .i64 T) ∧ w'.cell? ⟨fb, 10, none⟩ = some (.slice ha hl hc))
            (first | exact ⟨c7, c8, c9, c10⟩ | exact ⟨d7, d8, d9, d10⟩ | exact ⟨x7, x8, x9, x10⟩)
            (first
            | (go_at_call 27; refine (HSUM.out _ (by first | assumption | exact hcr)).mono ?_; rintro e wa ⟨rfl, rfl⟩)
            | (go_at_call 29; refine (HSEAL.out _ (by first | assumption | exact hcr)).mono ?_; rintro e wb ⟨vb, rfl, hob, hbb⟩; have hfbb := ((HB7.out.comp hbb).block fb (lt_at HFX.out)).trans HFX.out; have d7 := cell_at hfbb 7; have d8 := cell_at hfbb 8; have d9 := cell_at hfbb 9; have d10 := cell_at hfbb 10; have HOB := HO7.out.below hbb)
            | (refine step_row el_b8 (by rfl) (.tmp 68) (.tmp 74) (by rfl) W.heap.size _ (secsB S T mw h xs I) (by rfl) HOB (sealB mh T (headB h) (sum (headB h))) (by exact hob.rd) hll1 hll2 (by exact (HB7.out.comp hbb).size) ?_; intro g cap wd hod hgd hatd; have hbd := grow_below (HB7.out.comp hbb) (HB7.out.comp hbb).size hgd (fun g hg => (HOB.blk g hg).1); have hfdd := (hbd.block fb (lt_at HFX.out)).trans HFX.out; have x7 := cell_at hfdd 7; have x8 := cell_at hfdd 8; have x9 := cell_at hfdd 9; have x10 := cell_at hfdd 10)
            | fail)
          all_goals
            have HOD := hid hod
            have HBD := hid hbd
            have c0 := cell_at hfdd 0
            have c1 := cell_at hfdd 1
            have c2 := cell_at hfdd 2
            have c3 := cell_at hfdd 3
            have c4 := cell_at hfdd 4
            have c5 := cell_at hfdd 5
            have c6 := cell_at hfdd 6
            have hpos : 0 < (secsB S T mw h xs I ++ sealB mh T (headB h) (sum (headB h))).length := by rw [List.length_append]; omega
            have hlen : (secsB S T mw h xs I ++ sealB mh T (headB h) (sum (headB h))).length ≤ 1000000000 := by rw [List.length_append]; exact hll2
            have HT8 := HL.out.t2
            obtain ⟨en, hen⟩ : ∃ e, T / 4 + 1 = e := ⟨_, rfl⟩
            have hen1 : 1 ≤ en := by omega
            have hen3 : en ≤ 3 := by omega
            have HE9 := hid (r5end_any S I T mw mh _ wd HT8 (HF5.out.below (HBW.out.comp HBD.out)))
            rw [hen] at HE9
            have HEN := hid hen
            clear hen hod hbd hgd hatd hfdd hob hbb hfbb HOB d7 d8 d9 d10 c7 c8 c9 c10 hcr
            go_wp2_with fail
            refine HE9.out.mono ?_
            rintro e we ⟨rfl, hbe⟩
            have E3 : Hid ( packB S I T mw mh h xs = secsB S T mw h xs I ++ sealB mh T (headB h) (sum (headB h)) ++ List.replicate en 0) := hid (by unfold packB; rw [HEN.out])
            have HOE := hid (HOD.out.below hbe)
            have HBE := hid (HBD.out.comp hbe)
            clear hbe c0 c1 c2 c3 c4 c5 c6 x7 x8 x9 x10
            go_wp2_with (at_builtin; refine app_zeros rfl el_b8 Tryz.underlying3 _ _ rfl W.heap.size _ (secsB S T mw h xs I ++ sealB mh T (headB h) (sum (headB h))) (by rfl) HOE.out hpos en (by rfl) (by omega) (by omega) hlen HBE.out.size ?_; intro g11 cap11 wf hown hgrow hat; have hbf : Below W.heap.size W wf := grow_below HBE.out HBE.out.size hgrow (fun g hg => (HOE.out.blk g hg).1); have HOF := hid hown; have HBF := hid hbf; clear hown hgrow hat hbf)
            go_ret2
            have hown := HOF.out.mono HBW.out.size
            rw [← E3.out, List.length_append] at hown
            refine ⟨?_, HBW.out.comp HBF.out⟩
            first
            | exact ⟨_, rfl, hown⟩
            | (rw [if_pos CN.out]; exact ⟨_, rfl, hown⟩)
    · have e1 : ((k : Int) != (N : Int)) = true := bne_iff_ne.2 (by omega)
      have NB := hid (show ¬ CanB S N h ys from fun c => hkN (HK.out.symm.trans c.2.1))
      clear hkN
      go_wp2_with fail
      go_ret2
      first | exact ⟨rfl, HBW.out.comp HB1.out⟩ | exact BAD.out _ NB.out (HBW.out.comp HB1.out)
  · rw [decide_eq_false hm]
    have NB := hid (show ¬ CanB S N h ys from fun c => hm c.1)
    clear hm
    go_wp2_with fail
    go_ret2
    first | exact ⟨rfl, HBW.out.comp HB1.out⟩ | exact BAD.out _ NB.out (HBW.out.comp HB1.out)
end Go.Proofs.YtoanopegoilcnaaGreat
