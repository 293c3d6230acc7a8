/- Walks over firkinref05: a codeword opened; a verdict. -/
import Derived.Test.YtoanopegoilcnaaGreatZZb
import Derived.Test.YtoanopegoilcnaaGreatZDee
import Derived.Test.YtoanopegoilcnaaGreatZKj
import Derived.Test.YtoanopegoilcnaaGreatJs
import Derived.Test.YtoanopegoilcnaaGreatZKp
import Derived.Test.YtoanopegoilcnaaGreatJh
import Derived.Deep.RegionHeld3
set_option linter.unusedVariables false
namespace Go.Proofs.YtoanopegoilcnaaGreat
open Go.RowKit Go.Mem Go.Pg

set_option maxRecDepth 100000 in
theorem r5verdict_any (k : Nat) (fine : Bool) (w : World) : Calls Tryz.prog 43 #[.int .i64 k, .bool fine] w fun e w' => e = .returned (.int .i64 ((if fine then vd k else 3 : Nat) : Int)) ∧ w = w' := by
  cases fine with
  | false =>
    go_enter Tryz.func43, Tryz.ntmps43
    go_wp2_with fail
    go_ret
    exact ⟨rfl, rfl⟩
  | true =>
    by_cases hk : k = 0
    · subst hk
      go_enter Tryz.func43, Tryz.ntmps43
      go_wp2_with fail
      go_ret
      exact ⟨rfl, rfl⟩
    · have h0 : (0 : Int) < (k : Int) := by omega
      have hv : vd k = 2 := by unfold vd; rw [if_neg hk]
      have HV := hid hv
      clear hk hv
      go_enter Tryz.func43, Tryz.ntmps43
      go_wp2_with fail
      go_ret
      exact ⟨by rw [HV.out]; rfl, rfl⟩

set_option maxRecDepth 100000 in
set_option maxHeartbeats 1600000 in
theorem r5open_any (v1 bv : Value) (l : List Nat) (n t m : Nat) (w : World) (hp : Par (n + 4) t m) (h : RC w v1 (n + 4) t m) (hv : Rd .u8 w bv l) (hl : l.length = n + 4 + pcn m t) (hlx : ∀ y ∈ l, y < 256) (hn : 1 ≤ n) :
    Calls Tryz.prog 41 #[v1, bv, .int .i64 n] w fun e w' => NextRet m t n l w w' e ∧ Below w.heap.size w w' := by
  obtain ⟨P, hP⟩ : ∃ P, pcn m t = P := ⟨_, rfl⟩
  have hPd : P = (rr m t + 7) / 8 := hP.symm
  have hr := hp.r
  have hP1 : 1 ≤ P := by omega
  have hP14 : P ≤ 14 := by omega
  have hb2 := hp.b2
  rw [hP] at hl
  have HP := hid hp
  have HRC := hid h
  have HV := hid hv
  have HL := hid hl
  have HLX := hid hlx
  have HPD := hid hPd
  obtain ⟨gv, rfl, hg⟩ := h
  obtain ⟨ga, gc, rfl, _⟩ := hg
  generalize (Gf.gen m t).reverse.length = gl at *
  obtain ⟨ba, bc, rfl, b1, b2, b3⟩ := hv
  obtain ⟨bg, bo, rfl, _⟩ := b3 0 (by omega)
  rw [hl] at b1 HV ⊢
  have hi : ((n + 4 : Nat) : Int) = (n : Int) + 4 := by omega
  rw [hi] at HRC ⊢
  have hb1 : (n : Int) + 4 + (P : Int) ≤ (bc : Int) := by omega
  have i4 : (0 : Int) ≤ (bc : Int) := by omega
  have i5 : n + 4 ≤ bc := by omega
  have i6 : n + 4 ≤ n + 4 + P := by omega
  have i7 : n + 4 + P ≤ bc := by omega
  have hb2' : (bc : Int) ≤ 9223372036854775807 := by unfold maxLen at b2; omega
  have i1 : (n : Int) + 4 ≤ (bc : Int) := by omega
  have i2 : (n : Int) + 4 ≤ (n : Int) + 4 + (P : Int) := by omega
  have i3 : (0 : Int) ≤ (n : Int) + 4 := by omega
  clear hp hlx hPd hP hl hr b1 b2 b3 hi
  go_enter Tryz.func41, Tryz.ntmps41
  go_upto_region 1 with (fail)
  obtain ⟨W, hW⟩ : ∃ W, w.alloc (.cells #[.int .i64 m, .int .i64 ((n : Int) + 4), .int .i64 t, .slice ga gl gc] 33) = W := ⟨_, rfl⟩
  have hcx : W.heap[w.heap.size]? = some (.cells #[.int .i64 m, .int .i64 ((n : Int) + 4), .int .i64 t, .slice ga gl gc] 33 (0, 0)) := by rw [← hW]; exact alloc_new w _
  have hbW : Below w.heap.size w W := by rw [← hW]; exact (Below.refl _ _).alloc (Nat.le_refl _) _
  rw [hW]
  obtain ⟨b, hbE⟩ : ∃ b, w.heap.size = b := ⟨_, rfl⟩
  rw [hbE] at hcx ⊢
  have HCX := hid hcx
  have HBW := hid hbW
  have HVW := hid (HV.out.below hbW)
  have HRCW := hid (HRC.out.below hbW)
  have q0 := cell_at hcx 0
  have q1 := cell_at hcx 1
  have q2 := cell_at hcx 2
  have q3 := cell_at hcx 3
  clear hW hcx hbW hbE
  have r1 := rd_cut HVW.out HL.out 0 (n + 4) bc (by omega) (by omega) (by unfold maxLen; omega)
  have r2 := rd_cut HVW.out HL.out (n + 4) P (bc - (n + 4)) (by omega) (by omega) (by unfold maxLen; omega)
  have hl1 : (cut l 0 (n + 4)).length = n + 4 := cut_len (by rw [HL.out]; omega)
  have hl2 : (cut l (n + 4) P).length = P := cut_len (by rw [HL.out]; omega)
  have R1 := hid r1
  have R2 := hid r2
  have HL1 := hid hl1
  have HL2 := hid hl2
  clear r1 r2 hl1 hl2
  have HDEC : Hid (∀ V, Below W.heap.size W V → Calls Tryz.prog 66 #[.agg #[.int .i64 m, .int .i64 ((n : Int) + 4), .int .i64 t, .slice ga gl gc], .slice (some ⟨bg, bo, none⟩) (n + 4) bc, .slice (some ⟨bg, bo + (n + 4), none⟩) P (bc - (n + 4))] V fun e w' => ∃ x y z u, e = .returned (.tuple #[x, y, z, u]) ∧ DecV m t (n + 4) P (cut l 0 (n + 4)) (cut l (n + 4) P) V w' (.returned (.tuple #[x, y, z, u])) ∧ Below W.heap.size W w') := hid fun V hV => by
    refine (rdecode_any _ _ _ (cut l 0 (n + 4)) (cut l (n + 4) P) (n + 4) t m P V HP.out (HRCW.out.below hV) (R1.out.below hV) (R2.out.below hV) (cut_lt HLX.out _ _) (cut_lt HLX.out _ _) HL1.out HPD.out HL2.out).mono ?_
    rintro e w' ⟨hd, hb⟩
    have hv := DecRet.v HP.out HL1.out HPD.out HL2.out hd
    have hv' := hv
    rcases hv with ⟨g1, c1, g2, c2, x, k, q, h1, h2, rfl, _⟩ | ⟨rfl, _⟩
    · exact ⟨_, _, _, _, rfl, hv', hV.comp hb⟩
    · exact ⟨_, _, _, _, rfl, hv', hV.comp hb⟩
  have hcr : Below W.heap.size W W.drew := (Below.refl _ _).drew
  have htn : ((n : Int) + 4).toNat = n + 4 := by omega
  have hbcn : ¬ bc = n + 4 := by omega
  have hsub : n + 4 + P - (n + 4) = P := by omega
  have hw4 : IntKind.i64.wrap ((n : Int) + 4) = (n : Int) + 4 := IntWalk.i64_in _ (by omega)
  go_cut [10, 12, 13] (fun v10 v12 v13 wx => (∃ V y, Below W.heap.size W V ∧ DecV m t (n + 4) P (cut l 0 (n + 4)) (cut l (n + 4) P) V wx (.returned (.tuple #[v10, y, v12, v13]))) ∧ Below W.heap.size W wx)
  case first =>
    go_region_held3 (fun w' => w'.cell? ⟨b, 0, none⟩ = some (.int .i64 m) ∧ w'.cell? ⟨b, 1, none⟩ = some (.int .i64 ((n : Int) + 4)) ∧ w'.cell? ⟨b, 2, none⟩ = some (.int .i64 t) ∧ w'.cell? ⟨b, 3, none⟩ = some (.slice ga gl gc))
      (first | exact ⟨q0, q1, q2, q3⟩ | exact ⟨d0, d1, d2, d3⟩)
      (first
      | (go_at_call 66; refine (HDEC.out W.drew hcr).mono ?_; rintro e wa ⟨vx, vy, vz, vu, rfl, hdv, hba⟩; have hfa := (hba.block b (lt_at HCX.out)).trans HCX.out; have d0 := cell_at hfa 0; have d1 := cell_at hfa 1; have d2 := cell_at hfa 2; have d3 := cell_at hfa 3; have HDV := hid hdv; have HBA := hid hba; clear hfa hdv hba)
      | fail)
    all_goals
      go_wp2_with fail
      go_meet
      exact ⟨⟨W.drew, _, hcr, HDV.out⟩, HBA.out⟩
  case rest =>
    obtain ⟨⟨V, y, hV, hdv⟩, hbx⟩ := hcut
    have HOP : Hid (∀ r, dec m t (cut l 0 (n + 4)) (cut l (n + 4) P) = r → opnB m t n l = r.map fun r => (r.1.take n, num (r.1.drop n), r.2)) := hid fun r hr => by
      unfold opnB
      have e1 : l.take (n + 4) = cut l 0 (n + 4) := by unfold cut; rw [List.drop_zero]
      have e2 : l.drop (n + 4) = cut l (n + 4) P := by unfold cut; rw [List.take_of_length_le (by rw [List.length_drop, HL.out]; omega)]
      rw [e1, e2, hr]
    have HBX := hid (HBW.out.comp hbx)
    have hVs : w.heap.size ≤ V.heap.size := Nat.le_trans HBW.out.size hV.size
    clear hbx hV q0 q1 q2 q3 hcr
    rcases hdv with ⟨g1, c1, g2, c2, x, k, q, h1, h2, he, ho1, hxl, _, hxb, hk, hdec⟩ | ⟨he, hdec⟩
    · simp only [Ending.returned.injEq, Value.tuple.injEq, Array.mk.injEq, List.cons.injEq, and_true] at he
      obtain ⟨rfl, -, rfl, rfl⟩ := he
      have hrx : Rd .u8 wc (.slice (some ⟨g1, 0, none⟩) (n + 4) c1) x := by
        have h3 := ho1.rd
        rw [← hxl, rg_self] at h3
        rw [← hxl]; exact h3
      have hc1 : n + 4 ≤ c1 ∧ c1 ≤ maxLen := by obtain ⟨cur, _, _, h3, h4, _⟩ := ho1; exact ⟨h3, h4⟩
      have hc11 := hc1.1
      have hc12 : (c1 : Int) ≤ 9223372036854775807 := by have := hc1.2; unfold maxLen at this; omega
      have hrd := rd_cut hrx hxl n 4 (c1 - n) (by omega) (by omega) (by have := hc1.2; omega)
      have hrt := rd_cut hrx hxl 0 n c1 (by omega) (by omega) hc1.2
      have e0 : cut x 0 n = x.take n := by unfold cut; simp
      have e4 : cut x n 4 = x.drop n := by unfold cut; exact List.take_of_length_le (by rw [List.length_drop]; omega)
      rw [e0, Nat.zero_add] at hrt
      rw [e4, Nat.zero_add] at hrd
      have hop := HOP.out _ hdec
      simp only [Option.map_some] at hop
      have hdl : (x.drop n).length = 4 := by rw [List.length_drop]; omega
      have hdb : ∀ y ∈ x.drop n, y < 256 := fun y hy => hxb y (List.mem_of_mem_drop hy)
      have hslt : num (x.drop n) < 4294967296 := by have := num_lt hdb; rw [hdl] at this; exact this
      have HU := hid (fun k => r5number_any _ (x.drop n) (wc.drewN k) (hrd.drewN k) hdb (by omega))
      have HRT := hid hrt
      have HOPN := hid hop
      have HXB := hid hxb
      have HXL := hid hxl
      have hw32 : IntKind.u32.wrap (num (x.drop n) : Int) = (num (x.drop n) : Nat) := wraps_u32 _ (by omega) (by omega)
      have j1 : (n : Int) ≤ (n : Int) + 4 := by omega
      have j2 : (n : Int) + 4 ≤ (c1 : Int) := by omega
      have j3 : (n : Int) ≤ (c1 : Int) := by omega
      have hgw : w.heap.size ≤ g1 := Nat.le_trans hVs h1
      have hcx : c1 ≤ maxLen := hc1.2
      have HK := hid hk
      have HSLT := hid hslt
      clear hrx hrd hrt hop hxb hdb hdl e0 e4 ho1 hdec hxl hc1 HOP hk h1 h2 hslt
      generalize hnm : num (x.drop n) = nm at *
      have HNM := hid hnm
      clear hnm
      go_wp2_with fail
      go_quiet ((go_at_call 42; exact quiet_eq (HU.out _)))
      go_wp2_with fail
      refine bodyPost_ret (v := .tuple #[.slice (some ⟨g1, 0, none⟩) n c1, .int .u32 (nm : Nat), .int .i64 (k : Nat), .bool true]) (by simp [results, Tryz.results41, go_sem]) rfl ⟨.inl ⟨g1, c1, x.take n, nm, k, hgw, by omega, hcx, rfl, HRT.out.drewN _, by rw [List.length_take, HXL.out]; omega, fun y hy => HXB.out y (List.mem_of_mem_take hy), HK.out, HSLT.out, HOPN.out⟩, HBX.out.drewN _⟩
    · simp only [Ending.returned.injEq, Value.tuple.injEq, Array.mk.injEq, List.cons.injEq, and_true] at he
      obtain ⟨rfl, -, rfl, rfl⟩ := he
      have hop := HOP.out _ hdec
      simp only [Option.map_none] at hop
      have HOPN := hid hop
      clear hop hdec HOP
      go_wp2_with fail
      refine bodyPost_ret (v := .tuple #[.slice none 0 0, .int .u32 0, .int .i64 0, .bool false]) (by simp [results, Tryz.results41, go_sem]) rfl ⟨.inr ⟨rfl, HOPN.out⟩, HBX.out⟩
end Go.Proofs.YtoanopegoilcnaaGreat
/- Bits counted one by one, plain. -/
namespace Go.Proofs.YtoanopegoilcnaaGreat
open Go.RowKit Go.Mem Go.Pg
/-- How many of a byte's lowest K bits are 1. -/
def pcK (c : Nat) : Nat → Nat
  | 0 => 0
  | K + 1 => pcK c K + c / 2 ^ K % 2
theorem pcK8 (c : Nat) : pcK c 8 = pc c := by
  show 0 + c / 1 % 2 + c / 2 % 2 + c / 4 % 2 + c / 8 % 2 + c / 16 % 2 + c / 32 % 2 + c / 64 % 2 + c / 128 % 2 = _
  rw [Nat.zero_add, Nat.div_one]; rfl
theorem pcK_le (c : Nat) : ∀ K, pcK c K ≤ K
  | 0 => Nat.le_refl _
  | K + 1 => by have := pcK_le c K; simp only [pcK]; omega
theorem ones_take_le (l : List Nat) (I : Nat) : ones (l.take I) ≤ 8 * I := by
  have := ones_le (l.take I)
  rw [List.length_take] at this
  omega
theorem and1_u8 (a : Nat) (ha : a < 256) : bits .and .u8 (a : Int) 1 = ((a % 2 : Nat) : Int) := by
  have h := (bits_nat .u8 8 (by decide) (fun n h0 h1 => by rw [IntKind.wrap_u8]; exact Int.emod_eq_of_lt h0 (by simpa using h1)) a 1 ha (by decide)).1
  refine Eq.trans h ?_
  rw [Nat.and_one_is_mod]
theorem drop_take_succ {l : List Nat} {p J : Nat} (h : p + J < l.length) : ones ((l.drop p).take (J + 1)) = ones ((l.drop p).take J) + pc (l.getD (p + J) 0) := by
  have := ones_take (l.drop p) J (by rw [List.length_drop]; omega)
  rw [this, drop_gd]
/-- May the head be looked at: what the opened codeword says. -/
def Fin27 (S N T mw mh K M on1 : Nat) (l : List Nat) (wc : World) (u16 u17 u18 v : Value) : Prop :=
  (v = .bool false ∧ hdO S N T mw mh l = none ∧ ∃ k : Nat, k ≤ 8 ∧ u18 = .int .i64 (k : Nat)) ∨
  (v = .bool true ∧ on1 ≤ T ∧ ∃ gx cx x s k, 9 + 11 * N ≤ cx ∧ cx ≤ maxLen ∧ u16 = .slice (some ⟨gx, 0, none⟩) (9 + 11 * N) cx ∧ u17 = .int .u32 (s : Nat) ∧ u18 = .int .i64 (k : Nat) ∧ Rd .u8 wc (.slice (some ⟨gx, 0, none⟩) (9 + 11 * N) cx) x ∧ x.length = 9 + 11 * N ∧ (∀ y ∈ x, y < 256) ∧ k ≤ T ∧ s < 4294967296 ∧ opnB mh T (9 + 11 * N) (cut l K M) = some (x, s, k))
theorem Fin27.no {S N T mw mh K M on1 k : Nat} {l : List Nat} {wc : World} {u16 u17 : Value} (h : hdO S N T mw mh l = none) (hk : k ≤ 8) : Fin27 S N T mw mh K M on1 l wc u16 u17 (.int .i64 (k : Nat)) (.bool false) := .inl ⟨rfl, h, k, hk, rfl⟩
theorem Fin27.yes {S N T mw mh K M on1 gx cx s k : Nat} {l x : List Nat} {wc : World} (ho : on1 ≤ T) (h1 : 9 + 11 * N ≤ cx) (h2 : cx ≤ maxLen) (h3 : Rd .u8 wc (.slice (some ⟨gx, 0, none⟩) (9 + 11 * N) cx) x) (h4 : x.length = 9 + 11 * N) (h5 : ∀ y ∈ x, y < 256) (h6 : k ≤ T) (h7 : s < 4294967296) (h8 : opnB mh T (9 + 11 * N) (cut l K M) = some (x, s, k)) :
    Fin27 S N T mw mh K M on1 l wc (.slice (some ⟨gx, 0, none⟩) (9 + 11 * N) cx) (.int .u32 (s : Nat)) (.int .i64 (k : Nat)) (.bool true) := .inr ⟨rfl, ho, gx, cx, x, s, k, h1, h2, rfl, rfl, rfl, h3, h4, h5, h6, h7, h8⟩
end Go.Proofs.YtoanopegoilcnaaGreat
/- What is told of a page while its words are looked at, in memory. -/
namespace Go.Proofs.YtoanopegoilcnaaGreat
open Go.RowKit Go.Mem Go.Pg

/-- The words and the sectors so far. -/
structure UnL (w5 wr : World) (ob : Nat) (c0 c1 c2 c3 c4 c5 c6 c7 fl zw zs : Value) (words : List Nat) (rows : List (List Nat)) : Prop where
  ho : wr.heap[ob]? = some (.cells #[c0, c1, c2, c3, c4, c5, c6, c7, zw, zs, fl] 50 (0, 0))
  hw : Own .i64 3 w5.heap.size wr zw words
  hr : OwR 39 w5.heap.size (fun g => zw.ownBlock = some g) wr zs rows
  ne : ∀ g, zw.ownBlock = some g → zs.ownBlock ≠ some g
  gr : w5.grownBy wr (some ob)
section
variable {w5 wr : World} {ob : Nat} {c0 c1 c2 c3 c4 c5 c6 c7 fl zw zs : Value} {words : List Nat} {rows : List (List Nat)}
theorem UnL.start (h : w5.heap[ob]? = some (.cells #[c0, c1, c2, c3, c4, c5, c6, c7, .slice none 0 0, .slice none 0 0, fl] 50 (0, 0))) : UnL w5 w5 ob c0 c1 c2 c3 c4 c5 c6 c7 fl (.slice none 0 0) (.slice none 0 0) [] [] :=
  ⟨h, Own.nil _ _ _ _, OwR.nil _ _ _ _, fun g hg => by simp [Value.ownBlock] at hg, grow_refl _ _⟩
/-- New memory apart. -/
theorem UnL.below (h : UnL w5 wr ob c0 c1 c2 c3 c4 c5 c6 c7 fl zw zs words rows) {w' : World} (hb : Below wr.heap.size wr w') : UnL w5 w' ob c0 c1 c2 c3 c4 c5 c6 c7 fl zw zs words rows :=
  ⟨(hb.block ob (lt_at h.ho)).trans h.ho, h.hw.below hb, h.hr.below hb, h.ne, grow_row h.gr (hb.toGrown none) (fun g hg => by cases hg)⟩
/-- A word more. -/
theorem UnL.word (h : UnL w5 wr ob c0 c1 c2 c3 c4 c5 c6 c7 fl zw zs words rows) (hob : ob < w5.heap.size) {w' : World} {g n cap : Nat} {y : Nat} (hown : Own .i64 3 w5.heap.size w' (.slice (some ⟨g, 0, none⟩) n cap) (words ++ [y])) (hg : wr.grownBy w' zw.ownBlock) (hat : zw.ownBlock = some g ∨ g = wr.heap.size) :
    w'.heap[ob]? = some (.cells #[c0, c1, c2, c3, c4, c5, c6, c7, zw, zs, fl] 50 (0, 0)) ∧ UnL w5 (w'.setCell ⟨ob, 8, none⟩ (.slice (some ⟨g, 0, none⟩) n cap)) ob c0 c1 c2 c3 c4 c5 c6 c7 fl (.slice (some ⟨g, 0, none⟩) n cap) zs (words ++ [y]) rows := by
  have hob' : w'.heap[ob]? = some (.cells #[c0, c1, c2, c3, c4, c5, c6, c7, zw, zs, fl] 50 (0, 0)) := (hg.block ob (lt_at h.ho) (fun e => by have := (h.hw.blk ob e.symm).1; omega)).trans h.ho
  obtain ⟨hr, hn⟩ := h.hr.beside hg hat h.ne
  have hgo : g ≠ ob := fun e => by have := (hown.blk g rfl).1; omega
  refine ⟨hob', set_at hob' 8 _, hown.kept (grown_set w' ob 8 _) (.inr (by simp only [Value.ownBlock, ne_eq, Option.some.injEq]; exact hgo)), ?_, ?_, ?_⟩
  · refine (hr.kept (b := ob) (grown_set w' ob 8 _) (fun e => by have := (h.hr.blk ob e).1; omega) (.inr hob)).widen (fun g' _ hY => ?_)
    simpa [Value.ownBlock] using hY
  · intro g' hg' e
    simp only [Value.ownBlock, Option.some.injEq] at hg'
    subst hg'
    exact hn e
  · exact grow_row (grow_row h.gr hg (fun q hq => .inr (h.hw.blk q hq).1)) (grown_set w' ob 8 _) (fun q hq => .inl hq)
/-- A sector more. -/
theorem UnL.sector (h : UnL w5 wr ob c0 c1 c2 c3 c4 c5 c6 c7 fl zw zs words rows) (hob : ob < w5.heap.size) {w' : World} {g n cap : Nat} {row : List Nat} (hown : OwR 39 w5.heap.size (fun g => zw.ownBlock = some g) w' (.slice (some ⟨g, 0, none⟩) n cap) (rows ++ [row])) (hg : wr.grownBy w' zs.ownBlock) (hat : zs.ownBlock = some g ∨ g = wr.heap.size) :
    w'.heap[ob]? = some (.cells #[c0, c1, c2, c3, c4, c5, c6, c7, zw, zs, fl] 50 (0, 0)) ∧ UnL w5 (w'.setCell ⟨ob, 9, none⟩ (.slice (some ⟨g, 0, none⟩) n cap)) ob c0 c1 c2 c3 c4 c5 c6 c7 fl zw (.slice (some ⟨g, 0, none⟩) n cap) words (rows ++ [row]) := by
  have hob' : w'.heap[ob]? = some (.cells #[c0, c1, c2, c3, c4, c5, c6, c7, zw, zs, fl] 50 (0, 0)) := (hg.block ob (lt_at h.ho) (fun e => by have := (h.hr.blk ob e.symm).1; omega)).trans h.ho
  have hgo : g ≠ ob := fun e => by have := (hown.blk g rfl).1; omega
  have hzz : zw.ownBlock = none ∨ zw.ownBlock ≠ zs.ownBlock := by
    cases hz : zw.ownBlock with
    | none => exact .inl rfl
    | some q => exact .inr (fun e => h.ne q hz e.symm)
  refine ⟨hob', set_at hob' 9 _, (h.hw.kept hg hzz).kept (grown_set w' ob 9 _) ?_, hown.kept (b := ob) (grown_set w' ob 9 _) (by simp only [Value.ownBlock, ne_eq, Option.some.injEq]; exact hgo) (.inr hob), ?_, ?_⟩
  · cases hz : zw.ownBlock with
    | none => exact .inl rfl
    | some q => exact .inr (fun e => by have := (h.hw.blk q hz).1; simp only [Option.some.injEq] at e; omega)
  · intro q hq e
    simp only [Value.ownBlock, Option.some.injEq] at e
    subst e
    rcases hat with h1 | h1
    · exact h.ne _ hq h1
    · have := (h.hw.blk _ hq).2; omega
  · exact grow_row (grow_row h.gr hg (fun q hq => .inr (h.hr.blk q hq).1)) (grown_set w' ob 9 _) (fun q hq => .inl hq)
end
end Go.Proofs.YtoanopegoilcnaaGreat
