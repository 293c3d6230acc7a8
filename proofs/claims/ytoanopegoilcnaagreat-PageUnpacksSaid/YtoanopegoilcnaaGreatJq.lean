/- Walks over page: a codeword. -/
import Derived.Test.YtoanopegoilcnaaGreatJp
import Derived.Test.YtoanopegoilcnaaGreatZBcc
import Derived.Test.YtoanopegoilcnaaGreatJl
set_option linter.unusedVariables false
namespace Go.Proofs.YtoanopegoilcnaaGreat
open Go.RowKit Go.Mem Go.Pg

/-- New memory apart, two rows alone have turned. -/
structure Grow2 (w w' : World) (r s : Option Nat) : Prop where
  os : w'.os = w.os
  tape : w'.tape = w.tape
  output : w'.output = w.output
  size : w.heap.size ≤ w'.heap.size
  block : ∀ k, k < w.heap.size → some k ≠ r → some k ≠ s → w'.heap[k]? = w.heap[k]?
theorem Grow2.refl (w : World) (r s : Option Nat) : Grow2 w w r s := ⟨rfl, rfl, rfl, Nat.le_refl _, fun _ _ _ _ => rfl⟩
theorem Grow2.of1 {w w' : World} {r : Option Nat} (h : w.grownBy w' r) (s : Option Nat) : Grow2 w w' r s := ⟨h.os, h.tape, h.output, h.size, fun k hk hr _ => h.block k hk hr⟩
theorem Grow2.of2 {w w' : World} {s : Option Nat} (h : w.grownBy w' s) (r : Option Nat) : Grow2 w w' r s := ⟨h.os, h.tape, h.output, h.size, fun k hk _ hs => h.block k hk hs⟩
theorem Grow2.more {w w1 w2 : World} {r s q : Option Nat} (h1 : Grow2 w w1 r s) (h2 : w1.grownBy w2 q) (hq : ∀ g, q = some g → r = some g ∨ s = some g ∨ w.heap.size ≤ g) : Grow2 w w2 r s :=
  ⟨h2.os.trans h1.os, h2.tape.trans h1.tape, h2.output.trans h1.output, Nat.le_trans h1.size h2.size, fun k hk hr hs => (h2.block k (Nat.lt_of_lt_of_le hk h1.size) (fun e => by
    rcases hq k e.symm with h | h | h
    · exact hr h.symm
    · exact hs h.symm
    · omega)).trans (h1.block k hk hr hs)⟩
theorem Grow2.below {w w1 w2 : World} {r s : Option Nat} (h1 : Grow2 w w1 r s) (h2 : Below w1.heap.size w1 w2) : Grow2 w w2 r s := h1.more (h2.toGrown none) (fun g hg => by cases hg)
theorem Grow2.toBelow {B : Nat} {w w' : World} {r s : Option Nat} (h : Grow2 w w' r s) (hB : B ≤ w.heap.size) (hr : ∀ g, r = some g → B ≤ g) (hs : ∀ g, s = some g → B ≤ g) : Below B w w' :=
  ⟨h.os, h.tape, h.output, h.size, fun k hk => h.block k (by omega) (fun e => by have := hr k e.symm; omega) (fun e => by have := hs k e.symm; omega)⟩
theorem _root_.Go.Mem.Own.same {k : IntKind} {e : TypeId} {B : Nat} {w w' : World} {v : Value} {xs : List Nat} (h : Own k e B w v xs) (he : ∀ g, v.ownBlock = some g → w'.heap[g]? = w.heap[g]?) : Own k e B w' v xs := by
  obtain ⟨h1, h2 | ⟨g, cap, cur, hv, hg, h3, h4⟩⟩ := h
  · exact ⟨h1, .inl h2⟩
  · exact ⟨h1, .inr ⟨g, cap, cur, hv, hg, (he g (by rw [hv]; rfl)).trans h3, h4⟩⟩

set_option maxRecDepth 100000 in
set_option maxHeartbeats 1600000 in
theorem sealed_any (B c n t m S : Nat) (v bv : Value) (xs bs : List Nat) (w : World) (hp : Par (n + 4) t m) (h : CodeAt w c (n + 4) t m) (hc : c < B) (hcf : ∀ W, Below B w W → CodeAt W c (n + 4) t m)
    (hown : Own .u8 5 B w v xs) (hob : Own .u8 5 B w bv bs) (hne : ∀ g, v.ownBlock = some g → bv.ownBlock ≠ some g) (hB : B ≤ w.heap.size) (hl : xs.length ≤ 1000000) (hbl : bs.length = n) (hbx : ∀ y ∈ bs, y < 256) (hS : S < 4294967296) :
    Calls Tryz.prog 23 #[v, bv, .int .u32 S, .pointer (some ⟨c, 0, none⟩)] w fun e w' =>
      ∃ v', e = .returned v' ∧ Own .u8 5 B w' v' (xs ++ sealB m t bs S) ∧ Grow2 w w' v.ownBlock bv.ownBlock ∧ ∀ g, v'.ownBlock = some g → v.ownBlock = some g ∨ w.heap.size ≤ g := by
  have hb2 := hp.b2
  have hr := hp.r
  have r1 := hr.2.1
  have r104 := hr.2.2.2.1
  have HO := hid hown
  have HOB := hid hob
  have HB := hid hB
  have HNE := hid hne
  have HCF := hid hcf
  have HBL := hid hbl
  have hblB : bs.length ≤ 600 := by omega
  have hsx : ∀ y ∈ bs ++ low S 4, y < 256 := by
    intro y hy
    rw [List.mem_append] at hy
    rcases hy with h | h
    · exact hbx y h
    · exact low_lt _ _ y h
  have HSX := hid hsx
  have HP := hid hp
  clear hown hob hne hcf hbl hr h hB hsx hbx hp hc
  go_enter Tryz.func23, Tryz.ntmps23
  go_wp2_with fail
  refine (append32_any B bv bs S w HOB.out HB.out (by omega) hS).mono ?_
  rintro e w1 ⟨v1, rfl, h1, h2, h3⟩
  obtain ⟨g1, cap1, rfl, hg1, ho1⟩ := h1.ow (by simp [low_len])
  have hlen1 : (bs ++ low S 4).length = n + 4 := by simp [low_len, HBL.out]
  have hrd1 := h1.rd
  rw [hlen1] at h1 hrd1 h3 ⊢
  have hb1 : Below B w w1 := grow_below (Below.refl _ _) HB.out h2 (fun g hg => (HOB.out.blk g hg).1)
  have hcode := HCF.out w1 hb1
  have HRD1 := hid hrd1
  have HLEN1 := hid hlen1
  have HB1 := hid hb1
  have H2 := hid h2
  have H3 := hid h3
  have HOX : Hid (Own .u8 5 B w1 v xs) := hid (HO.out.same (fun g hg => h2.block g (HO.out.blk g hg).2 (fun e => HNE.out g hg e.symm)))
  have hg1B : B ≤ g1 := hg1
  have hvg : v.ownBlock ≠ some g1 := fun e => by
    rcases H3.out g1 rfl with h | h
    · exact HNE.out g1 e h
    · have := (HO.out.blk g1 e).2; omega
  clear h1 hrd1 h3 hlen1 hb1 ho1 hg1 h2
  go_wp2_with fail
  refine (encode_any c (n + 4) t m _ (bs ++ low S 4) w1 HP.out hcode HRD1.out HSX.out HLEN1.out).mono ?_
  rintro e w2 ⟨p, P, hp1, hP, rfl, hpc, hb2'⟩
  have hP1 : 1 ≤ P := by omega
  have hP14 : P ≤ 14 := by omega
  have hpr := Rd.of_fa hpc P P (Nat.le_refl _) (Nat.le_refl _) (by unfold maxLen; omega)
  have HPR := hid hpr
  have HPC := hid hpc
  have HPE := hid hP
  have HOX2 : Hid (Own .u8 5 B w2 v xs) := hid (HOX.out.below hb2')
  have HRD2 : Hid (Rd .u8 w2 (.slice (some ⟨g1, 0, none⟩) (n + 4) cap1) (bs ++ low S 4)) := hid (HRD1.out.below hb2')
  have hsz2 : B ≤ w2.heap.size := by have := HB.out; have := HB1.out.size; have := hb2'.size; omega
  have HB2 := hid hb2'
  clear hpr hpc hP hb2' hcode
  go_wp2_with (first
    | (at_builtin; refine app_row el_b8 rfl _ _ rfl B v xs (by rfl) HOX2.out (bs ++ low S 4) (by exact HRD2.out) (by rw [HLEN1.out]; omega) (by rw [HLEN1.out]; omega) hsz2 ?_; rw [HLEN1.out]; intro g3 cap3 w3 hown hgrow hat; have hrp : Rd .u8 w3 (.slice (some ⟨p, 0, none⟩) P P) ((List.range P).map (par m t (bs ++ low S 4))) := by { refine Rd.of_fa ((hgrow.block p (lt_at HPC.out) (fun e => ?_)).trans HPC.out) P P (Nat.le_refl _) (Nat.le_refl _) (by unfold maxLen; omega); have h1 := (HOX.out.blk p e.symm).2; omega }; have HOWN := hid hown; have HGR := hid hgrow; have HAT := hid hat; have HRP := hid hrp; have hsz3 : B ≤ w3.heap.size := Nat.le_trans hsz2 hgrow.size; clear hown hgrow hat hrp)
    | (at_builtin; refine app_row el_b8 rfl _ _ rfl B (.slice (some ⟨g3, 0, none⟩) (xs.length + (n + 4)) cap3) (xs ++ (bs ++ low S 4)) (by rfl) HOWN.out ((List.range P).map (par m t (bs ++ low S 4))) (by exact HRP.out) (by simp; omega) (by simp [low_len]; have := HBL.out; omega) hsz3 ?_; intro g4 cap4 w4 hown4 hgrow4 hat4; have HOWN4 := hid hown4; have HGR4 := hid hgrow4; have HAT4 := hid hat4; clear hown4 hgrow4 hat4))
  go_ret
  have e3 : xs ++ (bs ++ low S 4) ++ (List.range P).map (par m t (bs ++ low S 4)) = xs ++ sealB m t bs S := by
    unfold sealB parB pcn
    rw [← HPE.out, List.append_assoc]
  have hg3 : v.ownBlock = some g3 ∨ w2.heap.size ≤ g3 := HAT.out.elim .inl (fun h => .inr (by omega))
  have s12 := HB2.out.size
  have s01 := H2.out.size
  have gr1 : Grow2 w w1 v.ownBlock bv.ownBlock := Grow2.of2 H2.out _
  have gr3 : Grow2 w w3 v.ownBlock bv.ownBlock := (gr1.below HB2.out).more HGR.out (fun g hg => .inl hg)
  have gr4 : Grow2 w w4 v.ownBlock bv.ownBlock := gr3.more HGR4.out (fun g hg => by
    simp only [Value.ownBlock, Option.some.injEq] at hg
    subst hg
    rcases hg3 with h | h
    · exact .inl h
    · exact .inr (.inr (by omega)))
  refine ⟨.slice (some ⟨g4, 0, none⟩) (xs.length + (bs.length + (low S 4).length) + P) cap4, rfl, ?_, gr4, fun g hg => ?_⟩
  · rw [← e3]
    have h := HOWN4.out
    simp only [List.length_append, List.length_map, List.length_range] at h
    exact h
  · simp only [Value.ownBlock, Option.some.injEq] at hg
    subst hg
    rcases HAT4.out with h | h
    · simp only [Value.ownBlock, Option.some.injEq] at h
      subst h
      exact hg3.elim .inl (fun h => .inr (by omega))
    · right; have := HGR.out.size; omega
end Go.Proofs.YtoanopegoilcnaaGreat
/- Walks over page: may a head be? -/
namespace Go.Proofs.YtoanopegoilcnaaGreat
open Go.RowKit Go.Mem Go.Pg

/-- What is asked of a head's numbers. -/
def mayA (N : Nat) (h : Head) : Prop := 1 ≤ h.kind ∧ h.kind ≤ 3 ∧ 0 ≤ h.row ∧ h.row < 65536 ∧ 0 ≤ h.place ∧ h.place < 256 ∧ 0 ≤ h.width ∧ h.width < 256 ∧ h.slots.length = N
instance (N : Nat) (h : Head) : Decidable (mayA N h) := by unfold mayA; infer_instance
/-- .. and of the first I slots. -/
def mayI (N : Nat) (h : Head) (I : Nat) : Prop := mayA N h ∧ ∀ s ∈ h.slots.take I, s.Ok
instance (N : Nat) (h : Head) (I : Nat) : Decidable (mayI N h I) := by unfold mayI; infer_instance
theorem mayI_zero (N : Nat) (h : Head) : mayI N h 0 ↔ mayA N h := by unfold mayI; simp
theorem mayI_succ {N : Nat} {h : Head} {I : Nat} (hI : I < h.slots.length) : mayI N h (I + 1) ↔ mayI N h I ∧ (h.slots.getD I Slot.zero).Ok := by
  unfold mayI
  rw [List.take_succ_eq_append_getElem hI, List.getD_eq_getElem?_getD, List.getElem?_eq_getElem hI]
  simp only [List.mem_append, List.mem_singleton, Option.getD_some]
  constructor
  · intro ⟨a, b⟩
    exact ⟨⟨a, fun s hs => b s (.inl hs)⟩, b _ (.inr rfl)⟩
  · intro ⟨⟨a, b⟩, c⟩
    refine ⟨a, fun s hs => ?_⟩
    rcases hs with hs | hs
    · exact b s hs
    · rw [hs]; exact c
theorem seq_lt {s : Slot} {P Q : Prop} [Decidable Q] (h0 : 0 ≤ s.st) (h3 : s.st ≤ 3) (hss : Q ↔ P ∧ s.Ok) (hp : P) : decide ((s.seq : Int) < 281474976710656) = decide Q := by
  refine decide_eq_decide.2 ⟨fun e => hss.2 ⟨hp, h0, h3, by omega⟩, fun e => ?_⟩
  have := (hss.1 e).2.2.2
  omega
theorem getD_slot {l : List Slot} {j : Nat} (h : j < l.length) : l.getD j Slot.zero ∈ l := by
  rw [List.getD_eq_getElem?_getD, List.getElem?_eq_getElem h]; exact List.getElem_mem h
theorem mayI_all (N : Nat) (h : Head) : mayI N h h.slots.length ↔ h.May N := by
  unfold mayI mayA Head.May
  rw [List.take_length]

set_option maxRecDepth 100000 in
set_option maxHeartbeats 3200000 in
theorem may_any (f S N T mw mh : Nat) (v : Value) (h : Head) (w : World) (hf : FrAt w f S N T mw mh) (hN : N ≤ 8) (hv : HdV w v h) (hw : h.Wf) :
    Calls Tryz.prog 18 #[.pointer (some ⟨f, 0, none⟩), v] w fun e w' => e = .returned (.bool (decide (h.May N))) ∧ Below w.heap.size w w' := by
  obtain ⟨_, c1, _⟩ := hf.cells
  obtain ⟨sv, rfl, hsl⟩ := hv
  obtain ⟨a, cap, rfl, x1, x2, x3⟩ := hsl
  have hflt : f < w.heap.size := World.block_lt_of_cell? _ _ c1
  unfold maxLen at x2
  have X3 := hid x3
  have HW := hid hw
  have hc1 : (h.slots.length : Int) ≤ (cap : Int) := by omega
  have hc2 : (cap : Int) ≤ 9223372036854775807 := by omega
  have C1 := hid c1
  clear hf x3 hw c1
  go_enter Tryz.func18, Tryz.ntmps18
  go_wp2
  obtain ⟨W, hW⟩ : ∃ W, w.alloc (.cells #[.int .i64 h.kind, .int .u32 (h.id : Nat), .int .i64 h.row, .int .i64 h.place, .int .i64 h.width, .slice a h.slots.length cap] 27) = W := ⟨_, rfl⟩
  have hbx : W.heap[w.heap.size]? = some (.cells #[.int .i64 h.kind, .int .u32 (h.id : Nat), .int .i64 h.row, .int .i64 h.place, .int .i64 h.width, .slice a h.slots.length cap] 27 (0, 0)) := by rw [← hW]; exact alloc_new w _
  have hbW : Below w.heap.size w W := by rw [← hW]; exact (Below.refl _ _).alloc (Nat.le_refl _) _
  rw [hW]
  have HB := hid hbW
  have q0 := cell_at hbx 0
  have q2 := cell_at hbx 2
  have q3 := cell_at hbx 3
  have q4 := cell_at hbx 4
  have q5 := cell_at hbx 5
  have cN : W.cell? ⟨f, 1, none⟩ = some (.int .i64 N) := (hbW.cell (p := ⟨f, 1, none⟩) hflt).trans C1.out
  obtain ⟨b, hbE⟩ : ∃ b, w.heap.size = b := ⟨_, rfl⟩
  rw [hbE] at q0 q2 q3 q4 q5 ⊢
  clear hW hbW hbx hbE
  go_upto_region 2 with (fail)
  go_cut [5] (fun v wx => v = .bool (decide (mayA N h)) ∧ ∃ n, wx = W.drewN n)
  case first =>
    refine wp_region_quiet_lit (by kernel_rfl) (by kernel_rfl) ?_
    repeat (any_goals (first | go_big_quiet_step (fail) | quiet_step (fail) | (refine wpQuiet_step (fun K hK => ?_); go_simp; split <;> (refine hK _ ?_; clear hK K))))
    all_goals (refine wpQuiet_nil ?_; intro _ hw'; obtain ⟨nq, hw''⟩ := hw'; subst hw'')
    all_goals (go_wp2_with fail; go_meet)
    all_goals refine ⟨congrArg Value.bool ?_, _, rfl⟩
    all_goals first
      | exact (decide_eq_false (fun hm => by unfold mayA at hm; omega)).symm
      | exact (decide_eq_true (show mayA N h by unfold mayA; omega)).symm
      | (rw [Bool.eq_iff_iff, beq_iff_eq, decide_eq_true_iff]; unfold mayA; exact ⟨fun e => by omega, fun e => by omega⟩)
  case rest =>
    obtain ⟨rfl, nq, rfl⟩ := hcut
    have hA0 : decide (mayA N h) = decide (mayI N h 0) := decide_eq_decide.2 (mayI_zero N h).symm
    rw [hA0]
    clear hA0 cN q0 q2 q3 q4
    go_wp2
    go_loopg [5, 60] h.slots.length (fun gk v i wr => ∃ I : Nat, I + gk = h.slots.length ∧ i = .int .i64 I ∧ v = .bool (decide (mayI N h I)) ∧ Below w.heap.size w wr)
    case atStart => exact ⟨0, by omega, rfl, rfl, HB.out.drewN nq⟩
    case round =>
      obtain ⟨I, hI, rfl, rfl, hb⟩ := hrel
      have HB := hid hb
      clear hb
      by_cases hlt : I < h.slots.length
      · obtain ⟨g, o, rfl, y0, y1, y2⟩ := X3.out I hlt
        have hss := mayI_succ (N := N) hlt
        have hfit := HW.out.2 _ (getD_slot hlt)
        obtain ⟨s, hs⟩ : ∃ s, h.slots.getD I Slot.zero = s := ⟨_, rfl⟩
        rw [hs] at y0 y1 y2 hss hfit
        obtain ⟨f1, f2, f3⟩ := hfit
        have hb1 := bounds_i64 f2
        have z0 := (HB.out.cell (World.block_lt_of_cell? _ _ y0)).trans y0
        have z1 := (HB.out.cell (World.block_lt_of_cell? _ _ y1)).trans y1
        have z2 := (HB.out.cell (World.block_lt_of_cell? _ _ y2)).trans y2
        have HSS := hid hss
        obtain ⟨wo, rfl⟩ : ∃ wo : World, wo = wr := ⟨_, rfl⟩
        clear y0 y1 y2 hss hs f2
        by_cases hm : mayI N h I
        · have hd : decide (mayI N h I) = true := decide_eq_true hm
          have HM := hid hm
          rw [hd]
          clear hd hm
          go_wp2
          all_goals
            go_roundg (gk - 1)
            case measure => omega
            case rel =>
              refine ⟨I + 1, by omega, by go_num, congrArg Value.bool ?_, ?_⟩
              · first
                  | with_reducible exact seq_lt ‹_› ‹_› HSS.out HM.out
                  | exact (decide_eq_false (fun e => by have h2 := (HSS.out.1 e).2; unfold Slot.Ok at h2; omega)).symm
              · first
                  | exact bl_alloc HB.out _
                  | exact bl_drew (bl_alloc HB.out _)
                  | (repeat (first | exact HB.out | refine bl_drew ?_ | refine bl_drewN ?_ _ | refine bl_alloc ?_ _))
        · have hd : decide (mayI N h I) = false := decide_eq_false hm
          have HM := hid hm
          rw [hd]
          clear hd hm
          go_wp2
          all_goals
            go_roundg (gk - 1)
            case measure => omega
            case rel =>
              refine ⟨I + 1, by omega, by go_num, congrArg Value.bool ?_, ?_⟩
              · exact (decide_eq_false (fun e => HM.out (HSS.out.1 e).1)).symm
              · first
                  | exact bl_alloc HB.out _
                  | exact bl_drew (bl_alloc HB.out _)
                  | (repeat (first | exact HB.out | refine bl_drew ?_ | refine bl_drewN ?_ _ | refine bl_alloc ?_ _))
      · obtain rfl : I = h.slots.length := by omega
        go_wp2
        go_ret
        exact ⟨congrArg (fun b => Ending.returned (Value.bool b)) (decide_eq_decide.2 (mayI_all N h)), HB.out⟩
end Go.Proofs.YtoanopegoilcnaaGreat
/- Walks over page: the framer of a layout. -/
namespace Go.Proofs.YtoanopegoilcnaaGreat
open Go.RowKit Go.Mem Go.Pg

set_option maxRecDepth 100000 in
set_option maxHeartbeats 1600000 in
/-- A layout that may be. -/
theorem new_any (S N T mw mh : Nat) (w : World) (hw : Par (S + 4) T mw) (hh : Par (9 + 11 * N + 4) T mh) (hS1 : 1 ≤ S) (hS : S ≤ 256) (hN1 : 1 ≤ N) (hN : N ≤ 8) :
    Calls Tryz.prog 15 #[.agg #[.int .i64 S, .int .i64 N, .int .i64 T]] w fun e w' =>
      (if byB S N T mw mh ≤ 4096 then ∃ f, w.heap.size ≤ f ∧ e = .returned (.tuple #[.pointer (some ⟨f, 0, none⟩), .int .i64 0]) ∧ FrAt w' f S N T mw mh else e = .returned (.tuple #[.pointer none, .int .i64 1])) ∧ Below w.heap.size w w' := by
  have t1 := hw.t1
  have t8 := hw.t8
  have HW := hid hw
  have HH := hid hh
  have hbyte := hid (fun f w h => bytes_any f S N T mw mh w h hw hh hS hN)
  clear hw hh
  have hi1 : ((S : Int) + 4) = ((S + 4 : Nat) : Int) := by omega
  have hi2 : ((9 : Int) + 11 * (N : Int) + 4) = ((9 + 11 * N + 4 : Nat) : Int) := by omega
  have HI1 := hid hi1
  have HI2 := hid hi2
  clear hi1 hi2
  go_enter Tryz.func15, Tryz.ntmps15
  go_wp2_with fail
  rw [HI1.out]
  refine (bchnew_any (S + 4) T mw _ HW.out).mono ?_
  rintro e w1 ⟨⟨cw, rfl, hc1⟩, hb1⟩
  obtain ⟨W, hW⟩ : ∃ W, w.alloc (.cells #[.int .i64 S, .int .i64 N, .int .i64 T] 23) = W := ⟨_, rfl⟩
  rw [hW] at hb1
  have hbx : W.heap[w.heap.size]? = some (.cells #[.int .i64 S, .int .i64 N, .int .i64 T] 23 (0, 0)) := by rw [← hW]; exact alloc_new w _
  have hbW : Below w.heap.size w W := by rw [← hW]; exact (Below.refl _ _).alloc (Nat.le_refl _) _
  have hbx1 := (hb1.block _ (lt_at hbx)).trans hbx
  have q0 := cell_at hbx1 0
  have q1 := cell_at hbx1 1
  have q2 := cell_at hbx1 2
  have HB1 := hid (hbW.comp hb1)
  have HC1 := hid hc1
  have HBX1 := hid hbx1
  clear hW hb1 hbx hbW hc1 hbx1
  go_wp2_with fail
  rw [HI2.out]
  refine (bchnew_any (9 + 11 * N + 4) T mh _ HH.out).mono ?_
  rintro e w2 ⟨⟨ch, rfl, hc2⟩, hb2⟩
  have hbx2 := (hb2.block _ (lt_at HBX1.out)).trans HBX1.out
  have p0 := cell_at hbx2 0
  have p1 := cell_at hbx2 1
  have p2 := cell_at hbx2 2
  have HB2 := hid (HB1.out.comp hb2)
  have HC1' := hid (HC1.out.below hb2)
  have HC2 := hid hc2
  clear hb2 hc2 hbx2 q0 q1 q2
  go_wp2_with fail
  obtain ⟨V, hV⟩ : ∃ V, w2.alloc (.cells #[.int .i64 S, .int .i64 N, .int .i64 T, .pointer (some ⟨cw, 0, none⟩), .pointer (some ⟨ch, 0, none⟩)] 67) = V := ⟨_, rfl⟩
  have hfx : V.heap[w2.heap.size]? = some (.cells #[.int .i64 S, .int .i64 N, .int .i64 T, .pointer (some ⟨cw, 0, none⟩), .pointer (some ⟨ch, 0, none⟩)] 67 (0, 0)) := by rw [← hV]; exact alloc_new w2 _
  have hbV : Below w2.heap.size w2 V := by rw [← hV]; exact (Below.refl _ _).alloc (Nat.le_refl _) _
  rw [hV]
  have hfr : FrAt V w2.heap.size S N T mw mh := ⟨cw, ch, hfx, HC1'.out.below hbV, HC2.out.below hbV⟩
  have hge : w.heap.size ≤ w2.heap.size := HB2.out.size
  have HFR := hid hfr
  have HBV := hid (HB2.out.comp hbV)
  clear hV hfx hbV hfr p0 p1 p2
  refine (hbyte.out _ _ HFR.out).mono ?_
  rintro e w3 ⟨rfl, nq, rfl⟩
  by_cases hle : byB S N T mw mh ≤ 4096
  · have h1 : ¬ (4096 : Int) < (byB S N T mw mh : Int) := by omega
    have HLE := hid hle
    clear hle
    go_wp2_with fail
    go_ret2
    refine ⟨?_, HBV.out.drewN nq⟩
    exact ⟨_, hge, rfl, HFR.out.drewN nq⟩
  · have h1 : (4096 : Int) < (byB S N T mw mh : Int) := by omega
    have HLE := hid hle
    clear hle
    go_wp2_with fail
    go_ret2
    refine ⟨?_, HBV.out.drewN nq⟩
    rfl
end Go.Proofs.YtoanopegoilcnaaGreat
