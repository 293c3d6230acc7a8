/- Walks over firkinlaw05: right. -/
import Derived.Test.YtoanopegoilcnaaGreatZKo
import Derived.Test.YtoanopegoilcnaaGreatJr
import Derived.Test.YtoanopegoilcnaaGreatJf
import Derived.Test.YtoanopegoilcnaaGreatZKk
import Derived.Test.YtoanopegoilcnaaGreatJs
import Derived.Deep.RegionHeld3
import Derived.Deep.DrawnRows
set_option linter.unusedVariables false
namespace Go.Proofs.YtoanopegoilcnaaGreat
open Go.RowKit Go.Mem Go.Pg Go.Sort

/-- A slot that may be, of a raw one. -/
def rtSlot (h : Head) (i : Nat) : Slot := if i < h.slots.length then ⟨(h.slots.getD i Slot.zero).key, (absN (h.slots.getD i Slot.zero).st % 4 : Nat), (h.slots.getD i Slot.zero).seq % 281474976710656⟩ else ⟨i, 0, 0⟩
/-- A head that may be, of a raw one. -/
def rtH (N : Nat) (h : Head) : Head := ⟨(1 + absN h.kind % 3 : Nat), h.id, (absN h.row % 65536 : Nat), (absN h.place % 256 : Nat), (absN h.width % 256 : Nat), (List.range N).map (rtSlot h)⟩
def rtRow (S : Nat) (rows : List (List Nat)) (i : Nat) : List Nat := (List.range S).map fun k => (rows.getD i []).getD k 0
def rtS (S N : Nat) (rows : List (List Nat)) : List (List Nat) := (List.range N).map (rtRow S rows)
theorem el_rows : ElR Tryz.prog 28 39 := ⟨by kernel_rfl, by kernel_rfl⟩
/-- Five cells of a head. -/
theorem keep5 {w w' : World} {b : Nat} {v0 v1 v2 v3 v4 : Value} (hb : w' = w) (h : w.cell? ⟨b, 0, none⟩ = some v0 ∧ w.cell? ⟨b, 1, none⟩ = some v1 ∧ w.cell? ⟨b, 2, none⟩ = some v2 ∧ w.cell? ⟨b, 3, none⟩ = some v3 ∧ w.cell? ⟨b, 4, none⟩ = some v4) :
    w'.cell? ⟨b, 0, none⟩ = some v0 ∧ w'.cell? ⟨b, 1, none⟩ = some v1 ∧ w'.cell? ⟨b, 2, none⟩ = some v2 ∧ w'.cell? ⟨b, 3, none⟩ = some v3 ∧ w'.cell? ⟨b, 4, none⟩ = some v4 := hb ▸ h

theorem md48 (s : Nat) : ((s : Nat) : Int) % 281474976710656 = ((s % 281474976710656 : Nat) : Int) := by omega
theorem tm (a k : Nat) : ((a : Nat) : Int).tmod (k : Nat) = ((a % k : Nat) : Int) := by
  rw [Int.tmod_eq_emod_of_nonneg (by omega)]; rfl
set_option maxRecDepth 100000 in
set_option maxHeartbeats 6400000 in
theorem right_any (S N T : Nat) (h : Head) (v sv : Value) (rows : List (List Nat)) (w : World) (hS : S ≤ 256) (hN : N ≤ 8) (hv : HdV w v h) (hw : h.Wf) (hs : RB w sv rows) (hx : ∀ r ∈ rows, ∀ y ∈ r, y < 256) :
    Calls Tryz.prog 10 #[.agg #[.int .i64 S, .int .i64 N, .int .i64 T], v, sv] w fun e w' =>
      (∃ zv rv, e = .returned (.tuple #[.agg #[.int .i64 (rtH N h).kind, .int .u32 ((rtH N h).id : Nat), .int .i64 (rtH N h).row, .int .i64 (rtH N h).place, .int .i64 (rtH N h).width, zv], rv]) ∧ SlR w' zv (rtH N h).slots ∧ RB w' rv (rtS S N rows)) ∧ Below w.heap.size w w' := by
  obtain ⟨zv, rfl, hsl⟩ := hv
  obtain ⟨za, zc, rfl, x1, x2, x3⟩ := hsl
  obtain ⟨ra, rc, rfl, y1, y2, y3⟩ := hs
  obtain ⟨W, hW⟩ : ∃ W, ((w.alloc (.cells #[.int .i64 S, .int .i64 N, .int .i64 T] 23)).alloc (.cells #[.int .i64 h.kind, .int .u32 (h.id : Nat), .int .i64 h.row, .int .i64 h.place, .int .i64 h.width, .slice za h.slots.length zc] 27)).alloc (.cells #[.int .i64 0, .int .u32 0, .int .i64 0, .int .i64 0, .int .i64 0, .slice none 0 0] 27) = W := ⟨_, rfl⟩
  have hlb : W.heap[w.heap.size]? = some (.cells #[.int .i64 S, .int .i64 N, .int .i64 T] 23 (0, 0)) := by rw [← hW]; exact (alloc_old (by simp; omega)).trans ((alloc_old (by simp)).trans (alloc_new w _))
  have hhb : W.heap[w.heap.size + 1]? = some (.cells #[.int .i64 h.kind, .int .u32 (h.id : Nat), .int .i64 h.row, .int .i64 h.place, .int .i64 h.width, .slice za h.slots.length zc] 27 (0, 0)) := by rw [← hW]; exact (alloc_old (by simp)).trans (alloc_at (by simp))
  have hrb : W.heap[w.heap.size + 2]? = some (.cells #[.int .i64 0, .int .u32 0, .int .i64 0, .int .i64 0, .int .i64 0, .slice none 0 0] 27 (0, 0)) := by rw [← hW]; exact alloc_at (by simp)
  have hbW : Below w.heap.size w W := by rw [← hW]; exact bl_alloc (bl_alloc (bl_alloc (Below.refl _ _) _) _) _
  have hsz : W.heap.size = w.heap.size + 3 := by rw [← hW]; simp
  have hwk := hw.1
  have AK := hid (fun w => abs_any h.kind w hwk.1)
  have AR := hid (fun w => abs_any h.row w hwk.2.2.1)
  have AP := hid (fun w => abs_any h.place w hwk.2.2.2.1)
  have AW := hid (fun w => abs_any h.width w hwk.2.2.2.2)
  have lk := absN_le hwk.1
  have lr := absN_le hwk.2.2.1
  have lp := absN_le hwk.2.2.2.1
  have lw := absN_le hwk.2.2.2.2
  have X3 := hid x3
  have Y3 := hid y3
  have HX := hid hx
  have HWF := hid hw
  have HW := hid hW
  have HBW := hid hbW
  have HSZ := hid hsz
  have HLB := hid hlb
  have HHB := hid hhb
  have HRB := hid hrb
  clear x3 y3 hx hw hW hwk hlb hhb hrb hbW hsz
  go_enter Tryz.func10, Tryz.ntmps10
  go_wp2_with fail
  rw [HW.out]
  obtain ⟨lb, elb⟩ : ∃ b, w.heap.size = b := ⟨_, rfl⟩
  obtain ⟨hb, ehb⟩ : ∃ b, w.heap.size + 1 = b := ⟨_, rfl⟩
  obtain ⟨rb, erb⟩ : ∃ b, w.heap.size + 2 = b := ⟨_, rfl⟩
  rw [erb, ehb, elb]
  have q0 : W.cell? ⟨hb, 0, none⟩ = some (.int .i64 h.kind) := by rw [← ehb]; exact cell_at HHB.out 0
  have q1 : W.cell? ⟨hb, 1, none⟩ = some (.int .u32 (h.id : Nat)) := by rw [← ehb]; exact cell_at HHB.out 1
  have q2 : W.cell? ⟨hb, 2, none⟩ = some (.int .i64 h.row) := by rw [← ehb]; exact cell_at HHB.out 2
  have q3 : W.cell? ⟨hb, 3, none⟩ = some (.int .i64 h.place) := by rw [← ehb]; exact cell_at HHB.out 3
  have q4 : W.cell? ⟨hb, 4, none⟩ = some (.int .i64 h.width) := by rw [← ehb]; exact cell_at HHB.out 4
  have hhl : hb < W.heap.size := by have := HSZ.out; omega
  have hne := Nat.ne_of_lt hhl
  have EL := hid elb
  have EH := hid ehb
  have ER := hid erb
  clear elb ehb erb
  have t1 : ((absN h.kind : Nat) : Int).tmod 3 = ((absN h.kind % 3 : Nat) : Int) := tm _ 3
  have t2 : ((absN h.row : Nat) : Int).tmod 65536 = ((absN h.row % 65536 : Nat) : Int) := tm _ 65536
  have t3 : ((absN h.place : Nat) : Int).tmod 256 = ((absN h.place % 256 : Nat) : Int) := tm _ 256
  have t4 : ((absN h.width : Nat) : Int).tmod 256 = ((absN h.width % 256 : Nat) : Int) := tm _ 256
  have t5 : IntKind.i64.wrap (1 + ((absN h.kind % 3 : Nat) : Int)) = ((1 + absN h.kind % 3 : Nat) : Int) := by rw [show (1 + ((absN h.kind % 3 : Nat) : Int)) = ((1 + absN h.kind % 3 : Nat) : Int) by push_cast; rfl]; exact IntWalk.i64_in _ (by omega)
  have T1 := hid t1
  have T2 := hid t2
  have T3 := hid t3
  have T4 := hid t4
  have T5 := hid t5
  clear t1 t2 t3 t4 t5
  go_cut [8] (fun p wx => p = .pointer (some ⟨W.heap.size, 0, none⟩) ∧ ∃ n, wx = (W.alloc (.cells #[.int .i64 ((1 + absN h.kind % 3 : Nat) : Int), .int .u32 (h.id : Nat), .int .i64 ((absN h.row % 65536 : Nat) : Int), .int .i64 ((absN h.place % 256 : Nat) : Int), .int .i64 ((absN h.width % 256 : Nat) : Int), .slice none 0 0] 27)).drewN n)
  case first => as_aux_lemma =>
    -- {
    go_region_held3 (fun w' => w'.cell? ⟨hb, 0, none⟩ = some (.int .i64 h.kind) ∧ w'.cell? ⟨hb, 1, none⟩ = some (.int .u32 (h.id : Nat)) ∧ w'.cell? ⟨hb, 2, none⟩ = some (.int .i64 h.row) ∧ w'.cell? ⟨hb, 3, none⟩ = some (.int .i64 h.place) ∧ w'.cell? ⟨hb, 4, none⟩ = some (.int .i64 h.width))
      (go_keep)
      (first
      | (go_at_call 11; (first | (with_reducible refine (AK.out _).mono ?_) | (with_reducible refine (AR.out _).mono ?_) | (with_reducible refine (AP.out _).mono ?_) | (with_reducible refine (AW.out _).mono ?_)); rintro e w' ⟨rfl, rfl⟩)
      | fail)
    all_goals
      go_wp2_with fail
      go_meet
      rw [T1.out, T2.out, T3.out, T4.out, T5.out]
      exact ⟨rfl, 1, rfl⟩
    -- }
  case rest =>
    obtain ⟨rfl, nq, rfl⟩ := hcut
    obtain ⟨oB, hoB⟩ : ∃ b, W.heap.size = b := ⟨_, rfl⟩
    obtain ⟨k1, hk1⟩ : ∃ k1, 1 + absN h.kind % 3 = k1 := ⟨_, rfl⟩
    obtain ⟨k2, hk2⟩ : ∃ k1, absN h.row % 65536 = k1 := ⟨_, rfl⟩
    obtain ⟨k3, hk3⟩ : ∃ k1, absN h.place % 256 = k1 := ⟨_, rfl⟩
    obtain ⟨k4, hk4⟩ : ∃ k1, absN h.width % 256 = k1 := ⟨_, rfl⟩
    rw [hk1, hk2, hk3, hk4]
    obtain ⟨V, hV⟩ : ∃ V, (W.alloc (.cells #[.int .i64 (k1 : Nat), .int .u32 (h.id : Nat), .int .i64 (k2 : Nat), .int .i64 (k3 : Nat), .int .i64 (k4 : Nat), .slice none 0 0] 27)).drewN nq = V := ⟨_, rfl⟩
    have hV1 : V.heap[oB]? = some (.cells #[.int .i64 (k1 : Nat), .int .u32 (h.id : Nat), .int .i64 (k2 : Nat), .int .i64 (k3 : Nat), .int .i64 (k4 : Nat), .slice none 0 0] 27 (0, 0)) := by rw [← hV]; exact alloc_at (w := W) hoB.symm
    have hV2 : Below W.heap.size W V := by rw [← hV]; exact ((Below.refl _ _).alloc (Nat.le_refl _) _).drewN nq
    rw [hV, hoB]
    have HOB := hid hoB
    have HKS := hid (And.intro hk1 (And.intro hk2 (And.intro hk3 hk4)))
    have HV1 := hid hV1
    have HV2 := hid hV2
    clear hV hV1 hV2 hoB hk1 hk2 hk3 hk4 q0 q1 q2 q3 q4 AK AR AP AW lk lr lp lw T1 T2 T3 T4 T5 hne
    go_wp2_with fail
    go_loopg [9, 10] N (fun gk rv v wr => ∃ (I : Nat) (zv : Value), I + gk = N ∧ v = .int .i64 I ∧ Below W.heap.size W wr ∧ wr.heap[oB]? = some (.cells #[.int .i64 (k1 : Nat), .int .u32 (h.id : Nat), .int .i64 (k2 : Nat), .int .i64 (k3 : Nat), .int .i64 (k4 : Nat), zv] 27 (0, 0)) ∧
      OwS 61 (oB + 1) wr zv ((List.range I).map (rtSlot h)) ∧ OwR 39 (oB + 1) (fun g => zv.ownBlock = some g) wr rv ((List.range I).map (rtRow S rows)) ∧ (∀ g, zv.ownBlock = some g → rv.ownBlock ≠ some g))
    case atStart => exact ⟨0, .slice none 0 0, by omega, rfl, HV2.out, HV1.out, OwS.nil _ _ _, OwR.nil _ _ _ _, fun g hg => by simp [Value.ownBlock] at hg⟩
    case round =>
      obtain ⟨I, zv, hI, rfl, hbel, hob, hos, hor, hne⟩ := hrel
      have BEL := hid hbel
      have OB := hid hob
      have OS := hid hos
      have OR := hid hor
      have NE := hid hne
      have hlb : wr.heap[lb]? = some (.cells #[.int .i64 S, .int .i64 N, .int .i64 T] 23 (0, 0)) := by
        refine (hbel.block lb (by have := HSZ.out; have := EL.out; omega)).trans ?_
        rw [← EL.out]; exact HLB.out
      have hhb : wr.heap[hb]? = some (.cells #[.int .i64 h.kind, .int .u32 (h.id : Nat), .int .i64 h.row, .int .i64 h.place, .int .i64 h.width, .slice za h.slots.length zc] 27 (0, 0)) := by
        refine (hbel.block hb hhl).trans ?_
        rw [← EH.out]; exact HHB.out
      have cN := cell_at hlb 1
      have cS := cell_at hlb 0
      have cH := cell_at hhb 5
      have LBL := hid hlb
      have HHL := hid hhb
      have hoS : oB < wr.heap.size := lt_at hob
      clear hbel hob hos hor hne hlb hhb HV1 HV2
      by_cases hlt : I < N
      · have i1 : (I : Int) < (N : Int) := by omega
        go_upto_region 7 with (fail)
        obtain ⟨bx, hbxE⟩ : ∃ b, wr.heap.size = b := ⟨_, rfl⟩
        obtain ⟨V1, hV1⟩ : ∃ V1, wr.alloc (.cells #[.int .u32 (I : Nat), .int .i64 0, .int .u64 0] 61) = V1 := ⟨_, rfl⟩
        have hb1 : Below wr.heap.size wr V1 := by rw [← hV1]; exact bl_alloc (Below.refl _ _) _
        have hx1 : V1.heap[bx]? = some (.cells #[.int .u32 (I : Nat), .int .i64 0, .int .u64 0] 61 (0, 0)) := by rw [← hV1]; exact alloc_at hbxE.symm
        rw [hV1, hbxE]
        have HB1 := hid hb1
        have HX1 := hid hx1
        have HBX := hid hbxE
        have cH := cell_at ((hb1.block hb (lt_at HHL.out)).trans HHL.out) 5
        clear hV1 hb1 hx1 hbxE cN cS
        go_upto_if 47 with (fail)
        go_cut [] (fun wx => wx.heap[bx]? = some (.cells #[.int .u32 ((rtSlot h I).key : Nat), .int .i64 (rtSlot h I).st, .int .u64 ((rtSlot h I).seq : Nat)] 61 (0, 0)) ∧ Below wr.heap.size wr wx)
        case first => as_aux_lemma =>
          -- {
          by_cases hlt2 : I < h.slots.length
          · obtain ⟨sg, so, rfl, z0, z1, z2⟩ := X3.out I hlt2
            have hfit := HWF.out.2 _ (getD_slot hlt2)
            have hrt : rtSlot h I = ⟨(h.slots.getD I Slot.zero).key, (absN (h.slots.getD I Slot.zero).st % 4 : Nat), (h.slots.getD I Slot.zero).seq % 281474976710656⟩ := by unfold rtSlot; rw [if_pos hlt2]
            obtain ⟨s, hs⟩ : ∃ s, h.slots.getD I Slot.zero = s := ⟨_, rfl⟩
            rw [hs] at z0 z1 z2 hfit hrt
            have hle := absN_le hfit.2.1
            have AS := hid (fun w => abs_any s.st w hfit.2.1)
            have hsq : s.seq < 18446744073709551616 := hfit.2.2
            have HRT := hid hrt
            have hbw : Below w.heap.size w V1 := (HBW.out.comp BEL.out).comp HB1.out
            have z0' := (hbw.cell (World.block_lt_of_cell? _ _ z0)).trans z0
            have z1' := (hbw.cell (World.block_lt_of_cell? _ _ z1)).trans z1
            have z2' := (hbw.cell (World.block_lt_of_cell? _ _ z2)).trans z2
            have p0 := cell_at HX1.out 0
            have p1 := cell_at HX1.out 1
            have p2 := cell_at HX1.out 2
            have f0 := free_at HX1.out 0
            have f1 := free_at HX1.out 1
            have f2 := free_at HX1.out 2
            have i2 : (I : Int) < (h.slots.length : Int) := by omega
            have i3 : (h.slots.length : Int) ≤ (zc : Int) := by omega
            have i4 : (zc : Int) ≤ 9223372036854775807 := by unfold maxLen at x2; omega
            clear hrt hs z0 z1 z2 hbw hfit
            go_upto_region 9 with (fail)
            have s0 := set_at HX1.out 0 (.int .u32 (s.key : Nat))
            have s1 := set_at s0 1 (.int .i64 s.st)
            have s2 := set_at s1 2 (.int .u64 (s.seq : Nat))
            have hge : wr.heap.size ≤ bx := Nat.le_of_eq HBX.out
            have hb2 := bl_set (bl_set (bl_set HB1.out (p := ⟨bx, 0, none⟩) hge (.int .u32 (s.key : Nat))) (p := ⟨bx, 1, none⟩) hge (.int .i64 s.st)) (p := ⟨bx, 2, none⟩) hge (.int .u64 (s.seq : Nat))
            obtain ⟨V2, hV2⟩ : ∃ V2, ((V1.setCell ⟨bx, 0, none⟩ (.int .u32 (s.key : Nat))).setCell ⟨bx, 1, none⟩ (.int .i64 s.st)).setCell ⟨bx, 2, none⟩ (.int .u64 (s.seq : Nat)) = V2 := ⟨_, rfl⟩
            rw [hV2] at s2 hb2 ⊢
            have hx2 : V2.heap[bx]? = some (.cells #[.int .u32 (s.key : Nat), .int .i64 s.st, .int .u64 (s.seq : Nat)] 61 (0, 0)) := s2
            have HB2 := hid hb2
            have HX2 := hid hx2
            clear hV2 s0 s1 s2 hb2 p0 p1 p2 f0 f1 f2 z0' z1' z2' cH
            have p1 := cell_at hx2 1
            have p2 := cell_at hx2 2
            have f1 := free_at hx2 1
            have f2 := free_at hx2 2
            clear hx2
            go_wp2_with (go_at_call 11; refine (AS.out _).mono ?_; rintro e w' ⟨rfl, rfl⟩)
            go_meet
            have e1 : ((absN s.st : Nat) : Int) % 4 = ((absN s.st % 4 : Nat) : Int) := by push_cast; rfl
            rw [e1, md48, HRT.out]
            refine ⟨?_, bl_set (bl_set HB2.out hge _) hge _⟩
            exact set_at (set_at HX2.out 1 _) 2 _
          · have hrt : rtSlot h I = ⟨I, 0, 0⟩ := by unfold rtSlot; rw [if_neg hlt2]
            have HRT := hid hrt
            have i2 : ¬ (I : Int) < (h.slots.length : Int) := by omega
            clear hrt hlt2
            go_wp2_with fail
            go_meet
            rw [HRT.out]
            exact ⟨HX1.out, HB1.out⟩
          -- }
        case rest =>
          obtain ⟨hx2, hb2⟩ := hcut
          have HX2 := hid hx2
          have HB2 := hid hb2
          have hb2' := BEL.out.comp hb2
          have OB2 := hid ((hb2.block oB hoS).trans OB.out)
          have LB2 := hid ((hb2.block lb (lt_at LBL.out)).trans LBL.out)
          have OS2 := hid (OS.out.below hb2)
          have OR2 := hid (OR.out.below hb2)
          have BEL2 := hid hb2'
          have q0 := cell_at OB2.out 0
          have q5 := cell_at OB2.out 5
          have g5 := free_at OB2.out 5
          have p0 := cell_at hx2 0
          have p1 := cell_at hx2 1
          have p2 := cell_at hx2 2
          have cS := cell_at LB2.out 0
          have hoS2 : oB < wc.heap.size := lt_at OB2.out
          clear hx2 hb2 hb2' cH HX1 HB1
          go_upto_region 11 with (fail)
          have hB2 : oB + 1 ≤ wc.heap.size := hoS2
          have hzv : zv.ownBlock ≠ some oB := fun e => by have := (OS2.out.blk oB e).1; omega
          go_upto_region 12 with (at_builtin; refine app_slots el_sl rfl _ _ rfl (oB + 1) zv ((List.range I).map (rtSlot h)) (by rfl) (OS2.out.alloc _) [rtSlot h I] (by exact slr_new (w := wc) (s := rtSlot h I) rfl rfl rfl) (by simp) (by simp; omega) (by simp; omega) ?_; intro gs caps w5 hos5 hgs5 has5; have hob5 := (hgs5.block oB (by simp; omega) (fun e => hzv e.symm)).trans ((alloc_old (w := wc) hoS2).trans OB2.out); have q5 := cell_at hob5 5; have g5 := free_at hob5 5; have HOS5 := hid hos5; have HGS5 := hid hgs5; have HAS5 := hid has5; have HOB5 := hid hob5; clear hos5 hgs5 has5 hob5)
          have hor5 := (OR2.out.below ((Below.refl _ _).alloc (Nat.le_refl _) _)).beside HGS5.out HAS5.out NE.out
          have hbel5 : Below W.heap.size W w5 := grow_below (bl_alloc BEL2.out _) (by have := BEL2.out.size; simp; omega) HGS5.out (fun q hq => by have h1 := (OS2.out.blk q hq).1; have h2 := HOB.out; omega)
          obtain ⟨V5, hV5⟩ : ∃ V5, w5.setCell ⟨oB, 5, none⟩ (.slice (some ⟨gs, 0, none⟩) (I + 1) caps) = V5 := ⟨_, rfl⟩
          have e5 : ((List.range I).map (rtSlot h)).length + [rtSlot h I].length = I + 1 := by simp
          have hgs1 : oB + 1 ≤ gs := (HOS5.out.blk gs rfl).1
          have hgr5 : w5.grownBy V5 (some oB) := by rw [← hV5]; exact grown_set w5 oB 5 _
          have hs5 := HOS5.out
          rw [e5] at hs5
          have v1 : OwS 61 (oB + 1) V5 (.slice (some ⟨gs, 0, none⟩) (I + 1) caps) ((List.range (I + 1)).map (rtSlot h)) := by
            have := hs5.kept hgr5 (.inr (fun e => by simp only [Value.ownBlock, Option.some.injEq] at e; omega))
            rw [List.range_succ, List.map_append]
            exact this
          have v2 : OwR 39 (oB + 1) (fun g => gs = g) V5 u9 ((List.range I).map (rtRow S rows)) := hor5.1.kept hgr5 (fun e => by have := (hor5.1.blk oB e).1; omega) (.inr (by omega))
          have v3 : V5.heap[oB]? = some (.cells #[.int .i64 (k1 : Nat), .int .u32 (h.id : Nat), .int .i64 (k2 : Nat), .int .i64 (k3 : Nat), .int .i64 (k4 : Nat), .slice (some ⟨gs, 0, none⟩) (I + 1) caps] 27 (0, 0)) := by rw [← hV5]; exact set_at HOB5.out 5 _
          have v4 : Below W.heap.size W V5 := by rw [← hV5]; exact bl_set hbel5 (by show W.heap.size ≤ oB; exact Nat.le_of_eq HOB.out) _
          have v5 : u9.ownBlock ≠ some gs := hor5.2
          have v6 : gs < V5.heap.size := (v1.blk gs rfl).2
          have v7 : V5.heap[lb]? = some (.cells #[.int .i64 S, .int .i64 N, .int .i64 T] 23 (0, 0)) := by
            refine (v4.block lb (by have := HSZ.out; have := EL.out; omega)).trans ?_
            rw [← EL.out]; exact HLB.out
          rw [hV5]
          have C1 := hid v1
          have C2 := hid v2
          have C3 := hid v3
          have C4 := hid v4
          have C5 := hid v5
          have C6 := hid v6
          have C7 := hid v7
          have cS := cell_at v7 0
          clear hor5 hbel5 hV5 hgr5 hs5 v1 v2 v3 v4 v5 v6 v7 p0 p1 p2 q0 q5 g5 HOS5 HGS5 HAS5 HOB5 OB2 LB2 OS2 OR2 BEL2 hoS2 hB2 hzv OB OS OR NE BEL hgs1 e5
          have hmk := fun w => mk_bytes S (by omega) w
          go_upto_block 2 with (fail)
          obtain ⟨gb, hgb⟩ : ∃ b, V5.heap.size = b := ⟨_, rfl⟩
          obtain ⟨V6, hV6⟩ : ∃ V6, V5.alloc (.cells (fa .u8 S (fun _ => 0)) 5) = V6 := ⟨_, rfl⟩
          have d1 : V6.heap[gb]? = some (.cells (fa .u8 S (fun _ => 0)) 5 (0, 0)) := by rw [← hV6]; exact alloc_at hgb.symm
          have d2 : Below V5.heap.size V5 V6 := by rw [← hV6]; exact (Below.refl _ _).alloc (Nat.le_refl _) _
          have d3 : V6.heap[lb]? = some (.cells #[.int .i64 S, .int .i64 N, .int .i64 T] 23 (0, 0)) := (d2.block lb (lt_at C7.out)).trans C7.out
          rw [hV6, hgb]
          have D1 := hid d1
          have D2 := hid d2
          have D3 := hid d3
          have GB := hid hgb
          obtain ⟨row, hrow⟩ : ∃ row, rows.getD I [] = row := ⟨_, rfl⟩
          have HROW := hid hrow
          clear d1 d2 d3 hgb hV6 hmk cS hrow
          go_cut [] (fun wx => wx.heap[gb]? = some (.cells (fa .u8 S (fun j => row.getD j 0)) 5 (0, 0)) ∧ V6.grownBy wx (some gb))
          case first => as_aux_lemma =>
            -- {
            go_wp2_with fail
            go_loopg [13] S (fun gk v wr => ∃ k : Nat, k + gk = S ∧ v = .int .i64 k ∧ wr.heap[gb]? = some (.cells (fa .u8 S (fun j => if j < k then row.getD j 0 else 0)) 5 (0, 0)) ∧ V6.grownBy wr (some gb))
            case atStart => exact ⟨0, by omega, rfl, by simpa using D1.out, World.grownBy.refl _ _⟩
            case round =>
              obtain ⟨k, hk, rfl, hgbc, hgr⟩ := hrel
              have GBC := hid hgbc
              have HGR := hid hgr
              have hlbne : lb ≠ gb := by have := lt_at C7.out; have := GB.out; omega
              have hd3 := (hgr.block lb (lt_at D3.out) (fun e => hlbne (by simpa using e))).trans D3.out
              have cS := cell_at hd3 0
              clear hgbc hgr hd3
              have fin : (S ≤ k ∨ row.length ≤ k) → wr.heap[gb]? = some (.cells (fa .u8 S (fun j => row.getD j 0)) 5 (0, 0)) ∧ V6.grownBy wr (some gb) := by
                intro hor
                refine ⟨?_, HGR.out⟩
                have e : fa .u8 S (fun j => if j < k then row.getD j 0 else 0) = fa .u8 S (fun j => row.getD j 0) := fa_congr (fun j hj => by
                  by_cases hjk : j < k
                  · exact if_pos hjk
                  · refine (if_neg hjk).trans ?_
                    rw [List.getD_eq_getElem?_getD, List.getElem?_eq_none (by omega)]; rfl)
                rw [← e]; exact GBC.out
              have FIN := hid fin
              clear fin
              by_cases hkS : k < S
              · have j1 : (k : Int) < (S : Int) := by omega
                by_cases hIr : I < rows.length
                · have j2 : (I : Int) < (rows.length : Int) := by omega
                  obtain ⟨rg, ro, u, rfl, ru, rr⟩ := Y3.out I hIr
                  have hbw : Below w.heap.size w wr := by
                    have h1 := HBW.out.comp (C4.out.comp D2.out)
                    exact ⟨HGR.out.os.trans h1.os, HGR.out.tape.trans h1.tape, HGR.out.output.trans h1.output, Nat.le_trans h1.size HGR.out.size, fun q hq => (HGR.out.block q (by have := h1.size; omega) (fun e => by have h2 := GB.out; have h3 := C4.out.size; have h4 := HBW.out.size; simp only [Option.some.injEq] at e; omega)).trans (h1.block q hq)⟩
                  have ru' := (hbw.cell (World.block_lt_of_cell? _ _ ru)).trans ru
                  rw [HROW.out] at rr
                  have rr' := rr.below hbw
                  obtain ⟨ua, uc, rfl, t1, t2, t3⟩ := rr'
                  have T3 := hid t3
                  have j3 : (rows.length : Int) ≤ (rc : Int) := by omega
                  have j4 : (rc : Int) ≤ 9223372036854775807 := by unfold maxLen at y2; omega
                  have j5 : (row.length : Int) ≤ (uc : Int) := by omega
                  have j6 : (uc : Int) ≤ 9223372036854775807 := by unfold maxLen at t2; omega
                  clear ru rr hbw t3
                  by_cases hkr : k < row.length
                  · have j7 : (k : Int) < (row.length : Int) := by omega
                    obtain ⟨ug, uo, rfl, uc1⟩ := T3.out k hkr
                    have gc := fa_cell GBC.out hkS
                    have gz := free_at GBC.out k
                    obtain ⟨yk, hyk⟩ : ∃ y, row.getD k 0 = y := ⟨_, rfl⟩
                    rw [hyk] at uc1
                    have HYK := hid hyk
                    clear hyk
                    go_wp2_with fail
                    go_roundg (gk - 1)
                    case measure => omega
                    case rel =>
                      have h1 := set_fa (w := wr) GBC.out k (row.getD k 0)
                      rw [upd_ext (fun j => row.getD j 0) k, HYK.out] at h1
                      refine ⟨k + 1, by omega, by go_num, h1, ?_⟩
                      have h2 := grown_set wr gb k (.int .u8 (yk : Nat))
                      exact grown_trans HGR.out h2
                  · have j7 : (row.length : Int) ≤ (k : Int) := by omega
                    go_wp2_with fail
                    go_meet
                    exact FIN.out (.inr (by omega))
                · have j2 : (rows.length : Int) ≤ (I : Int) := by omega
                  have hr0 : row = [] := by rw [← HROW.out, List.getD_eq_getElem?_getD, List.getElem?_eq_none (by omega)]; rfl
                  have HR0 := hid hr0
                  clear hr0
                  go_wp2_with fail
                  go_meet
                  exact FIN.out (.inr (by rw [HR0.out]; exact Nat.zero_le _))
              · have j1 : (S : Int) ≤ (k : Int) := by omega
                go_wp2_with fail
                go_meet
                exact FIN.out (.inl (by omega))
            -- }
          case rest =>
            obtain ⟨hgbc, hgr⟩ := hcut
            have hgbl : gb < wc.heap.size := lt_at hgbc
            have hgs6 : gs < gb := by have := C6.out; have := GB.out; omega
            have hgo : oB + 1 ≤ gb := by have := lt_at C3.out; have := GB.out; omega
            have hz : ∀ k, k < V5.heap.size → wc.heap[k]? = V5.heap[k]? := fun k hk => (hgr.block k (by have := D2.out.size; omega) (fun e => by simp only [Option.some.injEq] at e; have := GB.out; omega)).trans (D2.out.block k hk)
            have hbw5 : Below V5.heap.size V5 wc := ⟨hgr.os.trans D2.out.os, hgr.tape.trans D2.out.tape, hgr.output.trans D2.out.output, Nat.le_trans D2.out.size hgr.size, hz⟩
            have E1 := hid (C1.out.below hbw5)
            have E2 := hid (C2.out.below hbw5)
            have E3 := hid ((hbw5.block oB (lt_at C3.out)).trans C3.out)
            have E4 := hid (C4.out.comp hbw5)
            have HGBC := hid hgbc
            have hrd : Rd .u8 wc (.slice (some ⟨gb, 0, none⟩) S S) (rtRow S rows I) := by
              have := Rd.of_fa hgbc S S (Nat.le_refl _) (Nat.le_refl _) (by unfold maxLen; omega)
              unfold rtRow
              rw [HROW.out]; exact this
            have HRD := hid hrd
            have hrl : (rtRow S rows I).length = S := by unfold rtRow; simp
            have HRL := hid hrl
            clear hgbc hgr hz hbw5 hrd hrl D1 D2 D3
            go_wp2_with (at_builtin; refine app_one_row el_rows rfl _ _ rfl (oB + 1) (fun g => gs = g) u9 ((List.range I).map (rtRow S rows)) (by rfl) (E2.out.below ((Below.refl _ _).alloc (Nat.le_refl _) _)) wc.heap.size (.slice (some ⟨gb, 0, none⟩) S S) (by rfl) (cell_at (alloc_new wc _) 0) (rtRow S rows I) (.inr ⟨gb, S, hgo, by simp; omega, by omega, (fun e => by have := (C2.out.blk gb e).2; have := GB.out; omega), by rw [HRL.out], HRD.out.below ((Below.refl _ _).alloc (Nat.le_refl _) _)⟩) (by simp; omega) (by simp; omega) ?_; intro g6 c6 w6 hor6 hgr6 hat6; have HOR6 := hid hor6; have HGR6 := hid hgr6; have HAT6 := hid hat6; clear hor6 hgr6 hat6)
            go_wp2_with fail
            go_roundg (gk - 1)
            case measure => omega
            case rel =>
              have hu9 : u9.ownBlock ≠ some oB := fun e => by have := (E2.out.blk oB e).1; omega
              have hsz1 : (wc.alloc (.cells #[.slice (some ⟨gb, 0, none⟩) S S] 39)).heap.size = wc.heap.size + 1 := by simp
              refine ⟨I + 1, .slice (some ⟨gs, 0, none⟩) (I + 1) caps, by omega, by go_num, ?_, ?_, ?_, ?_, ?_⟩
              · exact grow_below (bl_alloc E4.out _) (by have := E4.out.size; rw [hsz1]; omega) HGR6.out (fun q hq => by have h1 := (E2.out.blk q hq).1; have h2 := HOB.out; omega)
              · refine (HGR6.out.block oB (by rw [hsz1]; have := lt_at E3.out; omega) (fun e => hu9 e.symm)).trans ?_
                exact (alloc_old (lt_at E3.out)).trans E3.out
              · exact (OwS.alloc E1.out _).kept HGR6.out (.inr (fun e => C5.out e.symm))
              · rw [List.range_succ, List.map_append]
                have h9 := HOR6.out.widen (Y := fun g => (Value.slice (some ⟨gs, 0, none⟩) (I + 1) caps).ownBlock = some g) (fun g _ hg => by simpa [Value.ownBlock] using hg)
                rw [show ((List.range I).map (rtRow S rows)).length = I by simp] at h9
                exact h9
              · intro g hg e
                simp only [Value.ownBlock, Option.some.injEq] at hg e
                subst hg
                rcases HAT6.out with h1 | h1
                · exact C5.out (by rw [h1, e])
                · rw [hsz1] at h1; omega
      · obtain rfl : I = N := by omega
        obtain ⟨zza, zzn, zzc, hzz⟩ : ∃ a n c, zv = .slice a n c := by
          obtain ⟨a, c, e, _⟩ := OS.out.slr
          exact ⟨_, _, _, e⟩
        subst hzz
        have hrb : wr.heap[rb]? = some (.cells #[.int .i64 0, .int .u32 0, .int .i64 0, .int .i64 0, .int .i64 0, .slice none 0 0] 27 (0, 0)) := by
          refine (BEL.out.block rb (by have := HSZ.out; have := ER.out; omega)).trans ?_
          rw [← ER.out]; exact HRB.out
        have p0 := cell_at OB.out 0
        have p1 := cell_at OB.out 1
        have p2 := cell_at OB.out 2
        have p3 := cell_at OB.out 3
        have p4 := cell_at OB.out 4
        have p5 := cell_at OB.out 5
        have r0 := cell_at hrb 0
        have r1 := cell_at hrb 1
        have r2 := cell_at hrb 2
        have r3 := cell_at hrb 3
        have r4 := cell_at hrb 4
        have r5 := cell_at hrb 5
        have f0 := free_at hrb 0
        have f1 := free_at hrb 1
        have f2 := free_at hrb 2
        have f3 := free_at hrb 3
        have f4 := free_at hrb 4
        have f5 := free_at hrb 5
        have hrs := six_set hrb (.int .i64 (k1 : Nat)) (.int .u32 (h.id : Nat)) (.int .i64 (k2 : Nat)) (.int .i64 (k3 : Nat)) (.int .i64 (k4 : Nat)) (.slice zza zzn zzc)
        have hge : w.heap.size ≤ rb := by have := ER.out; omega
        have hbw := HBW.out.comp BEL.out
        have hb6 := bl_set (bl_set (bl_set (bl_set (bl_set (bl_set hbw (p := ⟨rb, 0, none⟩) hge (.int .i64 (k1 : Nat))) (p := ⟨rb, 1, none⟩) hge (.int .u32 (h.id : Nat))) (p := ⟨rb, 2, none⟩) hge (.int .i64 (k2 : Nat))) (p := ⟨rb, 3, none⟩) hge (.int .i64 (k3 : Nat))) (p := ⟨rb, 4, none⟩) hge (.int .i64 (k4 : Nat))) (p := ⟨rb, 5, none⟩) hge (.slice zza zzn zzc)
        have hgr : wr.grownBy ((((((wr.setCell ⟨rb, 0, none⟩ (.int .i64 (k1 : Nat))).setCell ⟨rb, 1, none⟩ (.int .u32 (h.id : Nat))).setCell ⟨rb, 2, none⟩ (.int .i64 (k2 : Nat))).setCell ⟨rb, 3, none⟩ (.int .i64 (k3 : Nat))).setCell ⟨rb, 4, none⟩ (.int .i64 (k4 : Nat))).setCell ⟨rb, 5, none⟩ (.slice zza zzn zzc)) (some rb) :=
          grown_trans (grown_trans (grown_trans (grown_trans (grown_trans (grown_set _ rb 0 _) (grown_set _ rb 1 _)) (grown_set _ rb 2 _)) (grown_set _ rb 3 _)) (grown_set _ rb 4 _)) (grown_set _ rb 5 _)
        obtain ⟨V9, hV9⟩ : ∃ V9, ((((((wr.setCell ⟨rb, 0, none⟩ (.int .i64 (k1 : Nat))).setCell ⟨rb, 1, none⟩ (.int .u32 (h.id : Nat))).setCell ⟨rb, 2, none⟩ (.int .i64 (k2 : Nat))).setCell ⟨rb, 3, none⟩ (.int .i64 (k3 : Nat))).setCell ⟨rb, 4, none⟩ (.int .i64 (k4 : Nat))).setCell ⟨rb, 5, none⟩ (.slice zza zzn zzc)) = V9 := ⟨_, rfl⟩
        rw [hV9] at hrs hb6 hgr
        have HRS := hid hrs
        have HB6 := hid hb6
        have HV9 := hid hV9
        have hrbo : rb < oB := by have := ER.out; have := HSZ.out; have := HOB.out; omega
        have F1 := hid (OS.out.kept hgr (.inr (fun e => by have := (OS.out.blk rb e).1; omega)))
        have F2 := hid (OR.out.kept hgr (fun e => by have := (OR.out.blk rb e).1; omega) (.inr (by omega)))
        have hvH : rtH I h = ⟨(k1 : Nat), h.id, (k2 : Nat), (k3 : Nat), (k4 : Nat), (List.range I).map (rtSlot h)⟩ := by
          unfold rtH
          rw [HKS.out.1, HKS.out.2.1, HKS.out.2.2.1, HKS.out.2.2.2]
        have HVH := hid hvH
        clear hrb hrs hb6 hV9 hgr hvH hbw cS cH OS OR OB
        go_wp2_with fail
        rw [HV9.out]
        have s0 := cell_at HRS.out 0
        have s1 := cell_at HRS.out 1
        have s2 := cell_at HRS.out 2
        have s3 := cell_at HRS.out 3
        have s4 := cell_at HRS.out 4
        have s5 := cell_at HRS.out 5
        refine bodyPost_ret (v := .tuple #[.agg #[.int .i64 (k1 : Nat), .int .u32 (h.id : Nat), .int .i64 (k2 : Nat), .int .i64 (k3 : Nat), .int .i64 (k4 : Nat), .slice zza zzn zzc], u9]) (by simp [results, Tryz.results10, go_sem, s0, s1, s2, s3, s4, s5]) rfl ⟨?_, HB6.out⟩
        rw [HVH.out]
        exact ⟨_, _, rfl, F1.out.slr, F2.out.rb⟩
end Go.Proofs.YtoanopegoilcnaaGreat
