/- Walks over history: Sync; Cut. -/
import Derived.Test.YtboonpfdlbedoaaHf
import Derived.Deep.RegionHeld3
import Derived.Deep.LoopGhost
namespace Go.Proofs.Ytboonpfdlbedoaa
open Go Go.RowKit Go.Mem Go.Hs
theorem MdAt.congr {B : Nat} {w : World} {p n K gl cap : Nat} {bv br : Nat → Nat} {V R V' R' : Nat → List Nat} (h : MdAt B w p n K gl cap bv br V R) (hV : ∀ i, i < n → V i = V' i) (hR : ∀ i, i < n → R i = R' i) : MdAt B w p n K gl cap bv br V' R' :=
  { h with
    sv := fun i hi => hV i hi ▸ h.sv i hi
    sr := fun i hi => hR i hi ▸ h.sr i hi
    lv := fun i hi => hV i hi ▸ h.lv i hi
    lr := fun i hi => hR i hi ▸ h.lr i hi }
/-- The first I of one, the rest of the other. -/
def mixf (I : Nat) (f g : Nat → List Nat) : Nat → List Nat := fun j => if j < I then f j else g j
theorem mixf_succ (I : Nat) (f g : Nat → List Nat) : updf (mixf I f g) I (f I) = mixf (I + 1) f g := by
  funext j
  unfold updf mixf
  by_cases h1 : j = I
  · subst h1; rw [if_pos rfl, if_pos (Nat.lt_succ_self _)]
  · rw [if_neg h1]
    by_cases h2 : j < I
    · rw [if_pos h2, if_pos (by omega)]
    · rw [if_neg h2, if_neg (by omega)]
section
variable {B : Nat} {w : World} {p n K gl cap : Nat} {bv br : Nat → Nat} {V R : Nat → List Nat} {i v : Nat}
set_option maxHeartbeats 6400000 in
theorem sync_any (h : MdAt B w p n K gl cap bv br V R) :
    Calls Try.prog 15 #[.pointer (some ⟨p, 0, none⟩)] w fun e w' => e = .returned (.tuple #[]) ∧ (∃ b', MdAt B w' p n K gl cap bv b' V V) ∧ Below B w w' := by
  have HH := Lib.hid h
  have i3 : (n : Int) ≤ (cap : Int) := by have := h.hc.1; omega
  have i4 : (cap : Int) ≤ 9223372036854775807 := by have := h.hc.2; unfold maxLen at this; omega
  have c0 := h.cell0
  clear h
  go_enter Try.func15, Try.ntmps15
  go_wp2_with fail
  clear c0
  go_loopg [10] n (fun gk x wr => ∃ (I : Nat) (b' : Nat → Nat), I + gk = n ∧ x = .int .i64 I ∧ MdAt B wr p n K gl cap bv b' V (mixf I V R) ∧ Below B w wr)
  case atStart => exact ⟨0, _, by omega, rfl, HH.out.congr (fun _ _ => rfl) (fun _ _ => rfl), Below.refl _ _⟩
  case round =>
    obtain ⟨I, b', hI, rfl, hm, hb⟩ := hrel
    have HM := Lib.hid hm
    have HB := Lib.hid hb
    by_cases hlt : I < n
    · have i1 : (I : Int) < (n : Int) := by omega
      have i0 : (0 : Int) ≤ (I : Int) := by omega
      have d0 := hm.cell0
      have d1 := hm.cellV hlt
      have HC := Lib.hid (clone_any (w := wr.drew) ((hm.sv I hlt).same rfl))
      have HL := Lib.hid (hm.lv I hlt)
      have HLT := Lib.hid hlt
      have HW := Lib.hid (show wr.drew.heap.size = wr.heap.size from rfl)
      clear hm hb
      go_wp2_with fail
      go_region_held3 (fun w' => w'.cell? ⟨p, 0, none⟩ = some (.slice (some ⟨gl, 0, none⟩) n cap) ∧ w'.cell? ⟨gl, I * 2, none⟩ = some (.map (some (bv I))))
        (first | exact ⟨d0, d1⟩ | exact ⟨x0, x1⟩ | exact ⟨y0, y1⟩)
        (first
        | (go_at_call 27; refine HC.out.mono ?_; rintro e wa ⟨rfl, es, c, hwa, hs⟩; have hbl : Below wr.heap.size wr wa := hwa.symm ▸ ((Below.refl wr.heap.size wr).drew).alloc (Nat.le_refl _) (.map es c); have hma := HM.out.below hbl; have x0 := hma.cell0; have x1 := hma.cellV hlt; have xd := hma.cellR hlt; have zz := hma.free (I * 2 + 1); have hms := hma.setR hlt (HM.out.new (Nat.le_refl _)) hs HL.out; have y0 := hms.cell0; have y1 := hms.cellV hlt; have HMS := Lib.hid hms; have HBA := Lib.hid (show Below B w (wa.setCell ⟨gl, I * 2 + 1, none⟩ (.map (some wr.heap.size))) from ((HB.out.trans (hbl.mono HM.out.base))).setCell HM.out.hb.2.1 _); clear hwa hs hbl hma hms)
        | fail)
      all_goals
        go_wp2_with fail
        go_roundg (gk - 1)
        case measure => omega
        case rel =>
          have h9 := HMS.out
          rw [ mixf_succ] at h9
          exact ⟨I + 1, _, by omega, by go_num, h9, HBA.out⟩
    · obtain rfl : n = I := by omega
      go_wp2_with fail
      go_end0
      exact ⟨rfl, ⟨_, HM.out.congr (fun i hi => rfl) (fun i hi => if_pos hi)⟩, HB.out⟩

set_option maxHeartbeats 6400000 in
theorem cut_any (h : MdAt B w p n K gl cap bv br V R) :
    Calls Try.prog 17 #[.pointer (some ⟨p, 0, none⟩)] w fun e w' => e = .returned (.tuple #[]) ∧ (∃ b', MdAt B w' p n K gl cap b' br R R) ∧ Below B w w' := by
  have HH := Lib.hid h
  have i3 : (n : Int) ≤ (cap : Int) := by have := h.hc.1; omega
  have i4 : (cap : Int) ≤ 9223372036854775807 := by have := h.hc.2; unfold maxLen at this; omega
  have c0 := h.cell0
  clear h
  go_enter Try.func17, Try.ntmps17
  go_wp2_with fail
  clear c0
  go_loopg [10] n (fun gk x wr => ∃ (I : Nat) (b' : Nat → Nat), I + gk = n ∧ x = .int .i64 I ∧ MdAt B wr p n K gl cap b' br (mixf I R V) R ∧ Below B w wr)
  case atStart => exact ⟨0, _, by omega, rfl, HH.out.congr (fun _ _ => rfl) (fun _ _ => rfl), Below.refl _ _⟩
  case round =>
    obtain ⟨I, b', hI, rfl, hm, hb⟩ := hrel
    have HM := Lib.hid hm
    have HB := Lib.hid hb
    by_cases hlt : I < n
    · have i1 : (I : Int) < (n : Int) := by omega
      have i0 : (0 : Int) ≤ (I : Int) := by omega
      have d0 := hm.cell0
      have d1 := hm.cellR hlt
      have HC := Lib.hid (clone_any (w := wr.drew) ((hm.sr I hlt).same rfl))
      have HL := Lib.hid (hm.lr I hlt)
      have HLT := Lib.hid hlt
      have HW := Lib.hid (show wr.drew.heap.size = wr.heap.size from rfl)
      clear hm hb
      go_wp2_with fail
      go_region_held3 (fun w' => w'.cell? ⟨p, 0, none⟩ = some (.slice (some ⟨gl, 0, none⟩) n cap) ∧ w'.cell? ⟨gl, I * 2 + 1, none⟩ = some (.map (some (br I))))
        (first | exact ⟨d0, d1⟩ | exact ⟨x0, x1⟩ | exact ⟨y0, y1⟩)
        (first
        | (go_at_call 27; refine HC.out.mono ?_; rintro e wa ⟨rfl, es, c, hwa, hs⟩; have hbl : Below wr.heap.size wr wa := hwa.symm ▸ ((Below.refl wr.heap.size wr).drew).alloc (Nat.le_refl _) (.map es c); have hma := HM.out.below hbl; have x0 := hma.cell0; have x1 := hma.cellR hlt; have xd := hma.cellV hlt; have zz := hma.free (I * 2); have hms := hma.setV hlt (HM.out.new (Nat.le_refl _)) hs HL.out; have y0 := hms.cell0; have y1 := hms.cellR hlt; have HMS := Lib.hid hms; have HBA := Lib.hid (show Below B w (wa.setCell ⟨gl, I * 2, none⟩ (.map (some wr.heap.size))) from ((HB.out.trans (hbl.mono HM.out.base))).setCell HM.out.hb.2.1 _); clear hwa hs hbl hma hms)
        | fail)
      all_goals
        go_wp2_with fail
        go_roundg (gk - 1)
        case measure => omega
        case rel =>
          have h9 := HMS.out
          rw [ mixf_succ] at h9
          exact ⟨I + 1, _, by omega, by go_num, h9, HBA.out⟩
    · obtain rfl : n = I := by omega
      go_wp2_with fail
      go_end0
      exact ⟨rfl, ⟨_, HM.out.congr (fun i hi => if_pos hi) (fun i hi => rfl)⟩, HB.out⟩
end
end Go.Proofs.Ytboonpfdlbedoaa
