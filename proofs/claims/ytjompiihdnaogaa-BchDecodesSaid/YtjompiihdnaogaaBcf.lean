/- Walks: rows made anew (Clone), rows compared (Equal), a bit turned in a row of one's own. -/
import Derived.Test.YtjompiihdnaogaaBce
import Derived.Test.YtjompiihdnaogaaBcm
namespace Go.Proofs.Ytjompiihdnaogaa
open Go.RowKit Go.Mem

theorem addr_add (g o j : Nat) : (⟨g, o, none⟩ : Addr).add j = ⟨g, o + j, none⟩ := by unfold Addr.add; split <;> simp_all
theorem news_rd {k : IntKind} {w : World} {g o : Nat} {xs : List Nat} (h : ∀ j, j < xs.length → w.cell? ⟨g, o + j, none⟩ = some (.int k ((xs.getD j 0 : Nat) : Int))) :
    ∀ j u, (xs.map fun x => Value.int k (x : Nat))[j]? = some u → w.cell? ((⟨g, o, none⟩ : Addr).add j) = some u := by
  intro j u hu
  rw [addr_add]
  rw [List.getElem?_map] at hu
  rcases Nat.lt_or_ge j xs.length with hj | hj
  · rw [h j hj]
    rw [List.getElem?_eq_getElem hj] at hu
    simp only [Option.map_some, Option.some.injEq] at hu
    rw [← hu]; simp [List.getD, hj]
  · rw [List.getElem?_eq_none hj] at hu; cases hu
theorem news_get {k : IntKind} (xs : List Nat) : ∀ j, j < xs.length → (xs.map fun x => Value.int k (x : Nat))[j]? = some (.int k ((xs.getD j 0 : Nat) : Int)) := fun j hj => by
  rw [List.getElem?_map, List.getElem?_eq_getElem hj]; simp [List.getD, hj]
theorem rd_block {k : IntKind} {w : World} {a : Option Addr} {n cap : Nat} {xs : List Nat} (h : Rd k w (.slice a n cap) xs) (h0 : 0 < xs.length) :
    ∃ g o, a = some ⟨g, o, none⟩ ∧ n = xs.length ∧ g < w.heap.size ∧ ∀ j, j < xs.length → w.cell? ⟨g, o + j, none⟩ = some (.int k ((xs.getD j 0 : Nat) : Int)) := by
  obtain ⟨a', cap', hv, h1, h2, hc⟩ := h
  cases hv
  obtain ⟨g, o, rfl, hx⟩ := hc 0 h0
  refine ⟨g, o, rfl, rfl, World.block_lt_of_cell? _ _ hx, fun j hj => ?_⟩
  obtain ⟨g', o', he, hx'⟩ := hc j hj
  cases he
  exact hx'

theorem eq_nil (t e : TypeId) (a : Addr) (l c : Nat) (w : World) (h : Try.prog.underlying t = some (.slice e)) : (binOp .eql t (.slice (some a) l c) (.slice none 0 0)).run Try.prog w = .ok (.bool false) w := by
  simp only [binOp]
  simp [run_equal_slice_nil w t e (some a) l c h]

/-- A clone: a row of its own. -/
def CloneRet (k : IntKind) (e : TypeId) (w w' : World) (xs : List Nat) (r : Ending) : Prop :=
  ∃ g cap, w.heap.size ≤ g ∧ r = .returned (.slice (some ⟨g, 0, none⟩) xs.length cap) ∧ Ow k e w' g xs.length cap (xs.getD · 0)

set_option maxRecDepth 100000 in
set_option maxHeartbeats 800000 in
theorem clone_bytes (v : Value) (xs : List Nat) (w : World) (hv : Rd .u8 w v xs) (h0 : 0 < xs.length) (h1 : xs.length ≤ 1000000) :
    Calls Try.prog 37 #[v] w fun e w' => CloneRet .u8 5 w w' xs e ∧ Below w.heap.size w w' := by
  have hv0 := hv
  obtain ⟨a, cap, rfl, x1, x2, x3⟩ := hv
  obtain ⟨g, o, rfl, _, hg, hcell⟩ := rd_block hv0 h0
  clear x3 hv0
  obtain ⟨i, hi, hz, hs, hb⟩ := info_parts info_byte
  have HC := hid hcell
  clear hcell
  have hnil := fun w => eq_nil 35 5 ⟨g, o, none⟩ xs.length cap w Try.underlying35
  go_enter Try.func37, Try.ntmps37
  go_wp2_with (at_builtin; refine wpList_append_lies _ rfl _ _ 35 rfl w.heap.size 5 i (.int .u8 0) 1 1 Try.underlying35 hi hz hs hb rfl (by decide) (.slice (some ⟨w.heap.size, 0, none⟩) 0 0) 0 [] rfl (World.ownsRow_made w #[] 0 (Nat.le_refl _) (by decide) rfl) ⟨g, o, none⟩ xs.length cap (xs.map fun x => Value.int .u8 (x : Nat)) rfl (by simp) (news_rd (fun j hj => (World.cell?_alloc_past _ _ _ hg).trans (HC.out j hj))) (fun u hu => by obtain ⟨a, _, rfl⟩ := List.mem_map.1 hu; rfl) h0 (by unfold maxLen; omega) (by omega) (by simp) _ rfl ?_; intro g1 cap1 w1 hown hgrow hat hlt)
  go_ret
  have ho := Ow.of_owns (k := .u8) (f := (xs.getD · 0)) hown (fun j hj => by
    have := news_get (k := .u8) xs j (by simpa using hj)
    simpa using this)
  refine ⟨⟨g1, cap1, ho.1, rfl, ?_⟩, ?_⟩
  · simpa using ho.2.2
  · exact (bl_alloc (Below.refl _ w) _).grown hgrow (by simp) (fun k hk => by cases hk; exact Nat.le_refl _)

set_option maxRecDepth 100000 in
set_option maxHeartbeats 800000 in
theorem clone_ints (v : Value) (xs : List Nat) (w : World) (hv : Rd .i64 w v xs) (h0 : 0 < xs.length) (h1 : xs.length ≤ 1000000) :
    Calls Try.prog 57 #[v] w fun e w' => CloneRet .i64 3 w w' xs e ∧ Below w.heap.size w w' := by
  have hv0 := hv
  obtain ⟨a, cap, rfl, x1, x2, x3⟩ := hv
  obtain ⟨g, o, rfl, _, hg, hcell⟩ := rd_block hv0 h0
  clear x3 hv0
  obtain ⟨i, hi, hz, hs, hb⟩ := info_parts info_int
  have HC := hid hcell
  clear hcell
  have hnil := fun w => eq_nil 27 3 ⟨g, o, none⟩ xs.length cap w Try.underlying27
  go_enter Try.func57, Try.ntmps57
  go_wp2_with (at_builtin; refine wpList_append_lies _ rfl _ _ 27 rfl w.heap.size 3 i (.int .i64 0) 1 8 Try.underlying27 hi hz hs hb rfl (by decide) (.slice (some ⟨w.heap.size, 0, none⟩) 0 0) 0 [] rfl (World.ownsRow_made w #[] 0 (Nat.le_refl _) (by decide) rfl) ⟨g, o, none⟩ xs.length cap (xs.map fun x => Value.int .i64 (x : Nat)) rfl (by simp) (news_rd (fun j hj => (World.cell?_alloc_past _ _ _ hg).trans (HC.out j hj))) (fun u hu => by obtain ⟨a, _, rfl⟩ := List.mem_map.1 hu; rfl) h0 (by unfold maxLen; omega) (by omega) (by simp) _ rfl ?_; intro g1 cap1 w1 hown hgrow hat hlt)
  go_ret
  have ho := Ow.of_owns (k := .i64) (f := (xs.getD · 0)) hown (fun j hj => by
    have := news_get (k := .i64) xs j (by simpa using hj)
    simpa using this)
  refine ⟨⟨g1, cap1, ho.1, rfl, ?_⟩, ?_⟩
  · simpa using ho.2.2
  · exact (bl_alloc (Below.refl _ w) _).grown hgrow (by simp) (fun k hk => by cases hk; exact Nat.le_refl _)


theorem eq_of_getD {xs ys : List Nat} (hl : xs.length = ys.length) (h : ∀ j, j < xs.length → xs.getD j 0 = ys.getD j 0) : xs = ys := by
  apply List.ext_getElem hl
  intro j h1 h2
  have := h j h1
  simpa [List.getD, h1, h2] using this

set_option maxRecDepth 100000 in
set_option maxHeartbeats 800000 in
theorem equal_bytes (v1 v2 : Value) (xs ys : List Nat) (w : World) (hv1 : Rd .u8 w v1 xs) (hv2 : Rd .u8 w v2 ys) (h1 : xs.length ≤ 1000000) (_h2 : ys.length ≤ 1000000) :
    Calls Try.prog 38 #[v1, v2] w fun e w' => e = .returned (.bool (decide (xs = ys))) ∧ ∃ k, w' = w.drewN k := by
  have HV1 := hid hv1
  have HV2 := hid hv2
  obtain ⟨a1, k1, rfl, p1, p2, p3⟩ := hv1
  obtain ⟨a2, k2, rfl, q1, q2, q3⟩ := hv2
  have HP := hid p3
  have HQ := hid q3
  clear p3 q3
  by_cases hl : xs.length = ys.length
  · have hne : ((xs.length : Int) != (ys.length : Int)) = false := by simp [hl]
    have HL := hid hl
    go_enter Try.func38, Try.ntmps38
    go_wp2
    go_loopg [13] xs.length (fun gk i wr => ∃ J : Nat, J + gk = xs.length ∧ i = .int .i64 J ∧ (∃ k, wr = w.drewN k) ∧ ∀ j, j < J → xs.getD j 0 = ys.getD j 0)
    case atStart => exact ⟨0, by omega, rfl, ⟨0, rfl⟩, fun j hj => absurd hj (Nat.not_lt_zero _)⟩
    case round =>
      obtain ⟨J, hJ, rfl, ⟨kd, rfl⟩, hsame⟩ := hrel
      have HS := hid hsame
      clear hsame
      by_cases hlt : J < xs.length
      · obtain ⟨g1, o1, rfl, hx1⟩ := HP.out J hlt
        obtain ⟨g2, o2, rfl, hx2⟩ := HQ.out J (by omega)
        have cx1 : (w.drewN kd).cell? ⟨g1, o1 + J, none⟩ = some (.int .u8 ((xs.getD J 0 : Nat) : Int)) := hx1
        have cx2 : (w.drewN kd).cell? ⟨g2, o2 + J, none⟩ = some (.int .u8 ((ys.getD J 0 : Nat) : Int)) := hx2
        have hlt1 : (J : Int) < (xs.length : Int) := by omega
        have hlt2 : (J : Int) < (ys.length : Int) := by omega
        clear hx1 hx2
        obtain ⟨x, ex⟩ : ∃ x, xs.getD J 0 = x := ⟨_, rfl⟩
        obtain ⟨y, ey⟩ : ∃ y, ys.getD J 0 = y := ⟨_, rfl⟩
        rw [ex] at cx1
        rw [ey] at cx2
        have EX := hid ex
        have EY := hid ey
        clear ex ey
        generalize hwd : w.drewN kd = wd at *
        have HWD := hid hwd
        clear hwd
        by_cases hxy : x = y
        · have hq : ((x : Int) != (y : Int)) = false := by simp [hxy]
          have HXY := hid hxy
          clear hxy
          go_wp2
          go_quiet (fail)
          go_wp2
          go_roundg (gk - 1)
          case measure => omega
          case rel =>
            refine ⟨J + 1, by omega, by go_num, ⟨kd + nq, by rw [← HWD.out, drewN_add]⟩, fun j hj => ?_⟩
            by_cases e : j = J
            · subst e; rw [EX.out, EY.out, HXY.out]
            · exact HS.out j (by omega)
        · have hq : ((x : Int) != (y : Int)) = true := bne_iff_ne.2 (by omega)
          have HXY := hid hxy
          clear hxy
          go_wp2
          go_quiet (fail)
          go_wp2
          go_ret
          have : ¬ xs = ys := fun e => HXY.out (by rw [← EX.out, ← EY.out, e])
          refine ⟨by rw [decide_eq_false this]; rfl, kd + nq, by rw [← HWD.out, drewN_add]⟩
      · go_wp2
        go_ret
        have : xs = ys := eq_of_getD HL.out (fun j hj => HS.out j (by omega))
        refine ⟨by rw [decide_eq_true this]; rfl, kd, rfl⟩
  · have hne : ((xs.length : Int) != (ys.length : Int)) = true := bne_iff_ne.2 (by omega)
    have HL := hid hl
    clear hl
    go_enter Try.func38, Try.ntmps38
    go_wp2
    go_ret
    have : ¬ xs = ys := fun e => HL.out (by rw [e])
    refine ⟨by rw [decide_eq_false this]; rfl, 0, rfl⟩
end Go.Proofs.Ytjompiihdnaogaa
