/- Walks over firkinlaw02: a code for data. -/
import Derived.Test.YtjompiihdnaogaaLaa
import Derived.OpenShut
namespace Go.Proofs.Ytjompiihdnaogaa
open Go.RowKit Go.Mem

/-- The t of a raw number. -/
def tt (t : Int) : Nat := ((if t < 0 then -(t + 1) else t) % 8).toNat + 1
theorem tt_bd (t : Int) : 1 ≤ tt t ∧ tt t ≤ 8 := by unfold tt; split <;> omega

/-- The place of a code that is not there yet. -/
def EmptyAt (w : World) (R : Nat) : Prop := w.heap[R]? = some (.cells #[.int .i64 0, .int .i64 0, .int .i64 0, .slice none 0 0] 29 (0, 0))
theorem rd_grown {w w' : World} {R : Nat} {v : Value} {xs : List Nat} (h : Rd .i64 w v xs) (hR : EmptyAt w R) (hg : w.grownBy w' (some R)) (j : Nat) (hj : j < xs.length) (h1 : xs.getD j 0 = 1) : Rd .i64 w' v xs := by
  obtain ⟨a, cap, rfl, c1, c2, hc⟩ := h
  obtain ⟨g, o, rfl, hx⟩ := hc j hj
  have hne : g ≠ R := by
    rintro rfl
    rw [cell_at hR, h1] at hx
    rcases (show o + j = 0 ∨ o + j = 1 ∨ o + j = 2 ∨ o + j = 3 ∨ 4 ≤ o + j by omega) with e | e | e | e | e
    · rw [e] at hx; simp at hx
    · rw [e] at hx; simp at hx
    · rw [e] at hx; simp at hx
    · rw [e] at hx; simp at hx
    · rw [Array.getElem?_eq_none (by simpa using e)] at hx; cases hx
  refine ⟨_, cap, rfl, c1, c2, fun i hi => ?_⟩
  obtain ⟨g', o', he, hx'⟩ := hc i hi
  cases he
  exact ⟨g, o, rfl, hg.cell hx' (fun e => hne (by cases e; rfl))⟩
theorem CodeAt.grownR {w w' : World} {c bytes t m R : Nat} (h : CodeAt w c bytes t m) (hm : Gf.Ok m) (hR : EmptyAt w R) (hg : w.grownBy w' (some R)) : CodeAt w' c bytes t m := by
  obtain ⟨fb, gv, h1, ⟨p, l, h2, h3, h4⟩, h5⟩ := h
  have hs : 3 ≤ Gf.sz m := by
    have : 2^2 ≤ 2^m := Nat.pow_le_pow_right (by decide) hm.1
    unfold Gf.sz; omega
  have ne : ∀ {b : Nat} {cs : Array Value} {t : TypeId}, w.heap[b]? = some (.cells cs t (0, 0)) → cs ≠ #[.int .i64 0, .int .i64 0, .int .i64 0, .slice none 0 0] → w'.heap[b]? = some (.cells cs t (0, 0)) := fun {b cs t} hb hcs => by
    refine (hg.block b (lt_at hb) (fun e => ?_)).trans hb
    cases e
    unfold EmptyAt at hR
    rw [hR] at hb
    cases hb
    exact hcs rfl
  have nfa : ∀ {n : Nat} {f : Nat → Nat}, 4 ≤ n → fa .i64 n f ≠ #[.int .i64 0, .int .i64 0, .int .i64 0, .slice none 0 0] := fun {n f} hn e => by
    have := fa_get (k := .i64) (f := f) (show 3 < n by omega)
    rw [e] at this
    simp at this
  have hgm := (Gf.gen_mon hm t).1
  have hgl := List.length_pos_iff.2 hgm.1
  exact ⟨fb, gv, ne h1 (by simp), ⟨p, l, ne h2 (by simp), ne h3 (nfa (by omega)), ne h4 (nfa (by omega))⟩, rd_grown h5 hR hg ((Gf.gen m t).length - 1) (by omega) hgm.2⟩
theorem RC.grownR {w w' : World} {v : Value} {bytes t m R : Nat} (h : RC w v bytes t m) (hm : Gf.Ok m) (hR : EmptyAt w R) (hg : w.grownBy w' (some R)) : RC w' v bytes t m := by
  obtain ⟨gv, hv, hr⟩ := h
  have hgm := (Gf.gen_mon hm t).1
  have hgl := List.length_pos_iff.2 hgm.1
  refine ⟨gv, hv, rd_grown hr hR hg 0 (by rw [List.length_reverse]; omega) ?_⟩
  have := hgm.2
  simp only [List.getD] at this ⊢
  rw [List.getElem?_reverse (by omega)]
  simpa using this

set_option maxRecDepth 100000 in
set_option maxHeartbeats 1600000 in
theorem code_any (a : Option Addr) (n cap m : Nat) (t : Int) (w : World) (hp : Par n (tt t) m) (ht : (Lit.int .i64 t).wf = true) :
    Calls Try.prog 20 #[.slice a n cap, .int .i64 t] w fun e w' => (∃ c rv, e = .returned (.tuple #[.pointer (some ⟨c, 0, none⟩), rv]) ∧ CodeAt w' c n (tt t) m ∧ RC w' rv n (tt t) m) ∧ Below w.heap.size w w' := by
  have hb := bounds_i64 ht
  have b2 := hp.b2
  have HP := hid hp
  obtain ⟨T, hT⟩ : ∃ T, tt t = T := ⟨_, rfl⟩
  rw [hT] at HP ⊢
  have hTz : (if t < 0 then -(t + 1) else t) % 8 + 1 = (T : Int) := by rw [← hT]; unfold tt; split <;> omega
  have HT := hid hT
  clear hp hT
  have hcase : (t < 0 ∧ 0 ≤ -(t + 1) ∧ wrap64 (1 + -(t + 1).tmod 8) = (T : Int)) ∨ (0 ≤ t ∧ 1 + t % 8 = (T : Int)) := by
    by_cases h0 : t < 0
    · rw [if_pos h0] at hTz; refine .inl ⟨h0, by omega, ?_⟩
      rw [← Int.neg_tmod, Int.tmod_eq_emod_of_nonneg (by omega), IntWalk.wrap64_in _ ⟨by omega, by omega⟩]; omega
    · rw [if_neg h0] at hTz; exact .inr ⟨by omega, by omega⟩
  clear hTz
  rcases hcase with ⟨h0, hnn, h1⟩ | ⟨h0, h1⟩
  all_goals
    go_enter Try.func20, Try.ntmps20
    go_wp2_with fail
    refine (bchnew_any n T m _ HP.out).mono ?_
    rintro e w1 ⟨⟨c, rfl, hc⟩, hb1⟩
    have HC := hid hc
    have HB := hid hb1
    have hR0 := (hb1.block w.heap.size (by simp)).trans (alloc_new w _)
    have HR0 := hid hR0
    clear hc hb1 hR0
    go_wp2_with fail
    refine (rnew_any n T m _ HP.out).mono ?_
    rintro e w2 ⟨⟨rv, rfl, hrc⟩, hb2⟩
    have HRC := hid hrc
    have HB2 := hid hb2
    obtain ⟨gv, rfl, ga, gcap, rfl, g4, g5, g6⟩ := hrc
    have hR2 := (hb2.block w.heap.size (lt_at HR0.out)).trans HR0.out
    have HR2 := hid hR2
    have r0 : w2.cell? ⟨w.heap.size, 0, none⟩ = _ := cell_at hR2 0
    have r1 : w2.cell? ⟨w.heap.size, 1, none⟩ = _ := cell_at hR2 1
    have r2 : w2.cell? ⟨w.heap.size, 2, none⟩ = _ := cell_at hR2 2
    have r3 : w2.cell? ⟨w.heap.size, 3, none⟩ = _ := cell_at hR2 3
    have f0 : w2.frozen? ⟨w.heap.size, 0, none⟩ = false := free_at hR2 0
    have f1 : w2.frozen? ⟨w.heap.size, 1, none⟩ = false := free_at hR2 1
    have f2 : w2.frozen? ⟨w.heap.size, 2, none⟩ = false := free_at hR2 2
    have f3 : w2.frozen? ⟨w.heap.size, 3, none⟩ = false := free_at hR2 3
    have hlt2 := lt_at hR2
    obtain ⟨L, hL⟩ : ∃ L, (Gf.gen m T).reverse.length = L := ⟨_, rfl⟩
    rw [hL]
    rw [hL] at g4
    have HL := hid hL
    clear g6 hR2 hb2 hL
    go_wp2_with fail
    refine wp_region_quiet_tail 3 (by kernel_rfl) (by kernel_rfl) ?_
    simp only [List.take_succ_cons, List.take_zero, List.drop_succ_cons, List.drop_zero]
    repeat (go_big_quiet_step (fail))
    refine wpQuiet_nil ?_
    intro _ hw'
    obtain ⟨nq, hw''⟩ := hw'
    subst hw''
    go_wp2_with fail
    generalize hW : (w2.alloc (.cells #[.int .i64 m, .int .i64 n, .int .i64 T, .slice ga L gcap] 29)).drewN nq = W
    have hbW : Below w2.heap.size w2 W := by rw [← hW]; exact ((Below.refl _ _).alloc (Nat.le_refl _) _).drewN nq
    have hRW := (hbW.block _ hlt2).trans HR2.out
    obtain ⟨z0, z1, z2, z3, z4, z5⟩ := four_set hRW (.int .i64 m) (.int .i64 n) (.int .i64 T) (.slice ga L gcap)
    refine bodyPost_ret (v := .tuple #[.pointer (some ⟨c, 0, none⟩), .agg #[.int .i64 m, .int .i64 n, .int .i64 T, .slice ga L gcap]]) (by simp [results, Try.results20, go_sem, z0, z1, z2, z3]) rfl ⟨⟨c, _, rfl, ?_, _, rfl, ?_⟩, ?_⟩
    · exact ((HC.out.below HB2.out).below hbW).grownR HP.out.ok hRW z5
    · have := (HRC.out.below hbW).grownR HP.out.ok hRW z5
      obtain ⟨gv', he, hr'⟩ := this
      cases he
      rw [HL.out] at hr'
      exact hr'
    · have hb0 : Below w.heap.size w W := ((((Below.refl _ w).alloc (Nat.le_refl _) _).comp HB.out).comp HB2.out).comp hbW
      exact hb0.grown z5 (Nat.le_trans hb0.size (Nat.le_refl _)) (fun k hk => by cases hk; exact Nat.le_refl _)
end Go.Proofs.Ytjompiihdnaogaa
