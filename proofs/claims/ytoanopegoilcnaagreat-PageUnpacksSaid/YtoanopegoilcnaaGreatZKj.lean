/- Walks over page: the next codeword; a verdict. -/
import Derived.Test.YtoanopegoilcnaaGreatJq
import Derived.Test.YtoanopegoilcnaaGreatZBci
import Derived.Test.YtoanopegoilcnaaGreatJl
set_option linter.unusedVariables false
namespace Go.Proofs.YtoanopegoilcnaaGreat
open Go.RowKit Go.Mem Go.Pg

section
set_option maxRecDepth 100000
set_option maxHeartbeats 800000
theorem verdict_bad (k : Int) (o : Addr) (w : World) : Calls Tryz.prog 37 #[.int .i64 k, .bool false, .pointer (some o)] w fun e w' => e = .returned (.int .i64 3) ∧ w = w' := by
  go_enter Tryz.func37, Tryz.ntmps37
  go_wp2
  go_ret
  exact ⟨rfl, rfl⟩
theorem verdict_clean (o : Addr) (w : World) : Calls Tryz.prog 37 #[.int .i64 0, .bool true, .pointer (some o)] w fun e w' => e = .returned (.int .i64 1) ∧ w = w' := by
  go_enter Tryz.func37, Tryz.ntmps37
  go_wp2
  go_ret
  exact ⟨rfl, rfl⟩
theorem verdict_fixed (k F ob : Nat) (w : World) (hk : 0 < k) (hk2 : k ≤ 1000) (hF : F ≤ 1000000) (hc : w.cell? ⟨ob, 10, none⟩ = some (.int .i64 F)) (hz : w.frozen? ⟨ob, 10, none⟩ = false) :
    Calls Tryz.prog 37 #[.int .i64 k, .bool true, .pointer (some ⟨ob, 0, none⟩)] w fun e w' => e = .returned (.int .i64 2) ∧ w' = w.setCell ⟨ob, 10, none⟩ (.int .i64 ((F + k : Nat) : Int)) := by
  have hk0 : (0 : Int) < (k : Int) := by omega
  go_enter Tryz.func37, Tryz.ntmps37
  go_wp2
  go_ret
  exact ⟨rfl, by simp⟩
end

theorem rd_cut {w : World} {g o L cap : Nat} {l : List Nat} (h : Rd .u8 w (.slice (some ⟨g, o, none⟩) L cap) l) (hl : l.length = L) (A n c : Nat) (hA : A + n ≤ L) (hc : n ≤ c) (hc2 : c ≤ maxLen) : Rd .u8 w (.slice (some ⟨g, o + A, none⟩) n c) (cut l A n) := by
  obtain ⟨a, cap', he, _, _, hx⟩ := h
  cases he
  have hlen : (cut l A n).length = n := cut_len (by omega)
  refine ⟨_, c, by rw [hlen], by omega, hc2, fun j hj => ⟨g, o + A, rfl, ?_⟩⟩
  rw [hlen] at hj
  obtain ⟨g', o', e, hx'⟩ := hx (A + j) (by omega)
  cases e
  rw [cut_getD hj, Nat.add_assoc]
  exact hx'

theorem rd_grown {w w' : World} {g o L cap b : Nat} {l : List Nat} (h : Rd .u8 w (.slice (some ⟨g, o, none⟩) L cap) l) (hg : w.grownBy w' (some b)) (hne : b ≠ g) : Rd .u8 w' (.slice (some ⟨g, o, none⟩) L cap) l := by
  obtain ⟨a, c', hv, b1, b2, hc⟩ := h
  refine ⟨a, c', hv, b1, b2, fun j hj => ?_⟩
  obtain ⟨g', o', ha, hx⟩ := hc j hj
  refine ⟨g', o', ha, ?_⟩
  cases hv
  cases ha
  refine Eq.trans ?_ hx
  exact World.cell?_of_block (a := ⟨g, o + j, none⟩) (hg.block g (World.block_lt_of_cell? _ _ hx) (fun e => hne (by cases e; rfl)))
theorem quiet_add_left {P : Program} {f : FuncId} {args : Array Value} {w : World} {a n : Nat} {v : Value}
    (h : Calls P f args (w.drewN (a + n)) fun e w' => e = .returned v ∧ w.drewN (a + n) = w') :
    Calls P f args (w.drewN (a + n)) fun e w'' => e = .returned v ∧ ∃ m, w'' = w.drewN (a + m) :=
  h.mono fun _ _ ⟨he, hm⟩ => ⟨he, n, hm.symm⟩
theorem cut_take (l : List Nat) (A a b : Nat) : (cut l A (a + b)).take a = cut l A a := by
  unfold cut; rw [List.take_take, show min a (a + b) = a by omega]
theorem cut_drop (l : List Nat) (A a b : Nat) : (cut l A (a + b)).drop a = cut l (A + a) b := by
  unfold cut; rw [List.drop_take, List.drop_drop, show a + b - a = b by omega]
/-- What the next codeword is told to be. -/
def NextRet (m t n : Nat) (l : List Nat) (W w' : World) (e : Ending) : Prop :=
  (∃ g c x s k, W.heap.size ≤ g ∧ n ≤ c ∧ c ≤ maxLen ∧ e = .returned (.tuple #[.slice (some ⟨g, 0, none⟩) n c, .int .u32 (s : Nat), .int .i64 (k : Nat), .bool true]) ∧ Rd .u8 w' (.slice (some ⟨g, 0, none⟩) n c) x ∧ x.length = n ∧ (∀ y ∈ x, y < 256) ∧ k ≤ t ∧ s < 4294967296 ∧ opnB m t n l = some (x, s, k)) ∨
  (e = .returned (.tuple #[.slice none 0 0, .int .u32 0, .int .i64 0, .bool false]) ∧ opnB m t n l = none)

set_option maxRecDepth 100000 in
set_option maxHeartbeats 1600000 in
theorem next_any (c n t m g o L cap bb ab A : Nat) (l : List Nat) (w : World) (hp : Par (n + 4) t m) (h : CodeAt w c (n + 4) t m) (hbb : w.cell? ⟨bb, 0, none⟩ = some (.slice (some ⟨g, o, none⟩) L cap)) (hab : w.heap[ab]? = some (.cells #[.int .i64 A] 3 (0, 0)))
    (hv : Rd .u8 w (.slice (some ⟨g, o, none⟩) L cap) l) (hl : l.length = L) (hlx : ∀ y ∈ l, y < 256) (hA : A + (n + 4 + pcn m t) ≤ L) (hL : L ≤ 100000) (hne : ab ≠ g) (hnc : ∀ V, w.grownBy V (some ab) → CodeAt V c (n + 4) t m) (hn : 1 ≤ n) :
    Calls Tryz.prog 33 #[.pointer (some ⟨c, 0, none⟩), .int .i64 n, .pointer (some ⟨bb, 0, none⟩), .pointer (some ⟨ab, 0, none⟩)] w fun e w' =>
      NextRet m t n (cut l A (n + 4 + pcn m t)) w w' e ∧ Below w.heap.size (w.setCell ⟨ab, 0, none⟩ (.int .i64 ((A + (n + 4 + pcn m t) : Nat) : Int))) w' := by
  obtain ⟨P, hP⟩ : ∃ P, pcn m t = P := ⟨_, rfl⟩
  have hPd : P = (rr m t + 7) / 8 := hP.symm
  have hr := hp.r
  have hP1 : 1 ≤ P := by omega
  have hP14 : P ≤ 14 := by omega
  have hb2 := hp.b2
  have hcaps : L ≤ cap ∧ cap ≤ maxLen := by obtain ⟨a', c', he, h1, h2, _⟩ := hv; cases he; exact ⟨by omega, h2⟩
  have hca1 := hcaps.1
  have hca2 := hcaps.2
  have hca3 : (cap : Int) ≤ 9223372036854775807 := by unfold maxLen at hca2; omega
  rw [hP] at hA ⊢
  have cA : w.cell? ⟨ab, 0, none⟩ = some (.int .i64 A) := cell_at hab 0
  have fA : w.frozen? ⟨ab, 0, none⟩ = false := free_at hab 0
  have HP := hid hp
  have HC := hid h
  have HV := hid hv
  have HL := hid hl
  have HLX := hid hlx
  have HPD := hid hPd
  have HPE := hid hP
  have HNC := hid hnc
  have HPAR : Hid (∀ V, CodeAt V c (n + 4) t m → Calls Tryz.prog 34 #[.pointer (some ⟨c, 0, none⟩)] V fun e w' => e = .returned (.int .i64 (P : Nat)) ∧ V = w') := hid fun V hV => by rw [HPD.out]; exact codeParity_any c (n + 4) t m V hV HP.out
  have i1 : (0 : Int) ≤ (A : Int) := by omega
  have i2 : (A : Int) ≤ (A : Int) + (n : Int) + 4 := by omega
  have i3 : (A : Int) + (n : Int) + 4 ≤ (cap : Int) := by omega
  have i4 : (A : Int) + (n : Int) + 4 ≤ (A : Int) + (n : Int) + 4 + (P : Int) := by omega
  have i5 : (A : Int) + (n : Int) + 4 + (P : Int) ≤ (cap : Int) := by omega
  have i6 : (0 : Int) ≤ (A : Int) + (n : Int) + 4 := by omega
  clear hp h hv hl hlx hPd hnc hr hcaps hab hca2 hP
  go_enter Tryz.func33, Tryz.ntmps33
  go_wp2
  go_quiet ((go_at_call 34; exact quiet_eq (HPAR.out _ (HC.out.drewN _))))
  go_wp2
  refine wp_region_quiet_tail 7 (by kernel_rfl) (by kernel_rfl) ?_
  simp only [List.take_succ_cons, List.take_zero, List.drop_succ_cons, List.drop_zero]
  repeat (go_big_quiet_step ((go_at_call 34; exact quiet_add_left (HPAR.out _ (HC.out.drewN _)))))
  refine wpQuiet_nil ?_
  intro _ hw'
  obtain ⟨nq, hw''⟩ := hw'
  subst hw''
  go_wp2_with fail
  rw [show A + n + 4 - A = n + 4 by omega]
  have hval : ((A : Int) + ((n : Int) + 4 + (P : Int))) = ((A + (n + 4 + P) : Nat) : Int) := by omega
  rw [hval]
  have hset := grown_set w ab 0 (.int .i64 ((A + (n + 4 + P) : Nat) : Int))
  have hgr : ∀ k, w.grownBy ((w.drewN k).setCell ⟨ab, 0, none⟩ (.int .i64 ((A + (n + 4 + P) : Nat) : Int))) (some ab) := fun k => ⟨hset.os, hset.tape, hset.output, hset.size, hset.block⟩
  have hbl : ∀ k, Below w.heap.size (w.setCell ⟨ab, 0, none⟩ (.int .i64 ((A + (n + 4 + P) : Nat) : Int))) ((w.drewN k).setCell ⟨ab, 0, none⟩ (.int .i64 ((A + (n + 4 + P) : Nat) : Int))) := fun k => ⟨rfl, rfl, rfl, Nat.le_refl _, fun _ _ => rfl⟩
  have hszs : (w.setCell ⟨ab, 0, none⟩ (.int .i64 ((A + (n + 4 + P) : Nat) : Int))).heap.size = w.heap.size := by simp
  obtain ⟨V, hV1, hV2, hV3⟩ : ∃ V, (w.drewN _).setCell ⟨ab, 0, none⟩ (.int .i64 ((A + (n + 4 + P) : Nat) : Int)) = V ∧ w.grownBy V (some ab) ∧ Below w.heap.size (w.setCell ⟨ab, 0, none⟩ (.int .i64 ((A + (n + 4 + P) : Nat) : Int))) V := ⟨_, rfl, hgr _, hbl _⟩
  rw [hV1]
  have HV2 := hid hV2
  have HV3 := hid hV3
  have hVsz : w.heap.size ≤ V.heap.size := hV2.size
  have hl1 : (cut l A (n + 4)).length = n + 4 := cut_len (by rw [HL.out]; omega)
  have hl2 : (cut l (A + (n + 4)) P).length = P := cut_len (by rw [HL.out]; omega)
  have r1 := rd_cut HV.out HL.out A (n + 4) (cap - A) (by omega) (by omega) (by have := hca1; unfold maxLen; omega)
  have r2 := rd_cut HV.out HL.out (A + (n + 4)) P (cap - (A + n + 4)) (by omega) (by omega) (by unfold maxLen; omega)
  have R1 := hid (rd_grown r1 hV2 hne)
  have R2 := hid (rd_grown r2 hV2 hne)
  have HL1 := hid hl1
  have HL2 := hid hl2
  clear hval hset hgr hbl hV1 hV2 hV3 r1 r2 hl1 hl2
  refine (decode_any c (n + 4) t m P _ _ (cut l A (n + 4)) (cut l (A + (n + 4)) P) V HP.out (HNC.out V HV2.out) R1.out R2.out (cut_lt HLX.out _ _) (cut_lt HLX.out _ _) HL1.out HPD.out HL2.out).mono ?_
  rintro e w3 ⟨hd, hb3⟩
  have hv := DecRet.v HP.out HL1.out HPD.out HL2.out hd
  have HB3 := hid hb3
  have HOP : Hid (∀ r, dec m t (cut l A (n + 4)) (cut l (A + (n + 4)) P) = r → opnB m t n (cut l A (n + 4 + P)) = r.map fun r => (r.1.take n, num (r.1.drop n), r.2)) := hid fun r hr => by
    unfold opnB
    rw [cut_take, cut_drop, hr]
  clear hd hb3
  rcases hv with ⟨g1, c1, g2, c2, x, k, q, h1, h2, rfl, ho1, hxl, _, hxb, hk, hdec⟩ | ⟨rfl, hdec⟩
  · have hrx : Rd .u8 w3 (.slice (some ⟨g1, 0, none⟩) (n + 4) c1) x := by
      have h3 := ho1.rd
      rw [← hxl, rg_self] at h3
      rw [← hxl]; exact h3
    have hc1 : n + 4 ≤ c1 ∧ c1 ≤ maxLen := by obtain ⟨cur, _, _, h3, h4, _⟩ := ho1; exact ⟨h3, h4⟩
    have hc11 := hc1.1
    have hc12 : (c1 : Int) ≤ 9223372036854775807 := by have := hc1.2; unfold maxLen at this; omega
    have hc13 : c1 ≤ 9223372036854775807 := by omega
    have hrd := rd_cut hrx hxl n 4 (c1 - n) (by omega) (by omega) (by unfold maxLen; omega)
    have hrt := rd_cut hrx hxl 0 n c1 (by omega) (by omega) hc1.2
    have e0 : cut x 0 n = x.take n := by unfold cut; simp
    have e4 : cut x n 4 = x.drop n := by unfold cut; exact List.take_of_length_le (by rw [List.length_drop]; omega)
    rw [e0, Nat.zero_add] at hrt
    rw [e4, Nat.zero_add] at hrd
    have hop := HOP.out _ hdec
    simp only [Option.map_some] at hop
    have hdl : (x.drop n).length = 4 := by rw [List.length_drop]; omega
    have hdb : ∀ y ∈ x.drop n, y < 256 := fun y hy => hxb y (List.mem_of_mem_drop hy)
    have hnum : num ((x.drop n).take 4) = num (x.drop n) := by rw [List.take_of_length_le (by omega)]
    have hslt : num (x.drop n) < 4294967296 := by have := num_lt hdb; rw [hdl] at this; exact this
    have hdl4 : 4 ≤ (x.drop n).length := by omega
    have HU := hid (fun k => uint32_any _ (x.drop n) (w3.drewN k) (hrd.drewN k) hdb hdl4)
    have HRT := hid hrt
    have HOPN := hid hop
    have HXB := hid hxb
    have HXL := hid hxl
    have HNUM := hid hnum
    have j1 : (n : Int) ≤ (n : Int) + 4 := by omega
    have j2 : (n : Int) + 4 ≤ (c1 : Int) := by omega
    have j3 : (n : Int) ≤ (c1 : Int) := by omega
    have hgw : w.heap.size ≤ g1 := Nat.le_trans hVsz h1
    clear hrx hrd hrt hop hxb hnum hdb hdl e0 e4 ho1 hdec hxl hc1 HOP
    go_wp2
    go_quiet ((go_at_call 36; exact quiet_eq (HU.out _)))
    go_wp2
    refine bodyPost_ret (v := .tuple #[.slice (some ⟨g1, 0, none⟩) n c1, .int .u32 (num (x.drop n) : Nat), .int .i64 (k : Nat), .bool true]) (by simp [results, Tryz.results33, go_sem, HNUM.out]) rfl ⟨.inl ⟨g1, c1, x.take n, num (x.drop n), k, hgw, by omega, by unfold maxLen; omega, rfl, HRT.out.drewN _, by rw [List.length_take, HXL.out]; omega, fun y hy => HXB.out y (List.mem_of_mem_take hy), hk, hslt, HOPN.out⟩, ?_⟩
    exact (HV3.out.trans (HB3.out.mono hVsz)).drewN _
  · have hop := HOP.out _ hdec
    simp only [Option.map_none] at hop
    have HOPN := hid hop
    clear hop hdec HOP
    go_wp2_with fail
    refine bodyPost_ret (v := .tuple #[.slice none 0 0, .int .u32 0, .int .i64 0, .bool false]) (by simp [results, Tryz.results33, go_sem]) rfl ⟨.inr ⟨rfl, HOPN.out⟩, ?_⟩
    exact HV3.out.trans (HB3.out.mono hVsz)
end Go.Proofs.YtoanopegoilcnaaGreat
