/- Walks over the journal's laws: awake. -/
import Derived.Test.YtkdjefnnhanhhaaZLka
import Derived.Test.YtkdjefnnhanhhaaUq
set_option linter.unusedVariables false
namespace Go.Proofs.Ytkdjefnnhanhhaa
open Go Go.RowKit Go.Mem Go.Jn
set_option linter.unusedVariables false

/-- A tape that was made just now, and a journal that is opened on it. -/
theorem openNew_any {w w1 : World} {T nb size : Nat} (h1 : 8 ≤ nb) (h2 : nb ≤ 1000) (h3 : 128 ≤ size) (h4 : size ≤ 1000) (hT : TapeAt (fun j => w.heap.size ≤ j) w1 T (tp0 nb size)) :
    Calls Try.prog 12 #[.iface 25 (.pointer (some ⟨T, 0, none⟩))] w1 fun e w' => ∃ J s, e = .returned (.tuple #[.pointer (some ⟨J, 0, none⟩), .int .i64 0]) ∧ w1.heap.size ≤ J ∧ JSt (fun j => w.heap.size ≤ j) w' J T s ∧ Off (fun j => w.heap.size ≤ j) w1 w' ∧ s.j.m = [] ∧ Inv s (fun m => m = []) 1 ∧ On s.t ∧ s.t.nb = nb ∧ s.t.size = size := by
  have hTq : w.heap.size ≤ T := by
    obtain ⟨ka, sa, K, S, ck, cs, kv, sv, h⟩ := hT
    exact h.q.1
  refine (open_any hT (tp0_ok h1 h2 h3 h4) (by show 0 + 2000 < _; omega) rfl rfl).mono ?_
  rintro e w' ⟨J, rfl, hJ, hS, hF⟩
  obtain ⟨k1, k2⟩ := new_inv h1 h2 h3 h4
  exact ⟨J, _, rfl, hJ, hS, hF.imp (fun i _ h => by rw [h]; exact hTq), k1, k2, on_tp0 nb size, rfl, rfl⟩
/-- A journal that is opened again behind a sync. -/
theorem reopen_any {Q : Nat → Prop} {w : World} {J T n : Nat} {s : JS} (hS : JSt Q w J T s) (hI : Inv s (fun m => m = s.j.m) n) (hC : Clean s.t) (hO : On s.t) (hn : n ≤ 1000000) :
    Calls Try.prog 12 #[.iface 25 (.pointer (some ⟨T, 0, none⟩))] w fun e w' => ∃ K s', e = .returned (.tuple #[.pointer (some ⟨K, 0, none⟩), .int .i64 0]) ∧ w.heap.size ≤ K ∧ JSt Q w' K T s' ∧ Off (fun i => i = T) w w' ∧ s'.j.m = s.j.m ∧ Inv s' (fun m => m = s.j.m) (n + 1) ∧ Clean s'.t ∧ On s'.t ∧ s'.t.nb = s.t.nb ∧ s'.t.size = s.t.size := by
  have hops := hI.ops
  obtain ⟨k1, k2⟩ := open_inv hC hI.snd hI.lim hI.tok hI.top hI.ops hn (fun m hm => by rw [hm]; exact ⟨hI.ok.fit, hI.few⟩)
  refine (open_any hS.1 hI.tok (by omega) hO.1 hO.2).mono ?_
  rintro e w' ⟨K, rfl, hK, hS', hF⟩
  refine ⟨K, _, rfl, hK, hS', hF, k1, ?_, hC, hO, rfl, rfl⟩
  rwa [k1] at k2
theorem jst_T {Q : Nat → Prop} {w : World} {J T : Nat} {s : JS} (h : JSt Q w J T s) : Q T ∧ T < w.heap.size := by
  obtain ⟨⟨ka, sa, K, S, ck, cs, kv, sv, h⟩, _⟩ := h
  exact ⟨h.q.1, lt_at h.hp⟩
set_option maxRecDepth 100000 in
set_option maxHeartbeats 3200000 in
theorem jawake_any (w : World) : Calls Try.prog 9 #[] w fun e w' => e = .returned (.bool true) ∧ Below w.heap.size w w' := by
  go_enter Try.func9, Try.ntmps9
  go_wp2_with fail
  refine (tnew_any 8 128 (by omega) (by omega) w).mono ?_
  rintro e w1 ⟨rfl, hT, hb1⟩
  have HOP := hid (openNew_any (nb := 8) (size := 128) (by omega) (by omega) (by omega) (by omega) hT)
  have HB1 := hid hb1
  clear hT hb1
  go_wp2_with fail
  refine HOP.out.mono ?_
  rintro e w2 ⟨J, s, rfl, hJ, hS, hF, hm, hI, hO, hn1, hn2⟩
  have hset := set_inv (k := 5) (v := 7) hI (by omega) (by omega) (by omega)
  have hons := on_set hO hI.bad 5 7
  have h0 : (s.set 5 7).1 = 0 := by
    rcases hons.1 with h | h
    · exact h
    · rcases hset with ⟨_, _, h3⟩ | ⟨_, h2, _⟩
      · rw [hm] at h3; have := room2 hI.tok; simp at h3; omega
      · rw [h] at h2; rcases h2 with h2 | h2 <;> cases h2
  obtain ⟨hI2, hm2⟩ : Inv (s.set 5 7).2 (fun m => m = [] ∨ m = putM 5 7 s.j.m) 2 ∧ (s.set 5 7).2.j.m = putM 5 7 s.j.m := by
    rcases hset with ⟨h1, _, _⟩ | ⟨_, _, h3, _⟩
    · rw [h1] at h0; cases h0
    · exact h3 h0
  have HSET := hid (jset_any hS (hI.can (by omega)) 5 7 (by omega) (by omega))
  have HF2 := hid (HB1.out.trans (hF.below (B := w.heap.size) HB1.out.size (fun j hj h => by omega)))
  obtain ⟨R2, hR2⟩ : ∃ R, s.set 5 7 = R := ⟨_, rfl⟩
  rw [hR2] at HSET h0 hI2 hm2 hons
  obtain ⟨e2, s2⟩ := R2
  dsimp only at HSET h0 hI2 hm2 hons
  subst h0
  rw [hm] at hm2 hI2
  have HI2 := hid hI2
  have HM2 := hid hm2
  have HO2 := hid hons.2
  have hw2 : w.heap.size ≤ w2.heap.size := HF2.out.size
  clear hS hF hI hO hset hons hm hn1 hn2 hR2 hI2 hm2 HOP
  go_wp2_with fail
  refine HSET.out.mono ?_
  rintro e w3 ⟨rfl, hS3, hF3⟩
  have HSY := hid (jsync_any hS3 (HI2.out.can (by omega)))
  have HF3 := hid (HF2.out.trans (hF3.below (B := w.heap.size) hw2 (fun j hj h => by omega)))
  obtain ⟨y1, y2, y3, y4, y5⟩ := sync_inv HI2.out (by omega)
  obtain ⟨z1, z2⟩ := on_sync HO2.out HI2.out.bad
  obtain ⟨i1, i2, i3⟩ := y2 z1
  obtain ⟨R3, hR3⟩ : ∃ R, s2.sync = R := ⟨_, rfl⟩
  rw [hR3] at HSY z1 z2 i1 i2 i3
  obtain ⟨e3, s3⟩ := R3
  dsimp only at HSY z1 z2 i1 i2 i3
  subst z1
  have HI3 := hid i1
  have HC3 := hid i2
  have HM3 := hid (i3.trans HM2.out)
  have HO3 := hid z2
  clear hS3 hF3 y1 y2 y3 y4 y5 z2 i1 i2 i3 hR3 HSET
  go_wp2_with fail
  refine HSY.out.mono ?_
  rintro e w4 ⟨rfl, hS4, hF4⟩
  have hmm : s3.j.m = putM 5 7 [] := HM3.out
  have hI3' : Inv s3 (fun m => m = s3.j.m) 3 := by
    have := HI3.out
    rw [HM2.out] at this
    rwa [hmm]
  have HRE := hid (reopen_any hS4 hI3' HC3.out HO3.out (by omega))
  have hw3 : w.heap.size ≤ w3.heap.size := HF3.out.size
  have HF4 := hid (HF3.out.trans (hF4.below (B := w.heap.size) hw3 (fun j hj h => by omega)))
  have hTQ := (jst_T hS4).1
  clear hS4 hF4 hI3' HSY
  go_wp2_with fail
  refine HRE.out.mono ?_
  rintro e w5 ⟨K, s5, rfl, hK, hS5, hF5, hm5, _, _, _, _, _⟩
  obtain ⟨_, b5, rv5, hJ5⟩ := hS5
  have HGT := hid (get_any hJ5 5 (by omega))
  rw [hm5, hmm, show getM (putM 5 7 []) 5 = some 7 from rfl] at HGT
  have hw4 : w.heap.size ≤ w4.heap.size := HF4.out.size
  have HF5 := hid (HF4.out.trans (hF5.below (B := w.heap.size) hw4 (fun j hj h => by have : j = w.heap.size := h; omega)))
  clear hJ5 hF5 hm5 hmm HRE
  simp only [Option.getD_some, Option.isSome_some] at HGT
  go_wp2_with fail
  refine HGT.out.mono ?_
  rintro e w6 ⟨rfl, rfl⟩
  go_wp2_with fail
  go_ret
  exact ⟨rfl, HF5.out⟩
end Go.Proofs.Ytkdjefnnhanhhaa
