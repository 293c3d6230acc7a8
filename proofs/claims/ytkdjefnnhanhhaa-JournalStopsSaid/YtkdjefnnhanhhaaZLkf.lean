/- Walks over the journal's laws: do. -/
import Derived.Test.YtkdjefnnhanhhaaZLkd
set_option linter.unusedVariables false
namespace Go.Proofs.Ytkdjefnnhanhhaa
open Go Go.RowKit Go.Mem Go.Jn
set_option linter.unusedVariables false

def doK (o : HOp) : Nat := absN' o.kind % 6
def doX (o : HOp) (keys : Nat) : Nat := absN' o.sector % keys
/-- A script's call. -/
def doJ (s : JS) (o : HOp) (keys : Nat) : Int × JS := if doK o < 3 then s.set (doX o keys) o.value else if doK o < 5 then s.drop (doX o keys) else s.sync
/-- What the model holds behind it. -/
def doM (s : JS) (o : HOp) (keys : Nat) : MM := if doK o < 3 then (if (s.set (doX o keys) o.value).1 = 90 then s.j.m else putM (doX o keys) o.value s.j.m) else if doK o < 5 then delM (doX o keys) s.j.m else s.j.m
theorem JSt.keepM {Q : Nat → Prop} {w w' : World} {J T mb : Nat} {s : JS} (h : JSt Q w J T s) (hmb : ¬ Q mb) (hF : Off (fun i => i = mb) w w') : JSt Q w' J T s := by
  obtain ⟨hT, b, rv, hJ⟩ := h
  refine ⟨hT.shift (fun j hj hq => hF.block j hj (fun e => hmb (e ▸ hq))) (fun _ _ h => h) (fun j hj => hT.upq j (Nat.le_trans hF.size hj)), b, rv, hJ.shift (fun i hi h' => ?_)⟩
  have hq : Q i := by
    rcases h' with h' | h' | h'
    · rw [h']; exact hJ.qj
    · rw [h']; exact hJ.qb
    · exact hJ.qr _ h'
  exact ⟨hF.block i hi (fun e => hmb (e ▸ hq)), hq⟩
theorem JSt.shiftS {Q Q' : Nat → Prop} {w w' : World} {J T : Nat} {s : JS} (h : JSt Q w J T s) (hw : ∀ j, j < w.heap.size → Q j → w'.heap[j]? = w.heap[j]?) (hq : ∀ j, j < w.heap.size → Q j → Q' j) (up : ∀ j, w'.heap.size ≤ j → Q' j) : JSt Q' w' J T s := by
  obtain ⟨hT, b, rv, hJ⟩ := h
  refine ⟨hT.shift hw hq up, b, rv, hJ.shift (fun i hi h' => ?_)⟩
  have h9 : Q i := by
    rcases h' with h' | h' | h'
    · rw [h']; exact hJ.qj
    · rw [h']; exact hJ.qb
    · exact hJ.qr _ h'
  exact ⟨hw i hi h9, hq i hi h9⟩
theorem room_of {s t : Tp} (h1 : s.nb = t.nb) (h2 : s.size = t.size) : s.room = t.room := by
  unfold Tp.room Tp.sz Tp.per; rw [h1, h2]
theorem do_end {Q : Nat → Prop} {w W0 w3 w5 : World} {J T mb B : Nat} {s : JS} (hUP : ∀ i, w.heap.size ≤ i → Q i) (hB : w.heap.size = B) (hF0 : Off (fun i => Q i ∨ i = mb) w W0) (hF3 : Off (fun i => Q i ∧ i ≠ B) W0 w3) (hF5 : Off (fun i => i = mb) w3 w5) (hS : JSt (fun i => Q i ∧ i ≠ B) w3 J T s) (hmbn : ¬ (Q mb ∧ mb ≠ B)) :
    JSt Q w5 J T s ∧ Off (fun i => Q i ∨ i = mb) w w5 := by
  have h5 := hS.keepM hmbn hF5
  refine ⟨h5.more (fun i h => h.1) (fun i hi => hUP i ?_), hF0.trans ((hF3.imp (fun i _ h => .inl h.1)).trans (hF5.imp (fun i _ h => .inr h)))⟩
  exact Nat.le_trans (Nat.le_trans hF0.size (Nat.le_trans hF3.size hF5.size)) hi
set_option maxRecDepth 100000 in
set_option maxHeartbeats 12800000 in
theorem ldo_set {Q : Nat → Prop} {w : World} {J T mb n : Nat} {s : JS} {A : MM → Prop} (hS : JSt Q w J T s) (hI : Inv s A n) (hn : n ≤ 1000000) (hM : MAt Try.prog 38 38 w mb s.j.m) (hmb : ¬ Q mb) (o : HOp) (ho : o.Fit) (keys : Nat) (hk : 0 < keys ∧ keys ≤ 1000000) (hlt : doK o < 3) :
    Calls Try.prog 18 #[.pointer (some ⟨J, 0, none⟩), .map (some mb), .agg #[.int .i64 o.kind, .int .i64 o.sector, .int .u64 (o.value : Nat)], .int .i64 (keys : Nat)] w fun e w' => e = .returned (.int .i64 (s.set (doX o keys) o.value).1) ∧ JSt Q w' J T (s.set (doX o keys) o.value).2 ∧ MAt Try.prog 38 38 w' mb (if (s.set (doX o keys) o.value).1 = 90 then s.j.m else putM (doX o keys) o.value s.j.m) ∧ Off (fun i => Q i ∨ i = mb) w w' := by
  obtain ⟨W0, hW0⟩ : ∃ W, w.alloc (.cells #[.int .i64 o.kind, .int .i64 o.sector, .int .u64 (o.value : Nat)] 53) = W := ⟨_, rfl⟩
  have b0 : Below w.heap.size w W0 := by rw [← hW0]; exact (Below.refl _ _).alloc (Nat.le_refl _) _
  have r0 : W0.heap[w.heap.size]? = some (.cells #[.int .i64 o.kind, .int .i64 o.sector, .int .u64 (o.value : Nat)] 53 (0, 0)) := by rw [← hW0]; exact alloc_new _ _
  have A1 := hid (labs_any o.kind · ho.1)
  have A2 := hid (labs_any o.sector · ho.2.1)
  have hov := ho.2.2
  obtain ⟨kd, sc, v⟩ := o
  dsimp only at hW0 r0 A1 A2 hov ⊢
  have hd1 : doX ⟨kd, sc, v⟩ keys = absN' sc % keys := rfl
  have hd2 : doK ⟨kd, sc, v⟩ = absN' kd % 6 := rfl
  rw [hd1]
  rw [hd2] at hlt
  obtain ⟨k0, hk0⟩ : ∃ n, absN' kd = n := ⟨_, rfl⟩
  obtain ⟨c0, hc0⟩ : ∃ n, absN' sc = n := ⟨_, rfl⟩
  rw [hk0] at A1 hlt
  rw [hc0] at A2 ⊢
  have hxl := Nat.mod_lt c0 hk.1
  obtain ⟨x, hx⟩ : ∃ n, c0 % keys = n := ⟨_, rfl⟩
  obtain ⟨kk, hkk⟩ : ∃ n, k0 % 6 = n := ⟨_, rfl⟩
  have m1 : (c0 : Int).tmod (keys : Int) = (x : Int) := by rw [← hx]; rfl
  have m1' : (c0 : Int) % (keys : Int) = (x : Int) := by rw [← hx]; rfl
  have m2 : (k0 : Int).tmod 6 = (kk : Int) := by rw [← hkk]; rfl
  have m2' : (k0 : Int) % 6 = (kk : Int) := by omega
  rw [hkk] at hlt
  rw [hx] at hxl ⊢
  have hx64 : x < 18446744073709551616 := by omega
  have u1 : IntKind.u64.wrap (x : Int) = (x : Int) := by rw [IntKind.wrap_u64]; omega
  have ky0 : ¬ (keys : Int) = 0 := by omega
  have hlook := (hM.below b0).look2 tm_u64 hx64
  have p0 : W0.cell? ⟨w.heap.size, 0, none⟩ = some (.int .i64 kd) := cell_at r0 0
  have p1 : W0.cell? ⟨w.heap.size, 1, none⟩ = some (.int .i64 sc) := cell_at r0 1
  have p2 : W0.cell? ⟨w.heap.size, 2, none⟩ = some (.int .u64 (v : Nat)) := cell_at r0 2
  have hs0 : W0.heap.size = w.heap.size + 1 := by rw [← hW0]; simp
  have hS0 : JSt (fun i => Q i ∧ i ≠ w.heap.size) W0 J T s := hS.shiftS (fun j hj _ => b0.block j hj) (fun j hj h => ⟨h, by omega⟩) (fun j hj => ⟨hS.up j (by omega), by omega⟩)
  have hset := set_inv (k := x) (v := v) hI hn hx64 hov
  have HSET := hid (jset_any hS0 (hI.can hn) x v hx64 hov)
  have hUP := hid hS.up
  have hfew := hI.few
  have hr7 := room_le hI.tok
  have HTK := hid hI.tok
  obtain ⟨R, hR⟩ : ∃ R, s.set x v = R := ⟨_, rfl⟩
  rw [hR] at HSET hset ⊢
  obtain ⟨cd, s2⟩ := R
  dsimp only at HSET hset ⊢
  obtain ⟨g, hg⟩ : ∃ g, getM s.j.m x = g := ⟨_, rfl⟩
  rw [hg] at hlook hset
  have hmbl := hM.lt
  have hM0 := hM.below b0
  have HM0 := hid hM0
  have HB := hid (rfl : w.heap.size = w.heap.size)
  have HR0 := hid r0
  have HS0 := hid hS0
  have hF0 := Off.of_below (Q := fun i => Q i ∨ i = mb) b0
  have HF0 := hid hF0
  have hmbn : ¬ (Q mb ∧ mb ≠ w.heap.size) := fun h => hmb h.1
  obtain ⟨B, hB⟩ : ∃ B, w.heap.size = B := ⟨_, rfl⟩
  have HBE := hid hB
  rw [hB] at p0 p1 p2 hs0 HSET HR0 hmbl HS0 hmbn
  obtain ⟨ml, hml⟩ : ∃ n, s.j.m.length = n := ⟨_, rfl⟩
  obtain ⟨rm, hrm⟩ : ∃ n, s.t.room = n := ⟨_, rfl⟩
  have HML := hid hml
  have HRM := hid hrm
  rw [hml, hrm] at hset hfew
  rw [hrm] at hr7
  clear HB hM0 r0 hS0 hF0 hM hS hI hR hml hrm ho hd1 hd2 hk0 hc0 hx hkk hg b0
  go_enter Try.func18, Try.ntmps18
  go_wp2_with fail
  refine (A2.out W0).mono ?_
  rintro e w1 ⟨rfl, rfl⟩
  go_wp2_with fail
  refine (A1.out W0).mono ?_
  rintro e w1 ⟨rfl, rfl⟩
  have hkc : (kk : Int) = 0 ∨ (kk : Int) = 1 ∨ (kk : Int) = 2 := by omega
  clear hlt
  rcases hkc with hz | hz | hz
  all_goals (
    rw [hz] at m2 m2'
    clear hz
    go_wp2_with fail
    refine HSET.out.mono ?_
    rintro e w3 ⟨rfl, hS3, hF3⟩
    rcases hset with ⟨e1, e2, e3⟩ | ⟨e1, e2, _, _, e5, e6⟩
    · obtain ⟨rfl, rfl⟩ := Prod.mk.inj e1
      subst e2
      have hm3 := HM0.out.same (hF3.block mb (by omega) hmbn)
      have hlen3 := fun ty => hm3.len tm_u64 ty
      obtain ⟨hT3, b3, rv3, hJ3⟩ := id hS3
      have HRO := hid (room_any hT3 hJ3 HTK.out)
      rw [HRM.out] at HRO
      rw [HML.out] at hlen3
      have d1 : ¬ (ml : Int) < (rm : Int) := by omega
      have HX := hid (do_end hUP.out HBE.out HF0.out hF3 (Off.refl _ _) hS3 hmbn)
      have HM3 := hid hm3
      have HF3 := hid hF3
      have HS3 := hid hS3
      clear hT3 hJ3 hm3 hF3 hS3 HSET e1
      simp only [Option.isSome_none, Option.getD_none]
      go_wp2_with fail
      refine HRO.out.mono ?_
      rintro e w4 ⟨rfl, nd, rfl⟩
      go_wp2_with fail
      go_ret
      refine ⟨rfl, HX.out.1.below ((Below.refl _ _).drewN nd), ?_, HX.out.2.drewN nd⟩
      try rw [if_pos rfl]
      exact HM3.out.drewN nd
    · have hm3 := HM0.out.same (hF3.block mb (by omega) hmbn)
      have q2 : w3.cell? ⟨B, 2, none⟩ = some (.int .u64 (v : Nat)) := by
        have := (hF3.block B (by omega) (fun h => h.2 rfl)).trans HR0.out
        exact cell_at this 2
      have HM3 := hid hm3
      have HF3 := hid hF3
      have HS3 := hid hS3
      rcases e2 with rfl | rfl
      · cases hgg : g with
        | some z =>
          subst hgg
          obtain ⟨es, c, hrun, hm5, hg5⟩ := hm3.upd tm_u64 hx64 hov (by have := HML.out; unfold maxLen; omega)
          have HX := hid (do_end hUP.out HBE.out HF0.out hF3 (off_of_grown hg5 (fun j e => (Option.some.inj e).symm)) hS3 hmbn)
          have HM5 := hid hm5
          clear hm3 hF3 hS3 hm5 hg5 HSET e1
          simp only [Option.isSome_some, Option.getD_some]
          go_wp2_with fail
          go_ret
          refine ⟨rfl, HX.out.1, ?_, HX.out.2⟩
          try rw [if_neg (by decide)]
          exact HM5.out
        | none =>
          subst hgg
          have hlen3 := fun ty => hm3.len tm_u64 ty
          obtain ⟨hT3, b3, rv3, hJ3⟩ := id hS3
          have HRO := hid (room_any hT3 hJ3 (HTK.out.of e5 e6))
          rw [room_of e5 e6, HRM.out] at HRO
          rw [HML.out] at hlen3
          have hlt9 : ml < rm := by
            rcases e1 with e1 | e1
            · cases e1
            · exact e1
          have d1 : ¬ (rm : Int) ≤ (ml : Int) := by omega
          have hup := fun nd => (hm3.drewN nd).upd tm_u64 hx64 hov (by have := HML.out; unfold maxLen; omega)
          have HUD := hid hup
          clear hT3 hJ3 hm3 hF3 hS3 HSET e1 hup
          simp only [Option.isSome_none, Option.getD_none]
          go_wp2_with fail
          refine HRO.out.mono ?_
          rintro e w4 ⟨rfl, nd, rfl⟩
          obtain ⟨es, c, hrun, hm5, hg5⟩ := HUD.out nd
          have HX := hid (do_end hUP.out HBE.out HF0.out HF3.out (((Off.refl _ _).drewN nd).trans (off_of_grown hg5 (fun j e => (Option.some.inj e).symm))) HS3.out hmbn)
          have HM5 := hid hm5
          clear hm5 hg5
          go_wp2_with fail
          go_ret
          refine ⟨rfl, HX.out.1, ?_, HX.out.2⟩
          try rw [if_neg (by decide)]
          exact HM5.out
      · obtain ⟨es, c, hrun, hm5, hg5⟩ := hm3.upd tm_u64 hx64 hov (by have := HML.out; unfold maxLen; omega)
        have HX := hid (do_end hUP.out HBE.out HF0.out hF3 (off_of_grown hg5 (fun j e => (Option.some.inj e).symm)) hS3 hmbn)
        have HM5 := hid hm5
        clear hm3 hF3 hS3 hm5 hg5 HSET e1
        go_wp2_with fail
        go_ret
        refine ⟨rfl, HX.out.1, ?_, HX.out.2⟩
        try rw [if_neg (by decide)]
        exact HM5.out)
set_option maxRecDepth 100000 in
set_option maxHeartbeats 12800000 in
theorem ldo_drop {Q : Nat → Prop} {w : World} {J T mb n : Nat} {s : JS} {A : MM → Prop} (hS : JSt Q w J T s) (hI : Inv s A n) (hn : n ≤ 1000000) (hM : MAt Try.prog 38 38 w mb s.j.m) (hmb : ¬ Q mb) (o : HOp) (ho : o.Fit) (keys : Nat) (hk : 0 < keys ∧ keys ≤ 1000000) (hge : 3 ≤ doK o) (hlt : doK o < 5) :
    Calls Try.prog 18 #[.pointer (some ⟨J, 0, none⟩), .map (some mb), .agg #[.int .i64 o.kind, .int .i64 o.sector, .int .u64 (o.value : Nat)], .int .i64 (keys : Nat)] w fun e w' => e = .returned (.int .i64 (s.drop (doX o keys)).1) ∧ JSt Q w' J T (s.drop (doX o keys)).2 ∧ MAt Try.prog 38 38 w' mb (delM (doX o keys) s.j.m) ∧ Off (fun i => Q i ∨ i = mb) w w' := by
  obtain ⟨W0, hW0⟩ : ∃ W, w.alloc (.cells #[.int .i64 o.kind, .int .i64 o.sector, .int .u64 (o.value : Nat)] 53) = W := ⟨_, rfl⟩
  have b0 : Below w.heap.size w W0 := by rw [← hW0]; exact (Below.refl _ _).alloc (Nat.le_refl _) _
  have r0 : W0.heap[w.heap.size]? = some (.cells #[.int .i64 o.kind, .int .i64 o.sector, .int .u64 (o.value : Nat)] 53 (0, 0)) := by rw [← hW0]; exact alloc_new _ _
  have A1 := hid (labs_any o.kind · ho.1)
  have A2 := hid (labs_any o.sector · ho.2.1)
  have hov := ho.2.2
  obtain ⟨kd, sc, v⟩ := o
  dsimp only at hW0 r0 A1 A2 hov ⊢
  have hd1 : doX ⟨kd, sc, v⟩ keys = absN' sc % keys := rfl
  have hd2 : doK ⟨kd, sc, v⟩ = absN' kd % 6 := rfl
  rw [hd1]
  rw [hd2] at hlt hge
  obtain ⟨k0, hk0⟩ : ∃ n, absN' kd = n := ⟨_, rfl⟩
  obtain ⟨c0, hc0⟩ : ∃ n, absN' sc = n := ⟨_, rfl⟩
  rw [hk0] at A1 hlt hge
  rw [hc0] at A2 ⊢
  have hxl := Nat.mod_lt c0 hk.1
  obtain ⟨x, hx⟩ : ∃ n, c0 % keys = n := ⟨_, rfl⟩
  obtain ⟨kk, hkk⟩ : ∃ n, k0 % 6 = n := ⟨_, rfl⟩
  have m1 : (c0 : Int).tmod (keys : Int) = (x : Int) := by rw [← hx]; rfl
  have m1' : (c0 : Int) % (keys : Int) = (x : Int) := by rw [← hx]; rfl
  have m2 : (k0 : Int).tmod 6 = (kk : Int) := by rw [← hkk]; rfl
  have m2' : (k0 : Int) % 6 = (kk : Int) := by omega
  rw [hkk] at hlt hge
  rw [hx] at hxl ⊢
  have hx64 : x < 18446744073709551616 := by omega
  have u1 : IntKind.u64.wrap (x : Int) = (x : Int) := by rw [IntKind.wrap_u64]; omega
  have ky0 : ¬ (keys : Int) = 0 := by omega
  have hlook := (hM.below b0).look2 tm_u64 hx64
  have p0 : W0.cell? ⟨w.heap.size, 0, none⟩ = some (.int .i64 kd) := cell_at r0 0
  have p1 : W0.cell? ⟨w.heap.size, 1, none⟩ = some (.int .i64 sc) := cell_at r0 1
  have p2 : W0.cell? ⟨w.heap.size, 2, none⟩ = some (.int .u64 (v : Nat)) := cell_at r0 2
  have hs0 : W0.heap.size = w.heap.size + 1 := by rw [← hW0]; simp
  have hS0 : JSt (fun i => Q i ∧ i ≠ w.heap.size) W0 J T s := hS.shiftS (fun j hj _ => b0.block j hj) (fun j hj h => ⟨h, by omega⟩) (fun j hj => ⟨hS.up j (by omega), by omega⟩)
  have hset := drop_inv (k := x) hI hn hx64
  have HSET := hid (jdrop_any hS0 (hI.can hn) x hx64)
  have hUP := hid hS.up
  have hfew := hI.few
  have hr7 := room_le hI.tok
  have HTK := hid hI.tok
  obtain ⟨R, hR⟩ : ∃ R, s.drop x = R := ⟨_, rfl⟩
  rw [hR] at HSET hset ⊢
  obtain ⟨cd, s2⟩ := R
  dsimp only at HSET hset ⊢
  obtain ⟨g, hg⟩ : ∃ g, getM s.j.m x = g := ⟨_, rfl⟩
  rw [hg] at hlook hset
  have hmbl := hM.lt
  have hM0 := hM.below b0
  have HM0 := hid hM0
  have HB := hid (rfl : w.heap.size = w.heap.size)
  have HR0 := hid r0
  have HS0 := hid hS0
  have hF0 := Off.of_below (Q := fun i => Q i ∨ i = mb) b0
  have HF0 := hid hF0
  have hmbn : ¬ (Q mb ∧ mb ≠ w.heap.size) := fun h => hmb h.1
  obtain ⟨B, hB⟩ : ∃ B, w.heap.size = B := ⟨_, rfl⟩
  have HBE := hid hB
  rw [hB] at p0 p1 p2 hs0 HSET HR0 hmbl HS0 hmbn
  obtain ⟨ml, hml⟩ : ∃ n, s.j.m.length = n := ⟨_, rfl⟩
  obtain ⟨rm, hrm⟩ : ∃ n, s.t.room = n := ⟨_, rfl⟩
  have HML := hid hml
  have HRM := hid hrm
  rw [hml, hrm] at hfew
  rw [hrm] at hr7
  clear HB hM0 r0 hS0 hF0 hM hS hI hR hml hrm ho hd1 hd2 hk0 hc0 hx hkk hg b0
  go_enter Try.func18, Try.ntmps18
  go_wp2_with fail
  refine (A2.out W0).mono ?_
  rintro e w1 ⟨rfl, rfl⟩
  go_wp2_with fail
  refine (A1.out W0).mono ?_
  rintro e w1 ⟨rfl, rfl⟩
  have hkc : (kk : Int) = 3 ∨ (kk : Int) = 4 := by omega
  clear hlt hge
  rcases hkc with hz | hz
  all_goals (
    rw [hz] at m2 m2'
    clear hz
    go_wp2_with fail
    refine HSET.out.mono ?_
    rintro e w3 ⟨rfl, hS3, hF3⟩
    have hm3 := HM0.out.same (hF3.block mb (by omega) hmbn)
    obtain ⟨es, c, hrun, hm5, hg5⟩ := hm3.drop tm_u64 hx64
    have hrun2 := hrun 0
    have HX := hid (do_end hUP.out HBE.out HF0.out hF3 (off_of_grown hg5 (fun j e => (Option.some.inj e).symm)) hS3 hmbn)
    have HM5 := hid hm5
    clear hm3 hm5 hg5 hF3 hS3 HSET
    rcases hset with ⟨e1, e2⟩ | ⟨e1, e2, _, _, e5, e6⟩
    · obtain ⟨rfl, rfl⟩ := Prod.mk.inj e1
      subst e2
      clear e1
      simp only [Option.isSome_none, Option.getD_none]
      go_wp2_with fail
      go_ret
      exact ⟨rfl, HX.out.1, HM5.out, HX.out.2⟩
    · cases hgg : g with
      | none => rw [hgg] at e1; cases e1
      | some z =>
        subst hgg
        clear e1
        simp only [Option.isSome_some, Option.getD_some]
        rcases e2 with rfl | rfl
        · go_wp2_with fail
          go_ret
          exact ⟨rfl, HX.out.1, HM5.out, HX.out.2⟩
        · go_wp2_with fail
          go_ret
          exact ⟨rfl, HX.out.1, HM5.out, HX.out.2⟩)
set_option maxRecDepth 100000 in
set_option maxHeartbeats 12800000 in
theorem ldo_sync {Q : Nat → Prop} {w : World} {J T mb n : Nat} {s : JS} {A : MM → Prop} (hS : JSt Q w J T s) (hI : Inv s A n) (hn : n ≤ 1000000) (hM : MAt Try.prog 38 38 w mb s.j.m) (hmb : ¬ Q mb) (o : HOp) (ho : o.Fit) (keys : Nat) (hk : 0 < keys ∧ keys ≤ 1000000) (hge : 5 ≤ doK o) :
    Calls Try.prog 18 #[.pointer (some ⟨J, 0, none⟩), .map (some mb), .agg #[.int .i64 o.kind, .int .i64 o.sector, .int .u64 (o.value : Nat)], .int .i64 (keys : Nat)] w fun e w' => e = .returned (.int .i64 s.sync.1) ∧ JSt Q w' J T s.sync.2 ∧ MAt Try.prog 38 38 w' mb s.j.m ∧ Off (fun i => Q i ∨ i = mb) w w' := by
  obtain ⟨W0, hW0⟩ : ∃ W, w.alloc (.cells #[.int .i64 o.kind, .int .i64 o.sector, .int .u64 (o.value : Nat)] 53) = W := ⟨_, rfl⟩
  have b0 : Below w.heap.size w W0 := by rw [← hW0]; exact (Below.refl _ _).alloc (Nat.le_refl _) _
  have r0 : W0.heap[w.heap.size]? = some (.cells #[.int .i64 o.kind, .int .i64 o.sector, .int .u64 (o.value : Nat)] 53 (0, 0)) := by rw [← hW0]; exact alloc_new _ _
  have A1 := hid (labs_any o.kind · ho.1)
  have A2 := hid (labs_any o.sector · ho.2.1)
  have hov := ho.2.2
  obtain ⟨kd, sc, v⟩ := o
  dsimp only at hW0 r0 A1 A2 hov ⊢
  have hd1 : doX ⟨kd, sc, v⟩ keys = absN' sc % keys := rfl
  have hd2 : doK ⟨kd, sc, v⟩ = absN' kd % 6 := rfl
  rw [hd2] at hge
  obtain ⟨k0, hk0⟩ : ∃ n, absN' kd = n := ⟨_, rfl⟩
  obtain ⟨c0, hc0⟩ : ∃ n, absN' sc = n := ⟨_, rfl⟩
  rw [hk0] at A1 hge
  rw [hc0] at A2
  have hxl := Nat.mod_lt c0 hk.1
  obtain ⟨x, hx⟩ : ∃ n, c0 % keys = n := ⟨_, rfl⟩
  obtain ⟨kk, hkk⟩ : ∃ n, k0 % 6 = n := ⟨_, rfl⟩
  have m1 : (c0 : Int).tmod (keys : Int) = (x : Int) := by rw [← hx]; rfl
  have m1' : (c0 : Int) % (keys : Int) = (x : Int) := by rw [← hx]; rfl
  have m2 : (k0 : Int).tmod 6 = (kk : Int) := by rw [← hkk]; rfl
  have m2' : (k0 : Int) % 6 = (kk : Int) := by omega
  rw [hkk] at hge
  rw [hx] at hxl
  have hx64 : x < 18446744073709551616 := by omega
  have u1 : IntKind.u64.wrap (x : Int) = (x : Int) := by rw [IntKind.wrap_u64]; omega
  have ky0 : ¬ (keys : Int) = 0 := by omega
  have p0 : W0.cell? ⟨w.heap.size, 0, none⟩ = some (.int .i64 kd) := cell_at r0 0
  have p1 : W0.cell? ⟨w.heap.size, 1, none⟩ = some (.int .i64 sc) := cell_at r0 1
  have p2 : W0.cell? ⟨w.heap.size, 2, none⟩ = some (.int .u64 (v : Nat)) := cell_at r0 2
  have hs0 : W0.heap.size = w.heap.size + 1 := by rw [← hW0]; simp
  have hS0 : JSt (fun i => Q i ∧ i ≠ w.heap.size) W0 J T s := hS.shiftS (fun j hj _ => b0.block j hj) (fun j hj h => ⟨h, by omega⟩) (fun j hj => ⟨hS.up j (by omega), by omega⟩)
  have HSET := hid (jsync_any hS0 (hI.can hn))
  have hUP := hid hS.up
  have hfew := hI.few
  have hr7 := room_le hI.tok
  have HTK := hid hI.tok
  obtain ⟨R, hR⟩ : ∃ R, s.sync = R := ⟨_, rfl⟩
  rw [hR] at HSET ⊢
  obtain ⟨cd, s2⟩ := R
  dsimp only at HSET ⊢
  have hmbl := hM.lt
  have hM0 := hM.below b0
  have HM0 := hid hM0
  have HB := hid (rfl : w.heap.size = w.heap.size)
  have HR0 := hid r0
  have HS0 := hid hS0
  have hF0 := Off.of_below (Q := fun i => Q i ∨ i = mb) b0
  have HF0 := hid hF0
  have hmbn : ¬ (Q mb ∧ mb ≠ w.heap.size) := fun h => hmb h.1
  obtain ⟨B, hB⟩ : ∃ B, w.heap.size = B := ⟨_, rfl⟩
  have HBE := hid hB
  rw [hB] at p0 p1 p2 hs0 HSET HR0 hmbl HS0 hmbn
  obtain ⟨ml, hml⟩ : ∃ n, s.j.m.length = n := ⟨_, rfl⟩
  obtain ⟨rm, hrm⟩ : ∃ n, s.t.room = n := ⟨_, rfl⟩
  have HML := hid hml
  have HRM := hid hrm
  rw [hrm] at hr7
  clear HB hM0 r0 hS0 hF0 hM hS hI hR hml hrm ho hd1 hd2 hk0 hc0 hx b0
  go_enter Try.func18, Try.ntmps18
  go_wp2_with fail
  refine (A2.out W0).mono ?_
  rintro e w1 ⟨rfl, rfl⟩
  go_wp2_with fail
  refine (A1.out W0).mono ?_
  rintro e w1 ⟨rfl, rfl⟩
  have hk6 := Nat.mod_lt k0 (show 0 < 6 by omega)
  have hz : (kk : Int) = 5 := by omega
  rw [hz] at m2 m2'
  clear hz hge hk6 hkk
  go_wp2_with fail
  refine HSET.out.mono ?_
  rintro e w3 ⟨rfl, hS3, hF3⟩
  have hm3 := HM0.out.same (hF3.block mb (by omega) hmbn)
  have HX := hid (do_end hUP.out HBE.out HF0.out hF3 (Off.refl _ _) hS3 hmbn)
  have HM3 := hid hm3
  clear hm3 hF3 hS3 HSET
  go_wp2_with fail
  go_ret
  exact ⟨rfl, HX.out.1, HM3.out, HX.out.2⟩
theorem ldo_any {Q : Nat → Prop} {w : World} {J T mb n : Nat} {s : JS} {A : MM → Prop} (hS : JSt Q w J T s) (hI : Inv s A n) (hn : n ≤ 1000000) (hM : MAt Try.prog 38 38 w mb s.j.m) (hmb : ¬ Q mb) (o : HOp) (ho : o.Fit) (keys : Nat) (hk : 0 < keys ∧ keys ≤ 1000000) :
    Calls Try.prog 18 #[.pointer (some ⟨J, 0, none⟩), .map (some mb), .agg #[.int .i64 o.kind, .int .i64 o.sector, .int .u64 (o.value : Nat)], .int .i64 (keys : Nat)] w fun e w' => e = .returned (.int .i64 (doJ s o keys).1) ∧ JSt Q w' J T (doJ s o keys).2 ∧ MAt Try.prog 38 38 w' mb (doM s o keys) ∧ Off (fun i => Q i ∨ i = mb) w w' := by
  by_cases h3 : doK o < 3
  · have := ldo_set hS hI hn hM hmb o ho keys hk h3
    unfold doJ doM
    rw [if_pos h3, if_pos h3]
    exact this
  · by_cases h5 : doK o < 5
    · have := ldo_drop hS hI hn hM hmb o ho keys hk (by omega) h5
      unfold doJ doM
      rw [if_neg h3, if_neg h3, if_pos h5, if_pos h5]
      exact this
    · have := ldo_sync hS hI hn hM hmb o ho keys hk (by omega)
      unfold doJ doM
      rw [if_neg h3, if_neg h3, if_neg h5, if_neg h5]
      exact this
end Go.Proofs.Ytkdjefnnhanhhaa
