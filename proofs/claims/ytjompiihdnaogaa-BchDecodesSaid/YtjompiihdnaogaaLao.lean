/- Walks over firkinlaw02: BchDecodes. -/
import Derived.Test.YtjompiihdnaogaaDee
namespace Go.Proofs.Ytjompiihdnaogaa
open Go.RowKit Go.Mem

set_option maxRecDepth 100000 in
set_option maxHeartbeats 800000 in
theorem decode_bad (c bytes t m P : Nat) (a : Option Addr) (n cap : Nat) (b : Option Addr) (n2 cap2 : Nat) (w : World) (hp : Par bytes t m) (h : CodeAt w c bytes t m) (hP : P = (rr m t + 7) / 8) (he : n = bytes) (hne : n2 ≠ P) :
    Calls Try.prog 24 #[.pointer (some ⟨c, 0, none⟩), .slice a n cap, .slice b n2 cap2] w fun e w' => e = .returned (.tuple #[.slice none 0 0, .slice none 0 0, .int .i64 0, .int .i64 1]) ∧ w = w' := by
  have c1 : w.cell? ⟨c, 1, none⟩ = some (.int .i64 bytes) := by obtain ⟨fb, gv, h1, h2, h3⟩ := h; exact cell_at h1 1
  have hpar := codeParity_any c bytes t m w h hp
  rw [← hP] at hpar
  have HPAR := hid hpar
  have t1 : ((n : Int) != (bytes : Int)) = false := by simp [he]
  have t2 : ((n2 : Int) != (P : Int)) = true := bne_iff_ne.2 (by omega)
  clear h hpar hP he
  go_enter Try.func24, Try.ntmps24
  go_wp2; go_step3; go_wp2_with fail
  refine HPAR.out.mono ?_
  rintro e w' ⟨rfl, rfl⟩
  go_wp2_with fail
  rw [Exit.noGoto_ret]
  refine bodyPost_ret (v := .tuple #[.slice none 0 0, .slice none 0 0, .int .i64 0, .int .i64 1]) (by simp [results, Try.results24, go_sem]) rfl ⟨rfl, rfl⟩
set_option maxRecDepth 100000 in
set_option maxHeartbeats 800000 in
theorem rdecode_bad (v : Value) (bytes t m P : Nat) (a : Option Addr) (n cap : Nat) (b : Option Addr) (n2 cap2 : Nat) (w : World) (hp : Par bytes t m) (h : RC w v bytes t m) (hP : P = (rr m t + 7) / 8) (he : n = bytes) (hne : n2 ≠ P) :
    Calls Try.prog 25 #[v, .slice a n cap, .slice b n2 cap2] w fun e w' => e = .returned (.tuple #[.slice none 0 0, .slice none 0 0, .int .i64 0, .int .i64 1]) ∧ Below w.heap.size w w' := by
  obtain ⟨ga, L, gcap, rfl⟩ := nil_RC h
  have HRC := hid h
  have hpar := fun w' (hb : Below w.heap.size w w') => rParity_any _ bytes t m w' hp (HRC.out.below hb)
  rw [← hP] at hpar
  have HPAR := hid hpar
  have t1 : ((n : Int) != (bytes : Int)) = false := by simp [he]
  have t2 : ((n2 : Int) != (P : Int)) = true := bne_iff_ne.2 (by omega)
  clear h hpar hP he
  go_enter Try.func25, Try.ntmps25
  go_wp2_with fail
  refine (HPAR.out _ ((Below.refl _ w).alloc (Nat.le_refl _) _)).mono ?_
  rintro e w1 ⟨rfl, hb1⟩
  have HB1 := hid (((Below.refl _ w).alloc (Nat.le_refl _) _).comp hb1)
  clear hb1
  go_wp2_with fail
  refine bodyPost_ret (v := .tuple #[.slice none 0 0, .slice none 0 0, .int .i64 0, .int .i64 1]) (by simp [results, Try.results25, go_sem]) rfl ⟨rfl, HB1.out⟩
/-- Two decodings of one word tell the same. -/
theorem dec_same {bytes t m P : Nat} (hp : Par bytes t m) (hP : P = (rr m t + 7) / 8) {d p : Nat → Nat} {w1 w1' w2 w2' : World} {e1 e2 : Ending} (h1 : DecRet m t bytes P d p w1 w1' e1) (h2 : DecRet m t bytes P d p w2 w2' e2) :
    (e1 = .returned (.tuple #[.slice none 0 0, .slice none 0 0, .int .i64 0, .int .i64 20]) ∧ e2 = .returned (.tuple #[.slice none 0 0, .slice none 0 0, .int .i64 0, .int .i64 20])) ∨
    ∃ (g1 c1 g2 c2 g3 c3 g4 c4 k : Nat) (X Y : List Nat), e1 = .returned (.tuple #[.slice (some ⟨g1, 0, none⟩) bytes c1, .slice (some ⟨g2, 0, none⟩) P c2, .int .i64 (k : Nat), .int .i64 0]) ∧
      e2 = .returned (.tuple #[.slice (some ⟨g3, 0, none⟩) bytes c3, .slice (some ⟨g4, 0, none⟩) P c4, .int .i64 (k : Nat), .int .i64 0]) ∧
      Rd .u8 w1' (.slice (some ⟨g1, 0, none⟩) bytes c1) X ∧ Rd .u8 w1' (.slice (some ⟨g2, 0, none⟩) P c2) Y ∧ Rd .u8 w2' (.slice (some ⟨g3, 0, none⟩) bytes c3) X ∧ Rd .u8 w2' (.slice (some ⟨g4, 0, none⟩) P c4) Y := by
  rcases h1 with ⟨g1, c1, g2, c2, d1, p1, k1, _, _, he1, ho1, ho2, hd1, hp1, hg1⟩ | ⟨he1, hb1⟩ <;> rcases h2 with ⟨g3, c3, g4, c4, d2, p2, k2, _, _, he2, ho3, ho4, hd2, hp2, hg2⟩ | ⟨he2, hb2⟩
  · obtain ⟨u1, u2, rfl⟩ := DecGood.uniq hp hP hg1 hg2 hd1 hp1 hd2 hp2
    exact .inr ⟨g1, c1, g2, c2, g3, c3, g4, c4, k1, _, _, he1, he2, ho1.rd, ho2.rd, (ho3.congr (fun j hj => (u1 j hj).symm)).rd, (ho4.congr (fun j hj => (u2 j hj).symm)).rd⟩
  · exact (hb2.not hg1).elim
  · exact (hb1.not hg2).elim
  · exact .inl ⟨he1, he2⟩
end Go.Proofs.Ytjompiihdnaogaa
