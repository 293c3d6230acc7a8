/- Walks over firkinlaw02: the small code is awake; a code for data. -/
import Derived.Test.YtjompiihdnaogaaStr
namespace Go.Proofs.Ytjompiihdnaogaa
open Go.RowKit Go.Mem

theorem par11 : Par 1 1 4 := ⟨⟨by decide, by decide⟩, by decide, by decide, by decide, by decide, by decide, by decide, fun k h1 h2 => by omega⟩
theorem rr41 : rr 4 1 = 4 := by decide +kernel
theorem par41 : par 4 1 [1] 0 = 48 := by decide +kernel
theorem rd_one {k : IntKind} {w : World} {g x : Nat} {t : TypeId} (h : w.heap[g]? = some (.cells #[.int k (x : Nat)] t (0, 0))) : Rd k w (.slice (some ⟨g, 0, none⟩) 1 1) [x] :=
  ⟨_, 1, rfl, Nat.le_refl _, by decide, fun j hj => ⟨g, 0, rfl, by
    obtain rfl : j = 0 := by simpa using hj
    rw [cell_at h]; rfl⟩⟩
theorem aw_dst : Gf.dst (wd 8 4 ([3].getD · 0) ([48].getD · 0)) (wd 8 4 ([1].getD · 0) ([48].getD · 0)) 12 = 1 := by decide +kernel
theorem aw_good : DecGood 4 1 (8 * 1) (rr 4 1) 1 ([3].getD · 0) ([48].getD · 0) ([1].getD · 0) (par 4 1 [1]) 1 := by
  have h1 := par_cw par11 [1] rfl
  rw [rr41] at h1 ⊢
  refine ⟨h1, ?_, Nat.le_refl _, fun i h1 h2 => par_pad 4 1 [1] i (by rw [rr41]; exact h1)⟩
  rw [← aw_dst]
  refine Gf.dst_congr (fun _ _ => rfl) (fun k hk => ?_)
  refine wd_congr (P := 1) (by decide) (fun _ _ => rfl) (by decide) (fun j hj => ?_) k (by omega)
  obtain rfl : j = 0 := by omega
  exact par41
theorem aw_ret {w w' : World} {e : Ending} (h : DecRet 4 1 1 1 ([3].getD · 0) ([48].getD · 0) w w' e) : ∃ g1 c1 g2 c2, e = .returned (.tuple #[.slice (some ⟨g1, 0, none⟩) 1 c1, .slice (some ⟨g2, 0, none⟩) 1 c2, .int .i64 1, .int .i64 0]) ∧
    Rd .u8 w' (.slice (some ⟨g1, 0, none⟩) 1 c1) [1] ∧ Rd .u8 w' (.slice (some ⟨g2, 0, none⟩) 1 c2) [48] := by
  rcases h with ⟨g1, c1, g2, c2, d', p', k, hg1, hg2, he, ho1, ho2, hd, hp, hg⟩ | ⟨_, hb⟩
  · obtain ⟨u1, u2, u3⟩ := DecGood.uniq par11 (by rw [rr41]) hg aw_good hd hp (fun j => Gf.getD_lt (m := 8) (by decide) j) (par_lt _ _ _)
    refine ⟨g1, c1, g2, c2, by rw [he, u3]; rfl, ?_, ?_⟩
    · have := ho1.rd
      have e : (List.range 1).map d' = [1] := by show [d' 0] = [1]; rw [u1 0 (by decide)]; rfl
      rwa [e] at this
    · have := ho2.rd
      have e : (List.range 1).map p' = [48] := by show [p' 0] = [48]; rw [u2 0 (by decide), par41]
      rwa [e] at this
  · exact (hb.not aw_good).elim

set_option maxRecDepth 100000 in
set_option maxHeartbeats 1600000 in
theorem awake_any (w : World) : Calls Try.prog 12 #[] w fun e w' => e = .returned (.bool true) ∧ Below w.heap.size w w' := by
  go_enter Try.func12, Try.ntmps12
  go_wp2_with fail
  refine (bchnew_any 1 1 4 _ par11).mono ?_
  rintro e w1 ⟨⟨c, rfl, hc⟩, hb⟩
  have HC := hid hc
  have HB := hid hb
  clear hc hb
  go_wp2_with fail
  refine (encode_any c 1 1 4 _ [1] _ par11 (HC.out.below ((Below.refl _ _).alloc (Nat.le_refl _) _)) (rd_one (alloc_new _ _)) (by decide) rfl).mono ?_
  rintro e w2 ⟨p, P, hp, hP, rfl, hpc, hpb⟩
  rw [rr41] at hP
  obtain rfl : P = 1 := hP
  have hpr : Rd .u8 w2 (.slice (some ⟨p, 0, none⟩) 1 1) [48] := by
    have := Rd.of_fa hpc 1 1 (Nat.le_refl _) (Nat.le_refl _) (by decide)
    have e : (List.range 1).map (par 4 1 [1]) = [48] := by show [par 4 1 [1] 0] = [48]; rw [par41]
    rwa [e] at this
  have HPR := hid hpr
  have HC2 : Hid (CodeAt w2 c 1 1 4) := hid (HC.out.below (((Below.refl _ _).alloc (Nat.le_refl _) _).comp hpb))
  have HB2 : Hid (Below w.heap.size w w2) := hid (HB.out.comp (((Below.refl _ _).alloc (Nat.le_refl _) _).comp hpb))
  clear hpr hpc hpb hp
  go_wp2_with fail
  refine (decode_any c 1 1 4 1 _ _ [3] [48] _ par11 (HC2.out.below (by (repeat (first | exact Below.refl _ _ | refine bl_drew ?_ | refine bl_drewN ?_ _ | refine bl_alloc ?_ _ | refine bl_set ?_ (by first | (simp; done) | (simp; omega)) _ | refine Below.comp ?_ (by assumption))))) (rd_one ((alloc_old (by simp)).trans (alloc_new _ _))) (rd_one (alloc_at (by simp))) (by decide) (by decide) rfl (by rw [rr41]) rfl).mono ?_
  rintro e w3 ⟨hd, hb3⟩
  obtain ⟨g1, c1, g2, c2, rfl, hr1, hr2⟩ := aw_ret hd
  have hb23 : Below w2.heap.size w2 w3 := (show Below w2.heap.size w2 _ by (repeat (first | exact Below.refl _ _ | refine bl_drew ?_ | refine bl_drewN ?_ _ | refine bl_alloc ?_ _ | refine bl_set ?_ (by first | (simp; done) | (simp; omega)) _ | refine Below.comp ?_ (by assumption)))).comp hb3
  have HC3 : Hid (CodeAt w3 c 1 1 4) := hid (HC2.out.below hb23)
  have HB3 : Hid (Below w.heap.size w w3) := hid (HB2.out.comp hb23)
  have k1 : (convert 35 9 (.slice (some ⟨p, 0, none⟩) 1 1)).run Try.prog w3 = .ok (.string ⟨#[48]⟩) w3 := conv_rd (HPR.out.below hb23)
  have k2 : (convert 35 9 (.slice (some ⟨g1, 0, none⟩) 1 c1)).run Try.prog w3 = .ok (.string ⟨#[1]⟩) w3 := conv_rd hr1
  have k3 : (convert 35 9 (.slice (some ⟨g2, 0, none⟩) 1 c2)).run Try.prog w3 = .ok (.string ⟨#[48]⟩) w3 := conv_rd hr2
  have hbits := codeBits_any c 1 1 4 w3 HC3.out par11
  have hparity := codeParity_any c 1 1 4 w3 HC3.out par11
  rw [rr41] at hbits hparity
  have HBI := hid hbits
  have HPA := hid hparity
  clear hd hb3 hr1 hr2 hb23 hbits hparity
  go_wp2_with (first | (go_at_call 15; refine (codeM_any c 1 1 4 _ HC3.out).mono ?_; rintro e w' ⟨rfl, rfl⟩) | (go_at_call 16; refine HBI.out.mono ?_; rintro e w' ⟨rfl, rfl⟩) | (go_at_call 18; refine HPA.out.mono ?_; rintro e w' ⟨rfl, rfl⟩))
  go_ret
  exact ⟨rfl, HB3.out⟩
end Go.Proofs.Ytjompiihdnaogaa
