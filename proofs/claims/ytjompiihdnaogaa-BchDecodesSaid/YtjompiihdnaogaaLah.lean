/- Walks over firkinlaw02: what the laws that bend a word have in common; BchMends. -/
import Derived.Test.YtjompiihdnaogaaLag
import Derived.Test.YtjompiihdnaogaaLaf
namespace Go.Proofs.Ytjompiihdnaogaa
open Go.RowKit Go.Mem

theorem _root_.Go.Mem.RdI.take {k : IntKind} {w : World} {a : Option Addr} {n cap : Nat} {zs : List Int} (h : RdI k w (.slice a n cap) zs) (hl : zs.length = n) (T : Nat) (hT : T ≤ n) : RdI k w (.slice a T cap) (zs.take T) := by
  obtain ⟨a', c', he, h1, h2, hc⟩ := h
  cases he
  refine ⟨a, cap, by rw [List.length_take]; congr 1; omega, by rw [List.length_take]; omega, h2, fun j hj => ?_⟩
  have hj' : j < T := by rw [List.length_take] at hj; omega
  obtain ⟨g, o, ha, hx⟩ := hc j (by omega)
  refine ⟨g, o, ha, ?_⟩
  rw [hx]
  congr 2
  simp only [List.getD]
  rw [List.getElem?_take_of_lt hj']

theorem ow_rd_eq {w : World} {g n cap : Nat} {f : Nat → Nat} {xs : List Nat} (h : Ow .u8 5 w g n cap f) (hl : xs.length = n) (he : ∀ j, j < n → f j = xs.getD j 0) : Rd .u8 w (.slice (some ⟨g, 0, none⟩) n cap) xs := by
  have := h.rd
  have e : (List.range n).map f = xs := by
    subst hl
    rw [← rg_self xs]
    simp only [List.length_map, List.length_range]
    exact List.map_congr_left (fun j hj => he j (by simpa using hj))
  rwa [e] at this

/-- What is decoded of a word that was bent by few bits. -/
theorem dec_known {bytes t m P : Nat} (hp : Par bytes t m) (hP : P = (rr m t + 7) / 8) (xs : List Nat) (hl : xs.length = bytes) (hx : ∀ y ∈ xs, y < 256) {d p : Nat → Nat} (hd : ub d (xs.getD · 0) bytes + ub p (par m t xs) P ≤ t)
    {w w' : World} {e : Ending} (h : DecRet m t bytes P d p w w' e) : ∃ g1 c1 g2 c2, e = .returned (.tuple #[.slice (some ⟨g1, 0, none⟩) bytes c1, .slice (some ⟨g2, 0, none⟩) P c2, .int .i64 ((ub d (xs.getD · 0) bytes + Gf.cs (fun i => bitAt p i ^^ bitAt (par m t xs) i) (rr m t) : Nat) : Int), .int .i64 0]) ∧
    Rd .u8 w' (.slice (some ⟨g1, 0, none⟩) bytes c1) xs ∧ Rd .u8 w' (.slice (some ⟨g2, 0, none⟩) P c2) ((List.range P).map (par m t xs)) := by
  obtain ⟨k0, hg0, hk0⟩ := near_good hp hP xs hl hd
  rcases h with ⟨g1, c1, g2, c2, d', p', k, _, _, he, ho1, ho2, hd', hp', hg⟩ | ⟨_, hb⟩
  · obtain ⟨u1, u2, u3⟩ := DecGood.uniq hp hP hg hg0 hd' hp' (fun j => Gf.getD_lt (m := 8) hx j) (par_lt _ _ _)
    refine ⟨g1, c1, g2, c2, by rw [he, u3, hk0], ow_rd_eq ho1 hl u1, ow_rd_eq ho2 (by simp) (fun j hj => by rw [u2 j hj, rg_getD _ _ _ hj])⟩
  · exact (hb.not hg0).elim
end Go.Proofs.Ytjompiihdnaogaa
