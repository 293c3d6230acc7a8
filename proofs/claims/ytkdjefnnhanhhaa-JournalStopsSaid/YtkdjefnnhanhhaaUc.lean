/- Walks over low: a number's bytes behind others; the number of bytes. -/
import Derived.Test.YtkdjefnnhanhhaaUa
import Derived.Test.YtkdjefnnhanhhaaUz
import Derived.Test.YtkdjefnnhanhhaaProg
import Derived.Deep.CutBlock
import Derived.Deep.DeepCutAuto
import Derived.Deep.RegionWith
import Derived.Laws.BitsLemmas
import Derived.Laws.Bits64b
import Derived.WalkLawsBesides
import Derived.Outline
set_option linter.unusedVariables false
namespace Go.Proofs.Ytkdjefnnhanhhaa
open Go.RowKit Go.Mem Go.Pg

theorem el_b8 : ElT Try.prog 27 5 .u8 1 := ⟨by kernel_rfl, by kernel_rfl, by decide⟩

/-- What is appended to a slice of the call's own. -/
def Grows (B : Nat) (w w' : World) (v : Value) (xs : List Nat) (e : Ending) : Prop :=
  ∃ v', e = .returned v' ∧ Own .u8 5 B w' v' xs ∧ w.grownBy w' v.ownBlock ∧ ∀ g, v'.ownBlock = some g → v.ownBlock = some g ∨ w.heap.size ≤ g

theorem grow_row {w w1 w2 : World} {r s : Option Nat} (h1 : w.grownBy w1 r) (h2 : w1.grownBy w2 s) (hs : ∀ g, s = some g → r = some g ∨ w.heap.size ≤ g) : w.grownBy w2 r :=
  ⟨h2.os.trans h1.os, h2.tape.trans h1.tape, h2.output.trans h1.output, Nat.le_trans h1.size h2.size, fun k hk hr => (h2.block k (Nat.lt_of_lt_of_le hk h1.size) (fun e => by
    rcases hs k e.symm with h | h
    · exact hr h.symm
    · omega)).trans (h1.block k hk hr)⟩
theorem grow_refl (w : World) (r : Option Nat) : w.grownBy w r := ⟨rfl, rfl, rfl, Nat.le_refl _, fun _ _ _ => rfl⟩
theorem grow_alloc {w w1 : World} {r : Option Nat} (h : w.grownBy w1 r) (o : Obj) : w.grownBy (w1.alloc o) r :=
  ⟨h.os, h.tape, h.output, Nat.le_trans h.size (by simp), fun k hk hr => (alloc_old (Nat.lt_of_lt_of_le hk h.size)).trans (h.block k hk hr)⟩
theorem byte_of (n : Nat) : IntKind.u8.wrap (n : Int) = ((n % 256 : Nat) : Int) := by
  simp [IntKind.wrap, IntKind.bits, IntKind.signed]

set_option maxRecDepth 100000 in
set_option maxHeartbeats 800000 in
theorem lowAppend_any (B : Nat) (v : Value) (xs : List Nat) (n many : Nat) (w : World) (hown : Own .u8 5 B w v xs) (hB : B ≤ w.heap.size) (hl : xs.length ≤ 1000000) (hn : n < 18446744073709551616) (hm : many ≤ 1000) :
    Calls Try.prog 53 #[v, .int .u64 n, .int .i64 many] w fun e w' => Grows B w w' v (xs ++ low n many) e := by
  have HO := hid hown
  have HB := hid hB
  clear hown hB
  go_enter Try.func53, Try.ntmps53
  go_wp2
  go_loopg [0, 1, 8] many (fun gk u q i wr => ∃ I : Nat, I + gk = many ∧ i = .int .i64 I ∧ q = .int .u64 ((n / 256 ^ I : Nat) : Int) ∧ Own .u8 5 B wr u (xs ++ low n I) ∧ w.grownBy wr v.ownBlock ∧ ∀ g, u.ownBlock = some g → v.ownBlock = some g ∨ w.heap.size ≤ g)
  case atStart => exact ⟨0, by omega, rfl, by simp, by simpa [low] using HO.out, grow_refl _ _, fun g hg => .inl hg⟩
  case round =>
    obtain ⟨I, hI, rfl, rfl, ho, hg, hu⟩ := hrel
    have HO := hid ho
    have HG := hid hg
    have HU := hid hu
    clear ho hg hu
    by_cases hlt : I < many
    · obtain ⟨y, hy⟩ : ∃ y, n / 256 ^ I = y := ⟨_, rfl⟩
      have hyn : y < 18446744073709551616 := by rw [← hy]; exact Nat.lt_of_le_of_lt (Nat.div_le_self _ _) hn
      have HY := hid hy
      rw [hy]
      clear hy
      go_wp2_with (at_builtin; refine app_one el_b8 rfl _ _ rfl B _ (xs ++ low n I) rfl (HO.out.alloc _) ⟨wr.heap.size, 0, none⟩ 1 (y % 256) rfl (by rw [new_cell]; simp) (by simp [low_len]; omega) (by simp; exact Nat.le_succ_of_le (Nat.le_trans HB.out HG.out.size)) ?_; intro g2 cap2 w3 hown hgrow hat)
      go_roundg (gk - 1)
      case measure => omega
      case rel =>
        have hgr := grow_row (grow_alloc HG.out _) hgrow HU.out
        refine ⟨I + 1, by omega, by go_num, ?_, ?_, hgr, fun g hg => ?_⟩
        · rw [Nat.pow_succ, ← Nat.div_div_eq_div_mul, HY.out]; simp
        · rw [low_snoc, HY.out, ← List.append_assoc]; rw [List.length_append] at hown; exact hown
        · simp only [Value.ownBlock, Option.some.injEq] at hg
          subst hg
          rcases hat with h | h
          · exact HU.out _ h
          · right; have := HG.out.size; simp at h; omega
    · obtain rfl : I = many := by omega
      go_wp2_with fail
      go_ret
      exact ⟨_, rfl, HO.out, HG.out, HU.out⟩
theorem Grows.below {B : Nat} {w w' : World} {v : Value} {xs ys : List Nat} {e : Ending} (h : Grows B w w' v xs e) (hv : Own .u8 5 B w v ys) (hB : B ≤ w.heap.size) : Below B w w' := by
  obtain ⟨v', _, _, hg, _⟩ := h
  exact grow_below (Below.refl _ _) hB hg (fun g hg => (hv.blk g hg).1)
set_option maxRecDepth 100000 in
set_option maxHeartbeats 400000 in
theorem append32_any (B : Nat) (v : Value) (xs : List Nat) (n : Nat) (w : World) (hown : Own .u8 5 B w v xs) (hB : B ≤ w.heap.size) (hl : xs.length ≤ 1000000) (hn : n < 4294967296) :
    Calls Try.prog 40 #[v, .int .u32 n] w fun e w' => Grows B w w' v (xs ++ low n 4) e := by
  have HO := hid hown
  clear hown
  have hw : IntKind.u64.wrap (n : Int) = n := by rw [IntKind.wrap_u64]; omega
  have HA := hid (lowAppend_any B v xs n 4 w HO.out hB hl (by omega) (by decide))
  go_enter Try.func40, Try.ntmps40
  go_wp2_with fail
  refine HA.out.mono ?_
  rintro e w' ⟨v', rfl, h1, h2, h3⟩
  go_wp2_with fail
  go_ret
  exact ⟨v', rfl, h1, h2, h3⟩
set_option maxRecDepth 100000 in
set_option maxHeartbeats 400000 in
theorem append64_any (B : Nat) (v : Value) (xs : List Nat) (n : Nat) (w : World) (hown : Own .u8 5 B w v xs) (hB : B ≤ w.heap.size) (hl : xs.length ≤ 1000000) (hn : n < 18446744073709551616) :
    Calls Try.prog 41 #[v, .int .u64 n] w fun e w' => Grows B w w' v (xs ++ low n 8) e := by
  have HO := hid hown
  clear hown
  have HA := hid (lowAppend_any B v xs n 8 w HO.out hB hl hn (by decide))
  go_enter Try.func41, Try.ntmps41
  go_wp2_with fail
  refine HA.out.mono ?_
  rintro e w' ⟨v', rfl, h1, h2, h3⟩
  go_wp2_with fail
  go_ret
  exact ⟨v', rfl, h1, h2, h3⟩

/-- The number of the first bytes, from the I-th on. -/
def hiN (xs : List Nat) (many I : Nat) : Nat := num ((xs.take many).drop I)
theorem hiN_step {xs : List Nat} {many I : Nat} (h : I < many) (hm : many ≤ xs.length) : hiN xs many I = xs.getD I 0 + 256 * hiN xs many (I + 1) := by
  unfold hiN
  have hl : I < (xs.take many).length := by rw [List.length_take]; omega
  rw [List.drop_eq_getElem_cons hl, num]
  congr 1
  rw [List.getElem_take, List.getD_eq_getElem?_getD, List.getElem?_eq_getElem (by omega)]; rfl
theorem hiN_lt {xs : List Nat} (hx : ∀ y ∈ xs, y < 256) (many I : Nat) (h8 : many - I ≤ 8) : hiN xs many I < 18446744073709551616 := by
  refine Nat.lt_of_lt_of_le (num_lt (fun y hy => hx y (List.mem_of_mem_take (List.mem_of_mem_drop hy)))) ?_
  exact (Nat.pow_le_pow_right (by decide) (by rw [List.length_drop, List.length_take]; omega) : 256 ^ ((xs.take many).drop I).length ≤ 256 ^ 8)
theorem or_byte (n c : Nat) (hn : n < 18446744073709551616) (hc : c < 256) (h8 : n * 256 < 18446744073709551616) : bits .or .u64 ((n : Int) * 256) (c : Int) = ((c + 256 * n : Nat) : Int) := by
  have e : ((n : Int) * 256) = ((256 * n : Nat) : Int) := by omega
  rw [e, bits_or_u64_nat _ _ (by omega) (by omega)]
  congr 1
  have := Nat.two_pow_add_eq_or_of_lt (i := 8) (show c < 2 ^ 8 from hc) n
  rw [show 256 * n = 2 ^ 8 * n from rfl, ← this]; omega
set_option maxRecDepth 100000 in
set_option maxHeartbeats 800000 in
theorem lowUint_any (v : Value) (xs : List Nat) (many : Nat) (w : World) (hv : Rd .u8 w v xs) (hx : ∀ y ∈ xs, y < 256) (hm : many ≤ xs.length) (h8 : many ≤ 8) :
    Calls Try.prog 50 #[v, .int .i64 many] w fun e w' => e = .returned (.int .u64 (num (xs.take many) : Nat)) ∧ w = w' := by
  have HX := hid hx
  have hlen := hv.len
  obtain ⟨a, cap, rfl, x1, x2, x3⟩ := hv
  have HX3 := hid x3
  clear x3 hx
  go_enter Try.func50, Try.ntmps50
  go_wp2
  go_loop [4, 5] (fun n i => ∃ I : Nat, I ≤ many ∧ i = .int .i64 ((I : Int) - 1) ∧ n = .int .u64 (hiN xs many I : Nat)) (fun _ i => (intOf i + 1).toNat)
  case atStart => exact ⟨many, Nat.le_refl _, by simp, by unfold hiN; rw [List.drop_eq_nil_of_le (by rw [List.length_take]; omega)]; rfl⟩
  case round =>
    obtain ⟨I, hI, rfl, rfl⟩ := hrel
    by_cases h0 : I = 0
    · subst h0
      go_wp2
      go_ret
      exact ⟨by unfold hiN; simp, rfl⟩
    · obtain ⟨k, rfl⟩ : ∃ k, I = k + 1 := ⟨I - 1, by omega⟩
      obtain ⟨g, o, rfl, hc⟩ := HX3.out k (by omega)
      obtain ⟨c, hcx⟩ : ∃ c, xs.getD k 0 = c := ⟨_, rfl⟩
      have hc256 : c < 256 := by rw [← hcx]; exact HX.out _ (getD_mem (by omega))
      have hst := hiN_step (xs := xs) (show k < many by omega) hm
      obtain ⟨n, hn⟩ : ∃ n, hiN xs many (k + 1) = n := ⟨_, rfl⟩
      have hnl := hiN_lt HX.out many k (by omega)
      rw [hn, hcx] at hst
      rw [hst] at hnl
      have hor := or_byte n c (by omega) hc256 (by omega)
      rw [hcx] at hc
      have hk1 : ((k + 1 : Nat) : Int) - 1 = (k : Int) := by omega
      have hk2 : (k : Int) < (xs.length : Int) := by omega
      have hk3 : (0 : Int) ≤ (k : Int) := by omega
      rw [hn, hk1]
      have HST := hid hst
      have HN := hid hn
      have HOR := hid hor
      clear hst hn hcx hor hk1 h0
      go_wp2
      go_round
      case rel => exact ⟨k, by omega, rfl, by rw [HST.out, ← HOR.out]⟩
      case measure => simp [intOf]
theorem num_u32 (n : Nat) : IntKind.u32.wrap (n : Int) = ((n % 4294967296 : Nat) : Int) := by
  rw [IntKind.wrap_u32]; omega
set_option maxRecDepth 100000 in
set_option maxHeartbeats 400000 in
theorem uint32_any (v : Value) (xs : List Nat) (w : World) (hv : Rd .u8 w v xs) (hx : ∀ y ∈ xs, y < 256) (hm : 4 ≤ xs.length) :
    Calls Try.prog 35 #[v] w fun e w' => e = .returned (.int .u32 (num (xs.take 4) : Nat)) ∧ w = w' := by
  have HA := hid (lowUint_any v xs 4 w hv hx hm (by decide))
  have hlt : num (xs.take 4) < 256 ^ (xs.take 4).length := num_lt (fun y hy => hx y (List.mem_of_mem_take hy))
  rw [List.length_take, show min 4 xs.length = 4 by omega] at hlt
  have hlt' : num (xs.take 4) < 4294967296 := hlt
  generalize num (xs.take 4) = n at *
  clear hlt
  go_enter Try.func35, Try.ntmps35
  go_wp2_with fail
  refine HA.out.mono ?_
  rintro e w' ⟨rfl, rfl⟩
  go_wp2_with fail
  go_ret
  exact ⟨rfl, rfl⟩
end Go.Proofs.Ytkdjefnnhanhhaa
/- Walks over crc. -/
namespace Go.Proofs.Ytkdjefnnhanhhaa
open Go.RowKit Go.Mem Go.Pg

theorem wraps_u32 (n : Int) (h0 : 0 ≤ n) (h1 : n < 2 ^ 32) : IntKind.u32.wrap n = n := by
  rw [IntKind.wrap_u32]; exact Int.emod_eq_of_lt h0 (by simpa using h1)
theorem xor_u32 (a b : Nat) (ha : a < 4294967296) (hb : b < 4294967296) : bits .xor .u32 (a : Int) (b : Int) = ((a ^^^ b : Nat) : Int) :=
  bits_xor_nat .u32 32 (by decide) wraps_u32 a b ha hb
theorem and15_u32 (a : Nat) (ha : a < 4294967296) : bits .and .u32 (a : Int) 15 = ((a % 16 : Nat) : Int) := by
  have h := (bits_nat .u32 32 (by decide) wraps_u32 a 15 ha (by decide)).1
  refine Eq.trans h ?_
  congr 1
  exact Nat.and_two_pow_sub_one_eq_mod a 4
theorem not_u32 (a : Nat) (ha : a < 4294967296) : bits .xor .u32 IntKind.u32.max (a : Int) = ((a ^^^ 4294967295 : Nat) : Int) := by
  rw [show IntKind.u32.max = ((4294967295 : Nat) : Int) from rfl, xor_u32 _ _ (by decide) ha, Nat.xor_comm]
/-- What four bits do to the register. -/
def stepsV : Value := .agg #[.int .u32 0, .int .u32 498536548, .int .u32 997073096, .int .u32 651767980, .int .u32 1994146192, .int .u32 1802195444, .int .u32 1303535960, .int .u32 1342533948, .int .u32 3988292384, .int .u32 4027552580, .int .u32 3604390888, .int .u32 3412177804, .int .u32 2607071920, .int .u32 2262029012, .int .u32 2685067896, .int .u32 3183342108]
theorem steps_fa : (stepsV.cells : Array Value) = fa .u32 16 tab := by rfl
theorem steps_any (w : World) : Calls Try.prog 72 #[] w fun e w' => e = .returned stepsV ∧ Below w.heap.size w w' := by
  go_enter Try.func72, Try.ntmps72
  go_wp2
  refine bodyPost_ret (v := stepsV) ?_ rfl ⟨rfl, ?_⟩
  · simp [results, Try.results72, go_sem]
    rfl
  · exact (Below.refl _ _).alloc (Nat.le_refl _) _
theorem tab_lt : ∀ i, tab i < 4294967296 := by
  intro i
  by_cases h : i < 16
  · have : ∀ i, i < 16 → tab i < 4294967296 := by decide
    exact this i h
  · unfold tab
    rw [Array.getD_eq_getD_getElem?, Array.getElem?_eq_none (by simp; omega)]; simp
end Go.Proofs.Ytkdjefnnhanhhaa
/- Walks over crc: the sum of bytes. -/
namespace Go.Proofs.Ytkdjefnnhanhhaa
open Go.RowKit Go.Mem Go.Pg

theorem take_cs (x : Nat) (xs : List Nat) (I : Nat) (h : I < xs.length) : cs x (xs.take (I + 1)) = cb (cs x (xs.take I)) (xs.getD I 0) := by
  rw [List.take_succ_eq_append_getElem h, cs_app, List.getD_eq_getElem?_getD, List.getElem?_eq_getElem h]; rfl
theorem tab_step (z : Nat) (hz : z < 4294967296) : bits .and .u32 (z : Int) 15 = ((z % 16 : Nat) : Int) ∧ (z : Int) / 16 = ((z / 16 : Nat) : Int) ∧ bits .xor .u32 ((z / 16 : Nat) : Int) ((tab (z % 16) : Nat) : Int) = ((st4 z : Nat) : Int) := by
  refine ⟨and15_u32 z hz, by omega, ?_⟩
  rw [xor_u32 _ _ (by omega) (tab_lt _), st4_by]
theorem fa_tab : (#[.int .u32 0, .int .u32 498536548, .int .u32 997073096, .int .u32 651767980, .int .u32 1994146192, .int .u32 1802195444, .int .u32 1303535960, .int .u32 1342533948, .int .u32 3988292384, .int .u32 4027552580, .int .u32 3604390888, .int .u32 3412177804, .int .u32 2607071920, .int .u32 2262029012, .int .u32 2685067896, .int .u32 3183342108] : Array Value) = fa .u32 16 tab := by rfl
set_option maxRecDepth 100000 in
set_option maxHeartbeats 1600000 in
theorem crcMore_any (x : Nat) (v : Value) (xs : List Nat) (w : World) (hx0 : x < 4294967296) (hv : Rd .u8 w v xs) (hx : ∀ y ∈ xs, y < 256) :
    Calls Try.prog 59 #[.int .u32 x, v] w fun e w' => e = .returned (.int .u32 (more x xs : Nat)) ∧ Below w.heap.size w w' := by
  have hlen := hv.len
  have HV := hid hv
  have HX := hid hx
  obtain ⟨a, cap, rfl, x1, x2, x3⟩ := hv
  have HX3 := hid x3
  have hnot := not_u32 x hx0
  obtain ⟨q, hq⟩ : ∃ q, x ^^^ 4294967295 = q := ⟨_, rfl⟩
  have hq0 : q < 4294967296 := by rw [← hq]; exact Nat.xor_lt_two_pow (n := 32) hx0 (by decide)
  rw [hq] at hnot
  have HNOT := hid hnot
  have HQ := hid hq
  clear x3 hx hnot hq
  go_enter Try.func59, Try.ntmps59
  go_wp2_with fail
  refine (steps_any _).mono ?_
  rintro e w1 ⟨rfl, hb1⟩
  have HB1 := hid hb1
  clear hb1
  unfold stepsV
  go_wp2_with fail
  rw [fa_tab, HNOT.out]
  obtain ⟨W, hW⟩ : ∃ W, w1.alloc (.cells (fa .u32 16 tab) 121) = W := ⟨_, rfl⟩
  have hT : W.heap[w1.heap.size]? = some (.cells (fa .u32 16 tab) 121 (0, 0)) := by rw [← hW]; exact alloc_new w1 _
  have hB : Below w.heap.size w W := by rw [← hW]; exact HB1.out.alloc HB1.out.size _
  rw [hW]
  have HB := hid hB
  have HT : Hid (∀ r, r < 16 → W.cell? ⟨w1.heap.size, r, none⟩ = some (.int .u32 (tab r : Nat))) := hid fun r hr => fa_cell hT hr
  generalize w1.heap.size = t at *
  clear hW hB hT HB1
  go_loop [6, 14] (fun z i => ∃ I : Nat, I ≤ xs.length ∧ i = .int .i64 I ∧ z = .int .u32 (cs q (xs.take I) : Nat)) (fun _ i => xs.length - (intOf i).toNat)
  case atStart => exact ⟨0, by omega, rfl, rfl⟩
  case round =>
    obtain ⟨I, hI, rfl, rfl⟩ := hrel
    obtain ⟨y, hy⟩ : ∃ y, cs q (xs.take I) = y := ⟨_, rfl⟩
    have hy0 : y < 4294967296 := by rw [← hy]; exact cs_lt hq0 (fun z hz => HX.out z (List.mem_of_mem_take hz))
    by_cases hlt : I < xs.length
    · obtain ⟨g, o, rfl, hc⟩ := HX3.out I hlt
      have htk := take_cs q xs I hlt
      obtain ⟨c, hcx⟩ : ∃ c, xs.getD I 0 = c := ⟨_, rfl⟩
      have hc256 : c < 256 := by rw [← hcx]; exact HX.out _ (getD_mem hlt)
      rw [hcx] at hc htk
      have hc' := (HB.out.cell (World.block_lt_of_cell? _ _ hc)).trans hc
      rw [hy] at htk ⊢
      have e0 := xor_u32 y c hy0 (by omega)
      obtain ⟨z, hz⟩ : ∃ z, y ^^^ c = z := ⟨_, rfl⟩
      have hz0 : z < 4294967296 := by rw [← hz]; exact Nat.xor_lt_two_pow (n := 32) hy0 (by omega)
      obtain ⟨e1, e2, e3⟩ := tab_step z hz0
      obtain ⟨z2, hz2⟩ : ∃ z2, st4 z = z2 := ⟨_, rfl⟩
      have hz20 : z2 < 4294967296 := by rw [← hz2]; exact st4_lt hz0
      obtain ⟨f1, f2, f3⟩ := tab_step z2 hz20
      have t1 := HT.out (z % 16) (Nat.mod_lt _ (by decide))
      have t2 := HT.out (z2 % 16) (Nat.mod_lt _ (by decide))
      have hr1 : z % 16 < 16 := Nat.mod_lt _ (by decide)
      have hr2 : z2 % 16 < 16 := Nat.mod_lt _ (by decide)
      have hfin : cb y c = st4 z2 := by unfold cb; rw [hz, hz2]
      rw [hz] at e0
      rw [hz2] at e3
      have HF := hid (htk.trans hfin)
      generalize tab (z % 16) = u1 at *
      generalize tab (z2 % 16) = u2 at *
      generalize z % 16 = r1 at *
      generalize z2 % 16 = r2 at *
      generalize z / 16 = d1 at *
      generalize z2 / 16 = d2 at *
      generalize st4 z2 = z4 at *
      clear hcx hy htk hfin hz hz2 hc
      go_wp2
      go_round
      case rel => exact ⟨I + 1, by omega, by go_num, by rw [HF.out]⟩
      case measure => simp [intOf]; omega
    · obtain rfl : I = xs.length := by omega
      have hfin := not_u32 y hy0
      have hm : more x xs = y ^^^ 4294967295 := by unfold more; rw [HQ.out, ← hy, List.take_length]
      rw [hy]
      have HF := hid hfin
      have HM := hid hm
      clear hfin hm hy
      go_wp2
      go_ret
      exact ⟨by rw [HM.out, ← HF.out]; rfl, HB.out⟩
set_option maxRecDepth 100000 in
set_option maxHeartbeats 400000 in
theorem crcSum_any (v : Value) (xs : List Nat) (w : World) (hv : Rd .u8 w v xs) (hx : ∀ y ∈ xs, y < 256) :
    Calls Try.prog 48 #[v] w fun e w' => e = .returned (.int .u32 (sum xs : Nat)) ∧ Below w.heap.size w w' := by
  have HA := hid (crcMore_any 0 v xs w (by decide) hv hx)
  go_enter Try.func48, Try.ntmps48
  go_wp2_with fail
  refine HA.out.mono ?_
  rintro e w' ⟨rfl, hb⟩
  have HB := hid hb
  clear hb
  go_wp2_with fail
  go_ret
  exact ⟨rfl, HB.out⟩
end Go.Proofs.Ytkdjefnnhanhhaa
