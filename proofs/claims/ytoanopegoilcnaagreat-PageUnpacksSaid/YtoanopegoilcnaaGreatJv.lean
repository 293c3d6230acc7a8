/- Walks over firkinref05, firkinref03: numbers as bytes and back; the sum of bytes, bit by bit. -/
import Derived.Test.YtoanopegoilcnaaGreatJo
import Derived.Test.YtoanopegoilcnaaGreatJa
import Derived.Test.YtoanopegoilcnaaGreatJr
import Derived.Lib.QuietBelow
set_option linter.unusedVariables false
namespace Go.Proofs.YtoanopegoilcnaaGreat
open Go.RowKit Go.Mem Go.Pg

theorem pow8 (I : Nat) : (2 : Int) ^ (8 * I) = ((256 ^ I : Nat) : Int) := by
  have h : (256 : Nat) ^ I = 2 ^ (8 * I) := by rw [Nat.pow_mul]
  rw [h]; exact (Int.natCast_pow 2 (8 * I)).symm
theorem shr8 (n I : Nat) : (n : Int) / (2 : Int) ^ (8 * I) = ((n / 256 ^ I : Nat) : Int) := by
  rw [pow8]; rfl
theorem or_shl (n c I : Nat) (hn : n < 256 ^ I) (hc : c < 256) (hI : I ≤ 7) : bits .or .u64 (n : Int) ((c : Int) * (2 : Int) ^ (8 * I)) = ((n + c * 256 ^ I : Nat) : Int) := by
  have h1 : 256 ^ I ≤ 256 ^ 7 := Nat.pow_le_pow_right (by decide) hI
  have h2 : c * 256 ^ I ≤ 255 * 256 ^ 7 := Nat.mul_le_mul (by omega) h1
  have e : (c : Int) * (2 : Int) ^ (8 * I) = ((c * 256 ^ I : Nat) : Int) := by rw [pow8]; rfl
  rw [e, bits_or_u64_nat _ _ (by omega) (by omega)]
  congr 1
  have h3 := Nat.two_pow_add_eq_or_of_lt (i := 8 * I) (show n < 2 ^ (8 * I) by rw [Nat.pow_mul]; exact hn) c
  rw [Nat.or_comm, show c * 256 ^ I = 2 ^ (8 * I) * c by rw [Nat.pow_mul, Nat.mul_comm], ← h3]; omega
theorem wrap_shl (c I : Nat) (hc : c < 256) (hI : I ≤ 7) : IntKind.u64.wrap ((c : Int) * (2 : Int) ^ (8 * I)) = (c : Int) * (2 : Int) ^ (8 * I) := by
  have h1 : 256 ^ I ≤ 256 ^ 7 := Nat.pow_le_pow_right (by decide) hI
  have h2 : c * 256 ^ I ≤ 255 * 256 ^ 7 := Nat.mul_le_mul (by omega) h1
  have e : (c : Int) * (2 : Int) ^ (8 * I) = ((c * 256 ^ I : Nat) : Int) := by rw [pow8]; rfl
  rw [e, IntKind.wrap_u64]
  omega
set_option maxRecDepth 100000 in
set_option maxHeartbeats 800000 in
theorem r5low_any (n many : Nat) (w : World) (hn : n < 18446744073709551616) (hm : many ≤ 8) :
    Calls Tryz.prog 51 #[.int .u64 n, .int .i64 many] w fun e w' => ∃ v, e = .returned v ∧ Own .u8 5 w.heap.size w' v (low n many) ∧ Below w.heap.size w w' := by
  go_enter Tryz.func51, Tryz.ntmps51
  go_wp2
  go_loopg [5, 6] many (fun gk o i wr => ∃ I : Nat, I + gk = many ∧ i = .int .i64 I ∧ Own .u8 5 w.heap.size wr o (low n I) ∧ Below w.heap.size w wr)
  case atStart => exact ⟨0, by omega, rfl, Own.nil _ _ _ _, Below.refl _ _⟩
  case round =>
    obtain ⟨I, hI, rfl, ho, hb⟩ := hrel
    have HO := hid ho
    have HB := hid hb
    clear ho hb
    by_cases hlt : I < many
    · obtain ⟨y, hy⟩ : ∃ y, n / 256 ^ I = y := ⟨_, rfl⟩
      have hsh := shr8 n I
      rw [hy] at hsh
      have hyn : y < 18446744073709551616 := by rw [← hy]; exact Nat.lt_of_le_of_lt (Nat.div_le_self _ _) hn
      have HY := hid hy
      clear hy
      go_wp2_with (at_builtin; refine app_one el_b8 rfl _ _ rfl w.heap.size _ (low n I) rfl (HO.out.alloc _) ⟨wr.heap.size, 0, none⟩ 1 (y % 256) rfl (by rw [new_cell]; simp) (by simp [low_len]; omega) (by simp; have := HB.out.size; omega) ?_; intro g2 cap2 w3 hown hgrow hat)
      go_roundg (gk - 1)
      case measure => omega
      case rel =>
        refine ⟨I + 1, by omega, by go_num, ?_, ?_⟩
        · rw [low_snoc, HY.out]; exact hown
        · exact grow_below (bl_alloc HB.out _) (by simp; have := HB.out.size; omega) hgrow (fun g hg => (HO.out.blk g hg).1)
    · obtain rfl : I = many := by omega
      go_wp2_with fail
      go_ret
      exact ⟨_, rfl, HO.out, HB.out⟩

set_option maxRecDepth 100000 in
set_option maxHeartbeats 800000 in
theorem r5number_any (v : Value) (xs : List Nat) (w : World) (hv : Rd .u8 w v xs) (hx : ∀ y ∈ xs, y < 256) (hl : xs.length ≤ 8) :
    Calls Tryz.prog 42 #[v] w fun e w' => e = .returned (.int .u64 (num xs : Nat)) ∧ w = w' := by
  obtain ⟨a, cap, rfl, x1, x2, x3⟩ := hv
  have HX3 := hid x3
  have HX := hid hx
  clear x3 hx
  go_enter Tryz.func42, Tryz.ntmps42
  go_wp2
  go_loopg [3, 4] xs.length (fun gk n i wr => ∃ I : Nat, I + gk = xs.length ∧ i = .int .i64 I ∧ n = .int .u64 (num (xs.take I) : Nat) ∧ wr = w)
  case atStart => exact ⟨0, by omega, rfl, rfl, rfl⟩
  case round =>
    obtain ⟨I, hI, rfl, rfl, rfl⟩ := hrel
    by_cases hlt : I < xs.length
    · obtain ⟨g, o, rfl, hc⟩ := HX3.out I hlt
      obtain ⟨c, hcx⟩ : ∃ c, xs.getD I 0 = c := ⟨_, rfl⟩
      have hc256 : c < 256 := by rw [← hcx]; exact HX.out _ (getD_mem hlt)
      rw [hcx] at hc
      have hst : num (xs.take (I + 1)) = num (xs.take I) + c * 256 ^ I := by
        rw [List.take_succ_eq_append_getElem hlt, num_snoc, List.length_take, Nat.min_eq_left (by omega), ← hcx, List.getD_eq_getElem?_getD, List.getElem?_eq_getElem hlt]; rfl
      have hnl : num (xs.take I) < 256 ^ I := by
        have := num_lt (l := xs.take I) (fun y hy => HX.out y (List.mem_of_mem_take hy))
        rwa [List.length_take, Nat.min_eq_left (by omega)] at this
      obtain ⟨n, hn⟩ : ∃ n, num (xs.take I) = n := ⟨_, rfl⟩
      rw [hn] at hst hnl ⊢
      have hor := or_shl n c I hnl hc256 (by omega)
      have HST := hid hst
      clear hst hn hcx
      go_wp2
      go_roundg (gk - 1)
      case measure => omega
      case rel =>
        refine ⟨I + 1, by omega, by go_num, ?_, rfl⟩
        rw [HST.out, wrap_shl c I hc256 (by omega), hor]
    · obtain rfl : I = xs.length := by omega
      rw [List.take_length]
      go_wp2_with fail
      go_ret
      exact ⟨rfl, rfl⟩
theorem and1_u32 (a : Nat) (ha : a < 4294967296) : bits .and .u32 (a : Int) 1 = ((a % 2 : Nat) : Int) := by
  have h := (bits_nat .u32 32 (by decide) wraps_u32 a 1 ha (by decide)).1
  refine Eq.trans h ?_
  rw [Nat.and_one_is_mod]
set_option maxRecDepth 100000 in
set_option maxHeartbeats 1600000 in
theorem r3more_any (x : Nat) (v : Value) (xs : List Nat) (w : World) (hx0 : x < 4294967296) (hv : Rd .u8 w v xs) (hx : ∀ y ∈ xs, y < 256) :
    Calls Tryz.prog 26 #[.int .u32 x, v] w fun e w' => e = .returned (.int .u32 (more x xs : Nat)) ∧ w = w' := by
  have hlen := hv.len
  obtain ⟨a, cap, rfl, x1, x2, x3⟩ := hv
  have HX3 := hid x3
  have HX := hid hx
  have hnot : bits .xor .u32 (x : Int) 4294967295 = ((x ^^^ 4294967295 : Nat) : Int) := xor_u32 x 4294967295 hx0 (by decide)
  obtain ⟨q, hq⟩ : ∃ q, x ^^^ 4294967295 = q := ⟨_, rfl⟩
  have hq0 : q < 4294967296 := by rw [← hq]; exact Nat.xor_lt_two_pow (n := 32) hx0 (by decide)
  rw [hq] at hnot
  have HQ := hid hq
  clear x3 hx hq
  go_enter Tryz.func26, Tryz.ntmps26
  go_wp2
  go_loopg [5, 6] xs.length (fun gk z i wr => ∃ I : Nat, I + gk = xs.length ∧ i = .int .i64 I ∧ z = .int .u32 (cs q (xs.take I) : Nat) ∧ wr = w)
  case atStart => exact ⟨0, by omega, rfl, rfl, rfl⟩
  case round =>
    obtain ⟨I, hI, rfl, rfl, rfl⟩ := hrel
    have hyl : cs q (xs.take I) < 4294967296 := cs_lt hq0 (fun y hy => HX.out y (List.mem_of_mem_take hy))
    by_cases hlt : I < xs.length
    · obtain ⟨g, o, rfl, hc⟩ := HX3.out I hlt
      have hcs := take_cs q xs I hlt
      obtain ⟨c, hcx⟩ : ∃ c, xs.getD I 0 = c := ⟨_, rfl⟩
      have hc256 : c < 256 := by rw [← hcx]; exact HX.out _ (getD_mem hlt)
      rw [hcx] at hc hcs
      obtain ⟨y, hy⟩ : ∃ y, cs q (xs.take I) = y := ⟨_, rfl⟩
      rw [hy, ← sbs_cb hc256] at hcs
      rw [hy] at hyl ⊢
      have HCS := hid hcs
      clear hcs hcx hy hnot
      obtain ⟨V, rfl⟩ : ∃ V, V = gk := ⟨_, rfl⟩
      go_wp2
      go_loopg [5, 7] 8 (fun gk2 z k wr2 => ∃ K : Nat, K + gk2 = 8 ∧ k = .int .i64 K ∧ z = .int .u32 (sbs y c K : Nat) ∧ sbs y c K < 4294967296 ∧ wr2 = wr)
      case atStart => exact ⟨0, by omega, rfl, rfl, hyl, rfl⟩
      case round =>
        obtain ⟨K, hK, rfl, rfl, hz, rfl⟩ := hrel
        by_cases hlt2 : K < 8
        · obtain ⟨z, hzE⟩ : ∃ z, sbs y c K = z := ⟨_, rfl⟩
          have hs : sbs y c (K + 1) = if z % 2 ≠ c / 2 ^ K % 2 then z / 2 ^^^ poly else z / 2 := by rw [← hzE]; rfl
          rw [hzE] at hz ⊢
          have hp : (2 : Nat) ^ K ≤ 128 := by
            have := Nat.pow_le_pow_right (n := 2) (by decide) (show K ≤ 7 by omega)
            exact this
          have hcd : c / 2 ^ K < 256 := Nat.lt_of_le_of_lt (Nat.div_le_self _ _) hc256
          have hsh : (c : Int) / (2 : Int) ^ K = ((c / 2 ^ K : Nat) : Int) := by rw [show (2 : Int) ^ K = ((2 ^ K : Nat) : Int) from (Int.natCast_pow 2 K).symm]; rfl
          obtain ⟨d, hd⟩ : ∃ d, c / 2 ^ K = d := ⟨_, rfl⟩
          rw [hd] at hcd hsh hs
          have HS := hid hs
          have ha1 := and1_u32 d (by omega)
          have ha2 := and1_u32 z hz
          have hzl : z / 2 ^^^ poly < 4294967296 := Nat.xor_lt_two_pow (n := 32) (by omega) (by decide)
          have hx3 : bits .xor .u32 ((z : Int) / 2) 3988292384 = ((z / 2 ^^^ poly : Nat) : Int) := xor_u32 (z / 2) poly (by omega) (by decide)
          have HD := hid hd
          have HZE := hid hzE
          have HZL := hid hzl
          have HHZ := hid hz
          clear hs hd hzE hp
          by_cases hne : z % 2 ≠ d % 2
          · have e1 : (((z : Int) % 2) != ((d : Int) % 2)) = true := bne_iff_ne.2 (by omega)
            rw [if_pos hne] at HS
            clear hne
            go_wp2
            go_roundg (gk - 1)
            case measure => omega
            case rel => exact ⟨K + 1, by omega, by go_num, by rw [HS.out], by rw [HS.out]; exact HZL.out, rfl⟩
          · have e1 : (((z : Int) % 2) != ((d : Int) % 2)) = false := by rw [bne_eq_false_iff_eq]; omega
            rw [if_neg hne] at HS
            clear hne
            go_wp2
            go_roundg (gk - 1)
            case measure => omega
            case rel => exact ⟨K + 1, by omega, by go_num, by rw [HS.out]; go_num, by rw [HS.out]; have := HHZ.out; omega, rfl⟩
        · obtain rfl : K = 8 := by omega
          go_wp2_with fail
          go_roundg (xs.length - (I + 1))
          case measure => omega
          case rel => exact ⟨I + 1, by omega, by go_num, by rw [HCS.out], rfl⟩
    · obtain rfl : I = xs.length := by omega
      rw [List.take_length] at hyl ⊢
      have hfin := xor_u32 (cs q xs) 4294967295 hyl (by decide)
      have hm : more x xs = cs q xs ^^^ 4294967295 := by unfold more; rw [HQ.out]
      obtain ⟨y, hy⟩ : ∃ y, cs q xs = y := ⟨_, rfl⟩
      rw [hy] at hm hfin ⊢
      have hfin : bits .xor .u32 (y : Int) 4294967295 = ((y ^^^ 4294967295 : Nat) : Int) := hfin
      have HM := hid hm
      clear hm hnot hy
      go_wp2
      go_ret
      exact ⟨by rw [HM.out]; rfl, rfl⟩
set_option maxRecDepth 100000 in
set_option maxHeartbeats 400000 in
theorem r3sum_any (v : Value) (xs : List Nat) (w : World) (hv : Rd .u8 w v xs) (hx : ∀ y ∈ xs, y < 256) :
    Calls Tryz.prog 27 #[v] w fun e w' => e = .returned (.int .u32 (sum xs : Nat)) ∧ w = w' := by
  have HA := hid (r3more_any 0 v xs w (by decide) hv hx)
  go_enter Tryz.func27, Tryz.ntmps27
  go_wp2_with fail
  refine HA.out.mono ?_
  rintro e w' ⟨rfl, rfl⟩
  go_wp2_with fail
  go_ret
  exact ⟨rfl, rfl⟩
end Go.Proofs.YtoanopegoilcnaaGreat
/- Memory: a region that draws its order, whose head reads and calls what only makes memory, and whose tail has one order. No program in sight. -/
namespace Go.Mem
open Go.RowKit Go.Shelf

section
variable {P : Program} {ops : Array Oper} {md : Region.Mode} {C : World → Prop}
/-- The first n operations are quiet in a class of worlds; the rest have one order. One walk, in the text's order. -/
theorem wp_region_class_tail {id : Nat} {Q : Exit → Act → World → Prop} {a : Act} {w : World} {l : List Oper} (n : Nat) (hm : P.follows .mixedOrders = true) (hB : Region.lexTailB .any l.toArray n = true) (hC : C w.drew)
    (h : wpQuiet P l.toArray C (fun a' => ∀ w', C w' → wpList P l.toArray Q (l.drop n) a' w') (l.take n) a) : (Code.region id l.toArray true).wp P Q a w := by
  simp only [Region.lexTailB, Bool.and_eq_true, decide_eq_true_eq] at hB
  obtain ⟨⟨⟨⟨hsel, hn⟩, hs⟩, hc⟩, hlex⟩ := hB
  have hn' : n < l.length := by simpa using hn
  have htl : (l.take n).length = n := by simp; omega
  have hdl : (l.drop n).length = l.toArray.size - n := by simp
  have inv0 : HeadInv .any l.toArray n (Array.replicate l.toArray.size false) :=
    ⟨by simp, fun j oj _ hl => (by rw [getD_replicate_false] at hl; cases hl), fun t _ ht => getD_in (by simpa using ht) (getD_replicate_false _ _)⟩
  have H := wpAnyLQ_lex (md := .any) (g := l.toArray.size - n) hsel hs hc hn (l.take n) 0 _ a (fun j hj => by
    have hj' : j < n := by rw [htl] at hj; exact hj
    simp [hj']) (by simpa using htl) inv0 (by rw [htl]; exact hlex) h
  refine wp_region_any hm ?_
  have := wpAny_of_headQ (Q' := Q) (g := l.toArray.size - n) (fun listed a' w' hw' hL => by
    have := wpAny_of_seq (md := .any) (Q' := Q) (l.drop n) n listed a' w' (fun j => by simp [List.getElem?_drop]) (by rw [hdl]; exact hL.1) (hL.2 w' hw')
    rwa [hdl] at this) _ _ _ w.drew hC H
  rw [htl, show n + (l.toArray.size - n) = l.toArray.size by omega] at this
  exact this
/-- .. where memory alone is made ahead of the tail. -/
theorem wp_region_below_tail {id : Nat} {Q : Exit → Act → World → Prop} {a : Act} {w : World} {l : List Oper} (n : Nat) (hm : P.follows .mixedOrders = true) (hB : Region.lexTailB .any l.toArray n = true)
    (h : wpQuiet P l.toArray (fun w' => ∃ p : Regrown, w' = Go.Sort.grow (redrawn w p.d) p.os) (fun a' => ∀ w', (∃ p : Regrown, w' = Go.Sort.grow (redrawn w p.d) p.os) → wpList P l.toArray Q (l.drop n) a' w') (l.take n) a) : (Code.region id l.toArray true).wp P Q a w :=
  wp_region_class_tail n hm hB ⟨⟨w.drawn + 1, #[]⟩, by rw [Go.Sort.grow_empty]; rfl⟩ h
end
/-- A call with one argument that makes memory. -/
theorem step_call1 {P : Program} {ops : Array Oper} {o : Oper} {a : Act} {w : World} {K : Act → World → Prop} {Q : Exit → Act → World → Prop} {E : Prop} (hgd : Region.wanted o (yielded ops a.tmps) = true) (f : FuncId) (he : ∀ args w, (callFunc f args).run P w = .ok (.enter f args) w)
    (x : Operand) (ts : Array TypeId) (ho : o.op = .call { callee := .value (.func f), args := #[x], argTypes := ts }) (v : Value) (hv : a.eval x = v) (u : Value) (R : World → Prop)
    (hc : Calls P f #[v] w fun e w' => e = .returned u ∧ R w') (h : ∀ w', R w' → K (a.put o.dst u) w') : if Region.wanted o (yielded ops a.tmps) = true then Oper.wp P o a w K Q else E := by
  rw [if_pos hgd]
  have hrun : (execOp a.eval o).run P w = .ok (.enter f #[v]) w := by
    have hf : a.eval (.func f) = .func (.func f) #[] #[] := rfl
    unfold execOp
    simp [ho, resolve, invoke, hf, hv, Deferred.ofValue, he]
  unfold Oper.wp
  rw [hrun, Oper.upon_enter]
  refine hc.mono ?_
  rintro e w' ⟨rfl, hr⟩
  exact h w' hr
end Go.Mem
