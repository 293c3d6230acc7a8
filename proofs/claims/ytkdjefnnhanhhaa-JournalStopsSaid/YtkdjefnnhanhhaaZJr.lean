/- Walks over journal: write. -/
import Derived.Test.YtkdjefnnhanhhaaUv
import Derived.Deep.RegionHeld3
import Derived.Deep.LoopGhost
set_option linter.unusedVariables false
namespace Go.Mem
open Go.RowKit
section
variable {P : Program} {T e ti : TypeId} {B : Nat} {w : World} {v : Value} {xs : List Nat}
variable {ops : Array Oper} {rest : List Oper} {o : Oper} {a : Act} {Q : Exit → Act → World → Prop} {K : Act → World → Prop}
theorem run_append_zeros0 (E : ElT P T e .u8 1) (hti : P.underlying ti = some (.int .i64)) (ty : TypeId) (hown : Own .u8 e B w v xs) (h0 : 0 < xs.length) :
    (Builtin.append_ #[T, ti] ty #[v, .int .i64 0]).run P w = .ok v w := by
  obtain ⟨i, hi, hz, hs, hb⟩ := info_parts E.inf
  have ht := E.und
  have hw : IntKind.i64.wrap (0 : Int) = (0 : Int) := IntWalk.i64_in _ ⟨by omega, by omega⟩
  obtain ⟨h1, h2 | ⟨g, cap, cur, rfl, hbg, hg, hnc, hcm, hcs, htake⟩⟩ := hown
  · omega
  · simp [Builtin.append_, run_underlying ht, run_underlying hti, sizeOf, typeInfo, zeroValue, asInt, asIntOf, hi, hz, hw, hnc, storeCells]
/-- Bytes 0 more (none, too), in a region that does not draw. -/
theorem app_zerosN (hgd : o.guard = none) (E : ElT P T e .u8 1) (hti : P.underlying ti = some (.int .i64)) (s x : Operand) (ho : o.op = .call { callee := .builtin .append, args := #[s, x], argTypes := #[T, ti] })
    (B : Nat) (v : Value) (xs : List Nat) (hs : a.eval s = v) (hown : Own .u8 e B w v xs) (h0 : 0 < xs.length) (m : Nat) (hx : a.eval x = .int .i64 (m : Nat)) (hm : m ≤ 1000000) (hl : xs.length ≤ 1000000000) (hB : B ≤ w.heap.size)
    (h : ∀ v' w', Own .u8 e B w' v' (xs ++ List.replicate m 0) → w.grownBy w' v.ownBlock → wpList P ops Q rest (a.put o.dst v') w') : wpList P ops Q (o :: rest) a w :=
  wpList_plain hgd fun _ hK => by
    by_cases hm0 : m = 0
    · subst hm0
      have hr := run_append_zeros0 (ti := ti) E hti o.type hown h0
      unfold Oper.wp execOp
      rw [show ((0 : Nat) : Int) = 0 from rfl] at hx
      simp only [ho, resolve, invoke, builtin, Sem.run_bind, Sem.run_pure, Result.andThen_ok, List.map_toArray, List.map_cons, List.map_nil, hs, hx, hr]
      exact hK _ _ (h v w (by simpa using hown) ⟨rfl, rfl, rfl, Nat.le_refl _, fun _ _ _ => rfl⟩)
    · exact wp_zeros E hti s x ho B v xs hs hown h0 m hx (by omega) hm hl hB fun g cap w' h2 h3 h4 => hK _ _ (h _ w' h2 h3)
end
end Go.Mem
namespace Go.Proofs.Ytkdjefnnhanhhaa
open Go Go.RowKit Go.Mem Go.Jn
set_option linter.unusedVariables false

theorem flat_get : ∀ (l : List Rec) (i k : Nat), k < 5 → (l.flatMap Rec.cells)[i * 5 + k]? = (l[i]?).bind (fun r => r.cells[k]?)
  | [], i, k, hk => by simp
  | r :: l, 0, k, hk => by
    rw [List.flatMap_cons, List.getElem?_append_left (by show 0 * 5 + k < 5; omega)]
    simp
  | r :: l, i + 1, k, hk => by
    have h5 : r.cells.length = 5 := rfl
    rw [List.flatMap_cons, List.getElem?_append_right (by rw [h5]; omega), h5, show (i + 1) * 5 + k - 5 = i * 5 + k by omega, flat_get l i k hk]
    simp
theorem orec_cell {n₀ : Nat} {W : World} {v : Value} {l : List Rec} (h : ORec n₀ W v l) {i : Nat} {r : Rec} (hi : l[i]? = some r) : ∃ g c, v = .slice (some ⟨g, 0, none⟩) l.length c ∧ l.length ≤ c ∧ c ≤ maxLen ∧ g < W.heap.size ∧
    W.cell? ⟨g, i * 5, none⟩ = some (.int .i64 (r.kind : Nat)) ∧ W.cell? ⟨g, i * 5 + 1, none⟩ = some (.int .u64 (r.seq : Nat)) ∧ W.cell? ⟨g, i * 5 + 2, none⟩ = some (.int .u64 (r.a : Nat)) ∧ W.cell? ⟨g, i * 5 + 3, none⟩ = some (.int .u64 (r.b : Nat)) ∧ W.cell? ⟨g, i * 5 + 4, none⟩ = some (.int .u64 (r.c : Nat)) := by
  have hil : i < l.length := by
    rcases Nat.lt_or_ge i l.length with h | h
    · exact h
    · rw [List.getElem?_eq_none h] at hi; cases hi
  rcases h.2 with ⟨_, h0⟩ | ⟨g, cap, cur, rfl, _, h4, h5, h6, h7, h8⟩
  · omega
  · have hc : ∀ k, k < 5 → W.cell? ⟨g, i * 5 + k, none⟩ = r.cells[k]? := fun k hk => by
      rw [cell_at h4]
      have h9 := flat_get l i k hk
      rw [hi, Option.bind_some, ← h8, List.getElem?_take, if_pos (by omega), Array.getElem?_toList] at h9
      exact h9
    exact ⟨g, cap, rfl, h5, h6, lt_at h4, hc 0 (by omega), hc 1 (by omega), hc 2 (by omega), hc 3 (by omega), hc 4 (by omega)⟩
theorem rawB_take (gen blk n : Nat) (rows : List Rec) (I : Nat) (r : Rec) (h : rows[I]? = some r) : (rows.take (I + 1)).flatMap recB = (rows.take I).flatMap recB ++ recB r := by
  rw [List.take_add_one, h, List.flatMap_append]; simp
theorem fail_area (j : Jo) (e : Int) : (j.fail e).area = j.area := by unfold Jo.fail; split <;> rfl
theorem fail_block (j : Jo) (e : Int) : (j.fail e).block = j.block := by unfold Jo.fail; split <;> rfl
theorem JAtC.st {Q : Nat → Prop} {w : World} {J T b : Nat} {j : Jo} {rv : Value} (h : JAtC Q w J T j b rv) : w.cell? ⟨J, 0, none⟩ = some (.iface 25 (.pointer (some ⟨T, 0, none⟩))) := h.c0
set_option maxRecDepth 100000 in
set_option maxHeartbeats 6400000 in
theorem jwrite_any {Q : Nat → Prop} {w : World} {J T : Nat} {s : JS} (h : JSt Q w J T s) (ho : s.t.Ok) (hj : s.j.Ok s.t) (hops : s.t.ops < 5000000000000) :
    Calls Try.prog 44 #[.pointer (some ⟨J, 0, none⟩)] w fun r w' => r = .returned (.int .i64 s.write.1) ∧ JSt Q w' J T s.write.2 ∧ Off Q w w' := by
  obtain ⟨hT, b, rv, hJ⟩ := h
  obtain ⟨⟨m, gn, tp, ar, bk, rows, sq, dy, lt, bd⟩, t⟩ := s
  dsimp only at hT hJ ho hj hops
  have hgb := hj.gen
  have hbb := hj.block
  have hrb := hj.rows
  have hab := hj.area
  have hfit := hj.rfit
  dsimp only at hgb hbb hrb hab hfit
  obtain ⟨ra, rc, hrv⟩ := orec_form hJ.ro
  subst hrv
  have c0 := hJ.st
  have c2 := hJ.c2
  have c5 := hJ.c5
  have c6 := hJ.c6
  dsimp only at c2 c5 c6
  have hm1 := meth_bytes T
  have hm2 := meth_write T
  have HT := hid hT
  have HJ := hid hJ
  have HJO := hid hj
  have HO := hid ho
  have HOPS := hid hops
  have HFIT := hid hfit
  have hs := ho.sz
  have hp := ho.per
  have hsl := ho.sl
  have hs1 := ho.s128
  have hpl := per_le hrb (by omega)
  obtain ⟨rn, hrn⟩ : ∃ n, rows.length = n := ⟨_, rfl⟩
  have HRN := hid hrn
  rw [hrn] at c6 hrb hpl
  obtain ⟨sz, hsz⟩ : ∃ n, t.sz = n := ⟨_, rfl⟩
  have HSZ := hid hsz
  rw [hsz] at hbb hs
  obtain ⟨ts, hts⟩ : ∃ n, t.size = n := ⟨_, rfl⟩
  have HTS := hid hts
  rw [hts] at hsl hs1 hpl
  obtain ⟨B, hB⟩ : ∃ B, w.heap.size = B := ⟨_, rfl⟩
  have HBE := hid hB
  have u1 : IntKind.u32.wrap (bk : Int) = (bk : Int) := by rw [IntKind.wrap_u32]; omega
  have u2 : IntKind.u32.wrap (rn : Int) = (rn : Int) := by rw [IntKind.wrap_u32]; omega
  clear hT hj ho hops hsz hts hfit
  have HA := hid (append64_any B (.slice none 0 0) [] gn w (Own.nil _ _ _ _) (by omega) (by simp) (by omega))
  rw [hrn] at hJ
  clear hJ hrn
  go_enter Try.func44, Try.ntmps44
  go_wp2_with fail
  refine HA.out.mono ?_
  rintro e w1 ⟨v1, rfl, a1, a2, _⟩
  have hb1 : Below B w w1 := grow_below (Below.refl _ _) (by omega) a2 (fun g hg => by cases hg)
  rw [List.nil_append] at a1
  have J1 := HJ.out.below (hB ▸ hb1)
  have c5 := J1.c5
  have HB1 := hid hb1
  have HA2 := hid (append32_any B v1 _ bk w1 a1 (by have := hb1.size; omega) (by simp [Pg.low_len]) (by omega))
  have HV := hid a1
  dsimp only at c5
  clear HA a1 a2 hb1 J1 c2
  go_wp2_with fail
  refine HA2.out.mono ?_
  rintro e w2 ⟨v2, rfl, a1, a2, _⟩
  have hb2 : Below B w w2 := grow_below HB1.out (by have := HB1.out.size; have := HBE.out; omega) a2 (fun g hg => (HV.out.blk g hg).1)
  have J2 := HJ.out.below (hB ▸ hb2)
  have c6 := J2.c6
  have HB2 := hid hb2
  have HA3 := hid (append32_any B v2 _ rn w2 a1 (by have := hb2.size; omega) (by simp [Pg.low_len]) (by omega))
  have HV2 := hid a1
  rw [HRN.out] at c6
  clear HA2 HV a1 a2 hb2 J2 c5
  go_wp2_with fail
  refine HA3.out.mono ?_
  rintro e w3 ⟨v3, rfl, a1, a2, _⟩
  have hb3 : Below B w w3 := grow_below HB2.out (by have := HB2.out.size; have := HBE.out; omega) a2 (fun g hg => (HV2.out.blk g hg).1)
  have J3 := HJ.out.below (hB ▸ hb3)
  have c6 := J3.c6
  have HB3 := hid hb3
  have HV3 := hid a1
  rw [HRN.out] at c6
  clear HA3 HV2 a1 a2 hb3 J3
  go_wp2_with fail
  go_loopg [3, 33] rn (fun gk vb vi wr => ∃ (I : Nat) (bv : Value), I + gk = rn ∧ bv = vb ∧ vi = .int .i64 (I : Nat) ∧ Mem.Own .u8 5 B wr bv (Pg.low gn 8 ++ Pg.low bk 4 ++ Pg.low rn 4 ++ (rows.take I).flatMap recB) ∧ Below B w wr)
  case atStart => exact ⟨0, _, by omega, rfl, rfl, by simpa using HV3.out, HB3.out⟩
  case round =>
    obtain ⟨I, bv, hI, rfl, rfl, ho, hb⟩ := hrel
    have HOB := hid ho
    have HBB := hid hb
    have hBs : B ≤ wr.heap.size := by have := hb.size; omega
    have hJr := HJ.out.below (hB ▸ hb)
    clear ho hb HV3 HB3
    by_cases hlt : I < rn
    · have hri : rows[I]? = some (rows[I]'(by rw [HRN.out]; exact hlt)) := List.getElem?_eq_getElem (by rw [HRN.out]; exact hlt)
      obtain ⟨r, hr⟩ : ∃ r, rows[I]'(by rw [HRN.out]; exact hlt) = r := ⟨_, rfl⟩
      rw [hr] at hri
      have hrf : r.Fit := HFIT.out r (hr ▸ List.getElem_mem _)
      obtain ⟨g, c, e9, k1, k2, k3, x0, x1, x2, x3, x4⟩ := orec_cell hJr.ro hri
      rw [HRN.out] at e9 k1
      cases e9
      have i1 : (I : Int) < (rn : Int) := by omega
      have HRF := hid hrf
      have HRI := hid hri
      obtain ⟨W0, hW0⟩ : ∃ W, wr.alloc (.cells #[.int .i64 (r.kind : Nat), .int .u64 (r.seq : Nat), .int .u64 (r.a : Nat), .int .u64 (r.b : Nat), .int .u64 (r.c : Nat)] 74) = W := ⟨_, rfl⟩
      have hb0 : Below wr.heap.size wr W0 := by rw [← hW0]; exact (Below.refl _ _).alloc (Nat.le_refl _) _
      have HRB := hid (recBytes_any r W0 hrf)
      have HB0 := hid hb0
      unfold Rec.val at HRB
      have HW0 := hid hW0
      clear hr hri hrf hb0 hW0
      go_wp2_with fail
      rw [HW0.out]
      refine HRB.out.mono ?_
      rintro e w5 ⟨⟨v5, rfl, ho5⟩, hb5⟩
      have hbw5 := HBB.out.trans ((HB0.out.comp hb5).mono hBs)
      have ho5' := HOB.out.below (HB0.out.comp hb5)
      have HB5 := hid hbw5
      have HO5 := hid ho5
      have HOB5 := hid ho5'
      have hBs5 : B ≤ w5.heap.size := by have := hbw5.size; omega
      have hxl : (Pg.low gn 8 ++ Pg.low bk 4 ++ Pg.low rn 4 ++ (rows.take I).flatMap recB).length ≤ 100000 := by simp only [List.length_append, Pg.low_len, flat_len, List.length_take]; omega
      obtain ⟨X, hX⟩ : ∃ X, Pg.low gn 8 ++ Pg.low bk 4 ++ Pg.low rn 4 ++ (rows.take I).flatMap recB = X := ⟨_, rfl⟩
      have HX := hid hX
      rw [hX] at HOB5 hxl
      clear hbw5 ho5 ho5' hb5 x0 x1 x2 x3 x4 hX
      go_wp2_with (at_builtin; refine app_row el_b8 rfl _ _ rfl B bv _ rfl HOB5.out (recB r) (by exact HO5.out.rd) (by rw [recB_len]; omega) (by rw [recB_len]; omega) (by omega) ?_; intro g2 cap2 w6 hown hgrow hat
                   have hb6 := grow_below HB5.out (by omega) hgrow (fun g hg => (HOB5.out.blk g hg).1))
      go_roundg (gk - 1)
      case measure => omega
      case rel =>
        refine ⟨I + 1, _, by omega, rfl, by go_num, ?_, hb6⟩
        rw [rawB_take gn bk rn rows I r HRI.out, ← List.append_assoc, HX.out]
        exact hown
    · obtain rfl : I = rn := by omega
      clear c6
      have hHOB : Mem.Own .u8 5 B wr bv (rawB gn bk rows) := by
        have h1 := HOB.out
        rw [List.take_of_length_le (by rw [HRN.out]; omega)] at h1
        unfold rawB; rw [HRN.out]; exact h1
      have hxl := rawB_len gn bk rows
      rw [HRN.out] at hxl
      have hXB := HFIT.out
      have hXlt : ∀ y ∈ rawB gn bk rows, y < 256 := rawB_lt hXB
      have HBLK := hid (show blockB ts gn bk rows = sealB (padTo (ts - 4) (rawB gn bk rows)) from rfl)
      obtain ⟨X, hX⟩ : ∃ X, rawB gn bk rows = X := ⟨_, rfl⟩
      rw [hX] at hHOB hxl hXlt HBLK
      obtain ⟨xl, hxle⟩ : ∃ n, X.length = n := ⟨_, rfl⟩
      have HXL := hid hxle
      rw [hxle] at hxl
      obtain ⟨gx, cx, hbv, hgx, _, _, hcx1, hcx2, _⟩ := hHOB.ow (by omega)
      rw [hxle] at hbv
      have HOBc := hid hHOB
      have HXLT := hid hXlt
      obtain ⟨mm, hmm⟩ : ∃ n, ts - 4 - xl = n := ⟨_, rfl⟩
      have em : (ts : Int) - 4 - (xl : Int) = (mm : Int) := by omega
      have HMM := hid hmm
      have hTr := HT.out.below (hB ▸ HBB.out)
      obtain ⟨ka', sa', K', S', ck', cs', kv', sv', hTC⟩ := id hTr
      have hTc0 := hTC.c0
      rw [HTS.out] at hTc0
      have HBY := hid (bytes_any hTc0)
      have HJR := hid hJr
      have hcc := hJr.st
      have HTR := hid hTr
      have hmml : mm ≤ 1000000 := by omega
      have hxl16 : 16 ≤ xl := by omega
      subst hbv
      clear hXB hX hXlt hxle hHOB hmm hTC hTr hTc0 hJr HOB hxl hgx
      go_wp2_with (first
        | (go_at_call 96; refine HBY.out.mono ?_; rintro e _ ⟨rfl, rfl⟩)
        | (at_builtin; refine app_zerosN rfl el_b8 Try.underlying3 _ _ rfl B _ X rfl HOBc.out (by rw [HXL.out]; omega) mm rfl hmml (by rw [HXL.out]; omega) hBs ?_; intro v7 w7 hown7 hgrow7)
        | fail)
      have hb7 : Below B w w7 := grow_below HBB.out (by omega) hgrow7 (fun g hg => (HOBc.out.blk g hg).1)
      have J7 := HJ.out.below (hB ▸ hb7)
      have T7 := HT.out.below (hB ▸ hb7)
      have e0 := J7.st
      have e4 := J7.c4
      have e5 := J7.c5
      have f0 := (hb7.trans (Below.refl _ _).drew : Below B w w7.drew)
      dsimp only at e4 e5
      have hpad : padTo (ts - 4) X = X ++ List.replicate mm 0 := by unfold padTo; rw [HXL.out, HMM.out]
      have hYlen : (X ++ List.replicate mm 0).length = xl + mm := by rw [List.length_append, HXL.out, List.length_replicate]
      have hsum : xl + mm = ts - 4 := by have := HMM.out; omega
      have hYlt : ∀ y ∈ X ++ List.replicate mm 0, y < 256 := fun y hy => by
        rcases List.mem_append.1 hy with hy | hy
        · exact HXLT.out y hy
        · rw [(List.mem_replicate.1 hy).2]; omega
      have HSEAL := hid (seal_any v7 (X ++ List.replicate mm 0) w7.drew (hown7.rd.below (Below.refl _ _).drew) hYlt (by rw [hYlen]; omega) (by rw [hYlen]; omega))
      have HSZC := hid (fun (W' : World) (hW : Below w7.heap.size w7 W') => jsize_any (T7.below hW) HO.out)
      rw [HSZ.out] at HSZC
      unfold ifT at HSZC
      have HBOK := hid (show BytesN t.size (sealB (X ++ List.replicate mm 0)) from by rw [← hpad, ← HBLK.out, ← HTS.out]; exact blockB_ok (by rw [HRN.out]; exact hrb) (by rw [HTS.out]; omega) HFIT.out)
      have HBEQ := hid (show blockB ts gn bk rows = sealB (X ++ List.replicate mm 0) from by rw [HBLK.out, hpad])
      obtain ⟨asz, hasz⟩ : ∃ n, ar * sz = n := ⟨_, rfl⟩
      have haszl : asz ≤ sz := by rw [← hasz]; calc ar * sz ≤ 1 * sz := Nat.mul_le_mul_right _ hab
                                    _ = sz := Nat.one_mul _
      have em2 : (ar : Int) * (sz : Int) = (asz : Int) := by rw [← hasz]; push_cast; rfl
      have HASZ := hid hasz
      have x1 : IntKind.i64.wrap (asz : Int) = (asz : Int) := IntWalk.i64_in _ ⟨by omega, by omega⟩
      have x2 : IntKind.i64.wrap (2 + (asz : Int)) = 2 + (asz : Int) := IntWalk.i64_in _ ⟨by omega, by omega⟩
      obtain ⟨ix, hix⟩ : ∃ n, 2 + asz + bk = n := ⟨_, rfl⟩
      have x3 : IntKind.i64.wrap (2 + (asz : Int) + (bk : Int)) = (ix : Int) := by rw [IntWalk.i64_in _ ⟨by omega, by omega⟩]; omega
      have hidx : ix < t.nb := by omega
      have HIX := hid hix
      have HIDX := hid hidx
      have HB7 := hid hb7
      have HJ7 := hid J7
      have HT7 := hid T7
      have hB7s : B ≤ w7.heap.size := by have := hb7.size; omega
      have hnb : t.nb ≤ 1000000 := by have := HO.out.nl; omega
      have hts : 0 < t.size ∧ t.size ≤ 1000000 := by rw [HTS.out]; omega
      clear hb7 J7 T7 f0 hpad hYlen hsum hYlt hasz hidx hown7 hgrow7 hcc hix
      obtain ⟨er, her⟩ : ∃ e, t.err = e := ⟨_, rfl⟩
      have HER := hid her
      have HER2 := hid (show (if t.step.off = true then (40 : Int) else 0) = er from her)
      clear her
      go_region_held3 (fun w' => w'.cell? ⟨J, 0, none⟩ = some (.iface 25 (.pointer (some ⟨T, 0, none⟩))) ∧ w'.cell? ⟨J, 4, none⟩ = some (.int .i64 (ar : Nat)) ∧ w'.cell? ⟨J, 5, none⟩ = some (.int .i64 (bk : Nat)))
        (first | exact ⟨e0, e4, e5⟩ | exact ⟨d0, d4, d5⟩ | exact ⟨y0, y4, y5⟩ | exact ⟨z0, z4, z5⟩)
        (first
        | (go_at_call 24; refine (HSZC.out _ (by first | exact hsb | exact (Below.refl _ _).drew)).mono ?_; rintro e _ ⟨rfl, rfl⟩)
        | (go_at_call 43; refine HSEAL.out.mono ?_; rintro e w8 ⟨⟨v8, rfl, ho8⟩, hb8⟩; have hsb : Below w7.heap.size w7 w8 := (Below.refl _ _).drew.trans hb8; have J8 := HJ7.out.below hsb; have T8 := HT7.out.below hsb; have d0 := J8.st; have d4 := J8.c4; have d5 := J8.c5)
        | (go_at_call 99; refine (twrite_any (tape_part T8 J8) HOPS.out ix HIDX.out hnb hts v8 _ _ ho8 HBOK.out).mono ?_; rw [HER2.out]; rintro e w9 ⟨rfl, hT9, hF9⟩; obtain ⟨T9, J9, F9⟩ := tape_back T8 J8 hT9 hF9; have y0 := J9.st; have y4 := J9.c4; have y5 := J9.c5)
        | (go_at_call 42; refine (fail_any T9 J9 _).mono ?_; rintro e w10 ⟨rfl, T10, J10, F10⟩; have z0 := J10.st; have z4 := J10.c4; rw [fail_area] at z4; have z5 := J10.c5; rw [fail_block] at z5)
        | fail)
      all_goals
        have HT10 := hid T10
        have HJ10 := hid J10
        have hbw8 := HB7.out.trans (hsb.mono hB7s)
        have HF := hid (((Off.of_below (hB ▸ hbw8)).trans F9).trans F10)
        clear T10 J10 F10 hT9 hF9 T9 J9 F9 T8 J8 d0 d4 d5 y0 y4 y5 z0 z4 z5 e0 e4 e5
        go_wp2_with fail
        go_ret
        have h8 := HJ10.out
        rw [← HER.out] at h8
        refine ⟨?_, ⟨?_, b, _, h8⟩, HF.out⟩
        · show _ = Ending.returned (.int .i64 t.err); rw [HER.out]; rfl
        · have h9 := HT10.out
          show TapeAt Q w10 T (t.write (2 + ar * t.sz + bk) (blockB t.size gn bk rows))
          rw [HSZ.out, HASZ.out, HIX.out, HTS.out, HBEQ.out]; exact h9
end Go.Proofs.Ytkdjefnnhanhhaa
