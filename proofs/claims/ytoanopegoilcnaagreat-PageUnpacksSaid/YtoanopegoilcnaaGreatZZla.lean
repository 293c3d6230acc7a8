/- Walks over firkinref05: Unpack's loop of slots. -/
import Derived.Test.YtoanopegoilcnaaGreatJx
import Derived.Test.YtoanopegoilcnaaGreatJv
import Derived.Deep.RegionHeld3
import Derived.Outline
import Derived.Deep.DrawnRows
set_option linter.unusedVariables false
namespace Go.Proofs.YtoanopegoilcnaaGreat
open Go.RowKit Go.Mem Go.Pg
attribute [local go_sem ↓] Go.wp_at_zero Go.wp_at_succ

set_option maxRecDepth 1000000 in
set_option maxHeartbeats 12800000 in
theorem slots_loop (N gx cx fb hb : Nat) (y0 n1 n5 y7 y8 : Value) (x0 : List Nat) (w4 w5 : World) (Q : Exit → Act → World → Prop) (c0 c1 c3 c4 c5 c6 c7 c8 c9 c10 c11 c12 c13 c14 c15 c17 c18 c19 c22 c23 c24 c25 c26 c27 c28 c29 c30 c31 c32 c33 c34 c35 c36 c37 c38 c39 c40 c41 c42 c43 c44 c45 c46 c47 c48 c49 c50 c51 c52 c53 c54 c55 c56 c57 c58 c59 c60 c61 c62 c63 c64 c65 c66 c67 c68 c69 c70 c71 c72 c73 c74 c75 c76 c77 c78 c79 c80 c81 c82 c83 c84 c85 c86 c87 c88 c89 c90 c91 c92 c93 c94 c95 c96 c97 c98 c99 c100 c101 c102 c103 c104 c105 c106 c107 c108 c109 c110 c111 c112 c113 c114 c115 c116 c117 c118 c119 c120 c121 c122 c123 c124 c125 c126 c127 c128 c129 c130 c131 c132 c133 c134 c135 c136 c137 c138 c139 c140 c141 c142 c143 c144 c145 c146 c147 c148 c149 c150 c151 c152 c153 c154 c155 c156 c157 c158 c159 c160 c161 c162 c163 c164 c165 c166 c167 c168 c169 c170 c171 c172 c173 c174 c175 c176 c177 c178 c179 c180 c181 c182 c183 c184 c185 c186 c187 c188 c189 c190 c191 c192 c193 c194 c195 c196 c197 c198 c199 c200 c201 c202 c203 c204 c205 c206 c207 c208 c209 c210 c211 c212 c213 c214 c215 c216 c217 c218 c219 c220 c221 c222 c223 c224 c225 c226 c227 c228 c229 c230 c231 c232 c233 c234 c235 c236 c237 c238 c239 c240 c241 c242 c243 c244 c245 c246 c247 c248 c249 c250 c251 c252 c253 c254 c255 c256 c257 c258 c259 c260 c261 c262 c263 c264 c265 c266 c267 c268 c269 c270 c271 c272 c273 c274 : Value)
    (hN8 : N ≤ 8) (hcx1 : 9 + 11 * N ≤ cx) (hcx2 : cx ≤ maxLen) (hrx : Rd .u8 w4 (.slice (some ⟨gx, 0, none⟩) (9 + 11 * N) cx) x0) (hxl : x0.length = 9 + 11 * N) (hxb : ∀ y ∈ x0, y < 256)
    (hfx : w4.cell? ⟨fb, 1, none⟩ = some (.int .i64 N)) (hgx : gx < hb) (hfb : fb < hb) (hw4 : w4.heap.size = hb + 1)
    (hV0 : w5.heap[hb]? = some (.cells #[y0, n1, n5, y7, y8, .slice none 0 0] 27 (0, 0))) (hg5 : w4.grownBy w5 (some hb))
    (hexit : ∀ (a : Act) (sv : Value) (wr : World), (∃ u21 u22 u145 u146 u147 u148 u149 u150 u151 u152 u153 u154 u155 u156 u157 u158 u159 u160 u161 u162 u163 u164 u165 u166 u167 u168 u169 u170 u171 u172 u173 u174 u175 u176 : Value, a = ⟨List.toArray (c0 :: c1 :: (.pointer (some ⟨fb, 0, none⟩)) :: c3 :: c4 :: c5 :: c6 :: c7 :: c8 :: c9 :: c10 :: c11 :: c12 :: c13 :: c14 :: c15 :: (.slice (some ⟨gx, 0, none⟩) (9 + 11 * N) cx) :: c17 :: c18 :: c19 :: (.pointer (some ⟨hb, 0, none⟩)) :: (u21) :: (u22) :: c23 :: c24 :: c25 :: c26 :: c27 :: c28 :: c29 :: c30 :: c31 :: c32 :: c33 :: c34 :: c35 :: c36 :: c37 :: c38 :: c39 :: c40 :: c41 :: c42 :: c43 :: c44 :: c45 :: c46 :: c47 :: c48 :: c49 :: c50 :: c51 :: c52 :: c53 :: c54 :: c55 :: c56 :: c57 :: c58 :: c59 :: c60 :: c61 :: c62 :: c63 :: c64 :: c65 :: c66 :: c67 :: c68 :: c69 :: c70 :: c71 :: c72 :: c73 :: c74 :: c75 :: c76 :: c77 :: c78 :: c79 :: c80 :: c81 :: c82 :: c83 :: c84 :: c85 :: c86 :: c87 :: c88 :: c89 :: c90 :: c91 :: c92 :: c93 :: c94 :: c95 :: c96 :: c97 :: c98 :: c99 :: c100 :: c101 :: c102 :: c103 :: c104 :: c105 :: c106 :: c107 :: c108 :: c109 :: c110 :: c111 :: c112 :: c113 :: c114 :: c115 :: c116 :: c117 :: c118 :: c119 :: c120 :: c121 :: c122 :: c123 :: c124 :: c125 :: c126 :: c127 :: c128 :: c129 :: c130 :: c131 :: c132 :: c133 :: c134 :: c135 :: c136 :: c137 :: c138 :: c139 :: c140 :: c141 :: c142 :: c143 :: c144 :: (u145) :: (u146) :: (u147) :: (u148) :: (u149) :: (u150) :: (u151) :: (u152) :: (u153) :: (u154) :: (u155) :: (u156) :: (u157) :: (u158) :: (u159) :: (u160) :: (u161) :: (u162) :: (u163) :: (u164) :: (u165) :: (u166) :: (u167) :: (u168) :: (u169) :: (u170) :: (u171) :: (u172) :: (u173) :: (u174) :: (u175) :: (u176) :: c177 :: c178 :: c179 :: c180 :: c181 :: c182 :: c183 :: c184 :: c185 :: c186 :: c187 :: c188 :: c189 :: c190 :: c191 :: c192 :: c193 :: c194 :: c195 :: c196 :: c197 :: c198 :: c199 :: c200 :: c201 :: c202 :: c203 :: c204 :: c205 :: c206 :: c207 :: c208 :: c209 :: c210 :: c211 :: c212 :: c213 :: c214 :: c215 :: c216 :: c217 :: c218 :: c219 :: c220 :: c221 :: c222 :: c223 :: c224 :: c225 :: c226 :: c227 :: c228 :: c229 :: c230 :: c231 :: c232 :: c233 :: c234 :: c235 :: c236 :: c237 :: c238 :: c239 :: c240 :: c241 :: c242 :: c243 :: c244 :: c245 :: c246 :: c247 :: c248 :: c249 :: c250 :: c251 :: c252 :: c253 :: c254 :: c255 :: c256 :: c257 :: c258 :: c259 :: c260 :: c261 :: c262 :: c263 :: c264 :: c265 :: c266 :: c267 :: c268 :: c269 :: c270 :: c271 :: c272 :: c273 :: c274 :: []), []⟩) → wr.heap[hb]? = some (.cells #[y0, n1, n5, y7, y8, sv] 27 (0, 0)) → OwS 61 (hb + 1) wr sv (headP N x0).slots → w4.grownBy wr (some hb) → Q (.exit 8) a wr) :
    Code.wp Tryz.prog (Code.loop lpSlots) (NoPanic Q) ⟨List.toArray (c0 :: c1 :: (.pointer (some ⟨fb, 0, none⟩)) :: c3 :: c4 :: c5 :: c6 :: c7 :: c8 :: c9 :: c10 :: c11 :: c12 :: c13 :: c14 :: c15 :: (.slice (some ⟨gx, 0, none⟩) (9 + 11 * N) cx) :: c17 :: c18 :: c19 :: (.pointer (some ⟨hb, 0, none⟩)) :: (.int .i64 0) :: c22 :: c23 :: c24 :: c25 :: c26 :: c27 :: c28 :: c29 :: c30 :: c31 :: c32 :: c33 :: c34 :: c35 :: c36 :: c37 :: c38 :: c39 :: c40 :: c41 :: c42 :: c43 :: c44 :: c45 :: c46 :: c47 :: c48 :: c49 :: c50 :: c51 :: c52 :: c53 :: c54 :: c55 :: c56 :: c57 :: c58 :: c59 :: c60 :: c61 :: c62 :: c63 :: c64 :: c65 :: c66 :: c67 :: c68 :: c69 :: c70 :: c71 :: c72 :: c73 :: c74 :: c75 :: c76 :: c77 :: c78 :: c79 :: c80 :: c81 :: c82 :: c83 :: c84 :: c85 :: c86 :: c87 :: c88 :: c89 :: c90 :: c91 :: c92 :: c93 :: c94 :: c95 :: c96 :: c97 :: c98 :: c99 :: c100 :: c101 :: c102 :: c103 :: c104 :: c105 :: c106 :: c107 :: c108 :: c109 :: c110 :: c111 :: c112 :: c113 :: c114 :: c115 :: c116 :: c117 :: c118 :: c119 :: c120 :: c121 :: c122 :: c123 :: c124 :: c125 :: c126 :: c127 :: c128 :: c129 :: c130 :: c131 :: c132 :: c133 :: c134 :: c135 :: c136 :: c137 :: c138 :: c139 :: c140 :: c141 :: c142 :: c143 :: c144 :: c145 :: c146 :: c147 :: c148 :: c149 :: c150 :: c151 :: c152 :: c153 :: c154 :: c155 :: c156 :: c157 :: c158 :: c159 :: c160 :: c161 :: c162 :: c163 :: c164 :: c165 :: c166 :: c167 :: c168 :: c169 :: c170 :: c171 :: c172 :: c173 :: c174 :: c175 :: c176 :: c177 :: c178 :: c179 :: c180 :: c181 :: c182 :: c183 :: c184 :: c185 :: c186 :: c187 :: c188 :: c189 :: c190 :: c191 :: c192 :: c193 :: c194 :: c195 :: c196 :: c197 :: c198 :: c199 :: c200 :: c201 :: c202 :: c203 :: c204 :: c205 :: c206 :: c207 :: c208 :: c209 :: c210 :: c211 :: c212 :: c213 :: c214 :: c215 :: c216 :: c217 :: c218 :: c219 :: c220 :: c221 :: c222 :: c223 :: c224 :: c225 :: c226 :: c227 :: c228 :: c229 :: c230 :: c231 :: c232 :: c233 :: c234 :: c235 :: c236 :: c237 :: c238 :: c239 :: c240 :: c241 :: c242 :: c243 :: c244 :: c245 :: c246 :: c247 :: c248 :: c249 :: c250 :: c251 :: c252 :: c253 :: c254 :: c255 :: c256 :: c257 :: c258 :: c259 :: c260 :: c261 :: c262 :: c263 :: c264 :: c265 :: c266 :: c267 :: c268 :: c269 :: c270 :: c271 :: c272 :: c273 :: c274 :: []), []⟩ w5 := by
  conv => arg 2; arg 1; whnf
  have HN8 := hid hN8
  have HCX := hid (And.intro hcx1 hcx2)
  have HRX0 := hid hrx
  have HXL := hid hxl
  have HXB := hid hxb
  have HFX := hid hfx
  have HGX := hid hgx
  have HFB := hid hfb
  have HW4S := hid hw4
  have HV0 := hid hV0
  have HG5 := hid hg5
  have HEX := hid hexit
  have hcx3 : (cx : Int) ≤ 9223372036854775807 := by unfold maxLen at hcx2; omega
  clear hN8 hcx1 hcx2 hrx hxl hxb hfx hgx hfb hw4 hV0 hg5 hexit
  go_loopg [21] N (fun gk i wr => ∃ (I : Nat) (sv : Value), I + gk = N ∧ i = .int .i64 I ∧ wr.heap[hb]? = some (.cells #[y0, n1, n5, y7, y8, sv] 27 (0, 0)) ∧
    OwS 61 (hb + 1) wr sv ((List.range I).map fun i => slotP (cut x0 (9 + 11 * i) 11)) ∧ w4.grownBy wr (some hb))
  case atStart => exact ⟨0, _, by omega, rfl, HV0.out, OwS.nil _ _ _, HG5.out⟩
  case round =>
    obtain ⟨I, sv, hI, rfl, hbb, how, hgr⟩ := hrel
    have HBB := hid hbb
    have HOW := hid how
    have HGR := hid hgr
    have d1 := (World.cell?_of_block (a := ⟨fb, 1, none⟩) (hgr.block fb (by have h1 := HW4S.out; have h2 := HFB.out; omega) (fun e => by have h2 := HFB.out; cases e; omega))).trans HFX.out
    clear hbb how hgr
    by_cases hlt : I < N
    · have hIi : (I : Int) < (N : Int) := by omega
      have hcx1 := HCX.out.1
      have hN8' := HN8.out
      have j1 : (0 : Int) ≤ 9 + 11 * (I : Int) := by omega
      have j2 : 9 + 11 * (I : Int) ≤ 20 + 11 * (I : Int) := by omega
      have j3 : 20 + 11 * (I : Int) ≤ (cx : Int) := by omega
      have t1 : (9 + 11 * (I : Int)).toNat = 9 + 11 * I := by omega
      have t2 : (20 + 11 * (I : Int)).toNat = 20 + 11 * I := by omega
      have t3 : ¬ cx = 9 + 11 * I := by omega
      have t4 : 20 + 11 * I - (9 + 11 * I) = 11 := by omega
      have w1' : IntKind.i64.wrap (9 + 11 * (I : Int)) = 9 + 11 * (I : Int) := IntWalk.i64_in _ (by omega)
      have w2' : IntKind.i64.wrap (20 + 11 * (I : Int)) = 20 + 11 * (I : Int) := IntWalk.i64_in _ (by omega)
      clear hcx1 hN8'
      have hrxw := (rd_keep HRX0.out (HGR.out.block gx (World.block_lt_of_cell? _ _ (HRX0.out.atc (j := 0) (by rw [HXL.out]; omega))) (fun e => by have := HGX.out; cases e; omega)))
      have rdI := rd_cut hrxw HXL.out (9 + 11 * I) 11 (cx - (9 + 11 * I)) (by omega) (by have := HCX.out.1; omega) (by have := HCX.out.2; omega)
      rw [Nat.zero_add] at rdI
      have cl : (cut x0 (9 + 11 * I) 11).length = 11 := cut_len (by rw [HXL.out]; omega)
      obtain ⟨y, hy⟩ : ∃ y, cut x0 (9 + 11 * I) 11 = y := ⟨_, rfl⟩
      rw [hy] at rdI cl
      have hyb : ∀ z ∈ y, z < 256 := by rw [← hy]; exact cut_lt HXB.out _ _
      have rd4 := rd_cut rdI cl 0 4 (cx - (9 + 11 * I)) (by omega) (by have := HCX.out.1; omega) (by have := HCX.out.2; omega)
      rw [Nat.add_zero] at rd4
      have rd6 := rd_cut rdI cl 5 6 (cx - (9 + 11 * I) - 5) (by omega) (by have := HCX.out.1; omega) (by have := HCX.out.2; omega)
      have cl4 : (cut y 0 4).length = 4 := cut_len (by omega)
      have cl6 : (cut y 5 6).length = 6 := cut_len (by omega)
      have c4 := rdI.atc (j := 4) (by omega)
      have b4 : y.getD 4 0 < 256 := hyb _ (getD_mem (by omega))
      obtain ⟨y4, hy4⟩ : ∃ y4, y.getD 4 0 = y4 := ⟨_, rfl⟩
      rw [hy4] at c4 b4
      have n4b : num (cut y 0 4) < 4294967296 := by have := num_lt (cut_lt hyb 0 4); rw [cl4] at this; exact this
      have HU4 : Hid (∀ V, Below wr.heap.size wr V → Calls Tryz.prog 42 #[.slice (some ⟨gx, 9 + 11 * I, none⟩) 4 (cx - (9 + 11 * I))] V fun e w' => e = .returned (.int .u64 (num (cut y 0 4) : Nat)) ∧ V = w') := hid fun V hV => r5number_any _ _ V (rd4.below hV) (cut_lt hyb _ _) (by omega)
      have HU6 : Hid (∀ V, Below wr.heap.size wr V → Calls Tryz.prog 42 #[.slice (some ⟨gx, 9 + 11 * I + 5, none⟩) 6 (cx - (9 + 11 * I) - 5)] V fun e w' => e = .returned (.int .u64 (num (cut y 5 6) : Nat)) ∧ V = w') := hid fun V hV => r5number_any _ _ V (rd6.below hV) (cut_lt hyb _ _) (by omega)
      obtain ⟨u32, hu32⟩ : ∃ u, num (cut y 0 4) = u := ⟨_, rfl⟩
      obtain ⟨u64, hu64⟩ : ∃ u, num (cut y 5 6) = u := ⟨_, rfl⟩
      have HSP : Hid (slotP y = ⟨u32, (y4 : Nat), u64⟩) := hid (by unfold slotP; rw [hy4, hu32, hu64])
      rw [hu32] at HU4 n4b
      rw [hu64] at HU6
      have hw32 : IntKind.u32.wrap (u32 : Int) = (u32 : Int) := wraps_u32 _ (by omega) (by omega)
      have HWR : Hid (IntKind.i64.wrap (y4 : Int) = (y4 : Int)) := hid (IntWalk.i64_in _ ⟨by omega, by omega⟩)
      have q5 := cell_at HBB.out 5
      have z5 := free_at HBB.out 5
      have hcr : Below wr.heap.size wr wr.drew := (Below.refl _ _).drew
      have hbl : hb < wr.heap.size := lt_at HBB.out
      have hgl : gx < wr.heap.size := by have := HGX.out; omega
      have hsvb : sv.ownBlock ≠ some hb := fun e => by have := (HOW.out.blk hb e).1; omega
      have hsvg : sv.ownBlock ≠ some gx := fun e => by have := (HOW.out.blk gx e).1; have := HGX.out; omega
      have hll : ((List.range I).map fun i => slotP (cut x0 (9 + 11 * i) 11)).length ≤ 1000 := by simp; have := HN8.out; omega
      have k4 : (4 : Int) ≤ ((cx - (9 + 11 * I) : Nat) : Int) := by have := HCX.out.1; omega
      have k5 : ¬ cx - (9 + 11 * I) = 5 := by have := HCX.out.1; omega
      have k6 : (11 : Int) ≤ ((cx - (9 + 11 * I) : Nat) : Int) := by have := HCX.out.1; omega
      have HY := hid hy
      clear hrxw rdI cl hy hyb rd4 rd6 cl4 cl6 hy4 hu32 hu64
      go_upto_region 35 with (fail)
      clear j1 j2 j3 t1 t2 t3 t4 w1' w2' d1
      go_region_law (first
        | (refine step_call (by rfl) 42 (enters_of Tryz.func42 (by kernel_rfl) rfl) (.tmp 163) _ (by rfl) _ (by rfl) _ (HU4.out _ (by first | assumption | exact hcr)) ?_)
        | (refine step_call (by rfl) 42 (enters_of Tryz.func42 (by kernel_rfl) rfl) (.tmp 171) _ (by rfl) _ (by rfl) _ (HU6.out _ (by first | assumption | exact hcr)) ?_)
        | (refine step_slots el_sl (by rfl) (.tmp 161) (.tmp 174) (by rfl) (hb + 1) sv _ (by rfl) (by exact (HOW.out.drewN 1).alloc _) [slotP y] (.slice (some ⟨wr.heap.size, 0, none⟩) 1 1) (by rfl) (by rw [HSP.out]; exact slr_new (w := wr.drew) (s := ⟨u32, (y4 : Nat), u64⟩) rfl HWR.out rfl) (by simp) (by simp; have := HN8.out; omega) (by simp; omega) ?_; intro gs caps w6 hos hgs has; have hb6 := (hgs.block hb (by simp; omega) (fun e => hsvb e.symm)).trans ((alloc_old (w := wr.drew) (by show hb < wr.heap.size; omega)).trans HBB.out); have q6 := cell_at hb6 5; have z6 := free_at hb6 5)
        | fail)
      all_goals
        go_wp2_with fail
        go_roundg (gk - 1)
        case measure => omega
        case rel =>
          have hsl : ((List.range (I + 1)).map fun i => slotP (cut x0 (9 + 11 * i) 11)) = ((List.range I).map fun i => slotP (cut x0 (9 + 11 * i) 11)) ++ [slotP y] := by rw [List.range_succ, List.map_append, List.map_cons, List.map_nil, HY.out]
          have hos' := hos
          rw [List.length_map, List.length_range, ← hsl] at hos'
          refine ⟨I + 1, _, by omega, by go_num, set_at hb6 5 _, hos'.kept (grown_set w6 hb 5 _) (.inr (fun e => by have h1 := (hos'.blk _ e).1; omega)), ?_⟩
          refine grow_row (grow_row (grow_alloc (grow_row HGR.out (((Below.refl wr.heap.size wr).drew).toGrown none) (fun g hg => by cases hg)) _) hgs (fun g hg => .inr ?_)) (grown_set w6 hb 5 _) (fun g hg => .inl hg)
          have h1 := (HOW.out.blk g hg).1
          have h3 := HW4S.out
          omega
    · obtain rfl : N = I := by omega
      go_wp2_with fail
      refine HEX.out _ sv wr ⟨_, _, _, _, _, _, _, _, _, _, _, _, _, _, _, _, _, _, _, _, _, _, _, _, _, _, _, _, _, _, _, _, _, _, rfl⟩ HBB.out HOW.out HGR.out
end Go.Proofs.YtoanopegoilcnaaGreat
